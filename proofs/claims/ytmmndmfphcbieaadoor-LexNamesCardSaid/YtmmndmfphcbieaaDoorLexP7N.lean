/- The pure statement of LexNames. -/
import Derived.Test.YtmmndmfphcbieaaDoorLexP7
import Derived.Test.YtmmndmfphcbieaaDoorXLexLLexNames
namespace Go.Proofs.YtmmndmfphcbieaaDoor.XLex
open Go.RowKit Go.Proofs.YtmmndmfphcbieaaDoorW.PrintWords Go.Proofs.YtmmndmfphcbieaaDoorW.PrintLast Go.Proofs.YtmmndmfphcbieaaDoorW.PrintMore
theorem names_pure : ratlinelaw4_LexNames.Pure := by
  intro a0 _
  refine Ev.rounds (g := fun k => ratlinelaw4_LexNames.f k a0) ?_
  have h3 : Ev (fun k => (ratlinelaw4_awake.f k).bind fun t218 => (some t218)) true := awake_ev.bind (f := fun _ t => some t) (Ev.now _)
  unfold ratlinelaw4_LexNames.f
  by_cases hs : (a0.size : Int) > 100
  · refine Ev.congr (fun k => ?_) h3
    rw [if_pos hs]
  · refine Ev.congr (fun k => if_neg hs) ?_
    refine (refP_ev a0).bind (f := fun k bt220 => _) ?_
    refine (name_ev a0).bind (f := fun k t226 => _) ?_
    refine Ev.congr (fun k => ?_) h3
    obtain ⟨ts, at_, er⟩ := lexP a0
    by_cases he : er = 0
    · subst he
      rw [if_pos (c := (res32 (ts, at_, 0)).2.2 = 0) rfl]
      match ts with
      | [] => rfl
      | [t] =>
        have h0 : rd_T32 (res32 ([t], at_, 0)).1 0 = to32 t := rfl
        rw [if_pos (c := ((res32 ([t], at_, 0)).1.length : Int) = 1) rfl, if_pos (show (0 : Int) < ((res32 ([t], at_, 0)).1.length : Int) from Int.zero_lt_one), h0, Lib.toList_data, Lib.toList_data]
        by_cases h1 : t.1 = 1
        · rw [if_pos (c := (to32 t).f0 = 1) h1, nameB_yes _ _ _ h1, show ((to32 t).f1.data.toList == a0.data.toList) = (t.2.1 == a0.data.toList) from rfl, if_pos (beq_self_eq_true _)]
        · rw [if_neg (c := (to32 t).f0 = 1) h1, nameB_no _ _ _ h1, if_pos (by decide)]
      | a :: b :: c =>
        rw [if_neg (show ¬ ((res32 (a :: b :: c, at_, 0)).1.length : Int) = 1 by simp only [res32, List.map_cons, List.length_cons]; omega), nameB_two, if_pos (by decide)]
    · rw [if_neg (c := (res32 (ts, at_, er)).2.2 = 0) he, nameB_err _ _ _ he, if_pos (by decide)]
end Go.Proofs.YtmmndmfphcbieaaDoor.XLex
