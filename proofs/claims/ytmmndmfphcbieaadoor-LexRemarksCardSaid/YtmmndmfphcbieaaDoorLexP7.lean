/- awake; what lex.Tokens, lex.Name and the reference's Tokens tell of any text. -/
import Derived.Test.YtmmndmfphcbieaaDoorLexP6
import Derived.Test.YtmmndmfphcbieaaDoorXLexx5
namespace Go.Proofs.YtmmndmfphcbieaaDoor.XLex
open Go.RowKit Go.Proofs.YtmmndmfphcbieaaDoorW.PrintWords Go.Proofs.YtmmndmfphcbieaaDoorW.PrintLast Go.Proofs.YtmmndmfphcbieaaDoorW.PrintMore
/-- the words of a text, or that it is too long -/
def lexP (s : ByteArray) : List Tk × Nat × Int := if s.size ≤ 4000 then tokensP s.data.toList else ([], 0, 2)
theorem lexP_ev (s : ByteArray) : Ev (fun k => lex_Tokens.f k s) (res31 (lexP s)) := by
  unfold lexP
  by_cases h : s.size ≤ 4000
  · rw [if_pos h]; exact lex_ev s h
  · rw [if_neg h]
    exact Ev.congr (f := fun _ => some _) (fun k => lex_long k s h) (Ev.now _)
theorem refP_ev (s : ByteArray) : Ev (fun k => ratlineref4_Tokens.f k s) (res32 (lexP s)) := by
  unfold lexP
  by_cases h : s.size ≤ 4000
  · rw [if_pos h]; exact ref_ev s h
  · rw [if_neg h]
    exact Ev.congr (f := fun _ => some _) (fun k => ref_long k s h) (Ev.now _)
theorem rd31 (ts : List Tk) (i : Nat) (h : i < ts.length) : rd_T31 (ts.map to31) (i : Int) = to31 ts[i] := by
  unfold rd_T31
  rw [Int.toNat_natCast, List.getD_eq_getElem?_getD, List.getElem?_map, List.getElem?_eq_getElem h]
  rfl
theorem rd32 (ts : List Tk) (i : Nat) (h : i < ts.length) : rd_T32 (ts.map to32) (i : Int) = to32 ts[i] := by
  unfold rd_T32
  rw [Int.toNat_natCast, List.getD_eq_getElem?_getD, List.getElem?_map, List.getElem?_eq_getElem h]
  rfl
/-- is it a name alone? -/
def nameB (l : List UInt8) (r : List Tk × Nat × Int) : Bool :=
  if r.2.2 = 0 then (match r.1 with
    | [t] => if t.1 = 1 then t.2.1 == l else false
    | _ => false) else false
theorem nameB_err (l : List UInt8) (ts : List Tk) (p : Nat) {e : Int} (h : e ≠ 0) : nameB l (ts, p, e) = false := if_neg h
theorem nameB_nil (l : List UInt8) (p : Nat) : nameB l ([], p, 0) = false := rfl
theorem nameB_two (l : List UInt8) (a b : Tk) (c : List Tk) (p : Nat) : nameB l (a :: b :: c, p, 0) = false := rfl
theorem nameB_yes (l : List UInt8) (t : Tk) (p : Nat) (h : t.1 = 1) : nameB l ([t], p, 0) = (t.2.1 == l) := (if_pos h).trans rfl
theorem nameB_no (l : List UInt8) (t : Tk) (p : Nat) (h : t.1 ≠ 1) : nameB l ([t], p, 0) = false := if_neg h
theorem name_ev (s : ByteArray) : Ev (fun k => lex_Name.f k s) (nameB s.data.toList (lexP s)) := by
  unfold lex_Name.f
  refine (lexP_ev s).bind (f := fun k bt182 => (if bt182.2.2 = 0 then (if (bt182.1.length : Int) = 1 then (if 0 < (bt182.1.length : Int) then (if ((rd_T31 bt182.1 0).f0) = 1 then (some (((rd_T31 bt182.1 0).f1).toList == s.toList)) else (some false)) else (none)) else (some false)) else (some false))) ?_
  obtain ⟨ts, at_, er⟩ := lexP s
  refine Ev.congr (f := fun _ => some _) (fun k => ?_) (Ev.now _)
  by_cases he : er = 0
  · subst he
    rw [if_pos (c := (res31 (ts, at_, 0)).2.2 = 0) rfl]
    match ts with
    | [] => rfl
    | [t] =>
      have h0 : rd_T31 (res31 ([t], at_, 0)).1 0 = to31 t := rfl
      rw [if_pos (c := ((res31 ([t], at_, 0)).1.length : Int) = 1) rfl, if_pos (show (0 : Int) < ((res31 ([t], at_, 0)).1.length : Int) from Int.zero_lt_one), h0, Lib.toList_data, Lib.toList_data]
      by_cases h1 : t.1 = 1
      · rw [if_pos (c := (to31 t).f0 = 1) h1, nameB_yes _ _ _ h1]; rfl
      · rw [if_neg (c := (to31 t).f0 = 1) h1, nameB_no _ _ _ h1]
    | a :: b :: c =>
      rw [if_neg (show ¬ ((res31 (a :: b :: c, at_, 0)).1.length : Int) = 1 by simp only [res31, List.map_cons, List.length_cons]; omega), nameB_two]
  · rw [if_neg (c := (res31 (ts, at_, er)).2.2 = 0) he, nameB_err _ _ _ he]
theorem awake_toks : tokensP [120, 61, 61, 50, 105] = ([(1, [120], 0, 0), (6, [61, 61], 0, 1), (4, [], 2, 3)], 0, 0) := by decide +kernel
theorem awake_name : tokensP [120] = ([(1, [120], 0, 0)], 0, 0) := by decide +kernel
theorem awake_ev : Ev (fun k => ratlinelaw4_awake.f k) true := by
  have h1 := lexP_ev ⟨#[120, 61, 61, 50, 105]⟩
  have h2 := name_ev ⟨#[120]⟩
  rw [show lexP ⟨#[120, 61, 61, 50, 105]⟩ = ([(1, [120], 0, 0), (6, [61, 61], 0, 1), (4, [], 2, 3)], 0, 0) from awake_toks] at h1
  rw [show nameB (⟨#[120]⟩ : ByteArray).data.toList (lexP ⟨#[120]⟩) = true from (by rw [show lexP ⟨#[120]⟩ = ([(1, [120], 0, 0)], 0, 0) from awake_name]; rfl)] at h2
  unfold ratlinelaw4_awake.f
  refine h1.bind (f := fun k bt189 => _) ?_
  have h3 : Ev (fun k => (lex_Name.f k (⟨#[120]⟩ : ByteArray)).bind fun t198 => (some t198)) true := h2.bind (f := fun _ t => some t) (Ev.now _)
  refine Ev.congr (fun k => ?_) h3
  have e2 : (⟨[61, 61].toArray⟩ : ByteArray).toList = [61, 61] := by rw [Lib.toList_data]
  have r0 : rd_T31 ([(1, [120], 0, 0), (6, [61, 61], 0, 1), (4, [], 2, 3)].map to31) 0 = to31 (1, [120], 0, 0) := rfl
  have r1 : rd_T31 ([(1, [120], 0, 0), (6, [61, 61], 0, 1), (4, [], 2, 3)].map to31) 1 = to31 (6, [61, 61], 0, 1) := rfl
  have r2 : rd_T31 ([(1, [120], 0, 0), (6, [61, 61], 0, 1), (4, [], 2, 3)].map to31) 2 = to31 (4, [], 2, 3) := rfl
  simp only [res31, r0, r1, r2]
  simp only [to31, e2]
  rfl
theorem toks_len (l : List UInt8) : ∀ (d p : Nat) (acc : List Tk), acc.length ≤ p → p ≤ l.length → (toksP l d p acc).1.length ≤ l.length
  | 0, p, acc, h1, h2 => by rw [toksP]; exact Nat.le_trans h1 h2
  | d + 1, p, acc, h1, h2 => by
    rw [toksP]
    split
    · split
      · simp
      · rename_i k t n m hT
        have hm := tokP_len hT
        rw [List.length_drop] at hm
        have hk := skipB_le false (l.drop (p + m))
        rw [List.length_drop] at hk
        exact toks_len l d _ _ (by rw [List.length_append]; simp only [List.length_cons, List.length_nil]; omega) (by omega)
    · exact Nat.le_trans h1 h2
theorem lexP_len (s : ByteArray) : (lexP s).1.length ≤ 4000 := by
  unfold lexP
  split
  · rename_i h
    have := toks_len s.data.toList (s.data.toList.length + 1) (skipB false s.data.toList) [] (by simp) (skipB_le _ _)
    rw [len_list] at this
    unfold tokensP
    rw [len_list]
    omega
  · simp
end Go.Proofs.YtmmndmfphcbieaaDoor.XLex
