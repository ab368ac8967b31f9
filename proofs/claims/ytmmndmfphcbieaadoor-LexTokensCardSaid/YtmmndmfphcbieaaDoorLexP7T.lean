/- The pure statement of LexTokens. -/
import Derived.Test.YtmmndmfphcbieaaDoorLexP7
import Derived.Test.YtmmndmfphcbieaaDoorXLexLLexTokens
namespace Go.Proofs.YtmmndmfphcbieaaDoor.XLex
open Go.RowKit Go.Proofs.YtmmndmfphcbieaaDoorW.PrintWords Go.Proofs.YtmmndmfphcbieaaDoorW.PrintLast Go.Proofs.YtmmndmfphcbieaaDoorW.PrintMore
theorem tok_l0 (ts : List Tk) (at_ er : Int) (hl : ts.length ≤ 4000) : ∀ (d i : Nat), ts.length = i + d →
    Ev (fun k => ratlinelaw4_LexTokens.l0 k (ts.map to31) i (ts.map to32) at_ er) true := by
  intro d
  induction d with
  | zero =>
    intro i hi
    have h3 : Ev (fun k => (ratlinelaw4_awake.f k).bind fun t218 => (some t218)) true := awake_ev.bind (f := fun _ t => some t) (Ev.now _)
    refine Ev.step (fun k => ?_) h3
    simp only [ratlinelaw4_LexTokens.l0]
    rw [if_neg (by rw [List.length_map]; omega)]
  | succ d ih =>
    intro i hi
    have hlt : i < ts.length := by omega
    refine Ev.step (fun k => ?_) (ih (i + 1) (by omega))
    simp only [ratlinelaw4_LexTokens.l0, List.length_map]
    rw [if_pos (Int.ofNat_lt.2 hlt), if_pos (Int.natCast_nonneg i), if_pos (Int.ofNat_lt.2 hlt), rd31 ts i hlt, rd32 ts i hlt]
    simp only [to31, to32]
    rw [if_pos trivial, if_pos trivial, if_pos trivial, if_pos trivial, wrap_id (by omega) (by omega)]
    rfl
theorem tokens_pure : ratlinelaw4_LexTokens.Pure := by
  intro a0 _
  have hl := lexP_len a0
  refine Ev.rounds (g := fun k => ratlinelaw4_LexTokens.f k a0) ?_
  unfold ratlinelaw4_LexTokens.f
  refine (lexP_ev a0).bind (f := fun k bt199 => _) ?_
  refine (refP_ev a0).bind (f := fun k bt204 => _) ?_
  refine Ev.congr (fun k => ?_) (Ev.step (f := fun k => ratlinelaw4_LexTokens.l0 k ((lexP a0).1.map to31) ((0 : Nat) : Int) ((lexP a0).1.map to32) ((lexP a0).2.1 : Int) (lexP a0).2.2) (g := fun k => ratlinelaw4_LexTokens.j0 k ((lexP a0).1.map to31) false ((lexP a0).1.map to32) ((lexP a0).2.1 : Int) (lexP a0).2.2) (fun k => ?_) (tok_l0 (lexP a0).1 _ _ hl (lexP a0).1.length 0 (by omega)))
  · simp only [res31, res32]
    rw [if_pos trivial, if_pos trivial, List.length_map, List.length_map, bne_self_eq_false]
  · simp only [ratlinelaw4_LexTokens.j0]
    rw [if_neg (by decide)]
    rfl
end Go.Proofs.YtmmndmfphcbieaaDoor.XLex
