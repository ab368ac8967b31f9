/- color.Assign in the form that the printed texts call. -/
import Derived.Test.YtidhllheipopbaaColD
namespace Go.Proofs.Ytidhllheipopbaa.XCol
open Go.RowKit Go.Proofs.YtidhllheipopbaaW.PrintWords Go.Proofs.YtidhllheipopbaaW.PrintLast Go.Proofs.YtidhllheipopbaaW.PrintMore
@[irreducible] def color_Assign.f (l0 : List S24) (a1 : Int) : Option (List S29) := if l0.length ≤ 1000000 ∧ a1 ≤ 1000 then some (assignL l0 (if a1 < 1 then 1 else a1).toNat) else none
theorem color_Assign.f_eq (l0 : List S24) (a1 : Int) : color_Assign.f l0 a1 = if l0.length ≤ 1000000 ∧ a1 ≤ 1000 then some (assignL l0 (if a1 < 1 then 1 else a1).toNat) else none := by unfold color_Assign.f; rfl
theorem color_Assign.calls (A0 : Option Addr) (c0 : Nat) (l0 : List S24) (a1 : Int) (r : List S29) (w : World) (hr0 : Kd.C k24 w A0 l0.length l0) (hc0 : l0.length ≤ c0) (h : color_Assign.f l0 a1 = some r) :
    Calls Try.prog 6 #[.slice A0 l0.length c0, .int .i64 a1] w fun e w' => ∃ v0_ : Value, e = .returned v0_ ∧ Kd.R k29 29 w' w.heap.size (fun _ => True) v0_ r ∧ Below w.heap.size w w' := by
  rw [color_Assign.f_eq] at h
  split at h
  · rename_i hc
    obtain rfl := Option.some.inj h
    refine assign_walk l0 A0 c0 a1 _ w hr0 hc0 hc.1 ?_ ?_
    · split <;> omega
    · have := hc.2
      split <;> omega
  · cases h
end Go.Proofs.Ytidhllheipopbaa.XCol
