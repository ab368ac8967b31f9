/- The closure of color.Assign: which of two intervals is given up rather. -/
import Derived.Test.YtidhllheipopbaaColA
import Derived.Test.YtidhllheipopbaaXColx0
import Derived.WalkSmall
namespace Go.Proofs.Ytidhllheipopbaa.XCol
open Go.RowKit Go.Proofs.YtidhllheipopbaaW.PrintWords Go.Proofs.YtidhllheipopbaaW.PrintLast Go.Proofs.YtidhllheipopbaaW.PrintMore
def aheadI (x y : S24) : Int := or2 (cmp3 x.f2 y.f2) (cmp3 x.f0 y.f0)
set_option maxRecDepth 100000 in
theorem ahead_walk (l : List S24) (A0 : Option Addr) (c0 : Nat) (p : Addr) (a b : Int) (w : World) (hl : w.cell? p = some (.slice A0 l.length c0)) (hr : Kd.C k24 w A0 l.length l)
    (ha0 : 0 ≤ a) (ha1 : a < l.length) (hb0 : 0 ≤ b) (hb1 : b < l.length) :
    Calls Try.prog 13 #[.int .i64 a, .int .i64 b, .pointer (some p)] w fun e w' => e = .returned (.bool (decide (0 < aheadI (rd_T24 l a) (rd_T24 l b)))) ∧ Below w.heap.size w w' := by
  unfold aheadI
  obtain ⟨ad, rfl, ax, ay, az⟩ := at_T24 hr a ha0 ha1
  obtain ⟨ad', e, bx, b_y, bz⟩ := at_T24 hr b hb0 hb1
  obtain rfl : ad = ad' := by injection e
  clear e ay b_y hr
  have da0 := eq_true ha0
  have da1 := eq_true ha1
  have db0 := eq_true hb0
  have db1 := eq_true hb1
  go_enter Try.func13, Try.ntmps13
  go_wp2_with fail
  refine wp_region_still_tail 22 (by kernel_rfl) (by kernel_rfl) ?_
  simp only [List.take_succ_cons, List.take_zero, List.drop_succ_cons, List.drop_zero]
  repeat still_step
  still_call (cmp_walk _ _ _)
  repeat still_step
  still_call (cmp_walk _ _ _)
  refine wpStill_nil ?_
  change wpList _ _ _ _ _ w.drew
  have hb : Below w.heap.size w w.drew := below_drew1 (Below.refl _ _)
  generalize w.drew = w2 at hb ⊢
  clear hl ax az bx bz
  go_wp2_with (go_at_call 14; refine (or_walk (cmp3 (rd_T24 l a).f2 (rd_T24 l b).f2) (cmp3 (rd_T24 l a).f0 (rd_T24 l b).f0) w2.heap.size _ (cell_two_new w2 _ _ 3 0 _ rfl) (cell_two_new w2 _ _ 3 1 _ rfl)).mono ?_; rintro e w' ⟨rfl, rfl⟩)
  go_ret
  exact ⟨rfl, by apply below_alloc; exact hb⟩
end Go.Proofs.Ytidhllheipopbaa.XCol
