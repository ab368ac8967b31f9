-- written by gprint.py: the printer run with given contracts
import Derived.Test.YtidhllheipopbaaXColx0
import Derived.Test.YtidhllheipopbaaXColx1
import Derived.Test.YtidhllheipopbaaXColx3
import Derived.Lib.QuietBelow
import Derived.Test.YtidhllheipopbaaColGiven
namespace Go.Proofs.Ytidhllheipopbaa.XCol
open Go.RowKit Go.Proofs.YtidhllheipopbaaW.PrintWords Go.Proofs.YtidhllheipopbaaW.PrintLast Go.Proofs.YtidhllheipopbaaW.PrintMore
attribute [local go_sem] max2_int min2_int max_two min_two max_three min_three max_four min_four   -- for this text's walks alone
set_option linter.unusedVariables false
set_option linter.unusedSimpArgs false

theorem below_of_cell {w w' : World} {a : Addr} {v : Value} (h : w.cell? a = some v) (hw : ∃ p : Regrown, w' = Go.Sort.grow (redrawn w p.d) p.os) : Below w.heap.size w w' := by
 obtain ⟨p, rfl⟩ := hw
 exact below_regrown w p.d p.os
/-! ### ratlinelaw18_ColorApart: function 5 -/
mutual
def ratlinelaw18_ColorApart.l0 : Nat → Int → List (S24) → List (S29) → Int → Int → Int → Option (Bool)
  | 0, _, _, _, _, _, _ => none
  | k + 1, x1, x5, x7, x8, x9, x10 => if x10 < (x7.length : Int) then (if 0 ≤ x10 then (if x10 < (x5.length : Int) then (if ((rd_T29 x7 x10).f0) = ((rd_T24 x5 x10).f0) then (if ((decide (((rd_T29 x7 x10).f1) ≥ 0)) == (decide (((rd_T29 x7 x10).f2) ≥ 0))) = true then (ratlinelaw18_ColorApart.j1 k x1 x5 x7 x8 x9 x10 true) else (ratlinelaw18_ColorApart.j1 k x1 x5 x7 x8 x9 x10 (decide (((rd_T29 x7 x10).f1) ≥ x1)))) else (ratlinelaw18_ColorApart.j1 k x1 x5 x7 x8 x9 x10 true)) else (none)) else (none)) else (if x8 = 0 then (if x9 ≤ x1 then ((ratlinelaw18_awake.f k).bind fun t135 => (some t135)) else (if x8 > 0 then ((ratlinelaw18_awake.f k).bind fun t136 => (some t136)) else (some false))) else (if x9 > x1 then (if x9 ≤ x1 then ((ratlinelaw18_awake.f k).bind fun t137 => (some t137)) else (if x8 > 0 then ((ratlinelaw18_awake.f k).bind fun t138 => (some t138)) else (some false))) else (some false)))
def ratlinelaw18_ColorApart.j1 : Nat → Int → List (S24) → List (S29) → Int → Int → Int → Bool → Option (Bool)
  | 0, _, _, _, _, _, _, _ => none
  | k + 1, x1, x5, x7, x8, x9, x10, x74 => if x74 = true then (some false) else (if 0 ≤ x10 then (if x10 < (x7.length : Int) then (if ((rd_T29 x7 x10).f2) ≥ 0 then (ratlinelaw18_ColorApart.j2 k x1 x5 x7 (wrap64 (x8 + 1)) x9 x10) else (ratlinelaw18_ColorApart.j2 k x1 x5 x7 x8 x9 x10)) else (none)) else (none))
def ratlinelaw18_ColorApart.j2 : Nat → Int → List (S24) → List (S29) → Int → Int → Int → Option (Bool)
  | 0, _, _, _, _, _, _ => none
  | k + 1, x1, x5, x7, x8, x9, x10 => ratlinelaw18_ColorApart.l1 k x1 x5 x7 x8 x9 x10 0 0
def ratlinelaw18_ColorApart.l1 : Nat → Int → List (S24) → List (S29) → Int → Int → Int → Int → Int → Option (Bool)
  | 0, _, _, _, _, _, _, _, _ => none
  | k + 1, x1, x5, x7, x8, x9, x10, x11, x12 => if x12 < (x7.length : Int) then (if 0 ≤ x10 then (if x10 < (x5.length : Int) then (if 0 ≤ x12 then (if x12 < (x5.length : Int) then (if ((rd_T24 x5 x10).f1) ≤ ((rd_T24 x5 x12).f2) then (ratlinelaw18_ColorApart.j4 k x1 x5 x7 x8 x9 x10 x11 x12 (decide (((rd_T24 x5 x12).f1) ≤ ((rd_T24 x5 x10).f2)))) else (ratlinelaw18_ColorApart.j4 k x1 x5 x7 x8 x9 x10 x11 x12 false)) else (none)) else (none)) else (none)) else (none)) else (ratlinelaw18_ColorApart.l0 k x1 x5 x7 x8 (mx x9 x11) (wrap64 (x10 + 1)))
def ratlinelaw18_ColorApart.j4 : Nat → Int → List (S24) → List (S29) → Int → Int → Int → Int → Int → Bool → Option (Bool)
  | 0, _, _, _, _, _, _, _, _, _ => none
  | k + 1, x1, x5, x7, x8, x9, x10, x11, x12, x13 => if 0 ≤ x10 then (if x10 < (x5.length : Int) then (if 0 ≤ x12 then (if x12 < (x5.length : Int) then ((color_Overlap.f ((rd_T24 x5 x10).f0) ((rd_T24 x5 x10).f1) ((rd_T24 x5 x10).f2) ((rd_T24 x5 x12).f0) ((rd_T24 x5 x12).f1) ((rd_T24 x5 x12).f2)).bind fun t151 => (if (t151 != x13) = true then (some false) else (if x12 = x10 then (ratlinelaw18_ColorApart.j5 k x1 x5 x7 x8 x9 x10 x11 x12 false) else (if x13 = true then (if x10 < (x7.length : Int) then (if ((rd_T29 x7 x10).f1) ≥ 0 then (if x12 < (x7.length : Int) then (if ((rd_T29 x7 x10).f1) = ((rd_T29 x7 x12).f1) then (ratlinelaw18_ColorApart.j5 k x1 x5 x7 x8 x9 x10 x11 x12 true) else (if ((rd_T29 x7 x10).f2) ≥ 0 then (ratlinelaw18_ColorApart.j5 k x1 x5 x7 x8 x9 x10 x11 x12 (((rd_T29 x7 x10).f2) == ((rd_T29 x7 x12).f2))) else (ratlinelaw18_ColorApart.j5 k x1 x5 x7 x8 x9 x10 x11 x12 false))) else (none)) else (if ((rd_T29 x7 x10).f2) ≥ 0 then (if x12 < (x7.length : Int) then (ratlinelaw18_ColorApart.j5 k x1 x5 x7 x8 x9 x10 x11 x12 (((rd_T29 x7 x10).f2) == ((rd_T29 x7 x12).f2))) else (none)) else (ratlinelaw18_ColorApart.j5 k x1 x5 x7 x8 x9 x10 x11 x12 false))) else (none)) else (ratlinelaw18_ColorApart.j5 k x1 x5 x7 x8 x9 x10 x11 x12 false))))) else (none)) else (none)) else (none)) else (none)
def ratlinelaw18_ColorApart.j5 : Nat → Int → List (S24) → List (S29) → Int → Int → Int → Int → Int → Bool → Option (Bool)
  | 0, _, _, _, _, _, _, _, _, _ => none
  | k + 1, x1, x5, x7, x8, x9, x10, x11, x12, x171 => if x171 = true then (some false) else (if 0 ≤ x12 then (if x12 < (x5.length : Int) then (if 0 ≤ x10 then (if x10 < (x5.length : Int) then (if ((rd_T24 x5 x12).f1) ≤ ((rd_T24 x5 x10).f1) then (if ((rd_T24 x5 x12).f2) ≥ ((rd_T24 x5 x10).f1) then (ratlinelaw18_ColorApart.l1 k x1 x5 x7 x8 x9 x10 (wrap64 (x11 + 1)) (wrap64 (x12 + 1))) else (ratlinelaw18_ColorApart.l1 k x1 x5 x7 x8 x9 x10 x11 (wrap64 (x12 + 1)))) else (ratlinelaw18_ColorApart.l1 k x1 x5 x7 x8 x9 x10 x11 (wrap64 (x12 + 1)))) else (none)) else (none)) else (none)) else (none))
end
def ratlinelaw18_ColorApart.f (k : Nat) (l0 : List (S46)) (a1 : Int) : Option (Bool) := if (l0.length : Int) > 60 then ((ratlinelaw18_awake.f k).bind fun t125 => (some t125)) else ((ratlinelaw18_rows.f k l0).bind fun bt126 => ((color_Assign.f bt126.1 (wrap64 ((Go.bits .and .i64 a1 15) + 1))).bind fun t132 => (if (t132.length : Int) = (bt126.1.length : Int) then (ratlinelaw18_ColorApart.l0 k (wrap64 ((Go.bits .and .i64 a1 15) + 1)) bt126.1 t132 0 0 0) else (some false))))
theorem ratlinelaw18_ColorApart.mono_l : ∀ k, (∀ y0 y1 y2 y3 y4 y5, LeO (ratlinelaw18_ColorApart.l0 k y0 y1 y2 y3 y4 y5) (ratlinelaw18_ColorApart.l0 (k + 1) y0 y1 y2 y3 y4 y5)) ∧ (∀ y0 y1 y2 y3 y4 y5 y6, LeO (ratlinelaw18_ColorApart.j1 k y0 y1 y2 y3 y4 y5 y6) (ratlinelaw18_ColorApart.j1 (k + 1) y0 y1 y2 y3 y4 y5 y6)) ∧ (∀ y0 y1 y2 y3 y4 y5, LeO (ratlinelaw18_ColorApart.j2 k y0 y1 y2 y3 y4 y5) (ratlinelaw18_ColorApart.j2 (k + 1) y0 y1 y2 y3 y4 y5)) ∧ (∀ y0 y1 y2 y3 y4 y5 y6 y7, LeO (ratlinelaw18_ColorApart.l1 k y0 y1 y2 y3 y4 y5 y6 y7) (ratlinelaw18_ColorApart.l1 (k + 1) y0 y1 y2 y3 y4 y5 y6 y7)) ∧ (∀ y0 y1 y2 y3 y4 y5 y6 y7 y8, LeO (ratlinelaw18_ColorApart.j4 k y0 y1 y2 y3 y4 y5 y6 y7 y8) (ratlinelaw18_ColorApart.j4 (k + 1) y0 y1 y2 y3 y4 y5 y6 y7 y8)) ∧ (∀ y0 y1 y2 y3 y4 y5 y6 y7 y8, LeO (ratlinelaw18_ColorApart.j5 k y0 y1 y2 y3 y4 y5 y6 y7 y8) (ratlinelaw18_ColorApart.j5 (k + 1) y0 y1 y2 y3 y4 y5 y6 y7 y8))
  | 0 => ⟨fun _ _ _ _ _ _ r h => by simp [ratlinelaw18_ColorApart.l0] at h, fun _ _ _ _ _ _ _ r h => by simp [ratlinelaw18_ColorApart.j1] at h, fun _ _ _ _ _ _ r h => by simp [ratlinelaw18_ColorApart.j2] at h, fun _ _ _ _ _ _ _ _ r h => by simp [ratlinelaw18_ColorApart.l1] at h, fun _ _ _ _ _ _ _ _ _ r h => by simp [ratlinelaw18_ColorApart.j4] at h, fun _ _ _ _ _ _ _ _ _ r h => by simp [ratlinelaw18_ColorApart.j5] at h⟩
  | k + 1 => by
    obtain ⟨ih0, ih1, ih2, ih3, ih4, ih5⟩ := ratlinelaw18_ColorApart.mono_l k
    refine ⟨?_, ?_, ?_, ?_, ?_, ?_⟩
    · intro y0 y1 y2 y3 y4 y5
      unfold ratlinelaw18_ColorApart.l0
      repeat' first
      | (with_reducible exact ih0 _ _ _ _ _ _)
      | (with_reducible exact ih1 _ _ _ _ _ _ _)
      | (with_reducible exact ih2 _ _ _ _ _ _)
      | (with_reducible exact ih3 _ _ _ _ _ _ _ _)
      | (with_reducible exact ih4 _ _ _ _ _ _ _ _ _)
      | (with_reducible exact ih5 _ _ _ _ _ _ _ _ _)
      | (with_reducible exact ratlinelaw18_awake.mono _)
      | (with_reducible exact ratlinelaw18_rows.mono _ _)
      | (with_reducible exact LeO.refl _)
      | (with_reducible exact LeO.none _)
      | (with_reducible refine LeO.ite ?_ ?_)
      | (with_reducible refine LeO.bind ?_ (fun _ => ?_))
      | exact ih0 _ _ _ _ _ _
      | exact ih1 _ _ _ _ _ _ _
      | exact ih2 _ _ _ _ _ _
      | exact ih3 _ _ _ _ _ _ _ _
      | exact ih4 _ _ _ _ _ _ _ _ _
      | exact ih5 _ _ _ _ _ _ _ _ _
      | exact ratlinelaw18_awake.mono _
      | exact ratlinelaw18_rows.mono _ _
      | exact LeO.none _
      | refine LeO.ite ?_ ?_
      | refine LeO.bind ?_ (fun _ => ?_)
    · intro y0 y1 y2 y3 y4 y5 y6
      unfold ratlinelaw18_ColorApart.j1
      repeat' first
      | (with_reducible exact ih0 _ _ _ _ _ _)
      | (with_reducible exact ih1 _ _ _ _ _ _ _)
      | (with_reducible exact ih2 _ _ _ _ _ _)
      | (with_reducible exact ih3 _ _ _ _ _ _ _ _)
      | (with_reducible exact ih4 _ _ _ _ _ _ _ _ _)
      | (with_reducible exact ih5 _ _ _ _ _ _ _ _ _)
      | (with_reducible exact ratlinelaw18_awake.mono _)
      | (with_reducible exact ratlinelaw18_rows.mono _ _)
      | (with_reducible exact LeO.refl _)
      | (with_reducible exact LeO.none _)
      | (with_reducible refine LeO.ite ?_ ?_)
      | (with_reducible refine LeO.bind ?_ (fun _ => ?_))
      | exact ih0 _ _ _ _ _ _
      | exact ih1 _ _ _ _ _ _ _
      | exact ih2 _ _ _ _ _ _
      | exact ih3 _ _ _ _ _ _ _ _
      | exact ih4 _ _ _ _ _ _ _ _ _
      | exact ih5 _ _ _ _ _ _ _ _ _
      | exact ratlinelaw18_awake.mono _
      | exact ratlinelaw18_rows.mono _ _
      | exact LeO.none _
      | refine LeO.ite ?_ ?_
      | refine LeO.bind ?_ (fun _ => ?_)
    · intro y0 y1 y2 y3 y4 y5
      unfold ratlinelaw18_ColorApart.j2
      repeat' first
      | (with_reducible exact ih0 _ _ _ _ _ _)
      | (with_reducible exact ih1 _ _ _ _ _ _ _)
      | (with_reducible exact ih2 _ _ _ _ _ _)
      | (with_reducible exact ih3 _ _ _ _ _ _ _ _)
      | (with_reducible exact ih4 _ _ _ _ _ _ _ _ _)
      | (with_reducible exact ih5 _ _ _ _ _ _ _ _ _)
      | (with_reducible exact ratlinelaw18_awake.mono _)
      | (with_reducible exact ratlinelaw18_rows.mono _ _)
      | (with_reducible exact LeO.refl _)
      | (with_reducible exact LeO.none _)
      | (with_reducible refine LeO.ite ?_ ?_)
      | (with_reducible refine LeO.bind ?_ (fun _ => ?_))
      | exact ih0 _ _ _ _ _ _
      | exact ih1 _ _ _ _ _ _ _
      | exact ih2 _ _ _ _ _ _
      | exact ih3 _ _ _ _ _ _ _ _
      | exact ih4 _ _ _ _ _ _ _ _ _
      | exact ih5 _ _ _ _ _ _ _ _ _
      | exact ratlinelaw18_awake.mono _
      | exact ratlinelaw18_rows.mono _ _
      | exact LeO.none _
      | refine LeO.ite ?_ ?_
      | refine LeO.bind ?_ (fun _ => ?_)
    · intro y0 y1 y2 y3 y4 y5 y6 y7
      unfold ratlinelaw18_ColorApart.l1
      repeat' first
      | (with_reducible exact ih0 _ _ _ _ _ _)
      | (with_reducible exact ih1 _ _ _ _ _ _ _)
      | (with_reducible exact ih2 _ _ _ _ _ _)
      | (with_reducible exact ih3 _ _ _ _ _ _ _ _)
      | (with_reducible exact ih4 _ _ _ _ _ _ _ _ _)
      | (with_reducible exact ih5 _ _ _ _ _ _ _ _ _)
      | (with_reducible exact ratlinelaw18_awake.mono _)
      | (with_reducible exact ratlinelaw18_rows.mono _ _)
      | (with_reducible exact LeO.refl _)
      | (with_reducible exact LeO.none _)
      | (with_reducible refine LeO.ite ?_ ?_)
      | (with_reducible refine LeO.bind ?_ (fun _ => ?_))
      | exact ih0 _ _ _ _ _ _
      | exact ih1 _ _ _ _ _ _ _
      | exact ih2 _ _ _ _ _ _
      | exact ih3 _ _ _ _ _ _ _ _
      | exact ih4 _ _ _ _ _ _ _ _ _
      | exact ih5 _ _ _ _ _ _ _ _ _
      | exact ratlinelaw18_awake.mono _
      | exact ratlinelaw18_rows.mono _ _
      | exact LeO.none _
      | refine LeO.ite ?_ ?_
      | refine LeO.bind ?_ (fun _ => ?_)
    · intro y0 y1 y2 y3 y4 y5 y6 y7 y8
      unfold ratlinelaw18_ColorApart.j4
      repeat' first
      | (with_reducible exact ih0 _ _ _ _ _ _)
      | (with_reducible exact ih1 _ _ _ _ _ _ _)
      | (with_reducible exact ih2 _ _ _ _ _ _)
      | (with_reducible exact ih3 _ _ _ _ _ _ _ _)
      | (with_reducible exact ih4 _ _ _ _ _ _ _ _ _)
      | (with_reducible exact ih5 _ _ _ _ _ _ _ _ _)
      | (with_reducible exact ratlinelaw18_awake.mono _)
      | (with_reducible exact ratlinelaw18_rows.mono _ _)
      | (with_reducible exact LeO.refl _)
      | (with_reducible exact LeO.none _)
      | (with_reducible refine LeO.ite ?_ ?_)
      | (with_reducible refine LeO.bind ?_ (fun _ => ?_))
      | exact ih0 _ _ _ _ _ _
      | exact ih1 _ _ _ _ _ _ _
      | exact ih2 _ _ _ _ _ _
      | exact ih3 _ _ _ _ _ _ _ _
      | exact ih4 _ _ _ _ _ _ _ _ _
      | exact ih5 _ _ _ _ _ _ _ _ _
      | exact ratlinelaw18_awake.mono _
      | exact ratlinelaw18_rows.mono _ _
      | exact LeO.none _
      | refine LeO.ite ?_ ?_
      | refine LeO.bind ?_ (fun _ => ?_)
    · intro y0 y1 y2 y3 y4 y5 y6 y7 y8
      unfold ratlinelaw18_ColorApart.j5
      repeat' first
      | (with_reducible exact ih0 _ _ _ _ _ _)
      | (with_reducible exact ih1 _ _ _ _ _ _ _)
      | (with_reducible exact ih2 _ _ _ _ _ _)
      | (with_reducible exact ih3 _ _ _ _ _ _ _ _)
      | (with_reducible exact ih4 _ _ _ _ _ _ _ _ _)
      | (with_reducible exact ih5 _ _ _ _ _ _ _ _ _)
      | (with_reducible exact ratlinelaw18_awake.mono _)
      | (with_reducible exact ratlinelaw18_rows.mono _ _)
      | (with_reducible exact LeO.refl _)
      | (with_reducible exact LeO.none _)
      | (with_reducible refine LeO.ite ?_ ?_)
      | (with_reducible refine LeO.bind ?_ (fun _ => ?_))
      | exact ih0 _ _ _ _ _ _
      | exact ih1 _ _ _ _ _ _ _
      | exact ih2 _ _ _ _ _ _
      | exact ih3 _ _ _ _ _ _ _ _
      | exact ih4 _ _ _ _ _ _ _ _ _
      | exact ih5 _ _ _ _ _ _ _ _ _
      | exact ratlinelaw18_awake.mono _
      | exact ratlinelaw18_rows.mono _ _
      | exact LeO.none _
      | refine LeO.ite ?_ ?_
      | refine LeO.bind ?_ (fun _ => ?_)
theorem ratlinelaw18_ColorApart.mono : ∀ a0 a1 k, LeO (ratlinelaw18_ColorApart.f k a0 a1) (ratlinelaw18_ColorApart.f (k + 1) a0 a1) := by
  intro a0 a1 k
  obtain ⟨ih0, ih1, ih2, ih3, ih4, ih5⟩ := ratlinelaw18_ColorApart.mono_l k
  unfold ratlinelaw18_ColorApart.f
  repeat' first
      | (with_reducible exact ih0 _ _ _ _ _ _)
      | (with_reducible exact ih1 _ _ _ _ _ _ _)
      | (with_reducible exact ih2 _ _ _ _ _ _)
      | (with_reducible exact ih3 _ _ _ _ _ _ _ _)
      | (with_reducible exact ih4 _ _ _ _ _ _ _ _ _)
      | (with_reducible exact ih5 _ _ _ _ _ _ _ _ _)
      | (with_reducible exact ratlinelaw18_awake.mono _)
      | (with_reducible exact ratlinelaw18_rows.mono _ _)
      | (with_reducible exact LeO.refl _)
      | (with_reducible exact LeO.none _)
      | (with_reducible refine LeO.ite ?_ ?_)
      | (with_reducible refine LeO.bind ?_ (fun _ => ?_))
      | exact ih0 _ _ _ _ _ _
      | exact ih1 _ _ _ _ _ _ _
      | exact ih2 _ _ _ _ _ _
      | exact ih3 _ _ _ _ _ _ _ _
      | exact ih4 _ _ _ _ _ _ _ _ _
      | exact ih5 _ _ _ _ _ _ _ _ _
      | exact ratlinelaw18_awake.mono _
      | exact ratlinelaw18_rows.mono _ _
      | exact LeO.none _
      | refine LeO.ite ?_ ?_
      | refine LeO.bind ?_ (fun _ => ?_)
set_option maxHeartbeats 8000000 in
set_option maxRecDepth 100000 in
theorem ratlinelaw18_ColorApart.calls (k : Nat) (A0 : Option Addr) (c0 : Nat) (l0 : List (S46)) (a1 : Int) (r : Bool) (w : World) (hr0 : Kd.C k46 w A0 l0.length l0) (hc0 : l0.length ≤ c0) (h : ratlinelaw18_ColorApart.f k l0 a1 = some r) :
    Calls Try.prog 5 #[.slice A0 l0.length c0, .int .i64 a1] w fun e w' => e = .returned (.bool r) ∧ Below w.heap.size w w' := by
  have hu24 := Try.underlying24
  have HR0 := Aside0.mk hr0
  have HC0 := Aside0.mk hc0
  clear hr0 hc0
  have HB := Aside0.mk (Below.refl w.heap.size w)
  have H : (if (l0.length : Int) > 60 then ((ratlinelaw18_awake.f k).bind fun t125 => (some t125)) else ((ratlinelaw18_rows.f k l0).bind fun bt126 => ((color_Assign.f bt126.1 (wrap64 ((Go.bits .and .i64 a1 15) + 1))).bind fun t132 => (if (t132.length : Int) = (bt126.1.length : Int) then (ratlinelaw18_ColorApart.l0 k (wrap64 ((Go.bits .and .i64 a1 15) + 1)) bt126.1 t132 0 0 0) else (some false))))) = some r := h
  clear h
  by_cases c3 : (l0.length : Int) > 60
  · rw [if_pos c3] at H
    have c3b0 : decide (60 < (l0.length : Int)) = true := decide_eq_true c3
    have c3b1 : decide (60 < l0.length) = true := decide_eq_true (by omega)
    clear c3
    replace H := Option.bind_eq_some_iff.mp H
    obtain ⟨t125, A40, H⟩ := H
    replace H : (some t125) = some r := H
    have A4 := Aside0.mk A40
    clear A40
    obtain rfl := Option.some.inj H
    go_enter Try.func5, Try.ntmps5
    go_wp2_with (first | (go_at_call 8; (with_reducible refine (ratlinelaw18_awake.calls k  t125 _ A4.out).mono ?_); rintro e w5 ⟨rfl, hb⟩; have n0_ := Aside0.mk (below_step (by repeat (first | (with_reducible first | exact HB.out | apply below_alloc | apply pw_below_drewN | apply below_drew1) | exact HB.out)) hb); clear HB; have HB := n0_; clear n0_; (try clear hb); (try clear hb2); (try clear hk); (try clear hi)))
    repeat (go_quiet (first | (go_at_call 8; (with_reducible refine (ratlinelaw18_awake.calls k  t125 _ A4.out).mono ?_); rintro e w5 ⟨rfl, hb⟩; have n0_ := Aside0.mk (below_step (by repeat (first | (with_reducible first | exact HB.out | apply below_alloc | apply pw_below_drewN | apply below_drew1) | exact HB.out)) hb); clear HB; have HB := n0_; clear n0_; (try clear hb); (try clear hb2); (try clear hk); (try clear hi))); try go_wp2_with (first | (go_at_call 8; (with_reducible refine (ratlinelaw18_awake.calls k  t125 _ A4.out).mono ?_); rintro e w5 ⟨rfl, hb⟩; have n0_ := Aside0.mk (below_step (by repeat (first | (with_reducible first | exact HB.out | apply below_alloc | apply pw_below_drewN | apply below_drew1) | exact HB.out)) hb); clear HB; have HB := n0_; clear n0_; (try clear hb); (try clear hb2); (try clear hk); (try clear hi))))
    go_ret
    exact ⟨by first | rfl | (simp [errW_none, errW_some] <;> rfl) | (simp [*, errW_none, errW_some] <;> rfl), by repeat (first | (with_reducible first | exact HB.out | apply below_alloc | apply pw_below_drewN | apply below_drew1) | exact HB.out)⟩
  · rw [if_neg c3] at H
    have c3b0 : decide (60 < (l0.length : Int)) = false := decide_eq_false c3
    have c3b1 : decide (60 < l0.length) = false := decide_eq_false (by omega)
    clear c3
    replace H := Option.bind_eq_some_iff.mp H
    obtain ⟨⟨t126, t127⟩, A60, H⟩ := H
    replace H : ((color_Assign.f t126 (wrap64 ((Go.bits .and .i64 a1 15) + 1))).bind fun t132 => (if (t132.length : Int) = (t126.length : Int) then (ratlinelaw18_ColorApart.l0 k (wrap64 ((Go.bits .and .i64 a1 15) + 1)) t126 t132 0 0 0) else (some false))) = some r := H
    have A6 := Aside0.mk A60
    clear A60
    replace H := Option.bind_eq_some_iff.mp H
    obtain ⟨t132, A70, H⟩ := H
    replace H : (if (t132.length : Int) = (t126.length : Int) then (ratlinelaw18_ColorApart.l0 k (wrap64 ((Go.bits .and .i64 a1 15) + 1)) t126 t132 0 0 0) else (some false)) = some r := H
    have A7 := Aside0.mk A70
    clear A70
    by_cases c8 : (t132.length : Int) = (t126.length : Int)
    · rw [if_pos c8] at H
      have c8b0 : ((t132.length : Int) == (t126.length : Int)) = true := beq_iff_eq.mpr c8
      have c8b1 : ((t132.length : Int) != (t126.length : Int)) = false := bne_eq_false_iff_eq.mpr c8
      have c8b2 : (t132.length == t126.length) = true := by first | simpa using c8 | (simp at c8 ⊢; omega)
      clear c8
      have H' := Aside0.mk H
      clear H
      go_enter Try.func5, Try.ntmps5
      go_wp2_with (first | (go_at_call 9; (with_reducible refine (ratlinelaw18_rows.calls k _ _ l0 t126 t127 _ ?side1 ?side2 A6.out).mono ?_); (case side1 => repeat (first | exact HR0.out | (with_reducible refine Kd.C_alloc ?_ _) | (with_reducible refine Kd.C_drewN ?_ _) | (with_reducible refine Kd.C_drew ?_))); (case side2 => exact HC0.out); rintro e w9 ⟨v128, v130, rfl, ho0, ho1, hb⟩; have n0_ := Aside0.mk (Kd.R_lower ho0 (below_size (by repeat (first | (with_reducible first | exact HB.out | apply below_alloc | apply pw_below_drewN | apply below_drew1) | exact HB.out)))); have n1_ := Aside0.mk (Kd.R_lower ho1 (below_size (by repeat (first | (with_reducible first | exact HB.out | apply below_alloc | apply pw_below_drewN | apply below_drew1) | exact HB.out)))); have n2_ := Aside0.mk (below_step (by repeat (first | (with_reducible first | exact HB.out | apply below_alloc | apply pw_below_drewN | apply below_drew1) | exact HB.out)) hb); clear HB; have HO129 := n0_; have HO131 := n1_; have HB := n2_; clear n0_ n1_ n2_; (try clear hb); (try clear hb2); (try clear hk); (try clear hi); (try clear ho0); (try clear ho1); obtain ⟨Ao10, co10, eo10⟩ := Kd.R_slice HO129.out; subst eo10) | (go_at_call 6; (with_reducible refine (color_Assign.calls _ _ t126 (wrap64 ((Go.bits .and .i64 a1 15) + 1)) t132 _ ?side1 ?side2 A7.out).mono ?_); (case side1 => repeat (first | exact (Kd.R_reads' HO129.out).2.2 | (with_reducible refine Kd.C_alloc ?_ _) | (with_reducible refine Kd.C_drewN ?_ _) | (with_reducible refine Kd.C_drew ?_))); (case side2 => exact (Kd.R_reads' HO129.out).2.1); rintro e w11 ⟨v133, rfl, ho0, hb⟩; have n0_ := Aside0.mk (Kd.R_below (by (with_reducible repeat (first | apply Kd.R_alloc | apply Kd.R_drewN | apply Kd.R_drew)); exact HO129.out) hb); have n1_ := Aside0.mk (Kd.R_below (by (with_reducible repeat (first | apply Kd.R_alloc | apply Kd.R_drewN | apply Kd.R_drew)); exact HO131.out) hb); have n2_ := Aside0.mk (Kd.R_lower ho0 (below_size (by repeat (first | (with_reducible first | exact HB.out | apply below_alloc | apply pw_below_drewN | apply below_drew1) | exact HB.out)))); have n3_ := Aside0.mk (below_step (by repeat (first | (with_reducible first | exact HB.out | apply below_alloc | apply pw_below_drewN | apply below_drew1) | exact HB.out)) hb); clear HO129; clear HO131; clear HB; have HO129 := n0_; have HO131 := n1_; have HO134 := n2_; have HB := n3_; clear n0_ n1_ n2_ n3_; (try clear hb); (try clear hb2); (try clear hk); (try clear hi); (try clear ho0); obtain ⟨Ao12, co12, eo12⟩ := Kd.R_slice HO134.out; subst eo12))
      repeat (go_quiet (first | (go_at_call 9; (with_reducible refine (ratlinelaw18_rows.calls k _ _ l0 t126 t127 _ ?side1 ?side2 A6.out).mono ?_); (case side1 => repeat (first | exact HR0.out | (with_reducible refine Kd.C_alloc ?_ _) | (with_reducible refine Kd.C_drewN ?_ _) | (with_reducible refine Kd.C_drew ?_))); (case side2 => exact HC0.out); rintro e w9 ⟨v128, v130, rfl, ho0, ho1, hb⟩; have n0_ := Aside0.mk (Kd.R_lower ho0 (below_size (by repeat (first | (with_reducible first | exact HB.out | apply below_alloc | apply pw_below_drewN | apply below_drew1) | exact HB.out)))); have n1_ := Aside0.mk (Kd.R_lower ho1 (below_size (by repeat (first | (with_reducible first | exact HB.out | apply below_alloc | apply pw_below_drewN | apply below_drew1) | exact HB.out)))); have n2_ := Aside0.mk (below_step (by repeat (first | (with_reducible first | exact HB.out | apply below_alloc | apply pw_below_drewN | apply below_drew1) | exact HB.out)) hb); clear HB; have HO129 := n0_; have HO131 := n1_; have HB := n2_; clear n0_ n1_ n2_; (try clear hb); (try clear hb2); (try clear hk); (try clear hi); (try clear ho0); (try clear ho1); obtain ⟨Ao10, co10, eo10⟩ := Kd.R_slice HO129.out; subst eo10) | (go_at_call 6; (with_reducible refine (color_Assign.calls _ _ t126 (wrap64 ((Go.bits .and .i64 a1 15) + 1)) t132 _ ?side1 ?side2 A7.out).mono ?_); (case side1 => repeat (first | exact (Kd.R_reads' HO129.out).2.2 | (with_reducible refine Kd.C_alloc ?_ _) | (with_reducible refine Kd.C_drewN ?_ _) | (with_reducible refine Kd.C_drew ?_))); (case side2 => exact (Kd.R_reads' HO129.out).2.1); rintro e w11 ⟨v133, rfl, ho0, hb⟩; have n0_ := Aside0.mk (Kd.R_below (by (with_reducible repeat (first | apply Kd.R_alloc | apply Kd.R_drewN | apply Kd.R_drew)); exact HO129.out) hb); have n1_ := Aside0.mk (Kd.R_below (by (with_reducible repeat (first | apply Kd.R_alloc | apply Kd.R_drewN | apply Kd.R_drew)); exact HO131.out) hb); have n2_ := Aside0.mk (Kd.R_lower ho0 (below_size (by repeat (first | (with_reducible first | exact HB.out | apply below_alloc | apply pw_below_drewN | apply below_drew1) | exact HB.out)))); have n3_ := Aside0.mk (below_step (by repeat (first | (with_reducible first | exact HB.out | apply below_alloc | apply pw_below_drewN | apply below_drew1) | exact HB.out)) hb); clear HO129; clear HO131; clear HB; have HO129 := n0_; have HO131 := n1_; have HO134 := n2_; have HB := n3_; clear n0_ n1_ n2_ n3_; (try clear hb); (try clear hb2); (try clear hk); (try clear hi); (try clear ho0); obtain ⟨Ao12, co12, eo12⟩ := Kd.R_slice HO134.out; subst eo12)); try go_wp2_with (first | (go_at_call 9; (with_reducible refine (ratlinelaw18_rows.calls k _ _ l0 t126 t127 _ ?side1 ?side2 A6.out).mono ?_); (case side1 => repeat (first | exact HR0.out | (with_reducible refine Kd.C_alloc ?_ _) | (with_reducible refine Kd.C_drewN ?_ _) | (with_reducible refine Kd.C_drew ?_))); (case side2 => exact HC0.out); rintro e w9 ⟨v128, v130, rfl, ho0, ho1, hb⟩; have n0_ := Aside0.mk (Kd.R_lower ho0 (below_size (by repeat (first | (with_reducible first | exact HB.out | apply below_alloc | apply pw_below_drewN | apply below_drew1) | exact HB.out)))); have n1_ := Aside0.mk (Kd.R_lower ho1 (below_size (by repeat (first | (with_reducible first | exact HB.out | apply below_alloc | apply pw_below_drewN | apply below_drew1) | exact HB.out)))); have n2_ := Aside0.mk (below_step (by repeat (first | (with_reducible first | exact HB.out | apply below_alloc | apply pw_below_drewN | apply below_drew1) | exact HB.out)) hb); clear HB; have HO129 := n0_; have HO131 := n1_; have HB := n2_; clear n0_ n1_ n2_; (try clear hb); (try clear hb2); (try clear hk); (try clear hi); (try clear ho0); (try clear ho1); obtain ⟨Ao10, co10, eo10⟩ := Kd.R_slice HO129.out; subst eo10) | (go_at_call 6; (with_reducible refine (color_Assign.calls _ _ t126 (wrap64 ((Go.bits .and .i64 a1 15) + 1)) t132 _ ?side1 ?side2 A7.out).mono ?_); (case side1 => repeat (first | exact (Kd.R_reads' HO129.out).2.2 | (with_reducible refine Kd.C_alloc ?_ _) | (with_reducible refine Kd.C_drewN ?_ _) | (with_reducible refine Kd.C_drew ?_))); (case side2 => exact (Kd.R_reads' HO129.out).2.1); rintro e w11 ⟨v133, rfl, ho0, hb⟩; have n0_ := Aside0.mk (Kd.R_below (by (with_reducible repeat (first | apply Kd.R_alloc | apply Kd.R_drewN | apply Kd.R_drew)); exact HO129.out) hb); have n1_ := Aside0.mk (Kd.R_below (by (with_reducible repeat (first | apply Kd.R_alloc | apply Kd.R_drewN | apply Kd.R_drew)); exact HO131.out) hb); have n2_ := Aside0.mk (Kd.R_lower ho0 (below_size (by repeat (first | (with_reducible first | exact HB.out | apply below_alloc | apply pw_below_drewN | apply below_drew1) | exact HB.out)))); have n3_ := Aside0.mk (below_step (by repeat (first | (with_reducible first | exact HB.out | apply below_alloc | apply pw_below_drewN | apply below_drew1) | exact HB.out)) hb); clear HO129; clear HO131; clear HB; have HO129 := n0_; have HO131 := n1_; have HO134 := n2_; have HB := n3_; clear n0_ n1_ n2_ n3_; (try clear hb); (try clear hb2); (try clear hk); (try clear hi); (try clear ho0); obtain ⟨Ao12, co12, eo12⟩ := Kd.R_slice HO134.out; subst eo12)))
      go_loopg [8, 9, 10] k (fun kq v8 v9 v10 w' => ∃ (x8_1 : Int) (x9_1 : Int) (x10_1 : Int), v8 = .int .i64 x8_1 ∧ v9 = .int .i64 x9_1 ∧ v10 = .int .i64 x10_1 ∧ Aside0 (ratlinelaw18_ColorApart.l0 kq (wrap64 ((Go.bits .and .i64 a1 15) + 1)) t126 t132 x8_1 x9_1 x10_1 = some r) ∧ Aside0 (kq ≤ k) ∧ Aside0 (Kd.R k24 24 w' w.heap.size (fun _ => True) (.slice Ao10 t126.length co10) t126) ∧ Aside0 (Kd.R k29 29 w' w.heap.size (fun _ => True) (.slice Ao12 t132.length co12) t132) ∧ Aside0 (Below w.heap.size w w'))
      case atStart => exact ⟨(0), (0), (0), (by first | rfl | (simp; done) | (simp [*]; done)), (by first | rfl | (simp; done) | (simp [*]; done)), (by first | rfl | (simp; done) | (simp [*]; done)), H', ⟨Nat.le_refl _⟩, ⟨by (with_reducible repeat (first | apply Kd.R_alloc | apply Kd.R_drewN | apply Kd.R_drew)); exact HO129.out⟩, ⟨by (with_reducible repeat (first | apply Kd.R_alloc | apply Kd.R_drewN | apply Kd.R_drew)); exact HO134.out⟩, ⟨by repeat (first | (with_reducible first | exact HB.out | apply below_alloc | apply pw_below_drewN | apply below_drew1) | exact HB.out)⟩⟩
      case round => as_aux_lemma =>
        clear H'
        try clear p2
        try clear c3
        try clear c3b0
        try clear c3b1
        try clear c5
        try clear p6
        try clear c8
        try clear c8b0
        try clear c8b1
        try clear c8b2
        obtain ⟨x8_1, x9_1, x10_1, rfl, rfl, rfl, HA, HK1, HO_5, HO_7, HB⟩ := hrel
        cases gk with
        | zero => exact absurd HA.out (by simp [ratlinelaw18_ColorApart.l0])
        | succ k1 =>
          have H := HA.out
          clear HA
          simp only [ratlinelaw18_ColorApart.l0] at H
          by_cases c13 : x10_1 < (t132.length : Int)
          · rw [if_pos c13] at H
            have c13b0 : decide (x10_1 < (t132.length : Int)) = true := decide_eq_true c13
            clear c13
            have HC14 := Aside0.mk H
            clear H
            go_upto_region 12 with (fail)
            repeat (go_quiet (fail); go_upto_region 12 with (fail))
            go_cut [74] (fun v74 wc => ∃ (kq : Nat) (x74_13 : Bool), v74 = .bool x74_13 ∧ Aside0 (ratlinelaw18_ColorApart.j1 kq (wrap64 ((Go.bits .and .i64 a1 15) + 1)) t126 t132 x8_1 x9_1 x10_1 x74_13 = some r) ∧ Aside0 (kq ≤ k1) ∧ Aside0 (Kd.R k24 24 wc w.heap.size (fun _ => True) (.slice Ao10 t126.length co10) t126) ∧ Aside0 (Kd.R k29 29 wc w.heap.size (fun _ => True) (.slice Ao12 t132.length co12) t132) ∧ Aside0 (Below w.heap.size w wc))
            case first => as_aux_lemma =>
              have H := HC14.out
              clear HC14
              by_cases c15 : 0 ≤ x10_1
              · rw [if_pos c15] at H
                have c15b0 : decide (0 ≤ x10_1) = true := decide_eq_true c15
                clear c15
                (first | rw [c15b0] | (simp only [i64_w, i32_w]; rw [c15b0]) | skip)
                by_cases c16 : x10_1 < (t126.length : Int)
                · rw [if_pos c16] at H
                  have c16b0 : decide (x10_1 < (t126.length : Int)) = true := decide_eq_true c16
                  clear c16
                  by_cases c17 : ((rd_T29 t132 x10_1).f0) = ((rd_T24 t126 x10_1).f0)
                  · rw [if_pos c17] at H
                    have c17b0 : (((rd_T29 t132 x10_1).f0) == ((rd_T24 t126 x10_1).f0)) = true := beq_iff_eq.mpr c17
                    have c17b1 : (((rd_T29 t132 x10_1).f0) != ((rd_T24 t126 x10_1).f0)) = false := bne_eq_false_iff_eq.mpr c17
                    clear c17
                    by_cases c18 : ((decide (((rd_T29 t132 x10_1).f1) ≥ 0)) == (decide (((rd_T29 t132 x10_1).f2) ≥ 0))) = true
                    · rw [if_pos c18] at H
                      have c18b0 : ((decide (((rd_T29 t132 x10_1).f1) ≥ 0)) == (decide (((rd_T29 t132 x10_1).f2) ≥ 0))) = true := c18
                      (try (have c18b1 : decide ((decide (((rd_T29 t132 x10_1).f1) ≥ 0)) = (decide (((rd_T29 t132 x10_1).f2) ≥ 0))) = true := by simpa using c18))
                      (try (have c18b2 : ((decide (((rd_T29 t132 x10_1).f1) ≥ 0)) == (decide (((rd_T29 t132 x10_1).f2) ≥ 0))) = true := by simpa using c18))
                      clear c18
                      have H' := Aside0.mk H
                      clear H
                      have p139 : 0 ≤ (x10_1 : Int) := of_decide_eq_true (by first | (with_reducible assumption) | assumption)
                      have q139 : x10_1 < (t132.length : Int) := of_decide_eq_true (by first | (with_reducible assumption) | assumption)
                      obtain ⟨ad139, e139, hx139_0, hx139_1, hx139_2⟩ := at_T29 (Kd.R_reads' HO_7.out).2.2 x10_1 p139 q139
                      cases e139
                      replace p139 := eq_true p139
                      replace q139 := eq_true q139
                      have p140 : 0 ≤ (x10_1 : Int) := of_decide_eq_true (by first | (with_reducible assumption) | assumption)
                      have q140 : x10_1 < (t126.length : Int) := of_decide_eq_true (by first | (with_reducible assumption) | assumption)
                      obtain ⟨ad140, e140, hx140_0, hx140_1, hx140_2⟩ := at_T24 (Kd.R_reads' HO_5.out).2.2 x10_1 p140 q140
                      cases e140
                      replace p140 := eq_true p140
                      replace q140 := eq_true q140
                      have p141 : 0 ≤ (x10_1 : Int) := of_decide_eq_true (by first | (with_reducible assumption) | assumption)
                      have q141 : x10_1 < (t132.length : Int) := of_decide_eq_true (by first | (with_reducible assumption) | assumption)
                      obtain ⟨ad141, e141, hx141_0, hx141_1, hx141_2⟩ := at_T29 (Kd.R_reads' HO_7.out).2.2 x10_1 p141 q141
                      obtain rfl : ad139 = ad141 := (by injection e141)
                      replace p141 := eq_true p141
                      replace q141 := eq_true q141
                      have p142 : 0 ≤ (x10_1 : Int) := of_decide_eq_true (by first | (with_reducible assumption) | assumption)
                      have q142 : x10_1 < (t132.length : Int) := of_decide_eq_true (by first | (with_reducible assumption) | assumption)
                      obtain ⟨ad142, e142, hx142_0, hx142_1, hx142_2⟩ := at_T29 (Kd.R_reads' HO_7.out).2.2 x10_1 p142 q142
                      obtain rfl : ad139 = ad142 := (by injection e142)
                      replace p142 := eq_true p142
                      replace q142 := eq_true q142
                      go_wp2
                      repeat (go_quiet (fail); try go_wp2)
                      go_meet
                      case rel => exact ⟨_, (true), (by first | rfl | (simp; done) | (simp [*]; done)), H', ⟨by have := HK1.out; first | omega | exact Nat.le_refl _⟩, ⟨by (with_reducible repeat (first | apply Kd.R_alloc | apply Kd.R_drewN | apply Kd.R_drew)); exact HO_5.out⟩, ⟨by (with_reducible repeat (first | apply Kd.R_alloc | apply Kd.R_drewN | apply Kd.R_drew)); exact HO_7.out⟩, ⟨by repeat (first | (with_reducible first | exact HB.out | apply below_alloc | apply pw_below_drewN | apply below_drew1) | exact HB.out)⟩⟩
                    · rw [if_neg c18] at H
                      have c18b0 : ((decide (((rd_T29 t132 x10_1).f1) ≥ 0)) == (decide (((rd_T29 t132 x10_1).f2) ≥ 0))) = false := by simpa using c18
                      (try (have c18b1 : decide ((decide (((rd_T29 t132 x10_1).f1) ≥ 0)) = (decide (((rd_T29 t132 x10_1).f2) ≥ 0))) = false := by simpa using c18))
                      (try (have c18b2 : ((decide (((rd_T29 t132 x10_1).f1) ≥ 0)) == (decide (((rd_T29 t132 x10_1).f2) ≥ 0))) = false := by simpa using c18))
                      (try (have c18b3 : ¬ ((decide (((rd_T29 t132 x10_1).f1) ≥ 0)) = (decide (((rd_T29 t132 x10_1).f2) ≥ 0))) := by simpa using c18))
                      clear c18
                      have H' := Aside0.mk H
                      clear H
                      have p139 : 0 ≤ (x10_1 : Int) := of_decide_eq_true (by first | (with_reducible assumption) | assumption)
                      have q139 : x10_1 < (t132.length : Int) := of_decide_eq_true (by first | (with_reducible assumption) | assumption)
                      obtain ⟨ad139, e139, hx139_0, hx139_1, hx139_2⟩ := at_T29 (Kd.R_reads' HO_7.out).2.2 x10_1 p139 q139
                      cases e139
                      replace p139 := eq_true p139
                      replace q139 := eq_true q139
                      have p140 : 0 ≤ (x10_1 : Int) := of_decide_eq_true (by first | (with_reducible assumption) | assumption)
                      have q140 : x10_1 < (t126.length : Int) := of_decide_eq_true (by first | (with_reducible assumption) | assumption)
                      obtain ⟨ad140, e140, hx140_0, hx140_1, hx140_2⟩ := at_T24 (Kd.R_reads' HO_5.out).2.2 x10_1 p140 q140
                      cases e140
                      replace p140 := eq_true p140
                      replace q140 := eq_true q140
                      have p141 : 0 ≤ (x10_1 : Int) := of_decide_eq_true (by first | (with_reducible assumption) | assumption)
                      have q141 : x10_1 < (t132.length : Int) := of_decide_eq_true (by first | (with_reducible assumption) | assumption)
                      obtain ⟨ad141, e141, hx141_0, hx141_1, hx141_2⟩ := at_T29 (Kd.R_reads' HO_7.out).2.2 x10_1 p141 q141
                      obtain rfl : ad139 = ad141 := (by injection e141)
                      replace p141 := eq_true p141
                      replace q141 := eq_true q141
                      have p142 : 0 ≤ (x10_1 : Int) := of_decide_eq_true (by first | (with_reducible assumption) | assumption)
                      have q142 : x10_1 < (t132.length : Int) := of_decide_eq_true (by first | (with_reducible assumption) | assumption)
                      obtain ⟨ad142, e142, hx142_0, hx142_1, hx142_2⟩ := at_T29 (Kd.R_reads' HO_7.out).2.2 x10_1 p142 q142
                      obtain rfl : ad139 = ad142 := (by injection e142)
                      replace p142 := eq_true p142
                      replace q142 := eq_true q142
                      have p143 : 0 ≤ (x10_1 : Int) := of_decide_eq_true (by first | (with_reducible assumption) | assumption)
                      have q143 : x10_1 < (t132.length : Int) := of_decide_eq_true (by first | (with_reducible assumption) | assumption)
                      obtain ⟨ad143, e143, hx143_0, hx143_1, hx143_2⟩ := at_T29 (Kd.R_reads' HO_7.out).2.2 x10_1 p143 q143
                      obtain rfl : ad139 = ad143 := (by injection e143)
                      replace p143 := eq_true p143
                      replace q143 := eq_true q143
                      go_wp2
                      repeat (go_quiet (fail); try go_wp2)
                      go_meet
                      case rel => exact ⟨_, (decide (((rd_T29 t132 x10_1).f1) ≥ (wrap64 ((Go.bits .and .i64 a1 15) + 1)))), (by first | rfl | (simp; done) | (simp [*]; done)), H', ⟨by have := HK1.out; first | omega | exact Nat.le_refl _⟩, ⟨by (with_reducible repeat (first | apply Kd.R_alloc | apply Kd.R_drewN | apply Kd.R_drew)); exact HO_5.out⟩, ⟨by (with_reducible repeat (first | apply Kd.R_alloc | apply Kd.R_drewN | apply Kd.R_drew)); exact HO_7.out⟩, ⟨by repeat (first | (with_reducible first | exact HB.out | apply below_alloc | apply pw_below_drewN | apply below_drew1) | exact HB.out)⟩⟩
                  · rw [if_neg c17] at H
                    have c17b0 : (((rd_T29 t132 x10_1).f0) == ((rd_T24 t126 x10_1).f0)) = false := beq_eq_false_iff_ne.mpr c17
                    have c17b1 : (((rd_T29 t132 x10_1).f0) != ((rd_T24 t126 x10_1).f0)) = true := bne_iff_ne.mpr c17
                    have H' := Aside0.mk H
                    clear H
                    have p139 : 0 ≤ (x10_1 : Int) := of_decide_eq_true (by first | (with_reducible assumption) | assumption)
                    have q139 : x10_1 < (t132.length : Int) := of_decide_eq_true (by first | (with_reducible assumption) | assumption)
                    obtain ⟨ad139, e139, hx139_0, hx139_1, hx139_2⟩ := at_T29 (Kd.R_reads' HO_7.out).2.2 x10_1 p139 q139
                    cases e139
                    replace p139 := eq_true p139
                    replace q139 := eq_true q139
                    have p140 : 0 ≤ (x10_1 : Int) := of_decide_eq_true (by first | (with_reducible assumption) | assumption)
                    have q140 : x10_1 < (t126.length : Int) := of_decide_eq_true (by first | (with_reducible assumption) | assumption)
                    obtain ⟨ad140, e140, hx140_0, hx140_1, hx140_2⟩ := at_T24 (Kd.R_reads' HO_5.out).2.2 x10_1 p140 q140
                    cases e140
                    replace p140 := eq_true p140
                    replace q140 := eq_true q140
                    go_wp2
                    repeat (go_quiet (fail); try go_wp2)
                    go_meet
                    case rel => exact ⟨_, (true), (by first | rfl | (simp; done) | (simp [*]; done)), H', ⟨by have := HK1.out; first | omega | exact Nat.le_refl _⟩, ⟨by (with_reducible repeat (first | apply Kd.R_alloc | apply Kd.R_drewN | apply Kd.R_drew)); exact HO_5.out⟩, ⟨by (with_reducible repeat (first | apply Kd.R_alloc | apply Kd.R_drewN | apply Kd.R_drew)); exact HO_7.out⟩, ⟨by repeat (first | (with_reducible first | exact HB.out | apply below_alloc | apply pw_below_drewN | apply below_drew1) | exact HB.out)⟩⟩
                · rw [if_neg c16] at H
                  exact absurd H (by simp)
              · rw [if_neg c15] at H
                exact absurd H (by simp)
            case rest => as_aux_lemma =>
              clear HC14
              try clear c1
              try clear p1
              try clear q1
              try clear hx1
              try clear p2
              try clear c3
              try clear c3b0
              try clear c3b1
              try clear c5
              try clear p6
              try clear c8
              try clear c8b0
              try clear c8b1
              try clear c8b2
              try clear c13
              try clear c13b0
              try clear p13
              try clear q13
              try clear hx13
              try clear p14
              try clear q14
              try clear hx14
              try clear c15
              try clear c15b0
              try clear c16
              try clear c16b0
              try clear c17
              try clear c17b0
              try clear c17b1
              try clear c18
              try clear c18b0
              try clear c18b1
              try clear c18b2
              try clear hx139_0
              try clear hx139_1
              try clear hx139_2
              try clear hx140_0
              try clear hx140_1
              try clear hx140_2
              try clear hx141_0
              try clear hx141_1
              try clear hx141_2
              try clear hx142_0
              try clear hx142_1
              try clear hx142_2
              try clear hx143_0
              try clear hx143_1
              try clear hx143_2
              try clear p139
              try clear p140
              try clear p141
              try clear p142
              try clear p143
              try clear p2
              try clear p6
              try clear q139
              try clear q140
              try clear q141
              try clear q142
              try clear q143
              obtain ⟨kq, x74_13, rfl, HA, HJ13, HO_5, HO_7, HB⟩ := hcut
              cases kq with
              | zero => exact absurd HA.out (by simp [ratlinelaw18_ColorApart.j1])
              | succ kj13 =>
                have H := HA.out
                clear HA
                simp only [ratlinelaw18_ColorApart.j1] at H
                by_cases c19 : x74_13 = true
                · subst c19
                  have H1 : (some false) = some r := by rw [if_pos rfl] at H; exact H
                  clear H
                  have H := H1
                  clear H1
                  obtain rfl := Option.some.inj H
                  go_wp2
                  repeat (go_quiet (fail); try go_wp2)
                  go_ret
                  exact ⟨by first | rfl | (simp [errW_none, errW_some] <;> rfl) | (simp [*, errW_none, errW_some] <;> rfl), by repeat (first | (with_reducible first | exact HB.out | apply below_alloc | apply pw_below_drewN | apply below_drew1) | exact HB.out)⟩
                · replace c19 := Bool.eq_false_iff.mpr c19
                  subst c19
                  have H1 : (if 0 ≤ x10_1 then (if x10_1 < (t132.length : Int) then (if ((rd_T29 t132 x10_1).f2) ≥ 0 then (ratlinelaw18_ColorApart.j2 kj13 (wrap64 ((Go.bits .and .i64 a1 15) + 1)) t126 t132 (wrap64 (x8_1 + 1)) x9_1 x10_1) else (ratlinelaw18_ColorApart.j2 kj13 (wrap64 ((Go.bits .and .i64 a1 15) + 1)) t126 t132 x8_1 x9_1 x10_1)) else (none)) else (none)) = some r := by rw [if_neg (show ¬ (false = true) by decide)] at H; exact H
                  clear H
                  have H := H1
                  clear H1
                  by_cases c20 : 0 ≤ x10_1
                  · rw [if_pos c20] at H
                    have c20b0 : decide (0 ≤ x10_1) = true := decide_eq_true c20
                    clear c20
                    by_cases c21 : x10_1 < (t132.length : Int)
                    · rw [if_pos c21] at H
                      have c21b0 : decide (x10_1 < (t132.length : Int)) = true := decide_eq_true c21
                      clear c21
                      have HC22 := Aside0.mk H
                      clear H
                      have p144 : 0 ≤ (x10_1 : Int) := of_decide_eq_true (by first | (with_reducible assumption) | assumption)
                      have q144 : x10_1 < (t132.length : Int) := of_decide_eq_true (by first | (with_reducible assumption) | assumption)
                      obtain ⟨ad144, e144, hx144_0, hx144_1, hx144_2⟩ := at_T29 (Kd.R_reads' HO_7.out).2.2 x10_1 p144 q144
                      cases e144
                      replace p144 := eq_true p144
                      replace q144 := eq_true q144
                      go_upto_if 80 with (fail)
                      repeat (go_quiet (fail); go_upto_if 80 with (fail))
                      go_cut [8] (fun v8 wc => ∃ (kq : Nat) (x8_21 : Int), v8 = .int .i64 x8_21 ∧ Aside0 (ratlinelaw18_ColorApart.j2 kq (wrap64 ((Go.bits .and .i64 a1 15) + 1)) t126 t132 x8_21 x9_1 x10_1 = some r) ∧ Aside0 (kq ≤ kj13) ∧ Aside0 (Kd.R k24 24 wc w.heap.size (fun _ => True) (.slice Ao10 t126.length co10) t126) ∧ Aside0 (Kd.R k29 29 wc w.heap.size (fun _ => True) (.slice (some ad144) t132.length co12) t132) ∧ Aside0 (Below w.heap.size w wc))
                      case first => as_aux_lemma =>
                        have H := HC22.out
                        clear HC22
                        by_cases c23 : ((rd_T29 t132 x10_1).f2) ≥ 0
                        · rw [if_pos c23] at H
                          have c23b0 : decide (0 ≤ ((rd_T29 t132 x10_1).f2)) = true := decide_eq_true c23
                          clear c23
                          (first | rw [c23b0] | (simp only [i64_w, i32_w]; rw [c23b0]) | skip)
                          have H' := Aside0.mk H
                          clear H
                          go_wp2
                          repeat (go_quiet (fail); try go_wp2)
                          go_meet
                          case rel => exact ⟨_, (wrap64 (x8_1 + 1)), (by first | rfl | (simp; done) | (simp [*]; done)), H', ⟨by have := HK1.out; have := HJ13.out; first | omega | exact Nat.le_refl _⟩, ⟨by (with_reducible repeat (first | apply Kd.R_alloc | apply Kd.R_drewN | apply Kd.R_drew)); exact HO_5.out⟩, ⟨by (with_reducible repeat (first | apply Kd.R_alloc | apply Kd.R_drewN | apply Kd.R_drew)); exact HO_7.out⟩, ⟨by repeat (first | (with_reducible first | exact HB.out | apply below_alloc | apply pw_below_drewN | apply below_drew1) | exact HB.out)⟩⟩
                        · rw [if_neg c23] at H
                          have c23b0 : decide (0 ≤ ((rd_T29 t132 x10_1).f2)) = false := decide_eq_false c23
                          clear c23
                          (first | rw [c23b0] | (simp only [i64_w, i32_w]; rw [c23b0]) | skip)
                          have H' := Aside0.mk H
                          clear H
                          go_wp2
                          repeat (go_quiet (fail); try go_wp2)
                          go_meet
                          case rel => exact ⟨_, (x8_1), (by first | rfl | (simp; done) | (simp [*]; done)), H', ⟨by have := HK1.out; have := HJ13.out; first | omega | exact Nat.le_refl _⟩, ⟨by (with_reducible repeat (first | apply Kd.R_alloc | apply Kd.R_drewN | apply Kd.R_drew)); exact HO_5.out⟩, ⟨by (with_reducible repeat (first | apply Kd.R_alloc | apply Kd.R_drewN | apply Kd.R_drew)); exact HO_7.out⟩, ⟨by repeat (first | (with_reducible first | exact HB.out | apply below_alloc | apply pw_below_drewN | apply below_drew1) | exact HB.out)⟩⟩
                      case rest => as_aux_lemma =>
                        clear HC22
                        try clear c1
                        try clear p1
                        try clear q1
                        try clear hx1
                        try clear c2
                        try clear p2
                        try clear c3
                        try clear c3b0
                        try clear c3b1
                        try clear c5
                        try clear p6
                        try clear c8
                        try clear c8b0
                        try clear c8b1
                        try clear c8b2
                        try clear c13
                        try clear c13b0
                        try clear p13
                        try clear q13
                        try clear hx13
                        try clear p14
                        try clear q14
                        try clear hx14
                        try clear c15
                        try clear c15b0
                        try clear c16
                        try clear c16b0
                        try clear c17
                        try clear c17b0
                        try clear c17b1
                        try clear c18
                        try clear c18b0
                        try clear c18b1
                        try clear c18b2
                        try clear c19
                        try clear c20
                        try clear c20b0
                        try clear c21
                        try clear c21b0
                        try clear c23
                        try clear c23b0
                        try clear hx139_0
                        try clear hx139_1
                        try clear hx139_2
                        try clear hx140_0
                        try clear hx140_1
                        try clear hx140_2
                        try clear hx141_0
                        try clear hx141_1
                        try clear hx141_2
                        try clear hx142_0
                        try clear hx142_1
                        try clear hx142_2
                        try clear hx143_0
                        try clear hx143_1
                        try clear hx143_2
                        try clear hx144_0
                        try clear hx144_1
                        try clear hx144_2
                        try clear p1
                        try clear p13
                        try clear p139
                        try clear p14
                        try clear p140
                        try clear p141
                        try clear p142
                        try clear p143
                        try clear p144
                        try clear p2
                        try clear p6
                        try clear q1
                        try clear q13
                        try clear q139
                        try clear q14
                        try clear q140
                        try clear q141
                        try clear q142
                        try clear q143
                        try clear q144
                        obtain ⟨kq, x8_21, rfl, HA, HJ21, HO_5, HO_7, HB⟩ := hcut
                        cases kq with
                        | zero => exact absurd HA.out (by simp [ratlinelaw18_ColorApart.j2])
                        | succ kj21 =>
                          have H := HA.out
                          clear HA
                          simp only [ratlinelaw18_ColorApart.j2] at H
                          have H' := Aside0.mk H
                          clear H
                          go_wp2
                          repeat (go_quiet (fail); try go_wp2)
                          go_loopg [11, 12] kj21 (fun kq v11 v12 w' => ∃ (x11_4 : Int) (x12_4 : Int), v11 = .int .i64 x11_4 ∧ v12 = .int .i64 x12_4 ∧ Aside0 (ratlinelaw18_ColorApart.l1 kq (wrap64 ((Go.bits .and .i64 a1 15) + 1)) t126 t132 x8_21 x9_1 x10_1 x11_4 x12_4 = some r) ∧ Aside0 (kq ≤ kj21) ∧ Aside0 (Kd.R k24 24 w' w.heap.size (fun _ => True) (.slice Ao10 t126.length co10) t126) ∧ Aside0 (Kd.R k29 29 w' w.heap.size (fun _ => True) (.slice (some ad144) t132.length co12) t132) ∧ Aside0 (Below w.heap.size w w'))
                          case atStart => exact ⟨(0), (0), (by first | rfl | (simp; done) | (simp [*]; done)), (by first | rfl | (simp; done) | (simp [*]; done)), H', ⟨Nat.le_refl _⟩, ⟨by (with_reducible repeat (first | apply Kd.R_alloc | apply Kd.R_drewN | apply Kd.R_drew)); exact HO_5.out⟩, ⟨by (with_reducible repeat (first | apply Kd.R_alloc | apply Kd.R_drewN | apply Kd.R_drew)); exact HO_7.out⟩, ⟨by repeat (first | (with_reducible first | exact HB.out | apply below_alloc | apply pw_below_drewN | apply below_drew1) | exact HB.out)⟩⟩
                          case round => as_aux_lemma =>
                            clear H'
                            try clear c1
                            try clear p1
                            try clear q1
                            try clear hx1
                            try clear c2
                            try clear p2
                            try clear c3
                            try clear c3b0
                            try clear c3b1
                            try clear c5
                            try clear p6
                            try clear c8
                            try clear c8b0
                            try clear c8b1
                            try clear c8b2
                            try clear c13
                            try clear c13b0
                            try clear p13
                            try clear q13
                            try clear hx13
                            try clear p14
                            try clear q14
                            try clear hx14
                            try clear c15
                            try clear c15b0
                            try clear c16
                            try clear c16b0
                            try clear c17
                            try clear c17b0
                            try clear c17b1
                            try clear c18
                            try clear c18b0
                            try clear c18b1
                            try clear c18b2
                            try clear c19
                            try clear c20
                            try clear c20b0
                            try clear c21
                            try clear c21b0
                            try clear c23
                            try clear c23b0
                            try clear hx139_0
                            try clear hx139_1
                            try clear hx139_2
                            try clear hx140_0
                            try clear hx140_1
                            try clear hx140_2
                            try clear hx141_0
                            try clear hx141_1
                            try clear hx141_2
                            try clear hx142_0
                            try clear hx142_1
                            try clear hx142_2
                            try clear hx143_0
                            try clear hx143_1
                            try clear hx143_2
                            try clear hx144_0
                            try clear hx144_1
                            try clear hx144_2
                            try clear p1
                            try clear p13
                            try clear p139
                            try clear p14
                            try clear p140
                            try clear p141
                            try clear p142
                            try clear p143
                            try clear p144
                            try clear p2
                            try clear p6
                            try clear q1
                            try clear q13
                            try clear q139
                            try clear q14
                            try clear q140
                            try clear q141
                            try clear q142
                            try clear q143
                            try clear q144
                            obtain ⟨x11_4, x12_4, rfl, rfl, HA, HK4, HO_5, HO_7, HB⟩ := hrel
                            cases gk with
                            | zero => exact absurd HA.out (by simp [ratlinelaw18_ColorApart.l1])
                            | succ k4 =>
                              have H := HA.out
                              clear HA
                              simp only [ratlinelaw18_ColorApart.l1] at H
                              by_cases c24 : x12_4 < (t132.length : Int)
                              · rw [if_pos c24] at H
                                have c24b0 : decide (x12_4 < (t132.length : Int)) = true := decide_eq_true c24
                                clear c24
                                have HC25 := Aside0.mk H
                                clear H
                                go_upto_region 20 with (fail)
                                repeat (go_quiet (fail); go_upto_region 20 with (fail))
                                go_cut [13] (fun v13 wc => ∃ (kq : Nat) (x13_24 : Bool), v13 = .bool x13_24 ∧ Aside0 (ratlinelaw18_ColorApart.j4 kq (wrap64 ((Go.bits .and .i64 a1 15) + 1)) t126 t132 x8_21 x9_1 x10_1 x11_4 x12_4 x13_24 = some r) ∧ Aside0 (kq ≤ k4) ∧ Aside0 (Kd.R k24 24 wc w.heap.size (fun _ => True) (.slice Ao10 t126.length co10) t126) ∧ Aside0 (Kd.R k29 29 wc w.heap.size (fun _ => True) (.slice (some ad144) t132.length co12) t132) ∧ Aside0 (Below w.heap.size w wc))
                                case first => as_aux_lemma =>
                                  have H := HC25.out
                                  clear HC25
                                  by_cases c26 : 0 ≤ x10_1
                                  · rw [if_pos c26] at H
                                    have c26b0 : decide (0 ≤ x10_1) = true := decide_eq_true c26
                                    clear c26
                                    (first | rw [c26b0] | (simp only [i64_w, i32_w]; rw [c26b0]) | skip)
                                    by_cases c27 : x10_1 < (t126.length : Int)
                                    · rw [if_pos c27] at H
                                      have c27b0 : decide (x10_1 < (t126.length : Int)) = true := decide_eq_true c27
                                      clear c27
                                      by_cases c28 : 0 ≤ x12_4
                                      · rw [if_pos c28] at H
                                        have c28b0 : decide (0 ≤ x12_4) = true := decide_eq_true c28
                                        clear c28
                                        by_cases c29 : x12_4 < (t126.length : Int)
                                        · rw [if_pos c29] at H
                                          have c29b0 : decide (x12_4 < (t126.length : Int)) = true := decide_eq_true c29
                                          clear c29
                                          by_cases c30 : ((rd_T24 t126 x10_1).f1) ≤ ((rd_T24 t126 x12_4).f2)
                                          · rw [if_pos c30] at H
                                            have c30b0 : decide (((rd_T24 t126 x10_1).f1) ≤ ((rd_T24 t126 x12_4).f2)) = true := decide_eq_true c30
                                            clear c30
                                            have H' := Aside0.mk H
                                            clear H
                                            have p145 : 0 ≤ (x10_1 : Int) := of_decide_eq_true (by first | (with_reducible assumption) | assumption)
                                            have q145 : x10_1 < (t126.length : Int) := of_decide_eq_true (by first | (with_reducible assumption) | assumption)
                                            obtain ⟨ad145, e145, hx145_0, hx145_1, hx145_2⟩ := at_T24 (Kd.R_reads' HO_5.out).2.2 x10_1 p145 q145
                                            cases e145
                                            replace p145 := eq_true p145
                                            replace q145 := eq_true q145
                                            have p146 : 0 ≤ (x12_4 : Int) := of_decide_eq_true (by first | (with_reducible assumption) | assumption)
                                            have q146 : x12_4 < (t126.length : Int) := of_decide_eq_true (by first | (with_reducible assumption) | assumption)
                                            obtain ⟨ad146, e146, hx146_0, hx146_1, hx146_2⟩ := at_T24 (Kd.R_reads' HO_5.out).2.2 x12_4 p146 q146
                                            obtain rfl : ad145 = ad146 := (by injection e146)
                                            replace p146 := eq_true p146
                                            replace q146 := eq_true q146
                                            have p147 : 0 ≤ (x12_4 : Int) := of_decide_eq_true (by first | (with_reducible assumption) | assumption)
                                            have q147 : x12_4 < (t126.length : Int) := of_decide_eq_true (by first | (with_reducible assumption) | assumption)
                                            obtain ⟨ad147, e147, hx147_0, hx147_1, hx147_2⟩ := at_T24 (Kd.R_reads' HO_5.out).2.2 x12_4 p147 q147
                                            obtain rfl : ad145 = ad147 := (by injection e147)
                                            replace p147 := eq_true p147
                                            replace q147 := eq_true q147
                                            have p148 : 0 ≤ (x10_1 : Int) := of_decide_eq_true (by first | (with_reducible assumption) | assumption)
                                            have q148 : x10_1 < (t126.length : Int) := of_decide_eq_true (by first | (with_reducible assumption) | assumption)
                                            obtain ⟨ad148, e148, hx148_0, hx148_1, hx148_2⟩ := at_T24 (Kd.R_reads' HO_5.out).2.2 x10_1 p148 q148
                                            obtain rfl : ad145 = ad148 := (by injection e148)
                                            replace p148 := eq_true p148
                                            replace q148 := eq_true q148
                                            go_wp2
                                            repeat (go_quiet (fail); try go_wp2)
                                            go_meet
                                            case rel => exact ⟨_, (decide (((rd_T24 t126 x12_4).f1) ≤ ((rd_T24 t126 x10_1).f2))), (by first | rfl | (simp; done) | (simp [*]; done)), H', ⟨by have := HK1.out; have := HJ13.out; have := HJ21.out; have := HK4.out; first | omega | exact Nat.le_refl _⟩, ⟨by (with_reducible repeat (first | apply Kd.R_alloc | apply Kd.R_drewN | apply Kd.R_drew)); exact HO_5.out⟩, ⟨by (with_reducible repeat (first | apply Kd.R_alloc | apply Kd.R_drewN | apply Kd.R_drew)); exact HO_7.out⟩, ⟨by repeat (first | (with_reducible first | exact HB.out | apply below_alloc | apply pw_below_drewN | apply below_drew1) | exact HB.out)⟩⟩
                                          · rw [if_neg c30] at H
                                            have c30b0 : decide (((rd_T24 t126 x10_1).f1) ≤ ((rd_T24 t126 x12_4).f2)) = false := decide_eq_false c30
                                            clear c30
                                            have H' := Aside0.mk H
                                            clear H
                                            have p145 : 0 ≤ (x10_1 : Int) := of_decide_eq_true (by first | (with_reducible assumption) | assumption)
                                            have q145 : x10_1 < (t126.length : Int) := of_decide_eq_true (by first | (with_reducible assumption) | assumption)
                                            obtain ⟨ad145, e145, hx145_0, hx145_1, hx145_2⟩ := at_T24 (Kd.R_reads' HO_5.out).2.2 x10_1 p145 q145
                                            cases e145
                                            replace p145 := eq_true p145
                                            replace q145 := eq_true q145
                                            have p146 : 0 ≤ (x12_4 : Int) := of_decide_eq_true (by first | (with_reducible assumption) | assumption)
                                            have q146 : x12_4 < (t126.length : Int) := of_decide_eq_true (by first | (with_reducible assumption) | assumption)
                                            obtain ⟨ad146, e146, hx146_0, hx146_1, hx146_2⟩ := at_T24 (Kd.R_reads' HO_5.out).2.2 x12_4 p146 q146
                                            obtain rfl : ad145 = ad146 := (by injection e146)
                                            replace p146 := eq_true p146
                                            replace q146 := eq_true q146
                                            go_wp2
                                            repeat (go_quiet (fail); try go_wp2)
                                            go_meet
                                            case rel => exact ⟨_, (false), (by first | rfl | (simp; done) | (simp [*]; done)), H', ⟨by have := HK1.out; have := HJ13.out; have := HJ21.out; have := HK4.out; first | omega | exact Nat.le_refl _⟩, ⟨by (with_reducible repeat (first | apply Kd.R_alloc | apply Kd.R_drewN | apply Kd.R_drew)); exact HO_5.out⟩, ⟨by (with_reducible repeat (first | apply Kd.R_alloc | apply Kd.R_drewN | apply Kd.R_drew)); exact HO_7.out⟩, ⟨by repeat (first | (with_reducible first | exact HB.out | apply below_alloc | apply pw_below_drewN | apply below_drew1) | exact HB.out)⟩⟩
                                        · rw [if_neg c29] at H
                                          exact absurd H (by simp)
                                      · rw [if_neg c28] at H
                                        exact absurd H (by simp)
                                    · rw [if_neg c27] at H
                                      exact absurd H (by simp)
                                  · rw [if_neg c26] at H
                                    exact absurd H (by simp)
                                case rest => as_aux_lemma =>
                                  clear HC25
                                  try clear c1
                                  try clear p1
                                  try clear q1
                                  try clear hx1
                                  try clear c2
                                  try clear p2
                                  try clear c3
                                  try clear c3b0
                                  try clear c3b1
                                  try clear c5
                                  try clear p6
                                  try clear c8
                                  try clear c8b0
                                  try clear c8b1
                                  try clear c8b2
                                  try clear c13
                                  try clear c13b0
                                  try clear p13
                                  try clear q13
                                  try clear hx13
                                  try clear p14
                                  try clear q14
                                  try clear hx14
                                  try clear c15
                                  try clear c15b0
                                  try clear c16
                                  try clear c16b0
                                  try clear c17
                                  try clear c17b0
                                  try clear c17b1
                                  try clear c18
                                  try clear c18b0
                                  try clear c18b1
                                  try clear c18b2
                                  try clear c19
                                  try clear c20
                                  try clear c20b0
                                  try clear c21
                                  try clear c21b0
                                  try clear c23
                                  try clear c23b0
                                  try clear c24
                                  try clear c24b0
                                  try clear c26
                                  try clear c26b0
                                  try clear c27
                                  try clear c27b0
                                  try clear c28
                                  try clear c28b0
                                  try clear c29
                                  try clear c29b0
                                  try clear c30
                                  try clear c30b0
                                  try clear hx139_0
                                  try clear hx139_1
                                  try clear hx139_2
                                  try clear hx140_0
                                  try clear hx140_1
                                  try clear hx140_2
                                  try clear hx141_0
                                  try clear hx141_1
                                  try clear hx141_2
                                  try clear hx142_0
                                  try clear hx142_1
                                  try clear hx142_2
                                  try clear hx143_0
                                  try clear hx143_1
                                  try clear hx143_2
                                  try clear hx144_0
                                  try clear hx144_1
                                  try clear hx144_2
                                  try clear hx145_0
                                  try clear hx145_1
                                  try clear hx145_2
                                  try clear hx146_0
                                  try clear hx146_1
                                  try clear hx146_2
                                  try clear hx147_0
                                  try clear hx147_1
                                  try clear hx147_2
                                  try clear hx148_0
                                  try clear hx148_1
                                  try clear hx148_2
                                  try clear p1
                                  try clear p13
                                  try clear p139
                                  try clear p14
                                  try clear p140
                                  try clear p141
                                  try clear p142
                                  try clear p143
                                  try clear p144
                                  try clear p145
                                  try clear p146
                                  try clear p147
                                  try clear p148
                                  try clear p2
                                  try clear p6
                                  try clear q1
                                  try clear q13
                                  try clear q139
                                  try clear q14
                                  try clear q140
                                  try clear q141
                                  try clear q142
                                  try clear q143
                                  try clear q144
                                  try clear q145
                                  try clear q146
                                  try clear q147
                                  try clear q148
                                  obtain ⟨kq, x13_24, rfl, HA, HJ24, HO_5, HO_7, HB⟩ := hcut
                                  cases kq with
                                  | zero => exact absurd HA.out (by simp [ratlinelaw18_ColorApart.j4])
                                  | succ kj24 =>
                                    have H := HA.out
                                    clear HA
                                    simp only [ratlinelaw18_ColorApart.j4] at H
                                    by_cases c31 : 0 ≤ x10_1
                                    · rw [if_pos c31] at H
                                      have c31b0 : decide (0 ≤ x10_1) = true := decide_eq_true c31
                                      clear c31
                                      by_cases c32 : x10_1 < (t126.length : Int)
                                      · rw [if_pos c32] at H
                                        have c32b0 : decide (x10_1 < (t126.length : Int)) = true := decide_eq_true c32
                                        clear c32
                                        by_cases c33 : 0 ≤ x12_4
                                        · rw [if_pos c33] at H
                                          have c33b0 : decide (0 ≤ x12_4) = true := decide_eq_true c33
                                          clear c33
                                          by_cases c34 : x12_4 < (t126.length : Int)
                                          · rw [if_pos c34] at H
                                            have c34b0 : decide (x12_4 < (t126.length : Int)) = true := decide_eq_true c34
                                            clear c34
                                            replace H := Option.bind_eq_some_iff.mp H
                                            obtain ⟨t151, A350, H⟩ := H
                                            replace H : (if (t151 != x13_24) = true then (some false) else (if x12_4 = x10_1 then (ratlinelaw18_ColorApart.j5 kj24 (wrap64 ((Go.bits .and .i64 a1 15) + 1)) t126 t132 x8_21 x9_1 x10_1 x11_4 x12_4 false) else (if x13_24 = true then (if x10_1 < (t132.length : Int) then (if ((rd_T29 t132 x10_1).f1) ≥ 0 then (if x12_4 < (t132.length : Int) then (if ((rd_T29 t132 x10_1).f1) = ((rd_T29 t132 x12_4).f1) then (ratlinelaw18_ColorApart.j5 kj24 (wrap64 ((Go.bits .and .i64 a1 15) + 1)) t126 t132 x8_21 x9_1 x10_1 x11_4 x12_4 true) else (if ((rd_T29 t132 x10_1).f2) ≥ 0 then (ratlinelaw18_ColorApart.j5 kj24 (wrap64 ((Go.bits .and .i64 a1 15) + 1)) t126 t132 x8_21 x9_1 x10_1 x11_4 x12_4 (((rd_T29 t132 x10_1).f2) == ((rd_T29 t132 x12_4).f2))) else (ratlinelaw18_ColorApart.j5 kj24 (wrap64 ((Go.bits .and .i64 a1 15) + 1)) t126 t132 x8_21 x9_1 x10_1 x11_4 x12_4 false))) else (none)) else (if ((rd_T29 t132 x10_1).f2) ≥ 0 then (if x12_4 < (t132.length : Int) then (ratlinelaw18_ColorApart.j5 kj24 (wrap64 ((Go.bits .and .i64 a1 15) + 1)) t126 t132 x8_21 x9_1 x10_1 x11_4 x12_4 (((rd_T29 t132 x10_1).f2) == ((rd_T29 t132 x12_4).f2))) else (none)) else (ratlinelaw18_ColorApart.j5 kj24 (wrap64 ((Go.bits .and .i64 a1 15) + 1)) t126 t132 x8_21 x9_1 x10_1 x11_4 x12_4 false))) else (none)) else (ratlinelaw18_ColorApart.j5 kj24 (wrap64 ((Go.bits .and .i64 a1 15) + 1)) t126 t132 x8_21 x9_1 x10_1 x11_4 x12_4 false)))) = some r := H
                                            have A35 := Aside0.mk A350
                                            clear A350
                                            by_cases c36 : (t151 != x13_24) = true
                                            · rw [if_pos c36] at H
                                              have c36b0 : (t151 != x13_24) = true := c36
                                              (try (have c36b1 : decide (t151 = x13_24) = false := by simpa using c36))
                                              (try (have c36b2 : (t151 == x13_24) = false := by simpa using c36))
                                              (try (have c36b3 : ¬ (t151 = x13_24) := by simpa using c36))
                                              clear c36
                                              obtain rfl := Option.some.inj H
                                              have p149 : 0 ≤ (x10_1 : Int) := of_decide_eq_true (by first | (with_reducible assumption) | assumption)
                                              have q149 : x10_1 < (t126.length : Int) := of_decide_eq_true (by first | (with_reducible assumption) | assumption)
                                              obtain ⟨ad149, e149, hx149_0, hx149_1, hx149_2⟩ := at_T24 (Kd.R_reads' HO_5.out).2.2 x10_1 p149 q149
                                              cases e149
                                              replace p149 := eq_true p149
                                              replace q149 := eq_true q149
                                              have p150 : 0 ≤ (x12_4 : Int) := of_decide_eq_true (by first | (with_reducible assumption) | assumption)
                                              have q150 : x12_4 < (t126.length : Int) := of_decide_eq_true (by first | (with_reducible assumption) | assumption)
                                              obtain ⟨ad150, e150, hx150_0, hx150_1, hx150_2⟩ := at_T24 (Kd.R_reads' HO_5.out).2.2 x12_4 p150 q150
                                              obtain rfl : ad149 = ad150 := (by injection e150)
                                              replace p150 := eq_true p150
                                              replace q150 := eq_true q150
                                              go_upto_region 21 with (fail)
                                              have k149_0 := cell_regrown hx149_0
                                              have k149_1 := cell_regrown hx149_1
                                              have k149_2 := cell_regrown hx149_2
                                              have k150_0 := cell_regrown hx150_0
                                              have k150_1 := cell_regrown hx150_1
                                              have k150_2 := cell_regrown hx150_2
                                              refine wp_region_quiet_below (by kernel_rfl) (by kernel_rfl) ?_
                                              repeat (quiet_step (exact Calls.regrown_of (color_Overlap.calls ((rd_T24 t126 x10_1).f0) ((rd_T24 t126 x10_1).f1) ((rd_T24 t126 x10_1).f2) ((rd_T24 t126 x12_4).f0) ((rd_T24 t126 x12_4).f1) ((rd_T24 t126 x12_4).f2) t151 _ A35.out)))
                                              refine wpQuiet_nil ?_
                                              intro w37 hw_
                                              have hb := below_of_cell hx149_0 hw_
                                              clear hw_ k149_0 k149_1 k149_2 k150_0 k150_1 k150_2
                                              have n0_ := Aside0.mk (Kd.R_below (by (with_reducible repeat (first | apply Kd.R_alloc | apply Kd.R_drewN | apply Kd.R_drew)); exact HO_5.out) hb); have n1_ := Aside0.mk (Kd.R_below (by (with_reducible repeat (first | apply Kd.R_alloc | apply Kd.R_drewN | apply Kd.R_drew)); exact HO_7.out) hb); have n2_ := Aside0.mk (below_step (by repeat (first | (with_reducible first | exact HB.out | apply below_alloc | apply pw_below_drewN | apply below_drew1) | exact HB.out)) hb); clear HO_5; clear HO_7; clear HB; have HO_5 := n0_; have HO_7 := n1_; have HB := n2_; clear n0_ n1_ n2_; (try clear hb); (try clear hb2); (try clear hk); (try clear hi)
                                              go_wp2
                                              repeat (go_quiet (fail); try go_wp2)
                                              go_ret
                                              exact ⟨by first | rfl | (simp [errW_none, errW_some] <;> rfl) | (simp [*, errW_none, errW_some] <;> rfl), by repeat (first | (with_reducible first | exact HB.out | apply below_alloc | apply pw_below_drewN | apply below_drew1) | exact HB.out)⟩
                                            · rw [if_neg c36] at H
                                              have c36b0 : (t151 != x13_24) = false := by simpa using c36
                                              (try (have c36b1 : decide (t151 = x13_24) = true := by simpa using c36))
                                              (try (have c36b2 : (t151 == x13_24) = true := by simpa using c36))
                                              clear c36
                                              have HC38 := Aside0.mk H
                                              clear H
                                              have p149 : 0 ≤ (x10_1 : Int) := of_decide_eq_true (by first | (with_reducible assumption) | assumption)
                                              have q149 : x10_1 < (t126.length : Int) := of_decide_eq_true (by first | (with_reducible assumption) | assumption)
                                              obtain ⟨ad149, e149, hx149_0, hx149_1, hx149_2⟩ := at_T24 (Kd.R_reads' HO_5.out).2.2 x10_1 p149 q149
                                              cases e149
                                              replace p149 := eq_true p149
                                              replace q149 := eq_true q149
                                              have p150 : 0 ≤ (x12_4 : Int) := of_decide_eq_true (by first | (with_reducible assumption) | assumption)
                                              have q150 : x12_4 < (t126.length : Int) := of_decide_eq_true (by first | (with_reducible assumption) | assumption)
                                              obtain ⟨ad150, e150, hx150_0, hx150_1, hx150_2⟩ := at_T24 (Kd.R_reads' HO_5.out).2.2 x12_4 p150 q150
                                              obtain rfl : ad149 = ad150 := (by injection e150)
                                              replace p150 := eq_true p150
                                              replace q150 := eq_true q150
                                              go_upto_region 21 with (fail)
                                              have k149_0 := cell_regrown hx149_0
                                              have k149_1 := cell_regrown hx149_1
                                              have k149_2 := cell_regrown hx149_2
                                              have k150_0 := cell_regrown hx150_0
                                              have k150_1 := cell_regrown hx150_1
                                              have k150_2 := cell_regrown hx150_2
                                              refine wp_region_quiet_below (by kernel_rfl) (by kernel_rfl) ?_
                                              repeat (quiet_step (exact Calls.regrown_of (color_Overlap.calls ((rd_T24 t126 x10_1).f0) ((rd_T24 t126 x10_1).f1) ((rd_T24 t126 x10_1).f2) ((rd_T24 t126 x12_4).f0) ((rd_T24 t126 x12_4).f1) ((rd_T24 t126 x12_4).f2) t151 _ A35.out)))
                                              refine wpQuiet_nil ?_
                                              intro w39 hw_
                                              have hb := below_of_cell hx149_0 hw_
                                              clear hw_ k149_0 k149_1 k149_2 k150_0 k150_1 k150_2
                                              have n0_ := Aside0.mk (Kd.R_below (by (with_reducible repeat (first | apply Kd.R_alloc | apply Kd.R_drewN | apply Kd.R_drew)); exact HO_5.out) hb); have n1_ := Aside0.mk (Kd.R_below (by (with_reducible repeat (first | apply Kd.R_alloc | apply Kd.R_drewN | apply Kd.R_drew)); exact HO_7.out) hb); have n2_ := Aside0.mk (below_step (by repeat (first | (with_reducible first | exact HB.out | apply below_alloc | apply pw_below_drewN | apply below_drew1) | exact HB.out)) hb); clear HO_5; clear HO_7; clear HB; have HO_5 := n0_; have HO_7 := n1_; have HB := n2_; clear n0_ n1_ n2_; (try clear hb); (try clear hb2); (try clear hk); (try clear hi)
                                              go_upto_region 23 with (fail)
                                              repeat (go_quiet (fail); go_upto_region 23 with (fail))
                                              (try simp only [Act.put, List.setIfInBounds_toArray, List.set_cons_zero, List.set_cons_succ])
                                              go_cut [171] (fun v171 wc => ∃ (kq : Nat) (x171_37 : Bool), v171 = .bool x171_37 ∧ Aside0 (ratlinelaw18_ColorApart.j5 kq (wrap64 ((Go.bits .and .i64 a1 15) + 1)) t126 t132 x8_21 x9_1 x10_1 x11_4 x12_4 x171_37 = some r) ∧ Aside0 (kq ≤ kj24) ∧ Aside0 (Kd.R k24 24 wc w.heap.size (fun _ => True) (.slice (some ad149) t126.length co10) t126) ∧ Aside0 (Kd.R k29 29 wc w.heap.size (fun _ => True) (.slice (some ad144) t132.length co12) t132) ∧ Aside0 (Below w.heap.size w wc))
                                              case first => as_aux_lemma =>
                                                have H := HC38.out
                                                clear HC38
                                                by_cases c40 : x12_4 = x10_1
                                                · rw [if_pos c40] at H
                                                  have c40b0 : (x12_4 == x10_1) = true := beq_iff_eq.mpr c40
                                                  have c40b1 : (x12_4 != x10_1) = false := bne_eq_false_iff_eq.mpr c40
                                                  clear c40
                                                  (first | rw [c40b0] | (simp only [i64_w, i32_w]; rw [c40b0]) | skip)
                                                  have H' := Aside0.mk H
                                                  clear H
                                                  go_wp2
                                                  repeat (go_quiet (fail); try go_wp2)
                                                  go_meet
                                                  case rel => exact ⟨_, (false), (by first | rfl | (simp; done) | (simp [*]; done)), H', ⟨by have := HK1.out; have := HJ13.out; have := HJ21.out; have := HK4.out; have := HJ24.out; first | omega | exact Nat.le_refl _⟩, ⟨by (with_reducible repeat (first | apply Kd.R_alloc | apply Kd.R_drewN | apply Kd.R_drew)); exact HO_5.out⟩, ⟨by (with_reducible repeat (first | apply Kd.R_alloc | apply Kd.R_drewN | apply Kd.R_drew)); exact HO_7.out⟩, ⟨by repeat (first | (with_reducible first | exact HB.out | apply below_alloc | apply pw_below_drewN | apply below_drew1) | exact HB.out)⟩⟩
                                                · rw [if_neg c40] at H
                                                  have c40b0 : (x12_4 == x10_1) = false := beq_eq_false_iff_ne.mpr c40
                                                  have c40b1 : (x12_4 != x10_1) = true := bne_iff_ne.mpr c40
                                                  (first | rw [c40b0] | (simp only [i64_w, i32_w]; rw [c40b0]) | skip)
                                                  by_cases c41 : x13_24 = true
                                                  · subst c41
                                                    have H1 : (if x10_1 < (t132.length : Int) then (if ((rd_T29 t132 x10_1).f1) ≥ 0 then (if x12_4 < (t132.length : Int) then (if ((rd_T29 t132 x10_1).f1) = ((rd_T29 t132 x12_4).f1) then (ratlinelaw18_ColorApart.j5 kj24 (wrap64 ((Go.bits .and .i64 a1 15) + 1)) t126 t132 x8_21 x9_1 x10_1 x11_4 x12_4 true) else (if ((rd_T29 t132 x10_1).f2) ≥ 0 then (ratlinelaw18_ColorApart.j5 kj24 (wrap64 ((Go.bits .and .i64 a1 15) + 1)) t126 t132 x8_21 x9_1 x10_1 x11_4 x12_4 (((rd_T29 t132 x10_1).f2) == ((rd_T29 t132 x12_4).f2))) else (ratlinelaw18_ColorApart.j5 kj24 (wrap64 ((Go.bits .and .i64 a1 15) + 1)) t126 t132 x8_21 x9_1 x10_1 x11_4 x12_4 false))) else (none)) else (if ((rd_T29 t132 x10_1).f2) ≥ 0 then (if x12_4 < (t132.length : Int) then (ratlinelaw18_ColorApart.j5 kj24 (wrap64 ((Go.bits .and .i64 a1 15) + 1)) t126 t132 x8_21 x9_1 x10_1 x11_4 x12_4 (((rd_T29 t132 x10_1).f2) == ((rd_T29 t132 x12_4).f2))) else (none)) else (ratlinelaw18_ColorApart.j5 kj24 (wrap64 ((Go.bits .and .i64 a1 15) + 1)) t126 t132 x8_21 x9_1 x10_1 x11_4 x12_4 false))) else (none)) = some r := by rw [if_pos rfl] at H; exact H
                                                    clear H
                                                    have H := H1
                                                    clear H1
                                                    by_cases c42 : x10_1 < (t132.length : Int)
                                                    · rw [if_pos c42] at H
                                                      have c42b0 : decide (x10_1 < (t132.length : Int)) = true := decide_eq_true c42
                                                      clear c42
                                                      by_cases c43 : ((rd_T29 t132 x10_1).f1) ≥ 0
                                                      · rw [if_pos c43] at H
                                                        have c43b0 : decide (0 ≤ ((rd_T29 t132 x10_1).f1)) = true := decide_eq_true c43
                                                        clear c43
                                                        by_cases c44 : x12_4 < (t132.length : Int)
                                                        · rw [if_pos c44] at H
                                                          have c44b0 : decide (x12_4 < (t132.length : Int)) = true := decide_eq_true c44
                                                          clear c44
                                                          by_cases c45 : ((rd_T29 t132 x10_1).f1) = ((rd_T29 t132 x12_4).f1)
                                                          · rw [if_pos c45] at H
                                                            have c45b0 : (((rd_T29 t132 x10_1).f1) == ((rd_T29 t132 x12_4).f1)) = true := beq_iff_eq.mpr c45
                                                            have c45b1 : (((rd_T29 t132 x10_1).f1) != ((rd_T29 t132 x12_4).f1)) = false := bne_eq_false_iff_eq.mpr c45
                                                            clear c45
                                                            have H' := Aside0.mk H
                                                            clear H
                                                            have p152 : 0 ≤ (x10_1 : Int) := of_decide_eq_true (by first | (with_reducible assumption) | assumption)
                                                            have q152 : x10_1 < (t132.length : Int) := of_decide_eq_true (by first | (with_reducible assumption) | assumption)
                                                            obtain ⟨ad152, e152, hx152_0, hx152_1, hx152_2⟩ := at_T29 (Kd.R_reads' HO_7.out).2.2 x10_1 p152 q152
                                                            obtain rfl : ad144 = ad152 := (by injection e152)
                                                            replace p152 := eq_true p152
                                                            replace q152 := eq_true q152
                                                            have p153 : 0 ≤ (x10_1 : Int) := of_decide_eq_true (by first | (with_reducible assumption) | assumption)
                                                            have q153 : x10_1 < (t132.length : Int) := of_decide_eq_true (by first | (with_reducible assumption) | assumption)
                                                            obtain ⟨ad153, e153, hx153_0, hx153_1, hx153_2⟩ := at_T29 (Kd.R_reads' HO_7.out).2.2 x10_1 p153 q153
                                                            obtain rfl : ad144 = ad153 := (by injection e153)
                                                            replace p153 := eq_true p153
                                                            replace q153 := eq_true q153
                                                            have p154 : 0 ≤ (x12_4 : Int) := of_decide_eq_true (by first | (with_reducible assumption) | assumption)
                                                            have q154 : x12_4 < (t132.length : Int) := of_decide_eq_true (by first | (with_reducible assumption) | assumption)
                                                            obtain ⟨ad154, e154, hx154_0, hx154_1, hx154_2⟩ := at_T29 (Kd.R_reads' HO_7.out).2.2 x12_4 p154 q154
                                                            obtain rfl : ad144 = ad154 := (by injection e154)
                                                            replace p154 := eq_true p154
                                                            replace q154 := eq_true q154
                                                            go_wp2
                                                            repeat (go_quiet (fail); try go_wp2)
                                                            go_meet
                                                            case rel => exact ⟨_, (true), (by first | rfl | (simp; done) | (simp [*]; done)), H', ⟨by have := HK1.out; have := HJ13.out; have := HJ21.out; have := HK4.out; have := HJ24.out; first | omega | exact Nat.le_refl _⟩, ⟨by (with_reducible repeat (first | apply Kd.R_alloc | apply Kd.R_drewN | apply Kd.R_drew)); exact HO_5.out⟩, ⟨by (with_reducible repeat (first | apply Kd.R_alloc | apply Kd.R_drewN | apply Kd.R_drew)); exact HO_7.out⟩, ⟨by repeat (first | (with_reducible first | exact HB.out | apply below_alloc | apply pw_below_drewN | apply below_drew1) | exact HB.out)⟩⟩
                                                          · rw [if_neg c45] at H
                                                            have c45b0 : (((rd_T29 t132 x10_1).f1) == ((rd_T29 t132 x12_4).f1)) = false := beq_eq_false_iff_ne.mpr c45
                                                            have c45b1 : (((rd_T29 t132 x10_1).f1) != ((rd_T29 t132 x12_4).f1)) = true := bne_iff_ne.mpr c45
                                                            by_cases c46 : ((rd_T29 t132 x10_1).f2) ≥ 0
                                                            · rw [if_pos c46] at H
                                                              have c46b0 : decide (0 ≤ ((rd_T29 t132 x10_1).f2)) = true := decide_eq_true c46
                                                              clear c46
                                                              have H' := Aside0.mk H
                                                              clear H
                                                              have p152 : 0 ≤ (x10_1 : Int) := of_decide_eq_true (by first | (with_reducible assumption) | assumption)
                                                              have q152 : x10_1 < (t132.length : Int) := of_decide_eq_true (by first | (with_reducible assumption) | assumption)
                                                              obtain ⟨ad152, e152, hx152_0, hx152_1, hx152_2⟩ := at_T29 (Kd.R_reads' HO_7.out).2.2 x10_1 p152 q152
                                                              obtain rfl : ad144 = ad152 := (by injection e152)
                                                              replace p152 := eq_true p152
                                                              replace q152 := eq_true q152
                                                              have p153 : 0 ≤ (x10_1 : Int) := of_decide_eq_true (by first | (with_reducible assumption) | assumption)
                                                              have q153 : x10_1 < (t132.length : Int) := of_decide_eq_true (by first | (with_reducible assumption) | assumption)
                                                              obtain ⟨ad153, e153, hx153_0, hx153_1, hx153_2⟩ := at_T29 (Kd.R_reads' HO_7.out).2.2 x10_1 p153 q153
                                                              obtain rfl : ad144 = ad153 := (by injection e153)
                                                              replace p153 := eq_true p153
                                                              replace q153 := eq_true q153
                                                              have p154 : 0 ≤ (x12_4 : Int) := of_decide_eq_true (by first | (with_reducible assumption) | assumption)
                                                              have q154 : x12_4 < (t132.length : Int) := of_decide_eq_true (by first | (with_reducible assumption) | assumption)
                                                              obtain ⟨ad154, e154, hx154_0, hx154_1, hx154_2⟩ := at_T29 (Kd.R_reads' HO_7.out).2.2 x12_4 p154 q154
                                                              obtain rfl : ad144 = ad154 := (by injection e154)
                                                              replace p154 := eq_true p154
                                                              replace q154 := eq_true q154
                                                              have p155 : 0 ≤ (x10_1 : Int) := of_decide_eq_true (by first | (with_reducible assumption) | assumption)
                                                              have q155 : x10_1 < (t132.length : Int) := of_decide_eq_true (by first | (with_reducible assumption) | assumption)
                                                              obtain ⟨ad155, e155, hx155_0, hx155_1, hx155_2⟩ := at_T29 (Kd.R_reads' HO_7.out).2.2 x10_1 p155 q155
                                                              obtain rfl : ad144 = ad155 := (by injection e155)
                                                              replace p155 := eq_true p155
                                                              replace q155 := eq_true q155
                                                              have p156 : 0 ≤ (x10_1 : Int) := of_decide_eq_true (by first | (with_reducible assumption) | assumption)
                                                              have q156 : x10_1 < (t132.length : Int) := of_decide_eq_true (by first | (with_reducible assumption) | assumption)
                                                              obtain ⟨ad156, e156, hx156_0, hx156_1, hx156_2⟩ := at_T29 (Kd.R_reads' HO_7.out).2.2 x10_1 p156 q156
                                                              obtain rfl : ad144 = ad156 := (by injection e156)
                                                              replace p156 := eq_true p156
                                                              replace q156 := eq_true q156
                                                              have p157 : 0 ≤ (x12_4 : Int) := of_decide_eq_true (by first | (with_reducible assumption) | assumption)
                                                              have q157 : x12_4 < (t132.length : Int) := of_decide_eq_true (by first | (with_reducible assumption) | assumption)
                                                              obtain ⟨ad157, e157, hx157_0, hx157_1, hx157_2⟩ := at_T29 (Kd.R_reads' HO_7.out).2.2 x12_4 p157 q157
                                                              obtain rfl : ad144 = ad157 := (by injection e157)
                                                              replace p157 := eq_true p157
                                                              replace q157 := eq_true q157
                                                              go_wp2
                                                              repeat (go_quiet (fail); try go_wp2)
                                                              go_meet
                                                              case rel => exact ⟨_, ((((rd_T29 t132 x10_1).f2) == ((rd_T29 t132 x12_4).f2))), (by first | rfl | (simp; done) | (simp [*]; done)), H', ⟨by have := HK1.out; have := HJ13.out; have := HJ21.out; have := HK4.out; have := HJ24.out; first | omega | exact Nat.le_refl _⟩, ⟨by (with_reducible repeat (first | apply Kd.R_alloc | apply Kd.R_drewN | apply Kd.R_drew)); exact HO_5.out⟩, ⟨by (with_reducible repeat (first | apply Kd.R_alloc | apply Kd.R_drewN | apply Kd.R_drew)); exact HO_7.out⟩, ⟨by repeat (first | (with_reducible first | exact HB.out | apply below_alloc | apply pw_below_drewN | apply below_drew1) | exact HB.out)⟩⟩
                                                            · rw [if_neg c46] at H
                                                              have c46b0 : decide (0 ≤ ((rd_T29 t132 x10_1).f2)) = false := decide_eq_false c46
                                                              clear c46
                                                              have H' := Aside0.mk H
                                                              clear H
                                                              have p152 : 0 ≤ (x10_1 : Int) := of_decide_eq_true (by first | (with_reducible assumption) | assumption)
                                                              have q152 : x10_1 < (t132.length : Int) := of_decide_eq_true (by first | (with_reducible assumption) | assumption)
                                                              obtain ⟨ad152, e152, hx152_0, hx152_1, hx152_2⟩ := at_T29 (Kd.R_reads' HO_7.out).2.2 x10_1 p152 q152
                                                              obtain rfl : ad144 = ad152 := (by injection e152)
                                                              replace p152 := eq_true p152
                                                              replace q152 := eq_true q152
                                                              have p153 : 0 ≤ (x10_1 : Int) := of_decide_eq_true (by first | (with_reducible assumption) | assumption)
                                                              have q153 : x10_1 < (t132.length : Int) := of_decide_eq_true (by first | (with_reducible assumption) | assumption)
                                                              obtain ⟨ad153, e153, hx153_0, hx153_1, hx153_2⟩ := at_T29 (Kd.R_reads' HO_7.out).2.2 x10_1 p153 q153
                                                              obtain rfl : ad144 = ad153 := (by injection e153)
                                                              replace p153 := eq_true p153
                                                              replace q153 := eq_true q153
                                                              have p154 : 0 ≤ (x12_4 : Int) := of_decide_eq_true (by first | (with_reducible assumption) | assumption)
                                                              have q154 : x12_4 < (t132.length : Int) := of_decide_eq_true (by first | (with_reducible assumption) | assumption)
                                                              obtain ⟨ad154, e154, hx154_0, hx154_1, hx154_2⟩ := at_T29 (Kd.R_reads' HO_7.out).2.2 x12_4 p154 q154
                                                              obtain rfl : ad144 = ad154 := (by injection e154)
                                                              replace p154 := eq_true p154
                                                              replace q154 := eq_true q154
                                                              have p155 : 0 ≤ (x10_1 : Int) := of_decide_eq_true (by first | (with_reducible assumption) | assumption)
                                                              have q155 : x10_1 < (t132.length : Int) := of_decide_eq_true (by first | (with_reducible assumption) | assumption)
                                                              obtain ⟨ad155, e155, hx155_0, hx155_1, hx155_2⟩ := at_T29 (Kd.R_reads' HO_7.out).2.2 x10_1 p155 q155
                                                              obtain rfl : ad144 = ad155 := (by injection e155)
                                                              replace p155 := eq_true p155
                                                              replace q155 := eq_true q155
                                                              go_wp2
                                                              repeat (go_quiet (fail); try go_wp2)
                                                              go_meet
                                                              case rel => exact ⟨_, (false), (by first | rfl | (simp; done) | (simp [*]; done)), H', ⟨by have := HK1.out; have := HJ13.out; have := HJ21.out; have := HK4.out; have := HJ24.out; first | omega | exact Nat.le_refl _⟩, ⟨by (with_reducible repeat (first | apply Kd.R_alloc | apply Kd.R_drewN | apply Kd.R_drew)); exact HO_5.out⟩, ⟨by (with_reducible repeat (first | apply Kd.R_alloc | apply Kd.R_drewN | apply Kd.R_drew)); exact HO_7.out⟩, ⟨by repeat (first | (with_reducible first | exact HB.out | apply below_alloc | apply pw_below_drewN | apply below_drew1) | exact HB.out)⟩⟩
                                                        · rw [if_neg c44] at H
                                                          exact absurd H (by simp)
                                                      · rw [if_neg c43] at H
                                                        have c43b0 : decide (0 ≤ ((rd_T29 t132 x10_1).f1)) = false := decide_eq_false c43
                                                        clear c43
                                                        by_cases c47 : ((rd_T29 t132 x10_1).f2) ≥ 0
                                                        · rw [if_pos c47] at H
                                                          have c47b0 : decide (0 ≤ ((rd_T29 t132 x10_1).f2)) = true := decide_eq_true c47
                                                          clear c47
                                                          by_cases c48 : x12_4 < (t132.length : Int)
                                                          · rw [if_pos c48] at H
                                                            have c48b0 : decide (x12_4 < (t132.length : Int)) = true := decide_eq_true c48
                                                            clear c48
                                                            have H' := Aside0.mk H
                                                            clear H
                                                            have p152 : 0 ≤ (x10_1 : Int) := of_decide_eq_true (by first | (with_reducible assumption) | assumption)
                                                            have q152 : x10_1 < (t132.length : Int) := of_decide_eq_true (by first | (with_reducible assumption) | assumption)
                                                            obtain ⟨ad152, e152, hx152_0, hx152_1, hx152_2⟩ := at_T29 (Kd.R_reads' HO_7.out).2.2 x10_1 p152 q152
                                                            obtain rfl : ad144 = ad152 := (by injection e152)
                                                            replace p152 := eq_true p152
                                                            replace q152 := eq_true q152
                                                            have p158 : 0 ≤ (x10_1 : Int) := of_decide_eq_true (by first | (with_reducible assumption) | assumption)
                                                            have q158 : x10_1 < (t132.length : Int) := of_decide_eq_true (by first | (with_reducible assumption) | assumption)
                                                            obtain ⟨ad158, e158, hx158_0, hx158_1, hx158_2⟩ := at_T29 (Kd.R_reads' HO_7.out).2.2 x10_1 p158 q158
                                                            obtain rfl : ad144 = ad158 := (by injection e158)
                                                            replace p158 := eq_true p158
                                                            replace q158 := eq_true q158
                                                            have p159 : 0 ≤ (x10_1 : Int) := of_decide_eq_true (by first | (with_reducible assumption) | assumption)
                                                            have q159 : x10_1 < (t132.length : Int) := of_decide_eq_true (by first | (with_reducible assumption) | assumption)
                                                            obtain ⟨ad159, e159, hx159_0, hx159_1, hx159_2⟩ := at_T29 (Kd.R_reads' HO_7.out).2.2 x10_1 p159 q159
                                                            obtain rfl : ad144 = ad159 := (by injection e159)
                                                            replace p159 := eq_true p159
                                                            replace q159 := eq_true q159
                                                            have p160 : 0 ≤ (x12_4 : Int) := of_decide_eq_true (by first | (with_reducible assumption) | assumption)
                                                            have q160 : x12_4 < (t132.length : Int) := of_decide_eq_true (by first | (with_reducible assumption) | assumption)
                                                            obtain ⟨ad160, e160, hx160_0, hx160_1, hx160_2⟩ := at_T29 (Kd.R_reads' HO_7.out).2.2 x12_4 p160 q160
                                                            obtain rfl : ad144 = ad160 := (by injection e160)
                                                            replace p160 := eq_true p160
                                                            replace q160 := eq_true q160
                                                            go_wp2
                                                            repeat (go_quiet (fail); try go_wp2)
                                                            go_meet
                                                            case rel => exact ⟨_, ((((rd_T29 t132 x10_1).f2) == ((rd_T29 t132 x12_4).f2))), (by first | rfl | (simp; done) | (simp [*]; done)), H', ⟨by have := HK1.out; have := HJ13.out; have := HJ21.out; have := HK4.out; have := HJ24.out; first | omega | exact Nat.le_refl _⟩, ⟨by (with_reducible repeat (first | apply Kd.R_alloc | apply Kd.R_drewN | apply Kd.R_drew)); exact HO_5.out⟩, ⟨by (with_reducible repeat (first | apply Kd.R_alloc | apply Kd.R_drewN | apply Kd.R_drew)); exact HO_7.out⟩, ⟨by repeat (first | (with_reducible first | exact HB.out | apply below_alloc | apply pw_below_drewN | apply below_drew1) | exact HB.out)⟩⟩
                                                          · rw [if_neg c48] at H
                                                            exact absurd H (by simp)
                                                        · rw [if_neg c47] at H
                                                          have c47b0 : decide (0 ≤ ((rd_T29 t132 x10_1).f2)) = false := decide_eq_false c47
                                                          clear c47
                                                          have H' := Aside0.mk H
                                                          clear H
                                                          have p152 : 0 ≤ (x10_1 : Int) := of_decide_eq_true (by first | (with_reducible assumption) | assumption)
                                                          have q152 : x10_1 < (t132.length : Int) := of_decide_eq_true (by first | (with_reducible assumption) | assumption)
                                                          obtain ⟨ad152, e152, hx152_0, hx152_1, hx152_2⟩ := at_T29 (Kd.R_reads' HO_7.out).2.2 x10_1 p152 q152
                                                          obtain rfl : ad144 = ad152 := (by injection e152)
                                                          replace p152 := eq_true p152
                                                          replace q152 := eq_true q152
                                                          have p158 : 0 ≤ (x10_1 : Int) := of_decide_eq_true (by first | (with_reducible assumption) | assumption)
                                                          have q158 : x10_1 < (t132.length : Int) := of_decide_eq_true (by first | (with_reducible assumption) | assumption)
                                                          obtain ⟨ad158, e158, hx158_0, hx158_1, hx158_2⟩ := at_T29 (Kd.R_reads' HO_7.out).2.2 x10_1 p158 q158
                                                          obtain rfl : ad144 = ad158 := (by injection e158)
                                                          replace p158 := eq_true p158
                                                          replace q158 := eq_true q158
                                                          go_wp2
                                                          repeat (go_quiet (fail); try go_wp2)
                                                          go_meet
                                                          case rel => exact ⟨_, (false), (by first | rfl | (simp; done) | (simp [*]; done)), H', ⟨by have := HK1.out; have := HJ13.out; have := HJ21.out; have := HK4.out; have := HJ24.out; first | omega | exact Nat.le_refl _⟩, ⟨by (with_reducible repeat (first | apply Kd.R_alloc | apply Kd.R_drewN | apply Kd.R_drew)); exact HO_5.out⟩, ⟨by (with_reducible repeat (first | apply Kd.R_alloc | apply Kd.R_drewN | apply Kd.R_drew)); exact HO_7.out⟩, ⟨by repeat (first | (with_reducible first | exact HB.out | apply below_alloc | apply pw_below_drewN | apply below_drew1) | exact HB.out)⟩⟩
                                                    · rw [if_neg c42] at H
                                                      exact absurd H (by simp)
                                                  · replace c41 := Bool.eq_false_iff.mpr c41
                                                    subst c41
                                                    have H1 : (ratlinelaw18_ColorApart.j5 kj24 (wrap64 ((Go.bits .and .i64 a1 15) + 1)) t126 t132 x8_21 x9_1 x10_1 x11_4 x12_4 false) = some r := by rw [if_neg (show ¬ (false = true) by decide)] at H; exact H
                                                    clear H
                                                    have H := H1
                                                    clear H1
                                                    have H' := Aside0.mk H
                                                    clear H
                                                    go_wp2
                                                    repeat (go_quiet (fail); try go_wp2)
                                                    go_meet
                                                    case rel => exact ⟨_, (false), (by first | rfl | (simp; done) | (simp [*]; done)), H', ⟨by have := HK1.out; have := HJ13.out; have := HJ21.out; have := HK4.out; have := HJ24.out; first | omega | exact Nat.le_refl _⟩, ⟨by (with_reducible repeat (first | apply Kd.R_alloc | apply Kd.R_drewN | apply Kd.R_drew)); exact HO_5.out⟩, ⟨by (with_reducible repeat (first | apply Kd.R_alloc | apply Kd.R_drewN | apply Kd.R_drew)); exact HO_7.out⟩, ⟨by repeat (first | (with_reducible first | exact HB.out | apply below_alloc | apply pw_below_drewN | apply below_drew1) | exact HB.out)⟩⟩
                                              case rest => as_aux_lemma =>
                                                clear HC38
                                                try clear c1
                                                try clear p1
                                                try clear q1
                                                try clear hx1
                                                try clear c2
                                                try clear p2
                                                try clear c3
                                                try clear c3b0
                                                try clear c3b1
                                                try clear c4
                                                try clear c5
                                                try clear p6
                                                try clear c8
                                                try clear c8b0
                                                try clear c8b1
                                                try clear c8b2
                                                try clear c13
                                                try clear c13b0
                                                try clear p13
                                                try clear q13
                                                try clear hx13
                                                try clear p14
                                                try clear q14
                                                try clear hx14
                                                try clear c15
                                                try clear c15b0
                                                try clear p15
                                                try clear q15
                                                try clear hx15
                                                try clear c16
                                                try clear c16b0
                                                try clear p16
                                                try clear q16
                                                try clear hx16
                                                try clear c17
                                                try clear c17b0
                                                try clear c17b1
                                                try clear c18
                                                try clear c18b0
                                                try clear c18b1
                                                try clear c18b2
                                                try clear c19
                                                try clear c20
                                                try clear c20b0
                                                try clear c21
                                                try clear c21b0
                                                try clear c23
                                                try clear c23b0
                                                try clear c24
                                                try clear c24b0
                                                try clear c26
                                                try clear c26b0
                                                try clear c27
                                                try clear c27b0
                                                try clear c28
                                                try clear c28b0
                                                try clear c29
                                                try clear c29b0
                                                try clear c30
                                                try clear c30b0
                                                try clear c31
                                                try clear c31b0
                                                try clear c32
                                                try clear c32b0
                                                try clear c33
                                                try clear c33b0
                                                try clear c34
                                                try clear c34b0
                                                try clear c36
                                                try clear c36b0
                                                try clear c36b1
                                                try clear c36b2
                                                try clear c40
                                                try clear c40b0
                                                try clear c40b1
                                                try clear c41
                                                try clear c42
                                                try clear c42b0
                                                try clear c43
                                                try clear c43b0
                                                try clear c44
                                                try clear c44b0
                                                try clear c45
                                                try clear c45b0
                                                try clear c45b1
                                                try clear c46
                                                try clear c46b0
                                                try clear c47
                                                try clear c47b0
                                                try clear c48
                                                try clear c48b0
                                                try clear hx139_0
                                                try clear hx139_1
                                                try clear hx139_2
                                                try clear hx140_0
                                                try clear hx140_1
                                                try clear hx140_2
                                                try clear hx141_0
                                                try clear hx141_1
                                                try clear hx141_2
                                                try clear hx142_0
                                                try clear hx142_1
                                                try clear hx142_2
                                                try clear hx143_0
                                                try clear hx143_1
                                                try clear hx143_2
                                                try clear hx144_0
                                                try clear hx144_1
                                                try clear hx144_2
                                                try clear hx145_0
                                                try clear hx145_1
                                                try clear hx145_2
                                                try clear hx146_0
                                                try clear hx146_1
                                                try clear hx146_2
                                                try clear hx147_0
                                                try clear hx147_1
                                                try clear hx147_2
                                                try clear hx148_0
                                                try clear hx148_1
                                                try clear hx148_2
                                                try clear hx149_0
                                                try clear hx149_1
                                                try clear hx149_2
                                                try clear hx150_0
                                                try clear hx150_1
                                                try clear hx150_2
                                                try clear hx152_0
                                                try clear hx152_1
                                                try clear hx152_2
                                                try clear hx153_0
                                                try clear hx153_1
                                                try clear hx153_2
                                                try clear hx154_0
                                                try clear hx154_1
                                                try clear hx154_2
                                                try clear hx155_0
                                                try clear hx155_1
                                                try clear hx155_2
                                                try clear hx156_0
                                                try clear hx156_1
                                                try clear hx156_2
                                                try clear hx157_0
                                                try clear hx157_1
                                                try clear hx157_2
                                                try clear hx158_0
                                                try clear hx158_1
                                                try clear hx158_2
                                                try clear hx159_0
                                                try clear hx159_1
                                                try clear hx159_2
                                                try clear hx160_0
                                                try clear hx160_1
                                                try clear hx160_2
                                                try clear p1
                                                try clear p13
                                                try clear p139
                                                try clear p14
                                                try clear p140
                                                try clear p141
                                                try clear p142
                                                try clear p143
                                                try clear p144
                                                try clear p145
                                                try clear p146
                                                try clear p147
                                                try clear p148
                                                try clear p149
                                                try clear p150
                                                try clear p152
                                                try clear p153
                                                try clear p154
                                                try clear p155
                                                try clear p156
                                                try clear p157
                                                try clear p158
                                                try clear p159
                                                try clear p160
                                                try clear p2
                                                try clear p6
                                                try clear q1
                                                try clear q13
                                                try clear q139
                                                try clear q14
                                                try clear q140
                                                try clear q141
                                                try clear q142
                                                try clear q143
                                                try clear q144
                                                try clear q145
                                                try clear q146
                                                try clear q147
                                                try clear q148
                                                try clear q149
                                                try clear q150
                                                try clear q152
                                                try clear q153
                                                try clear q154
                                                try clear q155
                                                try clear q156
                                                try clear q157
                                                try clear q158
                                                try clear q159
                                                try clear q160
                                                obtain ⟨kq, x171_37, rfl, HA, HJ37, HO_5, HO_7, HB⟩ := hcut
                                                cases kq with
                                                | zero => exact absurd HA.out (by simp [ratlinelaw18_ColorApart.j5])
                                                | succ kj37 =>
                                                  have H := HA.out
                                                  clear HA
                                                  simp only [ratlinelaw18_ColorApart.j5] at H
                                                  by_cases c49 : x171_37 = true
                                                  · subst c49
                                                    have H1 : (some false) = some r := by rw [if_pos rfl] at H; exact H
                                                    clear H
                                                    have H := H1
                                                    clear H1
                                                    obtain rfl := Option.some.inj H
                                                    go_wp2
                                                    repeat (go_quiet (fail); try go_wp2)
                                                    go_ret
                                                    exact ⟨by first | rfl | (simp [errW_none, errW_some] <;> rfl) | (simp [*, errW_none, errW_some] <;> rfl), by repeat (first | (with_reducible first | exact HB.out | apply below_alloc | apply pw_below_drewN | apply below_drew1) | exact HB.out)⟩
                                                  · replace c49 := Bool.eq_false_iff.mpr c49
                                                    subst c49
                                                    have H1 : (if 0 ≤ x12_4 then (if x12_4 < (t126.length : Int) then (if 0 ≤ x10_1 then (if x10_1 < (t126.length : Int) then (if ((rd_T24 t126 x12_4).f1) ≤ ((rd_T24 t126 x10_1).f1) then (if ((rd_T24 t126 x12_4).f2) ≥ ((rd_T24 t126 x10_1).f1) then (ratlinelaw18_ColorApart.l1 kj37 (wrap64 ((Go.bits .and .i64 a1 15) + 1)) t126 t132 x8_21 x9_1 x10_1 (wrap64 (x11_4 + 1)) (wrap64 (x12_4 + 1))) else (ratlinelaw18_ColorApart.l1 kj37 (wrap64 ((Go.bits .and .i64 a1 15) + 1)) t126 t132 x8_21 x9_1 x10_1 x11_4 (wrap64 (x12_4 + 1)))) else (ratlinelaw18_ColorApart.l1 kj37 (wrap64 ((Go.bits .and .i64 a1 15) + 1)) t126 t132 x8_21 x9_1 x10_1 x11_4 (wrap64 (x12_4 + 1)))) else (none)) else (none)) else (none)) else (none)) = some r := by rw [if_neg (show ¬ (false = true) by decide)] at H; exact H
                                                    clear H
                                                    have H := H1
                                                    clear H1
                                                    by_cases c50 : 0 ≤ x12_4
                                                    · rw [if_pos c50] at H
                                                      have c50b0 : decide (0 ≤ x12_4) = true := decide_eq_true c50
                                                      clear c50
                                                      by_cases c51 : x12_4 < (t126.length : Int)
                                                      · rw [if_pos c51] at H
                                                        have c51b0 : decide (x12_4 < (t126.length : Int)) = true := decide_eq_true c51
                                                        clear c51
                                                        by_cases c52 : 0 ≤ x10_1
                                                        · rw [if_pos c52] at H
                                                          have c52b0 : decide (0 ≤ x10_1) = true := decide_eq_true c52
                                                          clear c52
                                                          by_cases c53 : x10_1 < (t126.length : Int)
                                                          · rw [if_pos c53] at H
                                                            have c53b0 : decide (x10_1 < (t126.length : Int)) = true := decide_eq_true c53
                                                            clear c53
                                                            by_cases c54 : ((rd_T24 t126 x12_4).f1) ≤ ((rd_T24 t126 x10_1).f1)
                                                            · rw [if_pos c54] at H
                                                              have c54b0 : decide (((rd_T24 t126 x12_4).f1) ≤ ((rd_T24 t126 x10_1).f1)) = true := decide_eq_true c54
                                                              clear c54
                                                              by_cases c55 : ((rd_T24 t126 x12_4).f2) ≥ ((rd_T24 t126 x10_1).f1)
                                                              · rw [if_pos c55] at H
                                                                have c55b0 : decide (((rd_T24 t126 x10_1).f1) ≤ ((rd_T24 t126 x12_4).f2)) = true := decide_eq_true c55
                                                                clear c55
                                                                have H' := Aside0.mk H
                                                                clear H
                                                                have p161 : 0 ≤ (x12_4 : Int) := of_decide_eq_true (by first | (with_reducible assumption) | assumption)
                                                                have q161 : x12_4 < (t126.length : Int) := of_decide_eq_true (by first | (with_reducible assumption) | assumption)
                                                                obtain ⟨ad161, e161, hx161_0, hx161_1, hx161_2⟩ := at_T24 (Kd.R_reads' HO_5.out).2.2 x12_4 p161 q161
                                                                obtain rfl : ad149 = ad161 := (by injection e161)
                                                                replace p161 := eq_true p161
                                                                replace q161 := eq_true q161
                                                                have p162 : 0 ≤ (x10_1 : Int) := of_decide_eq_true (by first | (with_reducible assumption) | assumption)
                                                                have q162 : x10_1 < (t126.length : Int) := of_decide_eq_true (by first | (with_reducible assumption) | assumption)
                                                                obtain ⟨ad162, e162, hx162_0, hx162_1, hx162_2⟩ := at_T24 (Kd.R_reads' HO_5.out).2.2 x10_1 p162 q162
                                                                obtain rfl : ad149 = ad162 := (by injection e162)
                                                                replace p162 := eq_true p162
                                                                replace q162 := eq_true q162
                                                                have p163 : 0 ≤ (x12_4 : Int) := of_decide_eq_true (by first | (with_reducible assumption) | assumption)
                                                                have q163 : x12_4 < (t126.length : Int) := of_decide_eq_true (by first | (with_reducible assumption) | assumption)
                                                                obtain ⟨ad163, e163, hx163_0, hx163_1, hx163_2⟩ := at_T24 (Kd.R_reads' HO_5.out).2.2 x12_4 p163 q163
                                                                obtain rfl : ad149 = ad163 := (by injection e163)
                                                                replace p163 := eq_true p163
                                                                replace q163 := eq_true q163
                                                                have p164 : 0 ≤ (x10_1 : Int) := of_decide_eq_true (by first | (with_reducible assumption) | assumption)
                                                                have q164 : x10_1 < (t126.length : Int) := of_decide_eq_true (by first | (with_reducible assumption) | assumption)
                                                                obtain ⟨ad164, e164, hx164_0, hx164_1, hx164_2⟩ := at_T24 (Kd.R_reads' HO_5.out).2.2 x10_1 p164 q164
                                                                obtain rfl : ad149 = ad164 := (by injection e164)
                                                                replace p164 := eq_true p164
                                                                replace q164 := eq_true q164
                                                                go_wp2
                                                                repeat (go_quiet (fail); try go_wp2)
                                                                go_roundg kj37
                                                                case measure => have := HK1.out; have := HJ13.out; have := HJ21.out; have := HK4.out; have := HJ24.out; have := HJ37.out; omega
                                                                case rel => exact ⟨(wrap64 (x11_4 + 1)), (wrap64 (x12_4 + 1)), (by first | rfl | (simp; done) | (simp [*]; done)), (by first | rfl | (simp; done) | (simp [*]; done)), H', ⟨by have := HK1.out; have := HJ13.out; have := HJ21.out; have := HK4.out; have := HJ24.out; have := HJ37.out; omega⟩, ⟨by (with_reducible repeat (first | apply Kd.R_alloc | apply Kd.R_drewN | apply Kd.R_drew)); exact HO_5.out⟩, ⟨by (with_reducible repeat (first | apply Kd.R_alloc | apply Kd.R_drewN | apply Kd.R_drew)); exact HO_7.out⟩, ⟨by repeat (first | (with_reducible first | exact HB.out | apply below_alloc | apply pw_below_drewN | apply below_drew1) | exact HB.out)⟩⟩
                                                              · rw [if_neg c55] at H
                                                                have c55b0 : decide (((rd_T24 t126 x10_1).f1) ≤ ((rd_T24 t126 x12_4).f2)) = false := decide_eq_false c55
                                                                clear c55
                                                                have H' := Aside0.mk H
                                                                clear H
                                                                have p161 : 0 ≤ (x12_4 : Int) := of_decide_eq_true (by first | (with_reducible assumption) | assumption)
                                                                have q161 : x12_4 < (t126.length : Int) := of_decide_eq_true (by first | (with_reducible assumption) | assumption)
                                                                obtain ⟨ad161, e161, hx161_0, hx161_1, hx161_2⟩ := at_T24 (Kd.R_reads' HO_5.out).2.2 x12_4 p161 q161
                                                                obtain rfl : ad149 = ad161 := (by injection e161)
                                                                replace p161 := eq_true p161
                                                                replace q161 := eq_true q161
                                                                have p162 : 0 ≤ (x10_1 : Int) := of_decide_eq_true (by first | (with_reducible assumption) | assumption)
                                                                have q162 : x10_1 < (t126.length : Int) := of_decide_eq_true (by first | (with_reducible assumption) | assumption)
                                                                obtain ⟨ad162, e162, hx162_0, hx162_1, hx162_2⟩ := at_T24 (Kd.R_reads' HO_5.out).2.2 x10_1 p162 q162
                                                                obtain rfl : ad149 = ad162 := (by injection e162)
                                                                replace p162 := eq_true p162
                                                                replace q162 := eq_true q162
                                                                have p163 : 0 ≤ (x12_4 : Int) := of_decide_eq_true (by first | (with_reducible assumption) | assumption)
                                                                have q163 : x12_4 < (t126.length : Int) := of_decide_eq_true (by first | (with_reducible assumption) | assumption)
                                                                obtain ⟨ad163, e163, hx163_0, hx163_1, hx163_2⟩ := at_T24 (Kd.R_reads' HO_5.out).2.2 x12_4 p163 q163
                                                                obtain rfl : ad149 = ad163 := (by injection e163)
                                                                replace p163 := eq_true p163
                                                                replace q163 := eq_true q163
                                                                have p164 : 0 ≤ (x10_1 : Int) := of_decide_eq_true (by first | (with_reducible assumption) | assumption)
                                                                have q164 : x10_1 < (t126.length : Int) := of_decide_eq_true (by first | (with_reducible assumption) | assumption)
                                                                obtain ⟨ad164, e164, hx164_0, hx164_1, hx164_2⟩ := at_T24 (Kd.R_reads' HO_5.out).2.2 x10_1 p164 q164
                                                                obtain rfl : ad149 = ad164 := (by injection e164)
                                                                replace p164 := eq_true p164
                                                                replace q164 := eq_true q164
                                                                go_wp2
                                                                repeat (go_quiet (fail); try go_wp2)
                                                                go_roundg kj37
                                                                case measure => have := HK1.out; have := HJ13.out; have := HJ21.out; have := HK4.out; have := HJ24.out; have := HJ37.out; omega
                                                                case rel => exact ⟨(x11_4), (wrap64 (x12_4 + 1)), (by first | rfl | (simp; done) | (simp [*]; done)), (by first | rfl | (simp; done) | (simp [*]; done)), H', ⟨by have := HK1.out; have := HJ13.out; have := HJ21.out; have := HK4.out; have := HJ24.out; have := HJ37.out; omega⟩, ⟨by (with_reducible repeat (first | apply Kd.R_alloc | apply Kd.R_drewN | apply Kd.R_drew)); exact HO_5.out⟩, ⟨by (with_reducible repeat (first | apply Kd.R_alloc | apply Kd.R_drewN | apply Kd.R_drew)); exact HO_7.out⟩, ⟨by repeat (first | (with_reducible first | exact HB.out | apply below_alloc | apply pw_below_drewN | apply below_drew1) | exact HB.out)⟩⟩
                                                            · rw [if_neg c54] at H
                                                              have c54b0 : decide (((rd_T24 t126 x12_4).f1) ≤ ((rd_T24 t126 x10_1).f1)) = false := decide_eq_false c54
                                                              clear c54
                                                              have H' := Aside0.mk H
                                                              clear H
                                                              have p161 : 0 ≤ (x12_4 : Int) := of_decide_eq_true (by first | (with_reducible assumption) | assumption)
                                                              have q161 : x12_4 < (t126.length : Int) := of_decide_eq_true (by first | (with_reducible assumption) | assumption)
                                                              obtain ⟨ad161, e161, hx161_0, hx161_1, hx161_2⟩ := at_T24 (Kd.R_reads' HO_5.out).2.2 x12_4 p161 q161
                                                              obtain rfl : ad149 = ad161 := (by injection e161)
                                                              replace p161 := eq_true p161
                                                              replace q161 := eq_true q161
                                                              have p162 : 0 ≤ (x10_1 : Int) := of_decide_eq_true (by first | (with_reducible assumption) | assumption)
                                                              have q162 : x10_1 < (t126.length : Int) := of_decide_eq_true (by first | (with_reducible assumption) | assumption)
                                                              obtain ⟨ad162, e162, hx162_0, hx162_1, hx162_2⟩ := at_T24 (Kd.R_reads' HO_5.out).2.2 x10_1 p162 q162
                                                              obtain rfl : ad149 = ad162 := (by injection e162)
                                                              replace p162 := eq_true p162
                                                              replace q162 := eq_true q162
                                                              go_wp2
                                                              repeat (go_quiet (fail); try go_wp2)
                                                              go_roundg kj37
                                                              case measure => have := HK1.out; have := HJ13.out; have := HJ21.out; have := HK4.out; have := HJ24.out; have := HJ37.out; omega
                                                              case rel => exact ⟨(x11_4), (wrap64 (x12_4 + 1)), (by first | rfl | (simp; done) | (simp [*]; done)), (by first | rfl | (simp; done) | (simp [*]; done)), H', ⟨by have := HK1.out; have := HJ13.out; have := HJ21.out; have := HK4.out; have := HJ24.out; have := HJ37.out; omega⟩, ⟨by (with_reducible repeat (first | apply Kd.R_alloc | apply Kd.R_drewN | apply Kd.R_drew)); exact HO_5.out⟩, ⟨by (with_reducible repeat (first | apply Kd.R_alloc | apply Kd.R_drewN | apply Kd.R_drew)); exact HO_7.out⟩, ⟨by repeat (first | (with_reducible first | exact HB.out | apply below_alloc | apply pw_below_drewN | apply below_drew1) | exact HB.out)⟩⟩
                                                          · rw [if_neg c53] at H
                                                            exact absurd H (by simp)
                                                        · rw [if_neg c52] at H
                                                          exact absurd H (by simp)
                                                      · rw [if_neg c51] at H
                                                        exact absurd H (by simp)
                                                    · rw [if_neg c50] at H
                                                      exact absurd H (by simp)
                                          · rw [if_neg c34] at H
                                            exact absurd H (by simp)
                                        · rw [if_neg c33] at H
                                          exact absurd H (by simp)
                                      · rw [if_neg c32] at H
                                        exact absurd H (by simp)
                                    · rw [if_neg c31] at H
                                      exact absurd H (by simp)
                              · rw [if_neg c24] at H
                                have c24b0 : decide (x12_4 < (t132.length : Int)) = false := decide_eq_false c24
                                clear c24
                                obtain ⟨ji56, hji56⟩ : ∃ j_ : Int, (mx x9_1 x11_4) = j_ := ⟨_, rfl⟩
                                replace H : (ratlinelaw18_ColorApart.l0 k4 (wrap64 ((Go.bits .and .i64 a1 15) + 1)) t126 t132 x8_21 ji56 (wrap64 (x10_1 + 1))) = some r := by first | (rw [hji56] at H; exact H) | (simp only [hji56] at H ⊢; exact H)
                                have hji56_ : (if x9_1 < x11_4 then x11_4 else x9_1) = ji56 := hji56
                                have H' := Aside0.mk H
                                clear H
                                go_wp2
                                repeat (go_quiet (fail); try go_wp2)
                                go_roundg k4
                                case measure => have := HK1.out; have := HJ13.out; have := HJ21.out; have := HK4.out; omega
                                case rel => exact ⟨(x8_21), (ji56), (wrap64 (x10_1 + 1)), (by first | rfl | (simp; done) | (simp [*]; done)), (by first | rfl | (simp; done) | (simp only [← hji56] <;> (first | rfl | (simp; done))) | (simp [*]; done)), (by first | rfl | (simp; done) | (simp [*]; done)), H', ⟨by have := HK1.out; have := HJ13.out; have := HJ21.out; have := HK4.out; omega⟩, ⟨by (with_reducible repeat (first | apply Kd.R_alloc | apply Kd.R_drewN | apply Kd.R_drew)); exact HO_5.out⟩, ⟨by (with_reducible repeat (first | apply Kd.R_alloc | apply Kd.R_drewN | apply Kd.R_drew)); exact HO_7.out⟩, ⟨by repeat (first | (with_reducible first | exact HB.out | apply below_alloc | apply pw_below_drewN | apply below_drew1) | exact HB.out)⟩⟩
                    · rw [if_neg c21] at H
                      exact absurd H (by simp)
                  · rw [if_neg c20] at H
                    exact absurd H (by simp)
          · rw [if_neg c13] at H
            have c13b0 : decide (x10_1 < (t132.length : Int)) = false := decide_eq_false c13
            clear c13
            by_cases c57 : x8_1 = 0
            · rw [if_pos c57] at H
              have c57b0 : (x8_1 == 0) = true := beq_iff_eq.mpr c57
              have c57b1 : (x8_1 != 0) = false := bne_eq_false_iff_eq.mpr c57
              clear c57
              by_cases c58 : x9_1 ≤ (wrap64 ((Go.bits .and .i64 a1 15) + 1))
              · rw [if_pos c58] at H
                have c58b0 : decide (x9_1 ≤ (wrap64 ((Go.bits .and .i64 a1 15) + 1))) = true := decide_eq_true c58
                clear c58
                replace H := Option.bind_eq_some_iff.mp H
                obtain ⟨t135, A590, H⟩ := H
                replace H : (some t135) = some r := H
                have A59 := Aside0.mk A590
                clear A590
                obtain rfl := Option.some.inj H
                go_wp2_with (first | (go_at_call 8; (with_reducible refine (ratlinelaw18_awake.calls k1  t135 _ A59.out).mono ?_); rintro e w60 ⟨rfl, hb⟩; have n0_ := Aside0.mk (Kd.R_below (by (with_reducible repeat (first | apply Kd.R_alloc | apply Kd.R_drewN | apply Kd.R_drew)); exact HO_5.out) hb); have n1_ := Aside0.mk (Kd.R_below (by (with_reducible repeat (first | apply Kd.R_alloc | apply Kd.R_drewN | apply Kd.R_drew)); exact HO_7.out) hb); have n2_ := Aside0.mk (below_step (by repeat (first | (with_reducible first | exact HB.out | apply below_alloc | apply pw_below_drewN | apply below_drew1) | exact HB.out)) hb); clear HO_5; clear HO_7; clear HB; have HO_5 := n0_; have HO_7 := n1_; have HB := n2_; clear n0_ n1_ n2_; (try clear hb); (try clear hb2); (try clear hk); (try clear hi)))
                repeat (go_quiet (first | (go_at_call 8; (with_reducible refine (ratlinelaw18_awake.calls k1  t135 _ A59.out).mono ?_); rintro e w60 ⟨rfl, hb⟩; have n0_ := Aside0.mk (Kd.R_below (by (with_reducible repeat (first | apply Kd.R_alloc | apply Kd.R_drewN | apply Kd.R_drew)); exact HO_5.out) hb); have n1_ := Aside0.mk (Kd.R_below (by (with_reducible repeat (first | apply Kd.R_alloc | apply Kd.R_drewN | apply Kd.R_drew)); exact HO_7.out) hb); have n2_ := Aside0.mk (below_step (by repeat (first | (with_reducible first | exact HB.out | apply below_alloc | apply pw_below_drewN | apply below_drew1) | exact HB.out)) hb); clear HO_5; clear HO_7; clear HB; have HO_5 := n0_; have HO_7 := n1_; have HB := n2_; clear n0_ n1_ n2_; (try clear hb); (try clear hb2); (try clear hk); (try clear hi))); try go_wp2_with (first | (go_at_call 8; (with_reducible refine (ratlinelaw18_awake.calls k1  t135 _ A59.out).mono ?_); rintro e w60 ⟨rfl, hb⟩; have n0_ := Aside0.mk (Kd.R_below (by (with_reducible repeat (first | apply Kd.R_alloc | apply Kd.R_drewN | apply Kd.R_drew)); exact HO_5.out) hb); have n1_ := Aside0.mk (Kd.R_below (by (with_reducible repeat (first | apply Kd.R_alloc | apply Kd.R_drewN | apply Kd.R_drew)); exact HO_7.out) hb); have n2_ := Aside0.mk (below_step (by repeat (first | (with_reducible first | exact HB.out | apply below_alloc | apply pw_below_drewN | apply below_drew1) | exact HB.out)) hb); clear HO_5; clear HO_7; clear HB; have HO_5 := n0_; have HO_7 := n1_; have HB := n2_; clear n0_ n1_ n2_; (try clear hb); (try clear hb2); (try clear hk); (try clear hi))))
                go_ret
                exact ⟨by first | rfl | (simp [errW_none, errW_some] <;> rfl) | (simp [*, errW_none, errW_some] <;> rfl), by repeat (first | (with_reducible first | exact HB.out | apply below_alloc | apply pw_below_drewN | apply below_drew1) | exact HB.out)⟩
              · rw [if_neg c58] at H
                have c58b0 : decide (x9_1 ≤ (wrap64 ((Go.bits .and .i64 a1 15) + 1))) = false := decide_eq_false c58
                clear c58
                by_cases c61 : x8_1 > 0
                · rw [if_pos c61] at H
                  have c61b0 : decide (0 < x8_1) = true := decide_eq_true c61
                  clear c61
                  replace H := Option.bind_eq_some_iff.mp H
                  obtain ⟨t136, A620, H⟩ := H
                  replace H : (some t136) = some r := H
                  have A62 := Aside0.mk A620
                  clear A620
                  obtain rfl := Option.some.inj H
                  go_wp2_with (first | (go_at_call 8; (with_reducible refine (ratlinelaw18_awake.calls k1  t136 _ A62.out).mono ?_); rintro e w63 ⟨rfl, hb⟩; have n0_ := Aside0.mk (Kd.R_below (by (with_reducible repeat (first | apply Kd.R_alloc | apply Kd.R_drewN | apply Kd.R_drew)); exact HO_5.out) hb); have n1_ := Aside0.mk (Kd.R_below (by (with_reducible repeat (first | apply Kd.R_alloc | apply Kd.R_drewN | apply Kd.R_drew)); exact HO_7.out) hb); have n2_ := Aside0.mk (below_step (by repeat (first | (with_reducible first | exact HB.out | apply below_alloc | apply pw_below_drewN | apply below_drew1) | exact HB.out)) hb); clear HO_5; clear HO_7; clear HB; have HO_5 := n0_; have HO_7 := n1_; have HB := n2_; clear n0_ n1_ n2_; (try clear hb); (try clear hb2); (try clear hk); (try clear hi)))
                  repeat (go_quiet (first | (go_at_call 8; (with_reducible refine (ratlinelaw18_awake.calls k1  t136 _ A62.out).mono ?_); rintro e w63 ⟨rfl, hb⟩; have n0_ := Aside0.mk (Kd.R_below (by (with_reducible repeat (first | apply Kd.R_alloc | apply Kd.R_drewN | apply Kd.R_drew)); exact HO_5.out) hb); have n1_ := Aside0.mk (Kd.R_below (by (with_reducible repeat (first | apply Kd.R_alloc | apply Kd.R_drewN | apply Kd.R_drew)); exact HO_7.out) hb); have n2_ := Aside0.mk (below_step (by repeat (first | (with_reducible first | exact HB.out | apply below_alloc | apply pw_below_drewN | apply below_drew1) | exact HB.out)) hb); clear HO_5; clear HO_7; clear HB; have HO_5 := n0_; have HO_7 := n1_; have HB := n2_; clear n0_ n1_ n2_; (try clear hb); (try clear hb2); (try clear hk); (try clear hi))); try go_wp2_with (first | (go_at_call 8; (with_reducible refine (ratlinelaw18_awake.calls k1  t136 _ A62.out).mono ?_); rintro e w63 ⟨rfl, hb⟩; have n0_ := Aside0.mk (Kd.R_below (by (with_reducible repeat (first | apply Kd.R_alloc | apply Kd.R_drewN | apply Kd.R_drew)); exact HO_5.out) hb); have n1_ := Aside0.mk (Kd.R_below (by (with_reducible repeat (first | apply Kd.R_alloc | apply Kd.R_drewN | apply Kd.R_drew)); exact HO_7.out) hb); have n2_ := Aside0.mk (below_step (by repeat (first | (with_reducible first | exact HB.out | apply below_alloc | apply pw_below_drewN | apply below_drew1) | exact HB.out)) hb); clear HO_5; clear HO_7; clear HB; have HO_5 := n0_; have HO_7 := n1_; have HB := n2_; clear n0_ n1_ n2_; (try clear hb); (try clear hb2); (try clear hk); (try clear hi))))
                  go_ret
                  exact ⟨by first | rfl | (simp [errW_none, errW_some] <;> rfl) | (simp [*, errW_none, errW_some] <;> rfl), by repeat (first | (with_reducible first | exact HB.out | apply below_alloc | apply pw_below_drewN | apply below_drew1) | exact HB.out)⟩
                · rw [if_neg c61] at H
                  have c61b0 : decide (0 < x8_1) = false := decide_eq_false c61
                  clear c61
                  obtain rfl := Option.some.inj H
                  go_wp2
                  repeat (go_quiet (fail); try go_wp2)
                  go_ret
                  exact ⟨by first | rfl | (simp [errW_none, errW_some] <;> rfl) | (simp [*, errW_none, errW_some] <;> rfl), by repeat (first | (with_reducible first | exact HB.out | apply below_alloc | apply pw_below_drewN | apply below_drew1) | exact HB.out)⟩
            · rw [if_neg c57] at H
              have c57b0 : (x8_1 == 0) = false := beq_eq_false_iff_ne.mpr c57
              have c57b1 : (x8_1 != 0) = true := bne_iff_ne.mpr c57
              by_cases c64 : x9_1 > (wrap64 ((Go.bits .and .i64 a1 15) + 1))
              · rw [if_pos c64] at H
                have c64b0 : decide ((wrap64 ((Go.bits .and .i64 a1 15) + 1)) < x9_1) = true := decide_eq_true c64
                clear c64
                by_cases c65 : x9_1 ≤ (wrap64 ((Go.bits .and .i64 a1 15) + 1))
                · rw [if_pos c65] at H
                  have c65b0 : decide (x9_1 ≤ (wrap64 ((Go.bits .and .i64 a1 15) + 1))) = true := decide_eq_true c65
                  clear c65
                  replace H := Option.bind_eq_some_iff.mp H
                  obtain ⟨t137, A660, H⟩ := H
                  replace H : (some t137) = some r := H
                  have A66 := Aside0.mk A660
                  clear A660
                  obtain rfl := Option.some.inj H
                  go_wp2_with (first | (go_at_call 8; (with_reducible refine (ratlinelaw18_awake.calls k1  t137 _ A66.out).mono ?_); rintro e w67 ⟨rfl, hb⟩; have n0_ := Aside0.mk (Kd.R_below (by (with_reducible repeat (first | apply Kd.R_alloc | apply Kd.R_drewN | apply Kd.R_drew)); exact HO_5.out) hb); have n1_ := Aside0.mk (Kd.R_below (by (with_reducible repeat (first | apply Kd.R_alloc | apply Kd.R_drewN | apply Kd.R_drew)); exact HO_7.out) hb); have n2_ := Aside0.mk (below_step (by repeat (first | (with_reducible first | exact HB.out | apply below_alloc | apply pw_below_drewN | apply below_drew1) | exact HB.out)) hb); clear HO_5; clear HO_7; clear HB; have HO_5 := n0_; have HO_7 := n1_; have HB := n2_; clear n0_ n1_ n2_; (try clear hb); (try clear hb2); (try clear hk); (try clear hi)))
                  repeat (go_quiet (first | (go_at_call 8; (with_reducible refine (ratlinelaw18_awake.calls k1  t137 _ A66.out).mono ?_); rintro e w67 ⟨rfl, hb⟩; have n0_ := Aside0.mk (Kd.R_below (by (with_reducible repeat (first | apply Kd.R_alloc | apply Kd.R_drewN | apply Kd.R_drew)); exact HO_5.out) hb); have n1_ := Aside0.mk (Kd.R_below (by (with_reducible repeat (first | apply Kd.R_alloc | apply Kd.R_drewN | apply Kd.R_drew)); exact HO_7.out) hb); have n2_ := Aside0.mk (below_step (by repeat (first | (with_reducible first | exact HB.out | apply below_alloc | apply pw_below_drewN | apply below_drew1) | exact HB.out)) hb); clear HO_5; clear HO_7; clear HB; have HO_5 := n0_; have HO_7 := n1_; have HB := n2_; clear n0_ n1_ n2_; (try clear hb); (try clear hb2); (try clear hk); (try clear hi))); try go_wp2_with (first | (go_at_call 8; (with_reducible refine (ratlinelaw18_awake.calls k1  t137 _ A66.out).mono ?_); rintro e w67 ⟨rfl, hb⟩; have n0_ := Aside0.mk (Kd.R_below (by (with_reducible repeat (first | apply Kd.R_alloc | apply Kd.R_drewN | apply Kd.R_drew)); exact HO_5.out) hb); have n1_ := Aside0.mk (Kd.R_below (by (with_reducible repeat (first | apply Kd.R_alloc | apply Kd.R_drewN | apply Kd.R_drew)); exact HO_7.out) hb); have n2_ := Aside0.mk (below_step (by repeat (first | (with_reducible first | exact HB.out | apply below_alloc | apply pw_below_drewN | apply below_drew1) | exact HB.out)) hb); clear HO_5; clear HO_7; clear HB; have HO_5 := n0_; have HO_7 := n1_; have HB := n2_; clear n0_ n1_ n2_; (try clear hb); (try clear hb2); (try clear hk); (try clear hi))))
                  go_ret
                  exact ⟨by first | rfl | (simp [errW_none, errW_some] <;> rfl) | (simp [*, errW_none, errW_some] <;> rfl), by repeat (first | (with_reducible first | exact HB.out | apply below_alloc | apply pw_below_drewN | apply below_drew1) | exact HB.out)⟩
                · rw [if_neg c65] at H
                  have c65b0 : decide (x9_1 ≤ (wrap64 ((Go.bits .and .i64 a1 15) + 1))) = false := decide_eq_false c65
                  clear c65
                  by_cases c68 : x8_1 > 0
                  · rw [if_pos c68] at H
                    have c68b0 : decide (0 < x8_1) = true := decide_eq_true c68
                    clear c68
                    replace H := Option.bind_eq_some_iff.mp H
                    obtain ⟨t138, A690, H⟩ := H
                    replace H : (some t138) = some r := H
                    have A69 := Aside0.mk A690
                    clear A690
                    obtain rfl := Option.some.inj H
                    go_wp2_with (first | (go_at_call 8; (with_reducible refine (ratlinelaw18_awake.calls k1  t138 _ A69.out).mono ?_); rintro e w70 ⟨rfl, hb⟩; have n0_ := Aside0.mk (Kd.R_below (by (with_reducible repeat (first | apply Kd.R_alloc | apply Kd.R_drewN | apply Kd.R_drew)); exact HO_5.out) hb); have n1_ := Aside0.mk (Kd.R_below (by (with_reducible repeat (first | apply Kd.R_alloc | apply Kd.R_drewN | apply Kd.R_drew)); exact HO_7.out) hb); have n2_ := Aside0.mk (below_step (by repeat (first | (with_reducible first | exact HB.out | apply below_alloc | apply pw_below_drewN | apply below_drew1) | exact HB.out)) hb); clear HO_5; clear HO_7; clear HB; have HO_5 := n0_; have HO_7 := n1_; have HB := n2_; clear n0_ n1_ n2_; (try clear hb); (try clear hb2); (try clear hk); (try clear hi)))
                    repeat (go_quiet (first | (go_at_call 8; (with_reducible refine (ratlinelaw18_awake.calls k1  t138 _ A69.out).mono ?_); rintro e w70 ⟨rfl, hb⟩; have n0_ := Aside0.mk (Kd.R_below (by (with_reducible repeat (first | apply Kd.R_alloc | apply Kd.R_drewN | apply Kd.R_drew)); exact HO_5.out) hb); have n1_ := Aside0.mk (Kd.R_below (by (with_reducible repeat (first | apply Kd.R_alloc | apply Kd.R_drewN | apply Kd.R_drew)); exact HO_7.out) hb); have n2_ := Aside0.mk (below_step (by repeat (first | (with_reducible first | exact HB.out | apply below_alloc | apply pw_below_drewN | apply below_drew1) | exact HB.out)) hb); clear HO_5; clear HO_7; clear HB; have HO_5 := n0_; have HO_7 := n1_; have HB := n2_; clear n0_ n1_ n2_; (try clear hb); (try clear hb2); (try clear hk); (try clear hi))); try go_wp2_with (first | (go_at_call 8; (with_reducible refine (ratlinelaw18_awake.calls k1  t138 _ A69.out).mono ?_); rintro e w70 ⟨rfl, hb⟩; have n0_ := Aside0.mk (Kd.R_below (by (with_reducible repeat (first | apply Kd.R_alloc | apply Kd.R_drewN | apply Kd.R_drew)); exact HO_5.out) hb); have n1_ := Aside0.mk (Kd.R_below (by (with_reducible repeat (first | apply Kd.R_alloc | apply Kd.R_drewN | apply Kd.R_drew)); exact HO_7.out) hb); have n2_ := Aside0.mk (below_step (by repeat (first | (with_reducible first | exact HB.out | apply below_alloc | apply pw_below_drewN | apply below_drew1) | exact HB.out)) hb); clear HO_5; clear HO_7; clear HB; have HO_5 := n0_; have HO_7 := n1_; have HB := n2_; clear n0_ n1_ n2_; (try clear hb); (try clear hb2); (try clear hk); (try clear hi))))
                    go_ret
                    exact ⟨by first | rfl | (simp [errW_none, errW_some] <;> rfl) | (simp [*, errW_none, errW_some] <;> rfl), by repeat (first | (with_reducible first | exact HB.out | apply below_alloc | apply pw_below_drewN | apply below_drew1) | exact HB.out)⟩
                  · rw [if_neg c68] at H
                    have c68b0 : decide (0 < x8_1) = false := decide_eq_false c68
                    clear c68
                    obtain rfl := Option.some.inj H
                    go_wp2
                    repeat (go_quiet (fail); try go_wp2)
                    go_ret
                    exact ⟨by first | rfl | (simp [errW_none, errW_some] <;> rfl) | (simp [*, errW_none, errW_some] <;> rfl), by repeat (first | (with_reducible first | exact HB.out | apply below_alloc | apply pw_below_drewN | apply below_drew1) | exact HB.out)⟩
              · rw [if_neg c64] at H
                have c64b0 : decide ((wrap64 ((Go.bits .and .i64 a1 15) + 1)) < x9_1) = false := decide_eq_false c64
                clear c64
                obtain rfl := Option.some.inj H
                go_wp2
                repeat (go_quiet (fail); try go_wp2)
                go_ret
                exact ⟨by first | rfl | (simp [errW_none, errW_some] <;> rfl) | (simp [*, errW_none, errW_some] <;> rfl), by repeat (first | (with_reducible first | exact HB.out | apply below_alloc | apply pw_below_drewN | apply below_drew1) | exact HB.out)⟩
    · rw [if_neg c8] at H
      have c8b0 : ((t132.length : Int) == (t126.length : Int)) = false := beq_eq_false_iff_ne.mpr c8
      have c8b1 : ((t132.length : Int) != (t126.length : Int)) = true := bne_iff_ne.mpr c8
      have c8b2 : (t132.length == t126.length) = false := by first | simpa using c8 | (simp at c8 ⊢; omega)
      obtain rfl := Option.some.inj H
      go_enter Try.func5, Try.ntmps5
      go_wp2_with (first | (go_at_call 9; (with_reducible refine (ratlinelaw18_rows.calls k _ _ l0 t126 t127 _ ?side1 ?side2 A6.out).mono ?_); (case side1 => repeat (first | exact HR0.out | (with_reducible refine Kd.C_alloc ?_ _) | (with_reducible refine Kd.C_drewN ?_ _) | (with_reducible refine Kd.C_drew ?_))); (case side2 => exact HC0.out); rintro e w71 ⟨v128, v130, rfl, ho0, ho1, hb⟩; have n0_ := Aside0.mk (Kd.R_lower ho0 (below_size (by repeat (first | (with_reducible first | exact HB.out | apply below_alloc | apply pw_below_drewN | apply below_drew1) | exact HB.out)))); have n1_ := Aside0.mk (Kd.R_lower ho1 (below_size (by repeat (first | (with_reducible first | exact HB.out | apply below_alloc | apply pw_below_drewN | apply below_drew1) | exact HB.out)))); have n2_ := Aside0.mk (below_step (by repeat (first | (with_reducible first | exact HB.out | apply below_alloc | apply pw_below_drewN | apply below_drew1) | exact HB.out)) hb); clear HB; have HO129 := n0_; have HO131 := n1_; have HB := n2_; clear n0_ n1_ n2_; (try clear hb); (try clear hb2); (try clear hk); (try clear hi); (try clear ho0); (try clear ho1); obtain ⟨Ao72, co72, eo72⟩ := Kd.R_slice HO129.out; subst eo72) | (go_at_call 6; (with_reducible refine (color_Assign.calls _ _ t126 (wrap64 ((Go.bits .and .i64 a1 15) + 1)) t132 _ ?side1 ?side2 A7.out).mono ?_); (case side1 => repeat (first | exact (Kd.R_reads' HO129.out).2.2 | (with_reducible refine Kd.C_alloc ?_ _) | (with_reducible refine Kd.C_drewN ?_ _) | (with_reducible refine Kd.C_drew ?_))); (case side2 => exact (Kd.R_reads' HO129.out).2.1); rintro e w73 ⟨v133, rfl, ho0, hb⟩; have n0_ := Aside0.mk (Kd.R_below (by (with_reducible repeat (first | apply Kd.R_alloc | apply Kd.R_drewN | apply Kd.R_drew)); exact HO129.out) hb); have n1_ := Aside0.mk (Kd.R_below (by (with_reducible repeat (first | apply Kd.R_alloc | apply Kd.R_drewN | apply Kd.R_drew)); exact HO131.out) hb); have n2_ := Aside0.mk (Kd.R_lower ho0 (below_size (by repeat (first | (with_reducible first | exact HB.out | apply below_alloc | apply pw_below_drewN | apply below_drew1) | exact HB.out)))); have n3_ := Aside0.mk (below_step (by repeat (first | (with_reducible first | exact HB.out | apply below_alloc | apply pw_below_drewN | apply below_drew1) | exact HB.out)) hb); clear HO129; clear HO131; clear HB; have HO129 := n0_; have HO131 := n1_; have HO134 := n2_; have HB := n3_; clear n0_ n1_ n2_ n3_; (try clear hb); (try clear hb2); (try clear hk); (try clear hi); (try clear ho0); obtain ⟨Ao74, co74, eo74⟩ := Kd.R_slice HO134.out; subst eo74))
      repeat (go_quiet (first | (go_at_call 9; (with_reducible refine (ratlinelaw18_rows.calls k _ _ l0 t126 t127 _ ?side1 ?side2 A6.out).mono ?_); (case side1 => repeat (first | exact HR0.out | (with_reducible refine Kd.C_alloc ?_ _) | (with_reducible refine Kd.C_drewN ?_ _) | (with_reducible refine Kd.C_drew ?_))); (case side2 => exact HC0.out); rintro e w71 ⟨v128, v130, rfl, ho0, ho1, hb⟩; have n0_ := Aside0.mk (Kd.R_lower ho0 (below_size (by repeat (first | (with_reducible first | exact HB.out | apply below_alloc | apply pw_below_drewN | apply below_drew1) | exact HB.out)))); have n1_ := Aside0.mk (Kd.R_lower ho1 (below_size (by repeat (first | (with_reducible first | exact HB.out | apply below_alloc | apply pw_below_drewN | apply below_drew1) | exact HB.out)))); have n2_ := Aside0.mk (below_step (by repeat (first | (with_reducible first | exact HB.out | apply below_alloc | apply pw_below_drewN | apply below_drew1) | exact HB.out)) hb); clear HB; have HO129 := n0_; have HO131 := n1_; have HB := n2_; clear n0_ n1_ n2_; (try clear hb); (try clear hb2); (try clear hk); (try clear hi); (try clear ho0); (try clear ho1); obtain ⟨Ao72, co72, eo72⟩ := Kd.R_slice HO129.out; subst eo72) | (go_at_call 6; (with_reducible refine (color_Assign.calls _ _ t126 (wrap64 ((Go.bits .and .i64 a1 15) + 1)) t132 _ ?side1 ?side2 A7.out).mono ?_); (case side1 => repeat (first | exact (Kd.R_reads' HO129.out).2.2 | (with_reducible refine Kd.C_alloc ?_ _) | (with_reducible refine Kd.C_drewN ?_ _) | (with_reducible refine Kd.C_drew ?_))); (case side2 => exact (Kd.R_reads' HO129.out).2.1); rintro e w73 ⟨v133, rfl, ho0, hb⟩; have n0_ := Aside0.mk (Kd.R_below (by (with_reducible repeat (first | apply Kd.R_alloc | apply Kd.R_drewN | apply Kd.R_drew)); exact HO129.out) hb); have n1_ := Aside0.mk (Kd.R_below (by (with_reducible repeat (first | apply Kd.R_alloc | apply Kd.R_drewN | apply Kd.R_drew)); exact HO131.out) hb); have n2_ := Aside0.mk (Kd.R_lower ho0 (below_size (by repeat (first | (with_reducible first | exact HB.out | apply below_alloc | apply pw_below_drewN | apply below_drew1) | exact HB.out)))); have n3_ := Aside0.mk (below_step (by repeat (first | (with_reducible first | exact HB.out | apply below_alloc | apply pw_below_drewN | apply below_drew1) | exact HB.out)) hb); clear HO129; clear HO131; clear HB; have HO129 := n0_; have HO131 := n1_; have HO134 := n2_; have HB := n3_; clear n0_ n1_ n2_ n3_; (try clear hb); (try clear hb2); (try clear hk); (try clear hi); (try clear ho0); obtain ⟨Ao74, co74, eo74⟩ := Kd.R_slice HO134.out; subst eo74)); try go_wp2_with (first | (go_at_call 9; (with_reducible refine (ratlinelaw18_rows.calls k _ _ l0 t126 t127 _ ?side1 ?side2 A6.out).mono ?_); (case side1 => repeat (first | exact HR0.out | (with_reducible refine Kd.C_alloc ?_ _) | (with_reducible refine Kd.C_drewN ?_ _) | (with_reducible refine Kd.C_drew ?_))); (case side2 => exact HC0.out); rintro e w71 ⟨v128, v130, rfl, ho0, ho1, hb⟩; have n0_ := Aside0.mk (Kd.R_lower ho0 (below_size (by repeat (first | (with_reducible first | exact HB.out | apply below_alloc | apply pw_below_drewN | apply below_drew1) | exact HB.out)))); have n1_ := Aside0.mk (Kd.R_lower ho1 (below_size (by repeat (first | (with_reducible first | exact HB.out | apply below_alloc | apply pw_below_drewN | apply below_drew1) | exact HB.out)))); have n2_ := Aside0.mk (below_step (by repeat (first | (with_reducible first | exact HB.out | apply below_alloc | apply pw_below_drewN | apply below_drew1) | exact HB.out)) hb); clear HB; have HO129 := n0_; have HO131 := n1_; have HB := n2_; clear n0_ n1_ n2_; (try clear hb); (try clear hb2); (try clear hk); (try clear hi); (try clear ho0); (try clear ho1); obtain ⟨Ao72, co72, eo72⟩ := Kd.R_slice HO129.out; subst eo72) | (go_at_call 6; (with_reducible refine (color_Assign.calls _ _ t126 (wrap64 ((Go.bits .and .i64 a1 15) + 1)) t132 _ ?side1 ?side2 A7.out).mono ?_); (case side1 => repeat (first | exact (Kd.R_reads' HO129.out).2.2 | (with_reducible refine Kd.C_alloc ?_ _) | (with_reducible refine Kd.C_drewN ?_ _) | (with_reducible refine Kd.C_drew ?_))); (case side2 => exact (Kd.R_reads' HO129.out).2.1); rintro e w73 ⟨v133, rfl, ho0, hb⟩; have n0_ := Aside0.mk (Kd.R_below (by (with_reducible repeat (first | apply Kd.R_alloc | apply Kd.R_drewN | apply Kd.R_drew)); exact HO129.out) hb); have n1_ := Aside0.mk (Kd.R_below (by (with_reducible repeat (first | apply Kd.R_alloc | apply Kd.R_drewN | apply Kd.R_drew)); exact HO131.out) hb); have n2_ := Aside0.mk (Kd.R_lower ho0 (below_size (by repeat (first | (with_reducible first | exact HB.out | apply below_alloc | apply pw_below_drewN | apply below_drew1) | exact HB.out)))); have n3_ := Aside0.mk (below_step (by repeat (first | (with_reducible first | exact HB.out | apply below_alloc | apply pw_below_drewN | apply below_drew1) | exact HB.out)) hb); clear HO129; clear HO131; clear HB; have HO129 := n0_; have HO131 := n1_; have HO134 := n2_; have HB := n3_; clear n0_ n1_ n2_ n3_; (try clear hb); (try clear hb2); (try clear hk); (try clear hi); (try clear ho0); obtain ⟨Ao74, co74, eo74⟩ := Kd.R_slice HO134.out; subst eo74)))
      go_ret
      exact ⟨by first | rfl | (simp [errW_none, errW_some] <;> rfl) | (simp [*, errW_none, errW_some] <;> rfl), by repeat (first | (with_reducible first | exact HB.out | apply below_alloc | apply pw_below_drewN | apply below_drew1) | exact HB.out)⟩

end Go.Proofs.Ytidhllheipopbaa.XCol
