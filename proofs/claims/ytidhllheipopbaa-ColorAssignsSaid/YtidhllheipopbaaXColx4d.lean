-- written by gprint.py: the printer run with given contracts
import Derived.Test.YtidhllheipopbaaXColx0
import Derived.Test.YtidhllheipopbaaColGiven
namespace Go.Proofs.Ytidhllheipopbaa.XCol
open Go.RowKit Go.Proofs.YtidhllheipopbaaW.PrintWords Go.Proofs.YtidhllheipopbaaW.PrintLast Go.Proofs.YtidhllheipopbaaW.PrintMore
abbrev T : Bool := true
abbrev F : Bool := false
attribute [local go_sem] max2_int min2_int max_two min_two max_three min_three max_four min_four   -- for this text's walks alone
set_option linter.unusedVariables false
set_option linter.unusedSimpArgs false

/-! ### ratlineref18_Assign: function 10 -/
mutual
def ratlineref18_Assign.l0 : Nat → List (S47) → List (S38) → List Int → Int → Option ((List (S38)))
 | 0, _, _, _, _ => none
 | k + 1, x0, x5, x6, x7 => if x7 < (x6.length : Int) then (if 0 ≤ x7 then (ratlineref18_Assign.l0 k x0 x5 (x6.set (x7 : Int).toNat (-1)) (wrap64 (x7 + 1))) else (none)) else (ratlineref18_Assign.l1 k x0 x5 x6 0 0)
def ratlineref18_Assign.l1 : Nat → List (S47) → List (S38) → List Int → Int → Int → Option ((List (S38)))
 | 0, _, _, _, _, _ => none
 | k + 1, x0, x5, x6, x8, x9 => if x9 < (x0.length : Int) then (if 0 ≤ x9 then (if x9 < (x5.length : Int) then (ratlineref18_Assign.l2 k x0 (x5.set (x9 : Int).toNat (⟨(rd_T47 x0 x9).f0, (-1), (-1)⟩ : S38)) x6 x8 x9 (-1) 0) else (none)) else (none)) else (some x5)
def ratlineref18_Assign.l2 : Nat → List (S47) → List (S38) → List Int → Int → Int → Int → Int → Option ((List (S38)))
 | 0, _, _, _, _, _, _, _ => none
 | k + 1, x0, x5, x6, x8, x9, x10, x11 => if x11 < (x6.length : Int) then (if 0 ≤ x11 then (if (rd x6 x11) ≥ 0 then (if 0 ≤ (rd x6 x11) then (if (rd x6 x11) < (x0.length : Int) then (if 0 ≤ x9 then (if x9 < (x0.length : Int) then (if ((rd_T47 x0 (rd x6 x11)).f2) < ((rd_T47 x0 x9).f1) then (ratlineref18_Assign.l2 k x0 x5 (x6.set (x11 : Int).toNat (-1)) x8 x9 x10 (wrap64 (x11 + 1))) else (ratlineref18_Assign.l2 k x0 x5 x6 x8 x9 x10 (wrap64 (x11 + 1)))) else (none)) else (none)) else (none)) else (none)) else (ratlineref18_Assign.l2 k x0 x5 x6 x8 x9 x10 (wrap64 (x11 + 1)))) else (none)) else (ratlineref18_Assign.l3 k x0 x5 x6 x8 x9 x10 (wrap64 ((x6.length : Int) - 1)))
def ratlineref18_Assign.l3 : Nat → List (S47) → List (S38) → List Int → Int → Int → Int → Int → Option ((List (S38)))
 | 0, _, _, _, _, _, _, _ => none
 | k + 1, x0, x5, x6, x8, x9, x10, x12 => if x12 ≥ 0 then (if 0 ≤ x12 then (if x12 < (x6.length : Int) then (if (rd x6 x12) < 0 then (ratlineref18_Assign.l3 k x0 x5 x6 x8 x9 x12 (wrap64 (x12 - 1))) else (ratlineref18_Assign.l3 k x0 x5 x6 x8 x9 x10 (wrap64 (x12 - 1)))) else (none)) else (none)) else (if x10 ≥ 0 then (if 0 ≤ x9 then (if x9 < (x5.length : Int) then (if 0 ≤ x10 then (if x10 < (x6.length : Int) then (ratlineref18_Assign.l1 k x0 (x5.set (x9 : Int).toNat (⟨(rd_T38 x5 x9).f0, x10, (rd_T38 x5 x9).f2⟩ : S38)) (x6.set (x10 : Int).toNat x9) x8 (wrap64 (x9 + 1))) else (none)) else (none)) else (none)) else (none)) else (ratlineref18_Assign.l4 k x0 x5 x6 x8 x9 x9 0))
def ratlineref18_Assign.l4 : Nat → List (S47) → List (S38) → List Int → Int → Int → Int → Int → Option ((List (S38)))
 | 0, _, _, _, _, _, _, _ => none
 | k + 1, x0, x5, x6, x8, x9, x13, x14 => if x14 < (x6.length : Int) then (if 0 ≤ x14 then (if 0 ≤ (rd x6 x14) then (if (rd x6 x14) < (x0.length : Int) then (if 0 ≤ x13 then (if x13 < (x0.length : Int) then (if ((rd_T47 x0 (rd x6 x14)).f2) > ((rd_T47 x0 x13).f2) then (ratlineref18_Assign.l4 k x0 x5 x6 x8 x9 (rd x6 x14) (wrap64 (x14 + 1))) else (if ((rd_T47 x0 (rd x6 x14)).f2) = ((rd_T47 x0 x13).f2) then (if ((rd_T47 x0 (rd x6 x14)).f0) > ((rd_T47 x0 x13).f0) then (ratlineref18_Assign.l4 k x0 x5 x6 x8 x9 (rd x6 x14) (wrap64 (x14 + 1))) else (ratlineref18_Assign.l4 k x0 x5 x6 x8 x9 x13 (wrap64 (x14 + 1)))) else (ratlineref18_Assign.l4 k x0 x5 x6 x8 x9 x13 (wrap64 (x14 + 1))))) else (none)) else (none)) else (none)) else (none)) else (none)) else (if x13 = x9 then (if 0 ≤ x13 then (if x13 < (x5.length : Int) then (ratlineref18_Assign.l1 k x0 (x5.set (x13 : Int).toNat (⟨(rd_T38 x5 x13).f0, (rd_T38 x5 x13).f1, x8⟩ : S38)) x6 (wrap64 (x8 + 1)) (wrap64 (x9 + 1))) else (none)) else (none)) else (if 0 ≤ x13 then (if x13 < (x5.length : Int) then (if 0 ≤ x9 then (if x9 < (x5.length : Int) then ((some (x5.set (x9 : Int).toNat (⟨(rd_T38 x5 x9).f0, (rd_T38 x5 x13).f1, (rd_T38 x5 x9).f2⟩ : S38) : List (S38))).bind fun y151 => (if 0 ≤ ((rd_T38 y151 x9).f1) then (if ((rd_T38 y151 x9).f1) < (x6.length : Int) then ((some (y151.set (x13 : Int).toNat (⟨(rd_T38 y151 x13).f0, (-1), (rd_T38 y151 x13).f2⟩ : S38) : List (S38))).bind fun y154 => (ratlineref18_Assign.l1 k x0 (y154.set (x13 : Int).toNat (⟨(rd_T38 y154 x13).f0, (rd_T38 y154 x13).f1, x8⟩ : S38)) (x6.set (((rd_T38 y151 x9).f1) : Int).toNat x9) (wrap64 (x8 + 1)) (wrap64 (x9 + 1)))) else (none)) else (none))) else (none)) else (none)) else (none)) else (none)))
end
def ratlineref18_Assign.f (k : Nat) (l0 : List (S47)) (a1 : Int) : Option ((List (S38))) := if 0 ≤ (l0.length : Int) then (if ((l0.length : Int) : Int).toNat ≤ 11728124029610 then (if 0 ≤ (mn (mx a1 1) (wrap64 ((l0.length : Int) + 1))) then (if (mn (mx a1 1) (wrap64 ((l0.length : Int) + 1)) : Int).toNat ≤ 35184372088832 then (ratlineref18_Assign.l0 k l0 (List.replicate ((l0.length : Int) : Int).toNat z38) (List.replicate (mn (mx a1 1) (wrap64 ((l0.length : Int) + 1)) : Int).toNat 0) 0) else (none)) else (none)) else (none)) else (none)
theorem ratlineref18_Assign.mono_l : ∀ k, (∀ y0 y1 y2 y3, LeO (ratlineref18_Assign.l0 k y0 y1 y2 y3) (ratlineref18_Assign.l0 (k + 1) y0 y1 y2 y3)) ∧ (∀ y0 y1 y2 y3 y4, LeO (ratlineref18_Assign.l1 k y0 y1 y2 y3 y4) (ratlineref18_Assign.l1 (k + 1) y0 y1 y2 y3 y4)) ∧ (∀ y0 y1 y2 y3 y4 y5 y6, LeO (ratlineref18_Assign.l2 k y0 y1 y2 y3 y4 y5 y6) (ratlineref18_Assign.l2 (k + 1) y0 y1 y2 y3 y4 y5 y6)) ∧ (∀ y0 y1 y2 y3 y4 y5 y6, LeO (ratlineref18_Assign.l3 k y0 y1 y2 y3 y4 y5 y6) (ratlineref18_Assign.l3 (k + 1) y0 y1 y2 y3 y4 y5 y6)) ∧ (∀ y0 y1 y2 y3 y4 y5 y6, LeO (ratlineref18_Assign.l4 k y0 y1 y2 y3 y4 y5 y6) (ratlineref18_Assign.l4 (k + 1) y0 y1 y2 y3 y4 y5 y6))
 | 0 => ⟨fun _ _ _ _ r h => by simp [ratlineref18_Assign.l0] at h, fun _ _ _ _ _ r h => by simp [ratlineref18_Assign.l1] at h, fun _ _ _ _ _ _ _ r h => by simp [ratlineref18_Assign.l2] at h, fun _ _ _ _ _ _ _ r h => by simp [ratlineref18_Assign.l3] at h, fun _ _ _ _ _ _ _ r h => by simp [ratlineref18_Assign.l4] at h⟩
 | k + 1 => by
  obtain ⟨ih0, ih1, ih2, ih3, ih4⟩ := ratlineref18_Assign.mono_l k
  refine ⟨?_, ?_, ?_, ?_, ?_⟩
  ·intro y0 y1 y2 y3
   unfold ratlineref18_Assign.l0
   repeat' first
   | (with_reducible exact ih0 _ _ _ _)
   | (with_reducible exact ih1 _ _ _ _ _)
   | (with_reducible exact ih2 _ _ _ _ _ _ _)
   | (with_reducible exact ih3 _ _ _ _ _ _ _)
   | (with_reducible exact ih4 _ _ _ _ _ _ _)
   | (with_reducible exact LeO.refl _)
   | (with_reducible exact LeO.none _)
   | (with_reducible refine LeO.ite ?_ ?_)
   | (with_reducible refine LeO.bind ?_ (fun _ => ?_))
   | exact ih0 _ _ _ _
   | exact ih1 _ _ _ _ _
   | exact ih2 _ _ _ _ _ _ _
   | exact ih3 _ _ _ _ _ _ _
   | exact ih4 _ _ _ _ _ _ _
   | exact LeO.none _
   | refine LeO.ite ?_ ?_
   | refine LeO.bind ?_ (fun _ => ?_)
  ·intro y0 y1 y2 y3 y4
   unfold ratlineref18_Assign.l1
   repeat' first
   | (with_reducible exact ih0 _ _ _ _)
   | (with_reducible exact ih1 _ _ _ _ _)
   | (with_reducible exact ih2 _ _ _ _ _ _ _)
   | (with_reducible exact ih3 _ _ _ _ _ _ _)
   | (with_reducible exact ih4 _ _ _ _ _ _ _)
   | (with_reducible exact LeO.refl _)
   | (with_reducible exact LeO.none _)
   | (with_reducible refine LeO.ite ?_ ?_)
   | (with_reducible refine LeO.bind ?_ (fun _ => ?_))
   | exact ih0 _ _ _ _
   | exact ih1 _ _ _ _ _
   | exact ih2 _ _ _ _ _ _ _
   | exact ih3 _ _ _ _ _ _ _
   | exact ih4 _ _ _ _ _ _ _
   | exact LeO.none _
   | refine LeO.ite ?_ ?_
   | refine LeO.bind ?_ (fun _ => ?_)
  ·intro y0 y1 y2 y3 y4 y5 y6
   unfold ratlineref18_Assign.l2
   repeat' first
   | (with_reducible exact ih0 _ _ _ _)
   | (with_reducible exact ih1 _ _ _ _ _)
   | (with_reducible exact ih2 _ _ _ _ _ _ _)
   | (with_reducible exact ih3 _ _ _ _ _ _ _)
   | (with_reducible exact ih4 _ _ _ _ _ _ _)
   | (with_reducible exact LeO.refl _)
   | (with_reducible exact LeO.none _)
   | (with_reducible refine LeO.ite ?_ ?_)
   | (with_reducible refine LeO.bind ?_ (fun _ => ?_))
   | exact ih0 _ _ _ _
   | exact ih1 _ _ _ _ _
   | exact ih2 _ _ _ _ _ _ _
   | exact ih3 _ _ _ _ _ _ _
   | exact ih4 _ _ _ _ _ _ _
   | exact LeO.none _
   | refine LeO.ite ?_ ?_
   | refine LeO.bind ?_ (fun _ => ?_)
  ·intro y0 y1 y2 y3 y4 y5 y6
   unfold ratlineref18_Assign.l3
   repeat' first
   | (with_reducible exact ih0 _ _ _ _)
   | (with_reducible exact ih1 _ _ _ _ _)
   | (with_reducible exact ih2 _ _ _ _ _ _ _)
   | (with_reducible exact ih3 _ _ _ _ _ _ _)
   | (with_reducible exact ih4 _ _ _ _ _ _ _)
   | (with_reducible exact LeO.refl _)
   | (with_reducible exact LeO.none _)
   | (with_reducible refine LeO.ite ?_ ?_)
   | (with_reducible refine LeO.bind ?_ (fun _ => ?_))
   | exact ih0 _ _ _ _
   | exact ih1 _ _ _ _ _
   | exact ih2 _ _ _ _ _ _ _
   | exact ih3 _ _ _ _ _ _ _
   | exact ih4 _ _ _ _ _ _ _
   | exact LeO.none _
   | refine LeO.ite ?_ ?_
   | refine LeO.bind ?_ (fun _ => ?_)
  ·intro y0 y1 y2 y3 y4 y5 y6
   unfold ratlineref18_Assign.l4
   repeat' first
   | (with_reducible exact ih0 _ _ _ _)
   | (with_reducible exact ih1 _ _ _ _ _)
   | (with_reducible exact ih2 _ _ _ _ _ _ _)
   | (with_reducible exact ih3 _ _ _ _ _ _ _)
   | (with_reducible exact ih4 _ _ _ _ _ _ _)
   | (with_reducible exact LeO.refl _)
   | (with_reducible exact LeO.none _)
   | (with_reducible refine LeO.ite ?_ ?_)
   | (with_reducible refine LeO.bind ?_ (fun _ => ?_))
   | exact ih0 _ _ _ _
   | exact ih1 _ _ _ _ _
   | exact ih2 _ _ _ _ _ _ _
   | exact ih3 _ _ _ _ _ _ _
   | exact ih4 _ _ _ _ _ _ _
   | exact LeO.none _
   | refine LeO.ite ?_ ?_
   | refine LeO.bind ?_ (fun _ => ?_)
theorem ratlineref18_Assign.mono : ∀ a0 a1 k, LeO (ratlineref18_Assign.f k a0 a1) (ratlineref18_Assign.f (k + 1) a0 a1) := by
 intro a0 a1 k
 obtain ⟨ih0, ih1, ih2, ih3, ih4⟩ := ratlineref18_Assign.mono_l k
 unfold ratlineref18_Assign.f
 repeat' first
   | (with_reducible exact ih0 _ _ _ _)
   | (with_reducible exact ih1 _ _ _ _ _)
   | (with_reducible exact ih2 _ _ _ _ _ _ _)
   | (with_reducible exact ih3 _ _ _ _ _ _ _)
   | (with_reducible exact ih4 _ _ _ _ _ _ _)
   | (with_reducible exact LeO.refl _)
   | (with_reducible exact LeO.none _)
   | (with_reducible refine LeO.ite ?_ ?_)
   | (with_reducible refine LeO.bind ?_ (fun _ => ?_))
   | exact ih0 _ _ _ _
   | exact ih1 _ _ _ _ _
   | exact ih2 _ _ _ _ _ _ _
   | exact ih3 _ _ _ _ _ _ _
   | exact ih4 _ _ _ _ _ _ _
   | exact LeO.none _
   | refine LeO.ite ?_ ?_
   | refine LeO.bind ?_ (fun _ => ?_)
def ratlineref18_Assign.T17 : Bool × List (List Nat × List Nat) := (true, [([], []), ([], []), ([0, 1], [0, 1]), ([2], [2]), ([3], [3]), ([4], [4]), ([5], [5]), ([5], [5]), ([5], [5]), ([7, 8, 5], [5, 7, 8]), ([9, 5], [5, 9]), ([6, 10, 5], [5, 6, 10]), ([11, 5], [5, 11]), ([12, 5], [5, 12]), ([5], [5]), ([5], [5]), ([14, 15, 5], [5, 14, 15]), ([16, 5], [5, 16]), ([17, 5], [5, 17]), ([13, 18, 5], [5, 13, 18]), ([5, 19], [5, 19])])
def ratlineref18_Assign.B17 : List Nat := [0, 0, 3, 7, 15, 31, 63, 63, 63, 447, 959, 2047, 4095, 8191, 63, 63, 49215, 114751, 245823, 524287, 1048575]
theorem ratlineref18_Assign.tab17 : rtab .any (opsOf Try.f10 17) = ratlineref18_Assign.T17 := by kernel_rfl
theorem ratlineref18_Assign.bits17 : waitsOk ratlineref18_Assign.T17.2 ratlineref18_Assign.B17 = true := by kernel_rfl
def ratlineref18_Assign.T31 : Bool × List (List Nat × List Nat) := (true, [([], []), ([], []), ([], []), ([1, 2], [1, 2]), ([3], [3]), ([0, 4], [0, 4]), ([5], [5]), ([], []), ([], []), ([7, 8], [7, 8]), ([9], [9]), ([], []), ([], []), ([11, 6, 0, 1, 2, 3, 4, 5, 6, 11, 12], [6, 11]), ([12, 10, 13, 0, 1, 2, 3, 4, 5, 6, 7, 8, 9, 10, 11, 12, 13], [10, 12])])
def ratlineref18_Assign.B31 : List Nat := [0, 0, 0, 6, 14, 31, 63, 0, 0, 384, 896, 0, 0, 6271, 16383]
theorem ratlineref18_Assign.tab31 : rtab .any (opsOf Try.f10 31) = ratlineref18_Assign.T31 := by kernel_rfl
theorem ratlineref18_Assign.bits31 : waitsOk ratlineref18_Assign.T31.2 ratlineref18_Assign.B31 = true := by kernel_rfl
end Go.Proofs.Ytidhllheipopbaa.XCol
