/- Contracts: Of, Neg, Conj, Same and their references; the laws' own helpers bits, same, Of, awake. -/
import Derived.Test.YthgoihblpeeogaaDoorCplx
namespace Go.Proofs.YthgoihblpeeogaaDoor
open Go.RowKit
attribute [local go_sem] run_frombits run_bits run_negf

theorem of_calls (m n : Int) (w : World) :
    Calls Tryd.prog 28 #[.int .i64 m, .int .i64 n] w fun e w' => e = .returned (.complex .f64 (floatOfInt .f64 m) (floatOfInt .f64 n)) ∧ w = w' := by
  go_enter Tryd.func28, Tryd.ntmps28
  go_wp2
  go_ret
  exact ⟨rfl, rfl⟩
theorem lawOf_calls (m n : Int) (w : World) :
    Calls Tryd.prog 5 #[.int .u64 m, .int .u64 n] w fun e w' => e = .returned (.complex .f64 m.toNat n.toNat) ∧ w = w' := by
  go_enter Tryd.func5, Tryd.ntmps5
  go_wp2
  go_ret
  exact ⟨rfl, rfl⟩
theorem beq_cast (x y : Nat) : ((x : Int) == (y : Int)) = decide (x = y) := by rw [Bool.eq_iff_iff]; simp; omega
def sameB (a b c d : Nat) : Bool := decide (a = c) && decide (b = d)
theorem bits_calls (a b c d : Nat) (w : World) :
    Calls Tryd.prog 8 #[.complex .f64 a b, .complex .f64 c d] w fun e w' => e = .returned (.bool (sameB a b c d)) ∧ w = w' := by
  go_enter Tryd.func8, Tryd.ntmps8
  go_wp2
  all_goals (go_ret; refine ⟨?_, rfl⟩; simp_all [sameB, beq_cast, Int.natCast_inj])
theorem bits_yes (a b : Nat) (w : World) :
    Calls Tryd.prog 8 #[.complex .f64 a b, .complex .f64 a b] w fun e w' => e = .returned (.bool true) ∧ w = w' :=
  (bits_calls a b a b w).mono fun e w' ⟨he, hw⟩ => ⟨by rw [he]; simp [sameB], hw⟩
/-! what the document fixes -/
theorem of_zero : floatOfInt .f64 0 = 0 := by decide +kernel
theorem of_one : floatOfInt .f64 1 = oneB := by decide +kernel
theorem i_re : reO (mulO 0 oneB 0 oneB) = mOneB := by decide +kernel
theorem i_im : imO (mulO 0 oneB 0 oneB) = 0 := by decide +kernel
theorem i_er : erO (mulO 0 oneB 0 oneB) = 0 := by decide +kernel
theorem z_re : divRe oneB 0 0 0 = 0 := by decide +kernel
theorem z_im : divIm oneB 0 0 0 = 0 := by decide +kernel
theorem z_er : divEr oneB 0 0 0 = 2 := by decide +kernel
theorem of_calls01 (w : World) : Calls Tryd.prog 28 #[.int .i64 0, .int .i64 1] w fun e w' => e = .returned (.complex .f64 0 oneB) ∧ w = w' :=
  (of_calls 0 1 w).mono fun e w' ⟨he, hw⟩ => ⟨by rw [he, of_zero, of_one], hw⟩
theorem of_calls10 (w : World) : Calls Tryd.prog 28 #[.int .i64 1, .int .i64 0] w fun e w' => e = .returned (.complex .f64 oneB 0) ∧ w = w' :=
  (of_calls 1 0 w).mono fun e w' ⟨he, hw⟩ => ⟨by rw [he, of_zero, of_one], hw⟩
theorem of_calls00 (w : World) : Calls Tryd.prog 28 #[.int .i64 0, .int .i64 0] w fun e w' => e = .returned (.complex .f64 0 0) ∧ w = w' :=
  (of_calls 0 0 w).mono fun e w' ⟨he, hw⟩ => ⟨by rw [he, of_zero], hw⟩
theorem mul_ii (w : World) : Calls Tryd.prog 27 #[.complex .f64 0 oneB, .complex .f64 0 oneB] w fun e w' => e = .returned (.tuple #[.complex .f64 mOneB 0, .int .i64 0]) ∧ Drawn w w' :=
  (mul_calls 0 oneB 0 oneB w).mono fun e w' ⟨he, hw⟩ => ⟨by rw [he, i_re, i_im, i_er], hw⟩
theorem div_10 (w : World) : Calls Tryd.prog 29 #[.complex .f64 oneB 0, .complex .f64 0 0] w fun e w' => e = .returned (.tuple #[.complex .f64 0 0, .int .i64 2]) ∧ Drawn w w' :=
  (div_calls oneB 0 0 0 w).mono fun e w' ⟨he, hw⟩ => ⟨by rw [he, z_re, z_im, z_er], hw⟩
theorem m_eq : (FloatKind.f64.format.order mOneB 13830554455654793216 == some .eq) = true := by decide +kernel
theorem m_ok : okB mOneB 0 = true := by decide +kernel
theorem ok_m (w : World) : Calls Tryd.prog 18 #[.complex .f64 mOneB 0] w fun e w' => e = .returned (.bool true) ∧ w = w' :=
  (ok_calls mOneB 0 w).mono fun e w' ⟨he, hw⟩ => ⟨by rw [he, m_ok], hw⟩
theorem zero_eq : (FloatKind.f64.format.order 0 0 == some .eq) = true := by decide +kernel
theorem awake_calls (w : World) : Calls Tryd.prog 15 #[] w fun e w' => e = .returned (.bool true) ∧ Drawn w w' := by
  have h1 := m_eq
  have h2 := zero_eq
  go_enter Tryd.func15, Tryd.ntmps15
  go_wp2_with (first | (go_at_call 28; first | ((with_reducible refine (of_calls01 _).mono ?_); rintro e w' ⟨rfl, rfl⟩) | ((with_reducible refine (of_calls10 _).mono ?_); rintro e w' ⟨rfl, rfl⟩) | ((with_reducible refine (of_calls00 _).mono ?_); rintro e w' ⟨rfl, rfl⟩)) | (go_at_call 27; refine (mul_ii _).mono ?_; rintro e w1 ⟨rfl, hd1⟩) | (go_at_call 29; refine (div_10 _).mono ?_; rintro e w2 ⟨rfl, hd2⟩) | (go_at_call 18; refine (ok_m _).mono ?_; rintro e w' ⟨rfl, rfl⟩))
  go_ret
  exact ⟨rfl, hd1.trans hd2⟩
end Go.Proofs.YthgoihblpeeogaaDoor
