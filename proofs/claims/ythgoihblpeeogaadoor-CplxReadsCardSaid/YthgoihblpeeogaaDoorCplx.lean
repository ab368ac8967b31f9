/- Contracts of package cplx's and the references' functions on complex numbers, each walked once. -/
import Derived.Test.YthgoihblpeeogaaDoorProg
import Derived.Test.YthgoihblpeeogaaDoorFlt
import Derived.WalkKit
import Derived.WalkSpells
import Derived.WalkLawsBesides
namespace Go.Proofs.YthgoihblpeeogaaDoor
open Go.RowKit

theorem run_frombits (n : Int) (w : World) : (callFunc 17 #[.int .u64 n]).run Tryd.prog w = .ok (.value (.float .f64 n.toNat)) w := by
  rw [run_callFunc_extern (e := Extern.MathFloatBits.float64frombits) Tryd.func17 (by kernel_rfl) (by kernel_rfl) (by kernel_rfl) (by kernel_rfl)]
  rfl
theorem run_bits (n : Nat) (w : World) : (callFunc 13 #[.float .f64 n]).run Tryd.prog w = .ok (.value (.int .u64 n)) w := by
  rw [run_callFunc_extern (e := Extern.MathFloatBits.float64bits) Tryd.func13 (by kernel_rfl) (by kernel_rfl) (by kernel_rfl) (by kernel_rfl)]
  rfl
attribute [local go_sem] run_frombits run_bits

theorem isNaN_calls (x : Nat) (w : World) :
    Calls Tryd.prog 39 #[.float .f64 x] w fun e w' => e = .returned (.bool (isNan x)) ∧ w = w' := by
  go_enter Tryd.func39, Tryd.ntmps39
  go_wp2
  go_ret
  exact ⟨by rw [← order_self]; rfl, rfl⟩
theorem abs_calls (x : Nat) (w : World) :
    Calls Tryd.prog 54 #[.float .f64 x] w fun e w' => e = .returned (.float .f64 (x % 2 ^ 63)) ∧ w = w' := by
  go_enter Tryd.func54, Tryd.ntmps54
  go_wp2
  go_ret
  exact ⟨by rw [← bits_abs]; rfl, rfl⟩
theorem signbit_calls (x : Nat) (w : World) :
    Calls Tryd.prog 32 #[.float .f64 x] w fun e w' => e = .returned (.bool (minusB x)) ∧ w = w' := by
  go_enter Tryd.func32, Tryd.ntmps32
  go_wp2
  go_ret
  exact ⟨by rw [← sign_wrap]; rfl, rfl⟩
theorem isInf_calls (x : Nat) (w : World) :
    Calls Tryd.prog 38 #[.float .f64 x, .int .i64 0] w fun e w' => e = .returned (.bool (isInfB x)) ∧ w = w' := by
  go_enter Tryd.func38, Tryd.ntmps38
  go_wp2_with (go_at_call 54; refine (abs_calls _ _).mono ?_; rintro e w' ⟨rfl, rfl⟩)
  go_ret
  exact ⟨by rw [← order_top]; rfl, rfl⟩
theorem whole_calls (x : Nat) (w : World) :
    Calls Tryd.prog 40 #[.float .f64 x] w fun e w' => e = .returned (.tuple #[.float .f64 (if fin x then cl x else 0), .bool (fin x)]) ∧ w = w' := by
  have hz : (FloatKind.f64.format.order x 0 == some .eq) = nought x := order_zero x
  go_enter Tryd.func40, Tryd.ntmps40
  go_wp2_with (first | (go_at_call 39; refine (isNaN_calls _ _).mono ?_; rintro e w' ⟨rfl, rfl⟩) | (go_at_call 38; refine (isInf_calls _ _).mono ?_; rintro e w' ⟨rfl, rfl⟩))
  all_goals (go_ret2; refine ⟨?_, rfl⟩; simp_all [fin_eq, cl_eq])
theorem clean_calls (a b : Nat) (w : World) :
    Calls Tryd.prog 33 #[.complex .f64 a b] w fun e w' => e = .returned (.tuple #[.complex .f64 (cre a b) (cim a b), .int .i64 (cer a b)]) ∧ w = w' := by
  go_enter Tryd.func33, Tryd.ntmps33
  go_wp2_with (go_at_call 40; refine (whole_calls _ _).mono ?_; rintro e w' ⟨rfl, rfl⟩)
  all_goals (go_ret2; refine ⟨?_, rfl⟩; simp_all [cre, cim, cer])
theorem good_calls (x : Nat) (w : World) :
    Calls Tryd.prog 31 #[.float .f64 x] w fun e w' => e = .returned (.bool (goodB x)) ∧ w = w' := by
  have hz : (FloatKind.f64.format.order x 0 == some .eq) = nought x := order_zero x
  go_enter Tryd.func31, Tryd.ntmps31
  go_wp2_with (first | (go_at_call 39; refine (isNaN_calls _ _).mono ?_; rintro e w' ⟨rfl, rfl⟩) | (go_at_call 38; refine (isInf_calls _ _).mono ?_; rintro e w' ⟨rfl, rfl⟩) | (go_at_call 32; refine (signbit_calls _ _).mono ?_; rintro e w' ⟨rfl, rfl⟩))
  all_goals (go_ret; refine ⟨?_, rfl⟩; simp_all [fin_eq, goodB])
theorem ok_calls (a b : Nat) (w : World) :
    Calls Tryd.prog 18 #[.complex .f64 a b] w fun e w' => e = .returned (.bool (okB a b)) ∧ w = w' := by
  go_enter Tryd.func18, Tryd.ntmps18
  go_wp2_with (go_at_call 31; refine (good_calls _ _).mono ?_; rintro e w' ⟨rfl, rfl⟩)
  all_goals (go_ret; refine ⟨?_, rfl⟩; simp_all [okB])
theorem parts_calls (a b : Nat) (w : World) :
    Calls Tryd.prog 22 #[.complex .f64 a b] w fun e w' => e = .returned (.tuple #[.float .f64 (cre a b), .float .f64 (cim a b)]) ∧ w = w' := by
  go_enter Tryd.func22, Tryd.ntmps22
  go_wp2_with (go_at_call 33; refine (clean_calls _ _ _).mono ?_; rintro e w' ⟨rfl, rfl⟩)
  go_ret2
  exact ⟨rfl, rfl⟩
-- the references' own
theorem finite_calls (x : Nat) (w : World) :
    Calls Tryd.prog 19 #[.float .f64 x] w fun e w' => e = .returned (.bool (fin x)) ∧ w = w' := by
  have hf := finite_is x
  go_enter Tryd.func19, Tryd.ntmps19
  go_wp2
  all_goals (go_ret; refine ⟨?_, rfl⟩; rw [← hf]; clear hf; simp_all)
theorem part_calls (x : Nat) (w : World) :
    Calls Tryd.prog 21 #[.float .f64 x] w fun e w' => e = .returned (.float .f64 (cl x)) ∧ w = w' := by
  have hz : (FloatKind.f64.format.order x 0 == some .eq) = nought x := order_zero x
  go_enter Tryd.func21, Tryd.ntmps21
  go_wp2
  all_goals (go_ret; refine ⟨?_, rfl⟩; simp_all [cl_eq])
theorem minus_calls (x : Nat) (w : World) :
    Calls Tryd.prog 20 #[.float .f64 x] w fun e w' => e = .returned (.bool (nought x && minusB x)) ∧ w = w' := by
  have hz : (FloatKind.f64.format.order x 0 == some .eq) = nought x := order_zero x
  go_enter Tryd.func20, Tryd.ntmps20
  go_wp2_with (go_at_call 32; refine (signbit_calls _ _).mono ?_; rintro e w' ⟨rfl, rfl⟩)
  all_goals (go_ret; refine ⟨?_, rfl⟩; simp_all)
theorem refClean_calls (a b : Nat) (w : World) :
    Calls Tryd.prog 9 #[.complex .f64 a b] w fun e w' => e = .returned (.tuple #[.complex .f64 (cre a b) (cim a b), .int .i64 (cer a b)]) ∧ w = w' := by
  go_enter Tryd.func9, Tryd.ntmps9
  go_wp2_with (first | (go_at_call 19; refine (finite_calls _ _).mono ?_; rintro e w' ⟨rfl, rfl⟩) | (go_at_call 21; refine (part_calls _ _).mono ?_; rintro e w' ⟨rfl, rfl⟩))
  all_goals (go_ret2; refine ⟨?_, rfl⟩; simp_all [cre, cim, cer])
theorem sound_calls (a b : Nat) (w : World) :
    Calls Tryd.prog 7 #[.complex .f64 a b] w fun e w' => e = .returned (.bool (okB a b)) ∧ w = w' := by
  go_enter Tryd.func7, Tryd.ntmps7
  go_wp2_with (first | (go_at_call 19; refine (finite_calls _ _).mono ?_; rintro e w' ⟨rfl, rfl⟩) | (go_at_call 20; refine (minus_calls _ _).mono ?_; rintro e w' ⟨rfl, rfl⟩))
  all_goals (go_ret; refine ⟨?_, rfl⟩; simp_all [okB, goodB])
theorem sane_calls (a b : Nat) (w : World) :
    Calls Tryd.prog 25 #[.complex .f64 a b] w fun e w' => e = .returned (.complex .f64 (cre a b) (cim a b)) ∧ w = w' := by
  go_enter Tryd.func25, Tryd.ntmps25
  go_wp2_with (go_at_call 9; refine (refClean_calls _ _ _).mono ?_; rintro e w' ⟨rfl, rfl⟩)
  go_ret
  exact ⟨rfl, rfl⟩
theorem run_negf {P : Program} (b : Nat) (w : World) : (Op.unary .neg (.float .f64 b)).run P w = .ok (.float .f64 (ng b)) w := rfl
attribute [local go_sem] run_negf
theorem run_fadd {P : Program} (t : TypeId) (x y : Nat) (w : World) : (binOp .add t (.float .f64 x) (.float .f64 y)).run P w = .ok (.float .f64 (fres .add x y w)) (fnext .add x y w) := run_fl .add (.inl rfl) t x y w
theorem run_fsub {P : Program} (t : TypeId) (x y : Nat) (w : World) : (binOp .sub t (.float .f64 x) (.float .f64 y)).run P w = .ok (.float .f64 (fres .sub x y w)) (fnext .sub x y w) := run_fl .sub (.inr (.inl rfl)) t x y w
theorem run_fquo {P : Program} (t : TypeId) (x y : Nat) (w : World) : (binOp .quo t (.float .f64 x) (.float .f64 y)).run P w = .ok (.float .f64 (fres .quo x y w)) (fnext .quo x y w) := run_fl .quo (.inr (.inr (.inr rfl))) t x y w
theorem run_fmul {P : Program} (t : TypeId) (x y : Nat) (w : World) (hx : fin x = true) (hy : fin y = true) : (binOp .mul t (.float .f64 x) (.float .f64 y)).run P w = .ok (.float .f64 (fmul x y)) w :=
  run_float_arith w .mul t .f64 x y _ (fmul_is x y hx hy)
attribute [local go_sem] run_fadd run_fsub run_fmul run_fquo fin_cre fin_cim
theorem mul_calls (a b c d : Nat) (w : World) :
    Calls Tryd.prog 27 #[.complex .f64 a b, .complex .f64 c d] w fun e w' => e = .returned (.tuple #[.complex .f64 (reO (mulO a b c d)) (imO (mulO a b c d)), .int .i64 (erO (mulO a b c d))]) ∧ Drawn w w' := by
  go_enter Tryd.func27, Tryd.ntmps27
  go_wp2_with (first | (go_at_call 22; refine (parts_calls _ _ _).mono ?_; rintro e w' ⟨rfl, rfl⟩) | (go_at_call 33; refine (clean_calls _ _ _).mono ?_; rintro e w' ⟨rfl, rfl⟩) | (go_at_call 38; refine (isInf_calls _ _).mono ?_; rintro e w' ⟨rfl, rfl⟩))
  go_ret2
  refine ⟨?_, (Drawn.refl _).fnext.fnext⟩
  simp only [cre_fres, cim_fres, cer_fres]; rfl
theorem div_calls (a b c d : Nat) (w : World) :
    Calls Tryd.prog 29 #[.complex .f64 a b, .complex .f64 c d] w fun e w' => e = .returned (.tuple #[.complex .f64 (divRe a b c d) (divIm a b c d), .int .i64 (divEr a b c d)]) ∧ Drawn w w' := by
  have h1 := order_zero (cre c d)
  have h2 := order_zero (cim c d)
  have h3 := order_zero (sumsq (cre c d) (cim c d))
  have hs := sumsq_is (cre c d) (cim c d) (fin_cre _ _) (fin_cim _ _)
  have hq : ∀ w, (binOp .add 36 (.float .f64 (fmul (cre c d) (cre c d))) (.float .f64 (fmul (cim c d) (cim c d)))).run Tryd.prog w = .ok (.float .f64 (sumsq (cre c d) (cim c d))) w := fun w => run_float_arith w .add _ .f64 _ _ _ hs
  have hn := sumsq_not_nan (cre c d) (cim c d) (fin_cre _ _) (fin_cim _ _)
  have hf := fin_eq (sumsq (cre c d) (cim c d))
  rw [hn] at hf
  clear hs hn
  go_enter Tryd.func29, Tryd.ntmps29
  go_wp2_with (first | (go_at_call 22; refine (parts_calls _ _ _).mono ?_; rintro e w' ⟨rfl, rfl⟩) | (go_at_call 33; refine (clean_calls _ _ _).mono ?_; rintro e w' ⟨rfl, rfl⟩) | (go_at_call 38; refine (isInf_calls _ _).mono ?_; rintro e w' ⟨rfl, rfl⟩))
  all_goals
    go_ret2
    refine ⟨?_, ?_⟩
    · clear hq
      try simp only [beq_iff_eq, order_zero_iff] at h3
      cases e1 : nought (cre c d) <;> cases e2 : nought (cim c d) <;> simp_all [divRe, divIm, divEr, cre_quo, cim_quo, cer_quo, divP]
    · first | exact Drawn.refl _ | exact (Drawn.refl _).fnext.fnext.fnext.fnext
end Go.Proofs.YthgoihblpeeogaaDoor
