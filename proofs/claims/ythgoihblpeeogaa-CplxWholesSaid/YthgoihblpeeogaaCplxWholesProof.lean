/- CplxWholes: whatever the four numbers, the call answers true and changes nothing. No condition. -/
import Derived.Test.YthgoihblpeeogaaCplxB
import Derived.Test.YthgoihblpeeogaaFltWhole
import Derived.Test.YthgoihblpeeogaaRows
import Derived.WalkKit
import Derived.ProofKit
import Derived.OpenShut
namespace Go.Proofs.Ythgoihblpeeogaa.cplxWholes
open Go.ChangeShapes Go.WideShapes Go.ChangeAt Go.RowKit
set_option linter.unusedVariables false      -- a walk need not use every 'w<i>' (that an integer argument fits its kind)

theorem own : ownKnob Try.prog.godebug = none := by kernel_rfl

theorem one_eq : (FloatKind.f64.format.order oneB (fw 1) == some .eq) = true := by decide +kernel
theorem of_fw (m n : Int) (w : World) :
    Calls Try.prog 30 #[.int .i64 m, .int .i64 n] w fun e w' => e = .returned (.complex .f64 (fw m) (fw n)) ∧ w = w' := of_calls m n w

/-! ### STEP 1: THE WALK: the Go text returns true. 'Grown w w'': the world has at most new blocks (Derived/RowKit3.lean). Part the cases AHEAD of 'go_enter' where a test parts the walk; take each callee by a contract of your own. -/
theorem walk (a0 : Int) (a1 : Int) (a2 : Int) (a3 : Int) (w0 : (Lit.int .i64 a0).wf = true) (w1 : (Lit.int .i64 a1).wf = true) (w2 : (Lit.int .i64 a2).wf = true) (w3 : (Lit.int .i64 a3).wf = true) (w : World) :
    Calls Try.prog 8 #[.int .i64 a0, .int .i64 a1, .int .i64 a2, .int .i64 a3] w fun e w' => e = .returned (.bool true) ∧ Grown w w' := by
  obtain ⟨A, hA, hA1, hA2⟩ := mask20 a0
  obtain ⟨B, hB, hB1, hB2⟩ := mask20 a1
  obtain ⟨C, hC, hC1, hC2⟩ := mask20 a2
  obtain ⟨D, hD, hD1, hD2⟩ := mask20 a3
  obtain ⟨s1, s2, s3⟩ := sum_fw A B C D (by omega) (by omega) (by omega) (by omega)
  obtain ⟨p1, p2, p3⟩ := mul_fw A B C D (by omega) (by omega) (by omega) (by omega)
  obtain ⟨q1, q2, q3⟩ := square_fw A B (by omega) (by omega)
  obtain ⟨k1, k2⟩ := conj_fw A B (by omega) (by omega)
  obtain ⟨m1, m1'⟩ := small_mul A C (by omega) (by omega)
  obtain ⟨m2, m2'⟩ := small_mul B D (by omega) (by omega)
  obtain ⟨m3, m3'⟩ := small_mul A D (by omega) (by omega)
  obtain ⟨m4, m4'⟩ := small_mul B C (by omega) (by omega)
  obtain ⟨m5, m5'⟩ := small_mul A A (by omega) (by omega)
  obtain ⟨m6, m6'⟩ := small_mul B B (by omega) (by omega)
  have e1 := eq_fw (A + C) (by omega)
  have e2 := eq_fw (B + D) (by omega)
  have e3 := eq_fw (A * C - B * D) (by omega)
  have e4 := eq_fw (A * D + B * C) (by omega)
  have e5 := eq_fw (A * A + B * B) (by omega)
  have e6 := eq_fw 0 (by omega)
  have e7 := eq_fw 1 (by omega)
  clear w0 w1 w2 w3
  by_cases hc : C = 0
  · have c0 : (C == 0) = true := beq_iff_eq.2 hc
    by_cases hd : D = 0
    · have d0 : (D == 0) = true := beq_iff_eq.2 hd
      have dE : divEr (fw (A * C - B * D)) (fw (A * D + B * C)) (fw C) (fw D) = 2 := by rw [hc, hd, fw_zero]; exact div_none _ _
      clear hc hd
      go_enter Try.func8, Try.ntmps8
      go_wp2_with (first | (go_at_call 30; refine (of_fw _ _ _).mono ?_; rintro e w' ⟨rfl, rfl⟩) | (go_at_call 24; refine (add_calls _ _ _ _ _).mono ?_; rintro e wa ⟨rfl, hda⟩) | (go_at_call 20; refine (mul_calls _ _ _ _ _).mono ?_; rintro e wa ⟨rfl, hda⟩) | (go_at_call 22; refine (div_calls _ _ _ _ _).mono ?_; rintro e wa ⟨rfl, hda⟩) | (go_at_call 27; refine (conj_calls _ _ _).mono ?_; rintro e w' ⟨rfl, rfl⟩) | (go_at_call 19; refine (awake_calls _).mono ?_; rintro e w9 ⟨rfl, hd9⟩))
      all_goals (go_ret; refine ⟨by simp, Drawn.grown ?_⟩; (repeat (refine Drawn.trans ?_ (by assumption))); exact Drawn.refl _)
    · have d0 : (D == 0) = false := beq_eq_false_iff_ne.2 hd
      obtain ⟨v1, v2, v3⟩ := div_self_fw C D (by omega) (by omega) (.inr hd)
      have e8 := one_eq
      clear hc hd
      go_enter Try.func8, Try.ntmps8
      go_wp2_with (first | (go_at_call 30; refine (of_fw _ _ _).mono ?_; rintro e w' ⟨rfl, rfl⟩) | (go_at_call 24; refine (add_calls _ _ _ _ _).mono ?_; rintro e wa ⟨rfl, hda⟩) | (go_at_call 20; refine (mul_calls _ _ _ _ _).mono ?_; rintro e wa ⟨rfl, hda⟩) | (go_at_call 22; refine (div_calls _ _ _ _ _).mono ?_; rintro e wa ⟨rfl, hda⟩) | (go_at_call 27; refine (conj_calls _ _ _).mono ?_; rintro e w' ⟨rfl, rfl⟩) | (go_at_call 19; refine (awake_calls _).mono ?_; rintro e w9 ⟨rfl, hd9⟩))
      all_goals (go_ret; refine ⟨by simp, Drawn.grown ?_⟩; (repeat (refine Drawn.trans ?_ (by assumption))); exact Drawn.refl _)
  · have c0 : (C == 0) = false := beq_eq_false_iff_ne.2 hc
    obtain ⟨v1, v2, v3⟩ := div_self_fw C D (by omega) (by omega) (.inl hc)
    have e8 := one_eq
    clear hc
    go_enter Try.func8, Try.ntmps8
    go_wp2_with (first | (go_at_call 30; refine (of_fw _ _ _).mono ?_; rintro e w' ⟨rfl, rfl⟩) | (go_at_call 24; refine (add_calls _ _ _ _ _).mono ?_; rintro e wa ⟨rfl, hda⟩) | (go_at_call 20; refine (mul_calls _ _ _ _ _).mono ?_; rintro e wa ⟨rfl, hda⟩) | (go_at_call 22; refine (div_calls _ _ _ _ _).mono ?_; rintro e wa ⟨rfl, hda⟩) | (go_at_call 27; refine (conj_calls _ _ _).mono ?_; rintro e w' ⟨rfl, rfl⟩) | (go_at_call 19; refine (awake_calls _).mono ?_; rintro e w9 ⟨rfl, hd9⟩))
    all_goals (go_ret; refine ⟨by simp, Drawn.grown ?_⟩; (repeat (refine Drawn.trans ?_ (by assumption))); exact Drawn.refl _)

/-! ### THE ROW's STEP: WRITTEN OUT: LEAVE IT -/
set_option maxRecDepth 100000 in
theorem lifted (os : Os) (started : os.Started) (H : Type) (enc : TypeId × Value → H) :
    ReturnsInHanded {} Try.checked os 8 .any (Rows.cplxWholesSpec.pre6 enc Try.prog Try.f8 Rows.cplxWholesRow.domain false) (Rows.cplxWholesSpec.post enc Try.prog Try.f8 false true false false) := by
  refine returnsInHanded_of_change (C := Try.checked) own started (by kernel_rfl) Try.func8
    (ChangeSpec.witness6 (enc := enc) (C := Try.checked) false ⟨#[], #[.int .i64 0, .int .i64 0, .int .i64 0, .int .i64 0], []⟩ 8 (by kernel_rfl) (by kernel_rfl) (by kernel_rfl) (by kernel_rfl)) ?_
  intro W base args ds gs before hval0 hW hcnd _
  have hval : ∀ (j : Nat) t v, Try.f8.params[j]? = some t → args[j]? = some v → Value.okWide Try.prog W .any base t v := hval0
  have hW' := hW
  obtain ⟨p, q, hA0, hV, rfl, hfz, hnd⟩ := hW
  have hA : DataW.TrodAll enc Try.prog W 0 (fun _ => true) true Try.f8.params.toList args.toList ds p := hA0
  rw [Try.params8] at hA hval
  obtain ⟨v0, vs0, d0, ds0, p0, q0, hargs, rfl, rfl, h0, r0⟩ := trodAll_cons hA
  obtain ⟨v1, vs1, d1, ds1, p1, q1, rfl, rfl, rfl, h1, r1⟩ := trodAll_cons r0
  obtain ⟨v2, vs2, d2, ds2, p2, q2, rfl, rfl, rfl, h2, r2⟩ := trodAll_cons r1
  obtain ⟨v3, vs3, d3, ds3, p3, q3, rfl, rfl, rfl, h3, r3⟩ := trodAll_cons r2
  obtain ⟨rfl, rfl, rfl⟩ := trodAll_nil r3
  obtain rfl : args = #[v0, v1, v2, v3] := by cases args; simp_all
  obtain ⟨rfl, rfl⟩ := trodVars_none hV
  obtain ⟨a0, rfl, rfl, rfl, w0⟩ := open_int Try.underlying3 (hval 0 3 v0 rfl rfl) h0
  obtain ⟨a1, rfl, rfl, rfl, w1⟩ := open_int Try.underlying3 (hval 1 3 v1 rfl rfl) h1
  obtain ⟨a2, rfl, rfl, rfl, w2⟩ := open_int Try.underlying3 (hval 2 3 v2 rfl rfl) h2
  obtain ⟨a3, rfl, rfl, rfl, w3⟩ := open_int Try.underlying3 (hval 3 3 v3 rfl rfl) h3
  clear hA0 hval0
  simp only [List.append_nil] at hW'
  refine (walk a0 a1 a2 a3 w0 w1 w2 w3 W).mono fun e W' ⟨he, hg⟩ => ?_
  subst he
  exact ⟨_, rfl, post_of_same (pa := []) (pv := []) hW' (fun _ _ _ => (trodAll_cons_mk (shut_bool Try.underlying4 _) trodAll_mk0)) (fun sp _ => (trodAll_cons_mk (shut_int Try.underlying3 w0) (trodAll_cons_mk (shut_int Try.underlying3 w1) (trodAll_cons_mk (shut_int Try.underlying3 w2) (trodAll_cons_mk (shut_int Try.underlying3 w3) trodAll_mk0))))) (fun _ _ => rfl) rfl
    (hg.frame _) hg.2.1 (ok_one (by kernel_rfl) rfl (okWide_bool_mk Try.underlying4 _))⟩

theorem over : Rows.cplxWholesRow.holds Try.pinned (OpenSpec.ofChange Rows.cplxWholesSpec) :=
  OpenClaim.holds_of_wide 8 Try.f8 rfl rfl rfl rfl rfl rfl rfl ⟨rfl, rfl, rfl, rfl, rfl⟩ rfl rfl rfl rfl rfl (by kernel_rfl) Try.func8 (by kernel_rfl)
    (of_decide_eq_true (by kernel_rfl)) (by unfold Func.isWrapper; first | (rw [if_pos (by decide +kernel)]; kernel_rfl) | (rw [if_neg (by decide +kernel)]; exact ⟨rfl, rfl⟩))
    (fun os started H enc _ => lifted os started H enc)

/-- ████ THE STATEMENT ████ -/
theorem proved : Rows.CplxWholesSaid :=
  over
#print axioms proved
end Go.Proofs.Ythgoihblpeeogaa.cplxWholes
