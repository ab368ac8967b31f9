-- written by gprint.py: the printer run with given contracts
import Derived.Test.YtmmndmfphcbieaaDoorXLexx0
namespace Go.Proofs.YtmmndmfphcbieaaDoor.XLex
open Go.RowKit Go.Proofs.YtmmndmfphcbieaaDoorW.PrintWords Go.Proofs.YtmmndmfphcbieaaDoorW.PrintLast Go.Proofs.YtmmndmfphcbieaaDoorW.PrintMore
attribute [local go_sem] max2_int min2_int max_two min_two max_three min_three max_four min_four   -- for this text's walks alone
set_option linter.unusedVariables false
set_option linter.unusedSimpArgs false

/-! ### ratlineref4_text: function 20 -/
mutual
def ratlineref4_text.l0 : Nat → ByteArray → ByteArray → Int → Option (ByteArray × Int × Bool)
  | 0, _, _, _ => none
  | k + 1, x0, x7, x8 => if x8 < (x0.size : Int) then (if 0 ≤ x8 then (if (bt x0 x8) = 34 then (some (x7, wrap64 (x8 + 1), true)) else (if (bt x0 x8) = 10 then (some ((⟨#[]⟩ : ByteArray), 0, false)) else (if (bt x0 x8) = 92 then (if (wrap64 (x8 + 1)) = (x0.size : Int) then (some ((⟨#[]⟩ : ByteArray), 0, false)) else (if 0 ≤ (wrap64 (x8 + 1)) then (if (wrap64 (x8 + 1)) < (x0.size : Int) then (if (bt x0 (wrap64 (x8 + 1))) = 34 then (ratlineref4_text.j1 k x0 x7 (wrap64 (x8 + 1)) (bt x0 (wrap64 (x8 + 1))) ((bt x0 (wrap64 (x8 + 1))) == 34)) else (ratlineref4_text.j1 k x0 x7 (wrap64 (x8 + 1)) (bt x0 (wrap64 (x8 + 1))) ((bt x0 (wrap64 (x8 + 1))) == 92))) else (none)) else (none))) else (if x8 ≤ (wrap64 (x8 + 1)) then (if (wrap64 (x8 + 1)) ≤ (x0.size : Int) then (if x7.size + (x0.extract (x8 : Int).toNat ((wrap64 (x8 + 1)) : Int).toNat).size ≤ 9223372036854775807 then (ratlineref4_text.l0 k x0 (x7 ++ (x0.extract (x8 : Int).toNat ((wrap64 (x8 + 1)) : Int).toNat)) (wrap64 (x8 + 1))) else (none)) else (none)) else (none))))) else (none)) else (some ((⟨#[]⟩ : ByteArray), 0, false))
def ratlineref4_text.j1 : Nat → ByteArray → ByteArray → Int → Int → Bool → Option (ByteArray × Int × Bool)
  | 0, _, _, _, _, _ => none
  | k + 1, x0, x7, x8, x44, x45 => if x45 = true then (if 0 ≤ x8 then (if x8 ≤ (wrap64 (x8 + 1)) then (if (wrap64 (x8 + 1)) ≤ (x0.size : Int) then (if x7.size + (x0.extract (x8 : Int).toNat ((wrap64 (x8 + 1)) : Int).toNat).size ≤ 9223372036854775807 then (ratlineref4_text.l0 k x0 (x7 ++ (x0.extract (x8 : Int).toNat ((wrap64 (x8 + 1)) : Int).toNat)) (wrap64 (x8 + 1))) else (none)) else (none)) else (none)) else (none)) else (if x44 = 110 then (if x7.size + 1 ≤ 9223372036854775807 then (ratlineref4_text.l0 k x0 (x7 ++ (⟨#[10]⟩ : ByteArray)) (wrap64 (x8 + 1))) else (none)) else (some ((⟨#[]⟩ : ByteArray), 0, false)))
end
def ratlineref4_text.f (k : Nat) (a0 : ByteArray) (a1 : Int) : Option (ByteArray × Int × Bool) := ratlineref4_text.l0 k a0 (⟨#[]⟩ : ByteArray) (wrap64 (a1 + 1))
theorem ratlineref4_text.mono_l : ∀ k, (∀ y0 y1 y2, LeO (ratlineref4_text.l0 k y0 y1 y2) (ratlineref4_text.l0 (k + 1) y0 y1 y2)) ∧ (∀ y0 y1 y2 y3 y4, LeO (ratlineref4_text.j1 k y0 y1 y2 y3 y4) (ratlineref4_text.j1 (k + 1) y0 y1 y2 y3 y4))
  | 0 => ⟨fun _ _ _ r h => by simp [ratlineref4_text.l0] at h, fun _ _ _ _ _ r h => by simp [ratlineref4_text.j1] at h⟩
  | k + 1 => by
    obtain ⟨ih0, ih1⟩ := ratlineref4_text.mono_l k
    refine ⟨?_, ?_⟩
    · intro y0 y1 y2
      unfold ratlineref4_text.l0
      repeat' first
      | (with_reducible exact ih0 _ _ _)
      | (with_reducible exact ih1 _ _ _ _ _)
      | (with_reducible exact LeO.refl _)
      | (with_reducible exact LeO.none _)
      | (with_reducible refine LeO.ite ?_ ?_)
      | (with_reducible refine LeO.bind ?_ (fun _ => ?_))
      | exact ih0 _ _ _
      | exact ih1 _ _ _ _ _
      | exact LeO.none _
      | refine LeO.ite ?_ ?_
      | refine LeO.bind ?_ (fun _ => ?_)
    · intro y0 y1 y2 y3 y4
      unfold ratlineref4_text.j1
      repeat' first
      | (with_reducible exact ih0 _ _ _)
      | (with_reducible exact ih1 _ _ _ _ _)
      | (with_reducible exact LeO.refl _)
      | (with_reducible exact LeO.none _)
      | (with_reducible refine LeO.ite ?_ ?_)
      | (with_reducible refine LeO.bind ?_ (fun _ => ?_))
      | exact ih0 _ _ _
      | exact ih1 _ _ _ _ _
      | exact LeO.none _
      | refine LeO.ite ?_ ?_
      | refine LeO.bind ?_ (fun _ => ?_)
theorem ratlineref4_text.mono : ∀ a0 a1 k, LeO (ratlineref4_text.f k a0 a1) (ratlineref4_text.f (k + 1) a0 a1) := by
  intro a0 a1 k
  obtain ⟨ih0, ih1⟩ := ratlineref4_text.mono_l k
  unfold ratlineref4_text.f
  repeat' first
      | (with_reducible exact ih0 _ _ _)
      | (with_reducible exact ih1 _ _ _ _ _)
      | (with_reducible exact LeO.refl _)
      | (with_reducible exact LeO.none _)
      | (with_reducible refine LeO.ite ?_ ?_)
      | (with_reducible refine LeO.bind ?_ (fun _ => ?_))
      | exact ih0 _ _ _
      | exact ih1 _ _ _ _ _
      | exact LeO.none _
      | refine LeO.ite ?_ ?_
      | refine LeO.bind ?_ (fun _ => ?_)
set_option maxHeartbeats 8000000 in
set_option maxRecDepth 100000 in
theorem ratlineref4_text.calls (k : Nat) (a0 : ByteArray) (a1 : Int) (r1 : ByteArray) (r2 : Int) (r3 : Bool) (w : World) (h : ratlineref4_text.f k a0 a1 = some (r1, r2, r3)) :
    Calls Tryd.prog 20 #[.string a0, .int .i64 a1] w fun e w' => e = .returned (.tuple #[.string r1, .int .i64 r2, .bool r3]) ∧ Drawn0 w w' := by
  have H : (ratlineref4_text.l0 k a0 (⟨#[]⟩ : ByteArray) (wrap64 (a1 + 1))) = some (r1, r2, r3) := h
  clear h
  have H' := Aside0.mk H
  clear H
  go_enter Tryd.func20, Tryd.ntmps20
  go_wp2
  go_loopg [7, 8] k (fun kq v7 v8 w' => ∃ (x7_1 : ByteArray) (x8_1 : Int), v7 = .string x7_1 ∧ v8 = .int .i64 x8_1 ∧ Aside0 (ratlineref4_text.l0 kq a0 x7_1 x8_1 = some (r1, r2, r3)) ∧ Aside0 (kq ≤ k) ∧ Drawn0 w w')
  case atStart => exact ⟨((⟨#[]⟩ : ByteArray)), (wrap64 (a1 + 1)), (by first | rfl | (simp; done) | (simp [*]; done)), (by first | rfl | (simp; done) | (simp [*]; done)), H', ⟨Nat.le_refl _⟩, by repeat (first | exact Drawn0.refl _ | apply Drawn0.step)⟩
  case round =>
    clear H'
    try clear c2
    try clear p2
    obtain ⟨x7_1, x8_1, rfl, rfl, HA, HK1, ⟨m1, rfl⟩⟩ := hrel
    cases gk with
    | zero => exact absurd HA.out (by simp [ratlineref4_text.l0])
    | succ k1 =>
      have H := HA.out
      clear HA
      simp only [ratlineref4_text.l0] at H
      by_cases c3 : x8_1 < (a0.size : Int)
      · rw [if_pos c3] at H
        have c3b0 : decide (x8_1 < (a0.size : Int)) = true := decide_eq_true c3
        clear c3
        by_cases c4 : 0 ≤ x8_1
        · rw [if_pos c4] at H
          have c4b0 : decide (0 ≤ x8_1) = true := decide_eq_true c4
          clear c4
          by_cases c6 : (bt a0 x8_1) = 34
          · rw [if_pos c6] at H
            have c6b0 : ((bt a0 x8_1) == 34) = true := beq_iff_eq.mpr c6
            have c6b1 : ((bt a0 x8_1) != 34) = false := bne_eq_false_iff_eq.mpr c6
            clear c6
            simp only [Option.some.injEq, Prod.mk.injEq] at H
            obtain ⟨rfl, rfl, rfl⟩ := H
            have p5 : 0 ≤ (x8_1 : Int) := of_decide_eq_true (by first | (with_reducible assumption) | assumption)
            have q5 : x8_1 < (a0.size : Int) := of_decide_eq_true (by first | (with_reducible assumption) | assumption)
            have hx5 := bt_at a0 x8_1
            replace p5 := eq_true p5
            replace q5 := eq_true q5
            go_wp2
            go_ret3
            exact ⟨by first | rfl | (simp; done) | (simp [*]; done), by repeat (first | exact Drawn0.refl _ | apply Drawn0.step)⟩
          · rw [if_neg c6] at H
            have c6b0 : ((bt a0 x8_1) == 34) = false := beq_eq_false_iff_ne.mpr c6
            have c6b1 : ((bt a0 x8_1) != 34) = true := bne_iff_ne.mpr c6
            by_cases c7 : (bt a0 x8_1) = 10
            · rw [if_pos c7] at H
              have c7b0 : ((bt a0 x8_1) == 10) = true := beq_iff_eq.mpr c7
              have c7b1 : ((bt a0 x8_1) != 10) = false := bne_eq_false_iff_eq.mpr c7
              clear c7
              simp only [Option.some.injEq, Prod.mk.injEq] at H
              obtain ⟨rfl, rfl, rfl⟩ := H
              have p5 : 0 ≤ (x8_1 : Int) := of_decide_eq_true (by first | (with_reducible assumption) | assumption)
              have q5 : x8_1 < (a0.size : Int) := of_decide_eq_true (by first | (with_reducible assumption) | assumption)
              have hx5 := bt_at a0 x8_1
              replace p5 := eq_true p5
              replace q5 := eq_true q5
              go_wp2
              go_ret3
              exact ⟨by first | rfl | (simp; done) | (simp [*]; done), by repeat (first | exact Drawn0.refl _ | apply Drawn0.step)⟩
            · rw [if_neg c7] at H
              have c7b0 : ((bt a0 x8_1) == 10) = false := beq_eq_false_iff_ne.mpr c7
              have c7b1 : ((bt a0 x8_1) != 10) = true := bne_iff_ne.mpr c7
              by_cases c8 : (bt a0 x8_1) = 92
              · rw [if_pos c8] at H
                have c8b0 : ((bt a0 x8_1) == 92) = true := beq_iff_eq.mpr c8
                have c8b1 : ((bt a0 x8_1) != 92) = false := bne_eq_false_iff_eq.mpr c8
                clear c8
                by_cases c9 : (wrap64 (x8_1 + 1)) = (a0.size : Int)
                · rw [if_pos c9] at H
                  have c9b0 : ((wrap64 (x8_1 + 1)) == (a0.size : Int)) = true := beq_iff_eq.mpr c9
                  have c9b1 : ((wrap64 (x8_1 + 1)) != (a0.size : Int)) = false := bne_eq_false_iff_eq.mpr c9
                  clear c9
                  simp only [Option.some.injEq, Prod.mk.injEq] at H
                  obtain ⟨rfl, rfl, rfl⟩ := H
                  have p5 : 0 ≤ (x8_1 : Int) := of_decide_eq_true (by first | (with_reducible assumption) | assumption)
                  have q5 : x8_1 < (a0.size : Int) := of_decide_eq_true (by first | (with_reducible assumption) | assumption)
                  have hx5 := bt_at a0 x8_1
                  replace p5 := eq_true p5
                  replace q5 := eq_true q5
                  go_wp2
                  go_ret3
                  exact ⟨by first | rfl | (simp; done) | (simp [*]; done), by repeat (first | exact Drawn0.refl _ | apply Drawn0.step)⟩
                · rw [if_neg c9] at H
                  have c9b0 : ((wrap64 (x8_1 + 1)) == (a0.size : Int)) = false := beq_eq_false_iff_ne.mpr c9
                  have c9b1 : ((wrap64 (x8_1 + 1)) != (a0.size : Int)) = true := bne_iff_ne.mpr c9
                  obtain ⟨ji10, hji10⟩ : ∃ j_ : Int, (wrap64 (x8_1 + 1)) = j_ := ⟨_, rfl⟩
                  replace H : (if 0 ≤ (ji10) then (if (ji10) < (a0.size : Int) then (if (bt a0 (ji10)) = 34 then (ratlineref4_text.j1 k1 a0 x7_1 ji10 (bt a0 (ji10)) ((bt a0 (ji10)) == 34)) else (ratlineref4_text.j1 k1 a0 x7_1 ji10 (bt a0 (ji10)) ((bt a0 (ji10)) == 92))) else (none)) else (none)) = some (r1, r2, r3) := by first | (rw [hji10] at H; exact H) | (simp only [hji10] at H ⊢; exact H)
                  (try rw [hji10] at c9b0)
                  (try rw [hji10] at c9b1)
                  have hji10w : (IntKind.i64.wrap (x8_1 + 1)) = ji10 := (i64_w _).trans hji10
                  by_cases c11 : 0 ≤ (ji10)
                  · rw [if_pos c11] at H
                    have c11b0 : decide (0 ≤ (ji10)) = true := decide_eq_true c11
                    clear c11
                    by_cases c12 : (ji10) < (a0.size : Int)
                    · rw [if_pos c12] at H
                      have c12b0 : decide ((ji10) < (a0.size : Int)) = true := decide_eq_true c12
                      clear c12
                      have HC14 := Aside0.mk H
                      clear H
                      have p5 : 0 ≤ (x8_1 : Int) := of_decide_eq_true (by first | (with_reducible assumption) | assumption)
                      have q5 : x8_1 < (a0.size : Int) := of_decide_eq_true (by first | (with_reducible assumption) | assumption)
                      have hx5 := bt_at a0 x8_1
                      replace p5 := eq_true p5
                      replace q5 := eq_true q5
                      have p13 : 0 ≤ ((ji10) : Int) := of_decide_eq_true (by first | (with_reducible assumption) | assumption)
                      have q13 : (ji10) < (a0.size : Int) := of_decide_eq_true (by first | (with_reducible assumption) | assumption)
                      have hx13 := bt_at a0 (ji10)
                      replace p13 := eq_true p13
                      replace q13 := eq_true q13
                      go_upto_if 45 with (fail)
                      go_cut [45] (fun v45 wc => ∃ (kq : Nat) (x45_13 : Bool), v45 = .bool x45_13 ∧ Aside0 (ratlineref4_text.j1 kq a0 x7_1 ji10 (bt a0 (ji10)) x45_13 = some (r1, r2, r3)) ∧ Aside0 (kq ≤ k1) ∧ Drawn0 w wc)
                      case first =>
                        have H := HC14.out
                        clear HC14
                        by_cases c15 : (bt a0 (ji10)) = 34
                        · rw [if_pos c15] at H
                          have c15b0 : ((bt a0 (ji10)) == 34) = true := beq_iff_eq.mpr c15
                          have c15b1 : ((bt a0 (ji10)) != 34) = false := bne_eq_false_iff_eq.mpr c15
                          clear c15
                          (first | rw [c15b0] | (simp only [i64_w, i32_w]; rw [c15b0]) | skip)
                          have H' := Aside0.mk H
                          clear H
                          go_wp2
                          go_meet
                          case rel => exact ⟨_, (((bt a0 (ji10)) == 34)), (by first | rfl | (simp; done) | (simp only [← hji10] <;> (first | rfl | (simp; done))) | (simp [*]; done)), H', ⟨by have := HK1.out; first | omega | exact Nat.le_refl _⟩, by repeat (first | exact Drawn0.refl _ | apply Drawn0.step)⟩
                        · rw [if_neg c15] at H
                          have c15b0 : ((bt a0 (ji10)) == 34) = false := beq_eq_false_iff_ne.mpr c15
                          have c15b1 : ((bt a0 (ji10)) != 34) = true := bne_iff_ne.mpr c15
                          (first | rw [c15b0] | (simp only [i64_w, i32_w]; rw [c15b0]) | skip)
                          have H' := Aside0.mk H
                          clear H
                          go_wp2
                          go_meet
                          case rel => exact ⟨_, (((bt a0 (ji10)) == 92)), (by first | rfl | (simp; done) | (simp only [← hji10] <;> (first | rfl | (simp; done))) | (simp [*]; done)), H', ⟨by have := HK1.out; first | omega | exact Nat.le_refl _⟩, by repeat (first | exact Drawn0.refl _ | apply Drawn0.step)⟩
                      case rest =>
                        clear HC14
                        try clear c1
                        try clear p1
                        try clear q1
                        try clear hx1
                        try clear c2
                        try clear p2
                        try clear c3
                        try clear c3b0
                        try clear c4
                        try clear c4b0
                        try clear p5
                        try clear q5
                        try clear hx5
                        try clear c6
                        try clear c6b0
                        try clear c6b1
                        try clear p6
                        try clear c7
                        try clear c7b0
                        try clear c7b1
                        try clear c8
                        try clear c8b0
                        try clear c8b1
                        try clear c9
                        try clear c9b0
                        try clear c9b1
                        try clear c11
                        try clear c11b0
                        try clear c12
                        try clear c12b0
                        try clear p13
                        try clear q13
                        try clear hx13
                        try clear c15
                        try clear c15b0
                        try clear c15b1
                        try clear p13
                        try clear p2
                        try clear p5
                        try clear q13
                        try clear q5
                        obtain ⟨kq, x45_13, rfl, HA, HJ13, ⟨mc13, rfl⟩⟩ := hcut
                        cases kq with
                        | zero => exact absurd HA.out (by simp [ratlineref4_text.j1])
                        | succ kj13 =>
                          have H := HA.out
                          clear HA
                          simp only [ratlineref4_text.j1] at H
                          by_cases c16 : x45_13 = true
                          · subst c16
                            have H1 : (if 0 ≤ ji10 then (if ji10 ≤ (wrap64 (ji10 + 1)) then (if (wrap64 (ji10 + 1)) ≤ (a0.size : Int) then (if x7_1.size + (a0.extract (ji10 : Int).toNat ((wrap64 (ji10 + 1)) : Int).toNat).size ≤ 9223372036854775807 then (ratlineref4_text.l0 kj13 a0 (x7_1 ++ (a0.extract (ji10 : Int).toNat ((wrap64 (ji10 + 1)) : Int).toNat)) (wrap64 (ji10 + 1))) else (none)) else (none)) else (none)) else (none)) = some (r1, r2, r3) := by rw [if_pos rfl] at H; exact H
                            clear H
                            have H := H1
                            clear H1
                            by_cases c17 : 0 ≤ ji10
                            · rw [if_pos c17] at H
                              have c17b0 := eq_true c17
                              have c17b1 : decide (0 ≤ ji10) = true := decide_eq_true c17
                              clear c17
                              by_cases c18 : ji10 ≤ (wrap64 (ji10 + 1))
                              · rw [if_pos c18] at H
                                have c18b0 := eq_true c18
                                have c18b1 : decide (ji10 ≤ (wrap64 (ji10 + 1))) = true := decide_eq_true c18
                                by_cases c19 : (wrap64 (ji10 + 1)) ≤ (a0.size : Int)
                                · rw [if_pos c19] at H
                                  have c19b0 := eq_true c19
                                  have c19b1 : decide ((wrap64 (ji10 + 1)) ≤ (a0.size : Int)) = true := decide_eq_true c19
                                  by_cases c20 : x7_1.size + (a0.extract (ji10 : Int).toNat ((wrap64 (ji10 + 1)) : Int).toNat).size ≤ 9223372036854775807
                                  · rw [if_pos c20] at H
                                    have c20b0 := eq_true c20
                                    have c20b1 : decide (x7_1.size + (a0.extract (ji10 : Int).toNat ((wrap64 (ji10 + 1)) : Int).toNat).size ≤ 9223372036854775807) = true := decide_eq_true c20
                                    try have c20b2 : (9223372036854775807 < x7_1.size + (a0.extract (ji10 : Int).toNat ((wrap64 (ji10 + 1)) : Int).toNat).size) = False := eq_false (Nat.not_lt.2 c20)
                                    have H' := Aside0.mk H
                                    clear H
                                    go_wp2
                                    go_roundg kj13
                                    case measure => have := HK1.out; have := HJ13.out; omega
                                    case rel => exact ⟨(x7_1 ++ (a0.extract (ji10 : Int).toNat ((wrap64 (ji10 + 1)) : Int).toNat)), (wrap64 (ji10 + 1)), (by first | rfl | (simp; done) | (simp only [← hji10] <;> (first | rfl | (simp; done))) | (simp [*]; done)), (by first | rfl | (simp; done) | (simp only [← hji10] <;> (first | rfl | (simp; done))) | (simp [*]; done)), H', ⟨by have := HK1.out; have := HJ13.out; omega⟩, by repeat (first | exact Drawn0.refl _ | apply Drawn0.step)⟩
                                  · rw [if_neg c20] at H
                                    exact absurd H (by simp)
                                · rw [if_neg c19] at H
                                  exact absurd H (by simp)
                              · rw [if_neg c18] at H
                                exact absurd H (by simp)
                            · rw [if_neg c17] at H
                              exact absurd H (by simp)
                          · replace c16 := Bool.eq_false_iff.mpr c16
                            subst c16
                            have H1 : (if (bt a0 (ji10)) = 110 then (if x7_1.size + 1 ≤ 9223372036854775807 then (ratlineref4_text.l0 kj13 a0 (x7_1 ++ (⟨#[10]⟩ : ByteArray)) (wrap64 (ji10 + 1))) else (none)) else (some ((⟨#[]⟩ : ByteArray), 0, false))) = some (r1, r2, r3) := by rw [if_neg (show ¬ (false = true) by decide)] at H; exact H
                            clear H
                            have H := H1
                            clear H1
                            by_cases c21 : (bt a0 (ji10)) = 110
                            · rw [if_pos c21] at H
                              have c21b0 : ((bt a0 (ji10)) == 110) = true := beq_iff_eq.mpr c21
                              have c21b1 : ((bt a0 (ji10)) != 110) = false := bne_eq_false_iff_eq.mpr c21
                              clear c21
                              by_cases c22 : x7_1.size + 1 ≤ 9223372036854775807
                              · rw [if_pos c22] at H
                                have c22b0 := eq_true c22
                                have c22b1 : decide (x7_1.size + 1 ≤ 9223372036854775807) = true := decide_eq_true c22
                                try have c22b2 : (9223372036854775807 < x7_1.size + 1) = False := eq_false (Nat.not_lt.2 c22)
                                have H' := Aside0.mk H
                                clear H
                                go_wp2
                                go_roundg kj13
                                case measure => have := HK1.out; have := HJ13.out; omega
                                case rel => exact ⟨(x7_1 ++ (⟨#[10]⟩ : ByteArray)), (wrap64 (ji10 + 1)), (by first | rfl | (simp; done) | (simp [*]; done)), (by first | rfl | (simp; done) | (simp only [← hji10] <;> (first | rfl | (simp; done))) | (simp [*]; done)), H', ⟨by have := HK1.out; have := HJ13.out; omega⟩, by repeat (first | exact Drawn0.refl _ | apply Drawn0.step)⟩
                              · rw [if_neg c22] at H
                                exact absurd H (by simp)
                            · rw [if_neg c21] at H
                              have c21b0 : ((bt a0 (ji10)) == 110) = false := beq_eq_false_iff_ne.mpr c21
                              have c21b1 : ((bt a0 (ji10)) != 110) = true := bne_iff_ne.mpr c21
                              simp only [Option.some.injEq, Prod.mk.injEq] at H
                              obtain ⟨rfl, rfl, rfl⟩ := H
                              go_wp2
                              go_ret3
                              exact ⟨by first | rfl | (simp; done) | (simp only [← hji10] <;> (first | rfl | (simp; done))) | (simp [*]; done), by repeat (first | exact Drawn0.refl _ | apply Drawn0.step)⟩
                    · rw [if_neg c12] at H
                      exact absurd H (by simp)
                  · rw [if_neg c11] at H
                    exact absurd H (by simp)
              · rw [if_neg c8] at H
                have c8b0 : ((bt a0 x8_1) == 92) = false := beq_eq_false_iff_ne.mpr c8
                have c8b1 : ((bt a0 x8_1) != 92) = true := bne_iff_ne.mpr c8
                have c23b0 := eq_true (of_decide_eq_true (by first | (with_reducible assumption) | assumption) : 0 ≤ x8_1)
                by_cases c24 : x8_1 ≤ (wrap64 (x8_1 + 1))
                · rw [if_pos c24] at H
                  have c24b0 := eq_true c24
                  have c24b1 : decide (x8_1 ≤ (wrap64 (x8_1 + 1))) = true := decide_eq_true c24
                  by_cases c25 : (wrap64 (x8_1 + 1)) ≤ (a0.size : Int)
                  · rw [if_pos c25] at H
                    have c25b0 := eq_true c25
                    have c25b1 : decide ((wrap64 (x8_1 + 1)) ≤ (a0.size : Int)) = true := decide_eq_true c25
                    by_cases c26 : x7_1.size + (a0.extract (x8_1 : Int).toNat ((wrap64 (x8_1 + 1)) : Int).toNat).size ≤ 9223372036854775807
                    · rw [if_pos c26] at H
                      have c26b0 := eq_true c26
                      have c26b1 : decide (x7_1.size + (a0.extract (x8_1 : Int).toNat ((wrap64 (x8_1 + 1)) : Int).toNat).size ≤ 9223372036854775807) = true := decide_eq_true c26
                      try have c26b2 : (9223372036854775807 < x7_1.size + (a0.extract (x8_1 : Int).toNat ((wrap64 (x8_1 + 1)) : Int).toNat).size) = False := eq_false (Nat.not_lt.2 c26)
                      have H' := Aside0.mk H
                      clear H
                      have p5 : 0 ≤ (x8_1 : Int) := of_decide_eq_true (by first | (with_reducible assumption) | assumption)
                      have q5 : x8_1 < (a0.size : Int) := of_decide_eq_true (by first | (with_reducible assumption) | assumption)
                      have hx5 := bt_at a0 x8_1
                      replace p5 := eq_true p5
                      replace q5 := eq_true q5
                      go_wp2
                      go_roundg k1
                      case measure => have := HK1.out; omega
                      case rel => exact ⟨(x7_1 ++ (a0.extract (x8_1 : Int).toNat ((wrap64 (x8_1 + 1)) : Int).toNat)), (wrap64 (x8_1 + 1)), (by first | rfl | (simp; done) | (simp [*]; done)), (by first | rfl | (simp; done) | (simp [*]; done)), H', ⟨by have := HK1.out; omega⟩, by repeat (first | exact Drawn0.refl _ | apply Drawn0.step)⟩
                    · rw [if_neg c26] at H
                      exact absurd H (by simp)
                  · rw [if_neg c25] at H
                    exact absurd H (by simp)
                · rw [if_neg c24] at H
                  exact absurd H (by simp)
        · rw [if_neg c4] at H
          exact absurd H (by simp)
      · rw [if_neg c3] at H
        have c3b0 : decide (x8_1 < (a0.size : Int)) = false := decide_eq_false c3
        clear c3
        simp only [Option.some.injEq, Prod.mk.injEq] at H
        obtain ⟨rfl, rfl, rfl⟩ := H
        go_wp2
        go_ret3
        exact ⟨by first | rfl | (simp; done) | (simp [*]; done), by repeat (first | exact Drawn0.refl _ | apply Drawn0.step)⟩

end Go.Proofs.YtmmndmfphcbieaaDoor.XLex
