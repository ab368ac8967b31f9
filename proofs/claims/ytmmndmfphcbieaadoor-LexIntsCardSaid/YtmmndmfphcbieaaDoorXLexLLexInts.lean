-- written by gprint.py: the printer run with given contracts
import Derived.Test.YtmmndmfphcbieaaDoorXLexx0
import Derived.Test.YtmmndmfphcbieaaDoorXLexx1
import Derived.Test.YtmmndmfphcbieaaDoorXLexx5
import Derived.Test.YtmmndmfphcbieaaDoorXLexx7
import Derived.Test.YtmmndmfphcbieaaDoorXLexx8
namespace Go.Proofs.YtmmndmfphcbieaaDoor.XLex
open Go.RowKit Go.Proofs.YtmmndmfphcbieaaDoorW.PrintWords Go.Proofs.YtmmndmfphcbieaaDoorW.PrintLast Go.Proofs.YtmmndmfphcbieaaDoorW.PrintMore
attribute [local go_sem] max2_int min2_int max_two min_two max_three min_three max_four min_four   -- for this text's walks alone
set_option linter.unusedVariables false
set_option linter.unusedSimpArgs false

/-! ### ratlinelaw4_LexInts: function 6 -/
mutual
def ratlinelaw4_LexInts.j0 : Nat → Int → Int → Int → Bool → Option (Bool)
  | 0, _, _, _, _ => none
  | k + 1, x0, x1, x2, x3 => (ratlineref1_Digits.f k x0).bind fun t248 => (ratlinelaw4_LexInts.l0 k x0 x1 x2 x3 t248 0)
def ratlinelaw4_LexInts.l0 : Nat → Int → Int → Int → Bool → ByteArray → Int → Option (Bool)
  | 0, _, _, _, _, _, _ => none
  | k + 1, x0, x1, x2, x3, x9, x10 => if x10 < (Go.bits .and .i64 x1 7) then (if 1 + x9.size ≤ 9223372036854775807 then (ratlinelaw4_LexInts.l0 k x0 x1 x2 x3 ((⟨#[48]⟩ : ByteArray) ++ x9) (wrap64 (x10 + 1))) else (none)) else (if x3 = true then (ratlinelaw4_LexInts.j2 k x0 x9 (wrap64 (Int.tmod x2 10)) (⟨#[105]⟩ : ByteArray) 4) else (ratlinelaw4_LexInts.j2 k x0 x9 (wrap64 (Int.tmod x2 10)) (⟨#[]⟩ : ByteArray) 3))
def ratlinelaw4_LexInts.j2 : Nat → Int → ByteArray → Int → ByteArray → Int → Option (Bool)
  | 0, _, _, _, _, _ => none
  | k + 1, x0, x9, x11, x12, x13 => if x9.size + x12.size ≤ 9223372036854775807 then ((lex_Tokens.f k (x9 ++ x12)).bind fun bt249 => ((some (([(48 + ((x11) % 256)) % 256] : List Int) : List Int)).bind fun y254 => (if x9.size + (strOfNums y254).size ≤ 9223372036854775807 then (if (x9 ++ (strOfNums y254)).size + x12.size ≤ 9223372036854775807 then ((lex_Tokens.f k ((x9 ++ (strOfNums y254)) ++ x12)).bind fun bt257 => (if bt249.2.2 = 0 then (if (bt249.1.length : Int) = 1 then (if 0 < (bt249.1.length : Int) then (if ((rd_T31 bt249.1 0).f0) = x13 then (ratlinelaw4_LexInts.j3 k x0 x11 bt257.1 bt257.2.1 bt257.2.2 (((rd_T31 bt249.1 0).f2) != x0)) else (ratlinelaw4_LexInts.j3 k x0 x11 bt257.1 bt257.2.1 bt257.2.2 true)) else (none)) else (ratlinelaw4_LexInts.j3 k x0 x11 bt257.1 bt257.2.1 bt257.2.2 true)) else (ratlinelaw4_LexInts.j3 k x0 x11 bt257.1 bt257.2.1 bt257.2.2 true))) else (none)) else (none)))) else (none)
def ratlinelaw4_LexInts.j3 : Nat → Int → Int → List (S31) → Int → Int → Bool → Option (Bool)
  | 0, _, _, _, _, _, _ => none
  | k + 1, x0, x11, x17, x18, x19, x83 => if x83 = true then (some false) else (if x0 > (wrap64 (Int.tdiv (wrap64 (9223372036854775807 - x11)) 10)) then (if x19 = 10 then (if x18 = 0 then (if (x17.length : Int) = 0 then ((ratlinelaw4_awake.f k).bind fun t264 => (some t264)) else (some false)) else (some false)) else (some false)) else (if x19 = 0 then (if (x17.length : Int) = 1 then (if 0 < (x17.length : Int) then (if ((rd_T31 x17 0).f2) = (wrap64 ((wrap64 (10 * x0)) + x11)) then ((ratlinelaw4_awake.f k).bind fun t266 => (some t266)) else (some false)) else (none)) else (some false)) else (some false)))
end
def ratlinelaw4_LexInts.f (k : Nat) (a0 : Int) (a1 : Int) (a2 : Int) (a3 : Bool) : Option (Bool) := if a0 < 0 then (ratlinelaw4_LexInts.j0 k (wrap64 (-(wrap64 (a0 + 1)))) a1 a2 a3) else (ratlinelaw4_LexInts.j0 k a0 a1 a2 a3)
theorem ratlinelaw4_LexInts.mono_l : ∀ k, (∀ y0 y1 y2 y3, LeO (ratlinelaw4_LexInts.j0 k y0 y1 y2 y3) (ratlinelaw4_LexInts.j0 (k + 1) y0 y1 y2 y3)) ∧ (∀ y0 y1 y2 y3 y4 y5, LeO (ratlinelaw4_LexInts.l0 k y0 y1 y2 y3 y4 y5) (ratlinelaw4_LexInts.l0 (k + 1) y0 y1 y2 y3 y4 y5)) ∧ (∀ y0 y1 y2 y3 y4, LeO (ratlinelaw4_LexInts.j2 k y0 y1 y2 y3 y4) (ratlinelaw4_LexInts.j2 (k + 1) y0 y1 y2 y3 y4)) ∧ (∀ y0 y1 y2 y3 y4 y5, LeO (ratlinelaw4_LexInts.j3 k y0 y1 y2 y3 y4 y5) (ratlinelaw4_LexInts.j3 (k + 1) y0 y1 y2 y3 y4 y5))
  | 0 => ⟨fun _ _ _ _ r h => by simp [ratlinelaw4_LexInts.j0] at h, fun _ _ _ _ _ _ r h => by simp [ratlinelaw4_LexInts.l0] at h, fun _ _ _ _ _ r h => by simp [ratlinelaw4_LexInts.j2] at h, fun _ _ _ _ _ _ r h => by simp [ratlinelaw4_LexInts.j3] at h⟩
  | k + 1 => by
    obtain ⟨ih0, ih1, ih2, ih3⟩ := ratlinelaw4_LexInts.mono_l k
    refine ⟨?_, ?_, ?_, ?_⟩
    · intro y0 y1 y2 y3
      unfold ratlinelaw4_LexInts.j0
      repeat' first
      | (with_reducible exact ih0 _ _ _ _)
      | (with_reducible exact ih1 _ _ _ _ _ _)
      | (with_reducible exact ih2 _ _ _ _ _)
      | (with_reducible exact ih3 _ _ _ _ _ _)
      | (with_reducible exact lex_Tokens.mono _ _)
      | (with_reducible exact ratlinelaw4_awake.mono _)
      | (with_reducible exact ratlineref1_Digits.mono _ _)
      | (with_reducible exact LeO.refl _)
      | (with_reducible exact LeO.none _)
      | (with_reducible refine LeO.ite ?_ ?_)
      | (with_reducible refine LeO.bind ?_ (fun _ => ?_))
      | exact ih0 _ _ _ _
      | exact ih1 _ _ _ _ _ _
      | exact ih2 _ _ _ _ _
      | exact ih3 _ _ _ _ _ _
      | exact lex_Tokens.mono _ _
      | exact ratlinelaw4_awake.mono _
      | exact ratlineref1_Digits.mono _ _
      | exact LeO.none _
      | refine LeO.ite ?_ ?_
      | refine LeO.bind ?_ (fun _ => ?_)
    · intro y0 y1 y2 y3 y4 y5
      unfold ratlinelaw4_LexInts.l0
      repeat' first
      | (with_reducible exact ih0 _ _ _ _)
      | (with_reducible exact ih1 _ _ _ _ _ _)
      | (with_reducible exact ih2 _ _ _ _ _)
      | (with_reducible exact ih3 _ _ _ _ _ _)
      | (with_reducible exact lex_Tokens.mono _ _)
      | (with_reducible exact ratlinelaw4_awake.mono _)
      | (with_reducible exact ratlineref1_Digits.mono _ _)
      | (with_reducible exact LeO.refl _)
      | (with_reducible exact LeO.none _)
      | (with_reducible refine LeO.ite ?_ ?_)
      | (with_reducible refine LeO.bind ?_ (fun _ => ?_))
      | exact ih0 _ _ _ _
      | exact ih1 _ _ _ _ _ _
      | exact ih2 _ _ _ _ _
      | exact ih3 _ _ _ _ _ _
      | exact lex_Tokens.mono _ _
      | exact ratlinelaw4_awake.mono _
      | exact ratlineref1_Digits.mono _ _
      | exact LeO.none _
      | refine LeO.ite ?_ ?_
      | refine LeO.bind ?_ (fun _ => ?_)
    · intro y0 y1 y2 y3 y4
      unfold ratlinelaw4_LexInts.j2
      repeat' first
      | (with_reducible exact ih0 _ _ _ _)
      | (with_reducible exact ih1 _ _ _ _ _ _)
      | (with_reducible exact ih2 _ _ _ _ _)
      | (with_reducible exact ih3 _ _ _ _ _ _)
      | (with_reducible exact lex_Tokens.mono _ _)
      | (with_reducible exact ratlinelaw4_awake.mono _)
      | (with_reducible exact ratlineref1_Digits.mono _ _)
      | (with_reducible exact LeO.refl _)
      | (with_reducible exact LeO.none _)
      | (with_reducible refine LeO.ite ?_ ?_)
      | (with_reducible refine LeO.bind ?_ (fun _ => ?_))
      | exact ih0 _ _ _ _
      | exact ih1 _ _ _ _ _ _
      | exact ih2 _ _ _ _ _
      | exact ih3 _ _ _ _ _ _
      | exact lex_Tokens.mono _ _
      | exact ratlinelaw4_awake.mono _
      | exact ratlineref1_Digits.mono _ _
      | exact LeO.none _
      | refine LeO.ite ?_ ?_
      | refine LeO.bind ?_ (fun _ => ?_)
    · intro y0 y1 y2 y3 y4 y5
      unfold ratlinelaw4_LexInts.j3
      repeat' first
      | (with_reducible exact ih0 _ _ _ _)
      | (with_reducible exact ih1 _ _ _ _ _ _)
      | (with_reducible exact ih2 _ _ _ _ _)
      | (with_reducible exact ih3 _ _ _ _ _ _)
      | (with_reducible exact lex_Tokens.mono _ _)
      | (with_reducible exact ratlinelaw4_awake.mono _)
      | (with_reducible exact ratlineref1_Digits.mono _ _)
      | (with_reducible exact LeO.refl _)
      | (with_reducible exact LeO.none _)
      | (with_reducible refine LeO.ite ?_ ?_)
      | (with_reducible refine LeO.bind ?_ (fun _ => ?_))
      | exact ih0 _ _ _ _
      | exact ih1 _ _ _ _ _ _
      | exact ih2 _ _ _ _ _
      | exact ih3 _ _ _ _ _ _
      | exact lex_Tokens.mono _ _
      | exact ratlinelaw4_awake.mono _
      | exact ratlineref1_Digits.mono _ _
      | exact LeO.none _
      | refine LeO.ite ?_ ?_
      | refine LeO.bind ?_ (fun _ => ?_)
theorem ratlinelaw4_LexInts.mono : ∀ a0 a1 a2 a3 k, LeO (ratlinelaw4_LexInts.f k a0 a1 a2 a3) (ratlinelaw4_LexInts.f (k + 1) a0 a1 a2 a3) := by
  intro a0 a1 a2 a3 k
  obtain ⟨ih0, ih1, ih2, ih3⟩ := ratlinelaw4_LexInts.mono_l k
  unfold ratlinelaw4_LexInts.f
  repeat' first
      | (with_reducible exact ih0 _ _ _ _)
      | (with_reducible exact ih1 _ _ _ _ _ _)
      | (with_reducible exact ih2 _ _ _ _ _)
      | (with_reducible exact ih3 _ _ _ _ _ _)
      | (with_reducible exact lex_Tokens.mono _ _)
      | (with_reducible exact ratlinelaw4_awake.mono _)
      | (with_reducible exact ratlineref1_Digits.mono _ _)
      | (with_reducible exact LeO.refl _)
      | (with_reducible exact LeO.none _)
      | (with_reducible refine LeO.ite ?_ ?_)
      | (with_reducible refine LeO.bind ?_ (fun _ => ?_))
      | exact ih0 _ _ _ _
      | exact ih1 _ _ _ _ _ _
      | exact ih2 _ _ _ _ _
      | exact ih3 _ _ _ _ _ _
      | exact lex_Tokens.mono _ _
      | exact ratlinelaw4_awake.mono _
      | exact ratlineref1_Digits.mono _ _
      | exact LeO.none _
      | refine LeO.ite ?_ ?_
      | refine LeO.bind ?_ (fun _ => ?_)
set_option maxHeartbeats 8000000 in
set_option maxRecDepth 100000 in
theorem ratlinelaw4_LexInts.calls (k : Nat) (a0 : Int) (a1 : Int) (a2 : Int) (a3 : Bool) (r : Bool) (w : World) (h : ratlinelaw4_LexInts.f k a0 a1 a2 a3 = some r) (hL : Laid w) :
    Calls Tryd.prog 6 #[.int .i64 a0, .int .i64 a1, .int .u8 a2, .bool a3] w fun e w' => e = .returned (.bool r) ∧ Below w.heap.size w w' := by
  have HB := Aside0.mk (Below.refl w.heap.size w)
  have H : (if a0 < 0 then (ratlinelaw4_LexInts.j0 k (wrap64 (-(wrap64 (a0 + 1)))) a1 a2 a3) else (ratlinelaw4_LexInts.j0 k a0 a1 a2 a3)) = some r := h
  clear h
  have HC5 := Aside0.mk H
  clear H
  go_enter Tryd.func6, Tryd.ntmps6
  go_upto_if 21 with (fail)
  go_cut [0] (fun v0 wc => ∃ (kq : Nat) (x0_4 : Int), v0 = .int .i64 x0_4 ∧ Aside0 (ratlinelaw4_LexInts.j0 kq x0_4 a1 a2 a3 = some r) ∧ Aside0 (kq ≤ k) ∧ Aside0 (Below w.heap.size w wc))
  case first =>
    have H := HC5.out
    clear HC5
    by_cases c6 : a0 < 0
    · rw [if_pos c6] at H
      have c6b0 : decide (a0 < 0) = true := decide_eq_true c6
      clear c6
      (first | rw [c6b0] | (simp only [i64_w, i32_w]; rw [c6b0]) | skip)
      have H' := Aside0.mk H
      clear H
      go_wp2
      go_meet
      case rel => exact ⟨_, (wrap64 (-(wrap64 (a0 + 1)))), (by first | rfl | (simp; done) | (simp [*]; done)), H', ⟨by first | omega | exact Nat.le_refl _⟩, ⟨by repeat (first | (with_reducible first | exact HB.out | apply below_alloc | apply pw_below_drewN | apply below_drew1) | exact HB.out)⟩⟩
    · rw [if_neg c6] at H
      have c6b0 : decide (a0 < 0) = false := decide_eq_false c6
      clear c6
      (first | rw [c6b0] | (simp only [i64_w, i32_w]; rw [c6b0]) | skip)
      have H' := Aside0.mk H
      clear H
      go_wp2
      go_meet
      case rel => exact ⟨_, (a0), (by first | rfl | (simp; done) | (simp [*]; done)), H', ⟨by first | omega | exact Nat.le_refl _⟩, ⟨by repeat (first | (with_reducible first | exact HB.out | apply below_alloc | apply pw_below_drewN | apply below_drew1) | exact HB.out)⟩⟩
  case rest =>
    clear HC5
    try clear p2
    try clear c6
    try clear c6b0
    try clear p6
    obtain ⟨kq, x0_4, rfl, HA, HJ4, HB⟩ := hcut
    cases kq with
    | zero => exact absurd HA.out (by simp [ratlinelaw4_LexInts.j0])
    | succ kj4 =>
      have H := HA.out
      clear HA
      simp only [ratlinelaw4_LexInts.j0] at H
      replace H := Option.bind_eq_some_iff.mp H
      obtain ⟨t248, A70, H⟩ := H
      replace H : (ratlinelaw4_LexInts.l0 kj4 x0_4 a1 a2 a3 t248 0) = some r := H
      have A7 := Aside0.mk A70
      clear A70
      have H' := Aside0.mk H
      clear H
      go_wp2_with (first | ((with_reducible refine gate_callee (f := 13) rfl ?_); refine goesL_ (some 26) rfl rfl Tryd.func13 (by kernel_rfl) rfl #[.int .i64 x0_4] rfl (by (try simp only [List.map_toArray, List.map_cons, List.map_nil]); first | done | rfl | (simp only [List.length_drop, List.length_take]; rfl)) ?_; (with_reducible refine (ratlineref1_Digits.calls kj4 x0_4 t248 _ A7.out).mono ?_); rintro e w' ⟨rfl, ⟨nd, rfl⟩⟩; refine ⟨_, rfl, ?_⟩))
      go_loopg [9, 10] kj4 (fun kq v9 v10 w' => ∃ (x9_2 : ByteArray) (x10_2 : Int), v9 = .string x9_2 ∧ v10 = .int .i64 x10_2 ∧ Aside0 (ratlinelaw4_LexInts.l0 kq x0_4 a1 a2 a3 x9_2 x10_2 = some r) ∧ Aside0 (kq ≤ kj4) ∧ Aside0 (Below w.heap.size w w'))
      case atStart => exact ⟨(t248), (0), (by first | rfl | (simp; done) | (simp [*]; done)), (by first | rfl | (simp; done) | (simp [*]; done)), H', ⟨Nat.le_refl _⟩, ⟨by repeat (first | (with_reducible first | exact HB.out | apply below_alloc | apply pw_below_drewN | apply below_drew1) | exact HB.out)⟩⟩
      case round =>
        clear H'
        try clear c1
        try clear p2
        try clear c6
        try clear c6b0
        try clear p6
        try clear p2
        try clear p6
        obtain ⟨x9_2, x10_2, rfl, rfl, HA, HK2, HB⟩ := hrel
        cases gk with
        | zero => exact absurd HA.out (by simp [ratlinelaw4_LexInts.l0])
        | succ k2 =>
          have H := HA.out
          clear HA
          simp only [ratlinelaw4_LexInts.l0] at H
          by_cases c8 : x10_2 < (Go.bits .and .i64 a1 7)
          · rw [if_pos c8] at H
            have c8b0 : decide (x10_2 < (Go.bits .and .i64 a1 7)) = true := decide_eq_true c8
            clear c8
            by_cases c9 : 1 + x9_2.size ≤ 9223372036854775807
            · rw [if_pos c9] at H
              have c9b0 := eq_true c9
              have c9b1 : decide (1 + x9_2.size ≤ 9223372036854775807) = true := decide_eq_true c9
              try have c9b2 : (9223372036854775807 < 1 + x9_2.size) = False := eq_false (Nat.not_lt.2 c9)
              have H' := Aside0.mk H
              clear H
              go_wp2
              go_roundg k2
              case measure => have := HJ4.out; have := HK2.out; omega
              case rel => exact ⟨((⟨#[48]⟩ : ByteArray) ++ x9_2), (wrap64 (x10_2 + 1)), (by first | rfl | (simp; done) | (simp [*]; done)), (by first | rfl | (simp; done) | (simp [*]; done)), H', ⟨by have := HJ4.out; have := HK2.out; omega⟩, ⟨by repeat (first | (with_reducible first | exact HB.out | apply below_alloc | apply pw_below_drewN | apply below_drew1) | exact HB.out)⟩⟩
            · rw [if_neg c9] at H
              exact absurd H (by simp)
          · rw [if_neg c8] at H
            have c8b0 : decide (x10_2 < (Go.bits .and .i64 a1 7)) = false := decide_eq_false c8
            clear c8
            have HC10 := Aside0.mk H
            clear H
            go_upto_if 38 with (fail)
            go_cut [12, 13] (fun v12 v13 wc => ∃ (kq : Nat) (x12_9 : ByteArray) (x13_9 : Int), v12 = .string x12_9 ∧ v13 = .int .i64 x13_9 ∧ Aside0 (ratlinelaw4_LexInts.j2 kq x0_4 x9_2 (wrap64 (Int.tmod a2 10)) x12_9 x13_9 = some r) ∧ Aside0 (kq ≤ k2) ∧ Aside0 (Below w.heap.size w wc))
            case first =>
              have H := HC10.out
              clear HC10
              by_cases c11 : a3 = true
              · subst c11
                have H1 : (ratlinelaw4_LexInts.j2 k2 x0_4 x9_2 (wrap64 (Int.tmod a2 10)) (⟨#[105]⟩ : ByteArray) 4) = some r := by rw [if_pos rfl] at H; exact H
                clear H
                have H := H1
                clear H1
                have H' := Aside0.mk H
                clear H
                go_wp2
                go_meet
                case rel => exact ⟨_, ((⟨#[105]⟩ : ByteArray)), (4), (by first | rfl | (simp; done) | (simp [*]; done)), (by first | rfl | (simp; done) | (simp [*]; done)), H', ⟨by have := HJ4.out; have := HK2.out; first | omega | exact Nat.le_refl _⟩, ⟨by repeat (first | (with_reducible first | exact HB.out | apply below_alloc | apply pw_below_drewN | apply below_drew1) | exact HB.out)⟩⟩
              · replace c11 := Bool.eq_false_iff.mpr c11
                subst c11
                have H1 : (ratlinelaw4_LexInts.j2 k2 x0_4 x9_2 (wrap64 (Int.tmod a2 10)) (⟨#[]⟩ : ByteArray) 3) = some r := by rw [if_neg (show ¬ (false = true) by decide)] at H; exact H
                clear H
                have H := H1
                clear H1
                have H' := Aside0.mk H
                clear H
                go_wp2
                go_meet
                case rel => exact ⟨_, ((⟨#[]⟩ : ByteArray)), (3), (by first | rfl | (simp; done) | (simp [*]; done)), (by first | rfl | (simp; done) | (simp [*]; done)), H', ⟨by have := HJ4.out; have := HK2.out; first | omega | exact Nat.le_refl _⟩, ⟨by repeat (first | (with_reducible first | exact HB.out | apply below_alloc | apply pw_below_drewN | apply below_drew1) | exact HB.out)⟩⟩
            case rest =>
              clear HC10
              try clear c1
              try clear p2
              try clear c6
              try clear c6b0
              try clear p6
              try clear c8
              try clear c8b0
              try clear c9
              try clear c9b0
              try clear c9b1
              try clear c9b2
              try clear c11
              try clear p2
              try clear p6
              obtain ⟨kq, x12_9, x13_9, rfl, rfl, HA, HJ9, HB⟩ := hcut
              cases kq with
              | zero => exact absurd HA.out (by simp [ratlinelaw4_LexInts.j2])
              | succ kj9 =>
                have H := HA.out
                clear HA
                simp only [ratlinelaw4_LexInts.j2] at H
                by_cases c12 : x9_2.size + x12_9.size ≤ 9223372036854775807
                · rw [if_pos c12] at H
                  have c12b0 := eq_true c12
                  have c12b1 : decide (x9_2.size + x12_9.size ≤ 9223372036854775807) = true := decide_eq_true c12
                  try have c12b2 : (9223372036854775807 < x9_2.size + x12_9.size) = False := eq_false (Nat.not_lt.2 c12)
                  replace H := Option.bind_eq_some_iff.mp H
                  obtain ⟨⟨t249, t250, t251⟩, A130, H⟩ := H
                  replace H : ((some (([(48 + (((wrap64 (Int.tmod a2 10))) % 256)) % 256] : List Int) : List Int)).bind fun y254 => (if x9_2.size + (strOfNums y254).size ≤ 9223372036854775807 then (if (x9_2 ++ (strOfNums y254)).size + x12_9.size ≤ 9223372036854775807 then ((lex_Tokens.f kj9 ((x9_2 ++ (strOfNums y254)) ++ x12_9)).bind fun bt257 => (if t251 = 0 then (if (t249.length : Int) = 1 then (if 0 < (t249.length : Int) then (if ((rd_T31 t249 0).f0) = x13_9 then (ratlinelaw4_LexInts.j3 kj9 x0_4 (wrap64 (Int.tmod a2 10)) bt257.1 bt257.2.1 bt257.2.2 (((rd_T31 t249 0).f2) != x0_4)) else (ratlinelaw4_LexInts.j3 kj9 x0_4 (wrap64 (Int.tmod a2 10)) bt257.1 bt257.2.1 bt257.2.2 true)) else (none)) else (ratlinelaw4_LexInts.j3 kj9 x0_4 (wrap64 (Int.tmod a2 10)) bt257.1 bt257.2.1 bt257.2.2 true)) else (ratlinelaw4_LexInts.j3 kj9 x0_4 (wrap64 (Int.tmod a2 10)) bt257.1 bt257.2.1 bt257.2.2 true))) else (none)) else (none))) = some r := H
                  have A13 := Aside0.mk A130
                  clear A130
                  obtain ⟨y254, hy254⟩ : ∃ y_ : List Int, y_ = (([(48 + (((wrap64 (Int.tmod a2 10))) % 256)) % 256] : List Int)) := ⟨_, rfl⟩
                  replace H : (if x9_2.size + (strOfNums y254).size ≤ 9223372036854775807 then (if (x9_2 ++ (strOfNums y254)).size + x12_9.size ≤ 9223372036854775807 then ((lex_Tokens.f kj9 ((x9_2 ++ (strOfNums y254)) ++ x12_9)).bind fun bt257 => (if t251 = 0 then (if (t249.length : Int) = 1 then (if 0 < (t249.length : Int) then (if ((rd_T31 t249 0).f0) = x13_9 then (ratlinelaw4_LexInts.j3 kj9 x0_4 (wrap64 (Int.tmod a2 10)) bt257.1 bt257.2.1 bt257.2.2 (((rd_T31 t249 0).f2) != x0_4)) else (ratlinelaw4_LexInts.j3 kj9 x0_4 (wrap64 (Int.tmod a2 10)) bt257.1 bt257.2.1 bt257.2.2 true)) else (none)) else (ratlinelaw4_LexInts.j3 kj9 x0_4 (wrap64 (Int.tmod a2 10)) bt257.1 bt257.2.1 bt257.2.2 true)) else (ratlinelaw4_LexInts.j3 kj9 x0_4 (wrap64 (Int.tmod a2 10)) bt257.1 bt257.2.1 bt257.2.2 true))) else (none)) else (none)) = some r := by first | (rw [hy254]; with_reducible exact H) | (have H2_ := (Option.bind_some _ _).symm.trans H; rw [hy254]; with_reducible exact H2_) | (have H2_ := (Option.bind_some _ _).symm.trans H; with_reducible exact H2_) | with_reducible exact H | (rw [hy254]; exact H) | exact H
                  have Ny254 := Aside0.mk hy254
                  clear hy254
                  by_cases c14 : x9_2.size + (strOfNums y254).size ≤ 9223372036854775807
                  · rw [if_pos c14] at H
                    have c14b0 := eq_true c14
                    have c14b1 : decide (x9_2.size + (strOfNums y254).size ≤ 9223372036854775807) = true := decide_eq_true c14
                    try have c14b2 : (9223372036854775807 < x9_2.size + (strOfNums y254).size) = False := eq_false (Nat.not_lt.2 c14)
                    by_cases c15 : (x9_2 ++ (strOfNums y254)).size + x12_9.size ≤ 9223372036854775807
                    · rw [if_pos c15] at H
                      have c15b0 := eq_true c15
                      have c15b1 : decide ((x9_2 ++ (strOfNums y254)).size + x12_9.size ≤ 9223372036854775807) = true := decide_eq_true c15
                      try have c15b2 : (9223372036854775807 < (x9_2 ++ (strOfNums y254)).size + x12_9.size) = False := eq_false (Nat.not_lt.2 c15)
                      replace H := Option.bind_eq_some_iff.mp H
                      obtain ⟨⟨t257, t258, t259⟩, A160, H⟩ := H
                      replace H : (if t251 = 0 then (if (t249.length : Int) = 1 then (if 0 < (t249.length : Int) then (if ((rd_T31 t249 0).f0) = x13_9 then (ratlinelaw4_LexInts.j3 kj9 x0_4 (wrap64 (Int.tmod a2 10)) t257 t258 t259 (((rd_T31 t249 0).f2) != x0_4)) else (ratlinelaw4_LexInts.j3 kj9 x0_4 (wrap64 (Int.tmod a2 10)) t257 t258 t259 true)) else (none)) else (ratlinelaw4_LexInts.j3 kj9 x0_4 (wrap64 (Int.tmod a2 10)) t257 t258 t259 true)) else (ratlinelaw4_LexInts.j3 kj9 x0_4 (wrap64 (Int.tmod a2 10)) t257 t258 t259 true)) = some r := H
                      have A16 := Aside0.mk A160
                      clear A160
                      have HC17 := Aside0.mk H
                      clear H
                      go_upto_region 14 with (first | ((with_reducible refine gate_callee (f := 8) rfl ?_); refine goesL_ (some 43) rfl rfl Tryd.func8 (by kernel_rfl) rfl #[.string (x9_2 ++ x12_9)] rfl (by (try simp only [List.map_toArray, List.map_cons, List.map_nil]); first | done | rfl | (simp only [List.length_drop, List.length_take]; rfl)) ?_; (with_reducible refine (lex_Tokens.calls kj9 (x9_2 ++ x12_9) t249 t250 t251 _ A13.out (by refine Laid.below ?_ hL; repeat (first | (with_reducible first | exact HB.out | apply below_alloc | apply pw_below_drewN | apply below_drew1) | exact HB.out))).mono ?_); rintro e w18 ⟨v252, rfl, ho0, hb⟩; refine ⟨_, rfl, ?_⟩; have n0_ := Aside0.mk (Kd.R_lower ho0 (below_size (by repeat (first | (with_reducible first | exact HB.out | apply below_alloc | apply pw_below_drewN | apply below_drew1) | exact HB.out)))); have n1_ := Aside0.mk (below_step (by repeat (first | (with_reducible first | exact HB.out | apply below_alloc | apply pw_below_drewN | apply below_drew1) | exact HB.out)) hb); clear HB; have HO253 := n0_; have HB := n1_; clear n0_ n1_; (try clear hb); (try clear hb2); (try clear hk); (try clear hi); (try clear ho0)) | ((with_reducible refine gate_dst (N := 52) rfl ?_); (try (refine gate_guard (by rfl) ?_; dsimp only)); refine Kd.R_lit (Kd.int .u8) _ 5 ?hg (N := 52) ?hd (xs := ([(48 + (((wrap64 (Int.tmod a2 10))) % 256)) % 256] : List Int)) (inner := [.int .u8 ((48 + (((wrap64 (Int.tmod a2 10))) % 256)) % 256)]) (ok := fun _ => True) (okp := fun _ => True) ?hr ?hp (fun _ hk => hk) trivial (Below.refl _ _) (Nat.le_refl _) (by simp) ?_; (case hd => rfl); (case hg => rfl); (case hr => first | (go_simp; done) | (go_simp; rfl)); (case hp => exact (Reps.one (show Kd.M (Kd.int .u8) _ _ _ ((48 + (((wrap64 (Int.tmod a2 10))) % 256)) % 256) [.int .u8 ((48 + (((wrap64 (Int.tmod a2 10))) % 256)) % 256)] from rfl) (Reps.none _ _))); intro v255 w19 ho20 hb hg_ hnew_; clear hg_ hnew_; (first | rw [← Ny254.out] at ho20 | (simp only [Int.reduceToNat] at ho20; rw [← Ny254.out] at ho20)); have n0_ := Aside0.mk (Kd.R_below (by (with_reducible repeat (first | apply Kd.R_alloc | apply Kd.R_drewN | apply Kd.R_drew)); exact HO253.out) hb); have n1_ := Aside0.mk (Kd.R_lower ho20 (below_size (by repeat (first | (with_reducible first | exact HB.out | apply below_alloc | apply pw_below_drewN | apply below_drew1) | exact HB.out)))); have n2_ := Aside0.mk (below_step (by repeat (first | (with_reducible first | exact HB.out | apply below_alloc | apply pw_below_drewN | apply below_drew1) | exact HB.out)) hb); clear HO253; clear HB; have HO253 := n0_; have HO256 := n1_; have HB := n2_; clear n0_ n1_ n2_; clear hb ho20; have hcv21 := own_string (P := Tryd.prog) Tryd.underlying37 Tryd.underlying5 Tryd.underlying9 (Kd.own_of_R HO256.out)) | ((with_reducible refine gate_callee (f := 8) rfl ?_); refine goesL_ (some 57) rfl rfl Tryd.func8 (by kernel_rfl) rfl #[.string ((x9_2 ++ (strOfNums y254)) ++ x12_9)] rfl (by (try simp only [List.map_toArray, List.map_cons, List.map_nil]); first | done | rfl | (simp only [List.length_drop, List.length_take]; rfl)) ?_; (with_reducible refine (lex_Tokens.calls kj9 ((x9_2 ++ (strOfNums y254)) ++ x12_9) t257 t258 t259 _ A16.out (by refine Laid.below ?_ hL; repeat (first | (with_reducible first | exact HB.out | apply below_alloc | apply pw_below_drewN | apply below_drew1) | exact HB.out))).mono ?_); rintro e w22 ⟨v260, rfl, ho0, hb⟩; refine ⟨_, rfl, ?_⟩; have n0_ := Aside0.mk (Kd.R_elder' (by (with_reducible repeat (first | apply Kd.R_alloc | apply Kd.R_drewN | apply Kd.R_drew)); exact HO253.out) (Kd.R_base ho0) hb); have n1_ := Aside0.mk (Kd.R_below (by (with_reducible repeat (first | apply Kd.R_alloc | apply Kd.R_drewN | apply Kd.R_drew)); exact HO256.out) hb); have n2_ := Aside0.mk (Kd.R_lower (Kd.R_new' ho0 (Kd.R_lt (by (with_reducible repeat (first | apply Kd.R_alloc | apply Kd.R_drewN | apply Kd.R_drew)); exact HO253.out))) (below_size (by repeat (first | (with_reducible first | exact HB.out | apply below_alloc | apply pw_below_drewN | apply below_drew1) | exact HB.out)))); have n3_ := Aside0.mk (below_step (by repeat (first | (with_reducible first | exact HB.out | apply below_alloc | apply pw_below_drewN | apply below_drew1) | exact HB.out)) hb); clear HO253; clear HO256; clear HB; have HO253 := n0_; have HO256 := n1_; have HO261 := n2_; have HB := n3_; clear n0_ n1_ n2_ n3_; (try clear hb); (try clear hb2); (try clear hk); (try clear hi); (try clear ho0)))
                      (try simp only [Act.put, List.setIfInBounds_toArray, List.set_cons_zero, List.set_cons_succ])
                      go_cut [83] (fun v83 wc => ∃ (kq : Nat) (x83_16 : Bool), v83 = .bool x83_16 ∧ Aside0 (ratlinelaw4_LexInts.j3 kq x0_4 (wrap64 (Int.tmod a2 10)) t257 t258 t259 x83_16 = some r) ∧ Aside0 (kq ≤ kj9) ∧ Aside0 (Kd.R k31 31 wc w.heap.size (fun _ => True) v260 t257) ∧ Aside0 (Below w.heap.size w wc))
                      case first =>
                        have H := HC17.out
                        clear HC17
                        by_cases c23 : t251 = 0
                        · rw [if_pos c23] at H
                          have c23b0 : (t251 == 0) = true := beq_iff_eq.mpr c23
                          have c23b1 : (t251 != 0) = false := bne_eq_false_iff_eq.mpr c23
                          clear c23
                          (first | rw [c23b0] | (simp only [i64_w, i32_w]; rw [c23b0]) | skip)
                          by_cases c24 : (t249.length : Int) = 1
                          · rw [if_pos c24] at H
                            have c24b0 : ((t249.length : Int) == 1) = true := beq_iff_eq.mpr c24
                            have c24b1 : ((t249.length : Int) != 1) = false := bne_eq_false_iff_eq.mpr c24
                            clear c24
                            by_cases c25 : 0 < (t249.length : Int)
                            · rw [if_pos c25] at H
                              have c25b0 : decide (0 < (t249.length : Int)) = true := decide_eq_true c25
                              have c25b1 : decide (0 < t249.length) = true := decide_eq_true (by omega)
                              clear c25
                              by_cases c26 : ((rd_T31 t249 0).f0) = x13_9
                              · rw [if_pos c26] at H
                                have c26b0 : (((rd_T31 t249 0).f0) == x13_9) = true := beq_iff_eq.mpr c26
                                have c26b1 : (((rd_T31 t249 0).f0) != x13_9) = false := bne_eq_false_iff_eq.mpr c26
                                clear c26
                                have H' := Aside0.mk H
                                clear H
                                obtain ⟨Ao27, co27, eo27⟩ := Kd.R_slice HO253.out
                                subst eo27
                                have p262 : 0 ≤ (0 : Int) := (by omega)
                                have q262 : 0 < (t249.length : Int) := of_decide_eq_true (by first | (with_reducible assumption) | assumption)
                                obtain ⟨ad262, e262, hx262_0, hx262_1, hx262_2, hx262_3⟩ := at_T31 (Kd.R_reads' HO253.out).2.2 0 p262 q262
                                cases e262
                                have qi262 : (0 < t249.length) = True := eq_true (by omega)
                                (try rw [show ((0 : Int)).toNat = 0 from rfl] at hx262_0)
                                (try rw [show 0 * 4 = 0 from rfl] at hx262_0)
                                (try rw [Addr.add_zero'] at hx262_0)
                                (try rw [show ((0 : Int)).toNat = 0 from rfl] at hx262_1)
                                (try rw [show 0 * 4 = 0 from rfl] at hx262_1)
                                (try rw [Addr.add_zero'] at hx262_1)
                                (try rw [show ((0 : Int)).toNat = 0 from rfl] at hx262_2)
                                (try rw [show 0 * 4 = 0 from rfl] at hx262_2)
                                (try rw [Addr.add_zero'] at hx262_2)
                                (try rw [show ((0 : Int)).toNat = 0 from rfl] at hx262_3)
                                (try rw [show 0 * 4 = 0 from rfl] at hx262_3)
                                (try rw [Addr.add_zero'] at hx262_3)
                                replace p262 := eq_true p262
                                replace q262 := eq_true q262
                                have p263 : 0 ≤ (0 : Int) := (by omega)
                                have q263 : 0 < (t249.length : Int) := of_decide_eq_true (by first | (with_reducible assumption) | assumption)
                                obtain ⟨ad263, e263, hx263_0, hx263_1, hx263_2, hx263_3⟩ := at_T31 (Kd.R_reads' HO253.out).2.2 0 p263 q263
                                obtain rfl : ad262 = ad263 := (by injection e263)
                                have qi263 : (0 < t249.length) = True := eq_true (by omega)
                                (try rw [show ((0 : Int)).toNat = 0 from rfl] at hx263_0)
                                (try rw [show 0 * 4 = 0 from rfl] at hx263_0)
                                (try rw [Addr.add_zero'] at hx263_0)
                                (try rw [show ((0 : Int)).toNat = 0 from rfl] at hx263_1)
                                (try rw [show 0 * 4 = 0 from rfl] at hx263_1)
                                (try rw [Addr.add_zero'] at hx263_1)
                                (try rw [show ((0 : Int)).toNat = 0 from rfl] at hx263_2)
                                (try rw [show 0 * 4 = 0 from rfl] at hx263_2)
                                (try rw [Addr.add_zero'] at hx263_2)
                                (try rw [show ((0 : Int)).toNat = 0 from rfl] at hx263_3)
                                (try rw [show 0 * 4 = 0 from rfl] at hx263_3)
                                (try rw [Addr.add_zero'] at hx263_3)
                                replace p263 := eq_true p263
                                replace q263 := eq_true q263
                                go_wp2
                                go_meet
                                case rel => exact ⟨_, ((((rd_T31 t249 0).f2) != x0_4)), (by first | rfl | (simp; done) | (simp [*]; done)), H', ⟨by have := HJ4.out; have := HK2.out; have := HJ9.out; first | omega | exact Nat.le_refl _⟩, ⟨by (with_reducible repeat (first | apply Kd.R_alloc | apply Kd.R_drewN | apply Kd.R_drew)); exact Kd.R_mono HO261.out (fun _ hk => trivial)⟩, ⟨by repeat (first | (with_reducible first | exact HB.out | apply below_alloc | apply pw_below_drewN | apply below_drew1) | exact HB.out)⟩⟩
                              · rw [if_neg c26] at H
                                have c26b0 : (((rd_T31 t249 0).f0) == x13_9) = false := beq_eq_false_iff_ne.mpr c26
                                have c26b1 : (((rd_T31 t249 0).f0) != x13_9) = true := bne_iff_ne.mpr c26
                                have H' := Aside0.mk H
                                clear H
                                obtain ⟨Ao28, co28, eo28⟩ := Kd.R_slice HO253.out
                                subst eo28
                                have p262 : 0 ≤ (0 : Int) := (by omega)
                                have q262 : 0 < (t249.length : Int) := of_decide_eq_true (by first | (with_reducible assumption) | assumption)
                                obtain ⟨ad262, e262, hx262_0, hx262_1, hx262_2, hx262_3⟩ := at_T31 (Kd.R_reads' HO253.out).2.2 0 p262 q262
                                cases e262
                                have qi262 : (0 < t249.length) = True := eq_true (by omega)
                                (try rw [show ((0 : Int)).toNat = 0 from rfl] at hx262_0)
                                (try rw [show 0 * 4 = 0 from rfl] at hx262_0)
                                (try rw [Addr.add_zero'] at hx262_0)
                                (try rw [show ((0 : Int)).toNat = 0 from rfl] at hx262_1)
                                (try rw [show 0 * 4 = 0 from rfl] at hx262_1)
                                (try rw [Addr.add_zero'] at hx262_1)
                                (try rw [show ((0 : Int)).toNat = 0 from rfl] at hx262_2)
                                (try rw [show 0 * 4 = 0 from rfl] at hx262_2)
                                (try rw [Addr.add_zero'] at hx262_2)
                                (try rw [show ((0 : Int)).toNat = 0 from rfl] at hx262_3)
                                (try rw [show 0 * 4 = 0 from rfl] at hx262_3)
                                (try rw [Addr.add_zero'] at hx262_3)
                                replace p262 := eq_true p262
                                replace q262 := eq_true q262
                                go_wp2
                                go_meet
                                case rel => exact ⟨_, (true), (by first | rfl | (simp; done) | (simp [*]; done)), H', ⟨by have := HJ4.out; have := HK2.out; have := HJ9.out; first | omega | exact Nat.le_refl _⟩, ⟨by (with_reducible repeat (first | apply Kd.R_alloc | apply Kd.R_drewN | apply Kd.R_drew)); exact Kd.R_mono HO261.out (fun _ hk => trivial)⟩, ⟨by repeat (first | (with_reducible first | exact HB.out | apply below_alloc | apply pw_below_drewN | apply below_drew1) | exact HB.out)⟩⟩
                            · rw [if_neg c25] at H
                              exact absurd H (by simp)
                          · rw [if_neg c24] at H
                            have c24b0 : ((t249.length : Int) == 1) = false := beq_eq_false_iff_ne.mpr c24
                            have c24b1 : ((t249.length : Int) != 1) = true := bne_iff_ne.mpr c24
                            have H' := Aside0.mk H
                            clear H
                            obtain ⟨Ao29, co29, eo29⟩ := Kd.R_slice HO253.out
                            subst eo29
                            go_wp2
                            go_meet
                            case rel => exact ⟨_, (true), (by first | rfl | (simp; done) | (simp [*]; done)), H', ⟨by have := HJ4.out; have := HK2.out; have := HJ9.out; first | omega | exact Nat.le_refl _⟩, ⟨by (with_reducible repeat (first | apply Kd.R_alloc | apply Kd.R_drewN | apply Kd.R_drew)); exact Kd.R_mono HO261.out (fun _ hk => trivial)⟩, ⟨by repeat (first | (with_reducible first | exact HB.out | apply below_alloc | apply pw_below_drewN | apply below_drew1) | exact HB.out)⟩⟩
                        · rw [if_neg c23] at H
                          have c23b0 : (t251 == 0) = false := beq_eq_false_iff_ne.mpr c23
                          have c23b1 : (t251 != 0) = true := bne_iff_ne.mpr c23
                          (first | rw [c23b0] | (simp only [i64_w, i32_w]; rw [c23b0]) | skip)
                          have H' := Aside0.mk H
                          clear H
                          go_wp2
                          go_meet
                          case rel => exact ⟨_, (true), (by first | rfl | (simp; done) | (simp [*]; done)), H', ⟨by have := HJ4.out; have := HK2.out; have := HJ9.out; first | omega | exact Nat.le_refl _⟩, ⟨by (with_reducible repeat (first | apply Kd.R_alloc | apply Kd.R_drewN | apply Kd.R_drew)); exact Kd.R_mono HO261.out (fun _ hk => trivial)⟩, ⟨by repeat (first | (with_reducible first | exact HB.out | apply below_alloc | apply pw_below_drewN | apply below_drew1) | exact HB.out)⟩⟩
                      case rest =>
                        clear HC17
                        try clear c1
                        try clear c2
                        try clear p2
                        try clear q2
                        try clear hx2
                        try clear hcv2
                        try clear qi2
                        try clear c6
                        try clear c6b0
                        try clear p6
                        try clear c8
                        try clear c8b0
                        try clear c9
                        try clear c9b0
                        try clear c9b1
                        try clear c9b2
                        try clear c11
                        try clear c12
                        try clear c12b0
                        try clear c12b1
                        try clear c12b2
                        try clear c13
                        try clear c14
                        try clear c14b0
                        try clear c14b1
                        try clear c14b2
                        try clear c15
                        try clear c15b0
                        try clear c15b1
                        try clear c15b2
                        try clear hcv21
                        try clear c23
                        try clear c23b0
                        try clear c23b1
                        try clear c24
                        try clear c24b0
                        try clear c24b1
                        try clear c25
                        try clear c25b0
                        try clear c25b1
                        try clear c26
                        try clear c26b0
                        try clear c26b1
                        try clear p26
                        try clear q26
                        try clear hx26
                        try clear qi26
                        try clear hx262_0
                        try clear hx262_1
                        try clear hx262_2
                        try clear hx262_3
                        try clear hx263_0
                        try clear hx263_1
                        try clear hx263_2
                        try clear hx263_3
                        try clear p2
                        try clear p262
                        try clear p263
                        try clear p6
                        try clear q262
                        try clear q263
                        obtain ⟨kq, x83_16, rfl, HA, HJ16, HO_17, HB⟩ := hcut
                        cases kq with
                        | zero => exact absurd HA.out (by simp [ratlinelaw4_LexInts.j3])
                        | succ kj16 =>
                          have H := HA.out
                          clear HA
                          simp only [ratlinelaw4_LexInts.j3] at H
                          by_cases c30 : x83_16 = true
                          · subst c30
                            have H1 : (some false) = some r := by rw [if_pos rfl] at H; exact H
                            clear H
                            have H := H1
                            clear H1
                            obtain rfl := Option.some.inj H
                            go_wp2
                            go_ret
                            exact ⟨by first | rfl | (simp [errW_none, errW_some] <;> rfl) | (simp [*, errW_none, errW_some] <;> rfl), by repeat (first | (with_reducible first | exact HB.out | apply below_alloc | apply pw_below_drewN | apply below_drew1) | exact HB.out)⟩
                          · replace c30 := Bool.eq_false_iff.mpr c30
                            subst c30
                            have H1 : (if x0_4 > (wrap64 (Int.tdiv (wrap64 (9223372036854775807 - (wrap64 (Int.tmod a2 10)))) 10)) then (if t259 = 10 then (if t258 = 0 then (if (t257.length : Int) = 0 then ((ratlinelaw4_awake.f kj16).bind fun t264 => (some t264)) else (some false)) else (some false)) else (some false)) else (if t259 = 0 then (if (t257.length : Int) = 1 then (if 0 < (t257.length : Int) then (if ((rd_T31 t257 0).f2) = (wrap64 ((wrap64 (10 * x0_4)) + (wrap64 (Int.tmod a2 10)))) then ((ratlinelaw4_awake.f kj16).bind fun t266 => (some t266)) else (some false)) else (none)) else (some false)) else (some false))) = some r := by rw [if_neg (show ¬ (false = true) by decide)] at H; exact H
                            clear H
                            have H := H1
                            clear H1
                            by_cases c31 : x0_4 > (wrap64 (Int.tdiv (wrap64 (9223372036854775807 - (wrap64 (Int.tmod a2 10)))) 10))
                            · rw [if_pos c31] at H
                              have c31b0 : decide ((wrap64 (Int.tdiv (wrap64 (9223372036854775807 - (wrap64 (Int.tmod a2 10)))) 10)) < x0_4) = true := decide_eq_true c31
                              clear c31
                              by_cases c32 : t259 = 10
                              · rw [if_pos c32] at H
                                have c32b0 : (t259 == 10) = true := beq_iff_eq.mpr c32
                                have c32b1 : (t259 != 10) = false := bne_eq_false_iff_eq.mpr c32
                                clear c32
                                by_cases c33 : t258 = 0
                                · rw [if_pos c33] at H
                                  have c33b0 : (t258 == 0) = true := beq_iff_eq.mpr c33
                                  have c33b1 : (t258 != 0) = false := bne_eq_false_iff_eq.mpr c33
                                  clear c33
                                  by_cases c34 : (t257.length : Int) = 0
                                  · rw [if_pos c34] at H
                                    have c34b0 : ((t257.length : Int) == 0) = true := beq_iff_eq.mpr c34
                                    have c34b1 : ((t257.length : Int) != 0) = false := bne_eq_false_iff_eq.mpr c34
                                    clear c34
                                    replace H := Option.bind_eq_some_iff.mp H
                                    obtain ⟨t264, A350, H⟩ := H
                                    replace H : (some t264) = some r := H
                                    have A35 := Aside0.mk A350
                                    clear A350
                                    obtain rfl := Option.some.inj H
                                    obtain ⟨Ao36, co36, eo36⟩ := Kd.R_slice HO_17.out
                                    subst eo36
                                    go_wp2_with (first | (go_at_call 10; (with_reducible refine (ratlinelaw4_awake.calls kj16  t264 _ A35.out (by refine Laid.below ?_ hL; repeat (first | (with_reducible first | exact HB.out | apply below_alloc | apply pw_below_drewN | apply below_drew1) | exact HB.out))).mono ?_); rintro e w37 ⟨rfl, hb⟩; have n0_ := Aside0.mk (Kd.R_below (by (with_reducible repeat (first | apply Kd.R_alloc | apply Kd.R_drewN | apply Kd.R_drew)); exact HO_17.out) hb); have n1_ := Aside0.mk (below_step (by repeat (first | (with_reducible first | exact HB.out | apply below_alloc | apply pw_below_drewN | apply below_drew1) | exact HB.out)) hb); clear HO_17; clear HB; have HO_17 := n0_; have HB := n1_; clear n0_ n1_; (try clear hb); (try clear hb2); (try clear hk); (try clear hi)))
                                    go_ret
                                    exact ⟨by first | rfl | (simp [errW_none, errW_some] <;> rfl) | (simp [*, errW_none, errW_some] <;> rfl), by repeat (first | (with_reducible first | exact HB.out | apply below_alloc | apply pw_below_drewN | apply below_drew1) | exact HB.out)⟩
                                  · rw [if_neg c34] at H
                                    have c34b0 : ((t257.length : Int) == 0) = false := beq_eq_false_iff_ne.mpr c34
                                    have c34b1 : ((t257.length : Int) != 0) = true := bne_iff_ne.mpr c34
                                    have c34b2 : ¬ (t257 = []) := fun h_ => c34 (by rw [h_]; rfl)
                                    obtain rfl := Option.some.inj H
                                    obtain ⟨Ao38, co38, eo38⟩ := Kd.R_slice HO_17.out
                                    subst eo38
                                    go_wp2
                                    go_ret
                                    exact ⟨by first | rfl | (simp [errW_none, errW_some] <;> rfl) | (simp [*, errW_none, errW_some] <;> rfl), by repeat (first | (with_reducible first | exact HB.out | apply below_alloc | apply pw_below_drewN | apply below_drew1) | exact HB.out)⟩
                                · rw [if_neg c33] at H
                                  have c33b0 : (t258 == 0) = false := beq_eq_false_iff_ne.mpr c33
                                  have c33b1 : (t258 != 0) = true := bne_iff_ne.mpr c33
                                  obtain rfl := Option.some.inj H
                                  go_wp2
                                  go_ret
                                  exact ⟨by first | rfl | (simp [errW_none, errW_some] <;> rfl) | (simp [*, errW_none, errW_some] <;> rfl), by repeat (first | (with_reducible first | exact HB.out | apply below_alloc | apply pw_below_drewN | apply below_drew1) | exact HB.out)⟩
                              · rw [if_neg c32] at H
                                have c32b0 : (t259 == 10) = false := beq_eq_false_iff_ne.mpr c32
                                have c32b1 : (t259 != 10) = true := bne_iff_ne.mpr c32
                                obtain rfl := Option.some.inj H
                                go_wp2
                                go_ret
                                exact ⟨by first | rfl | (simp [errW_none, errW_some] <;> rfl) | (simp [*, errW_none, errW_some] <;> rfl), by repeat (first | (with_reducible first | exact HB.out | apply below_alloc | apply pw_below_drewN | apply below_drew1) | exact HB.out)⟩
                            · rw [if_neg c31] at H
                              have c31b0 : decide ((wrap64 (Int.tdiv (wrap64 (9223372036854775807 - (wrap64 (Int.tmod a2 10)))) 10)) < x0_4) = false := decide_eq_false c31
                              clear c31
                              by_cases c39 : t259 = 0
                              · rw [if_pos c39] at H
                                have c39b0 : (t259 == 0) = true := beq_iff_eq.mpr c39
                                have c39b1 : (t259 != 0) = false := bne_eq_false_iff_eq.mpr c39
                                clear c39
                                by_cases c40 : (t257.length : Int) = 1
                                · rw [if_pos c40] at H
                                  have c40b0 : ((t257.length : Int) == 1) = true := beq_iff_eq.mpr c40
                                  have c40b1 : ((t257.length : Int) != 1) = false := bne_eq_false_iff_eq.mpr c40
                                  clear c40
                                  by_cases c41 : 0 < (t257.length : Int)
                                  · rw [if_pos c41] at H
                                    have c41b0 : decide (0 < (t257.length : Int)) = true := decide_eq_true c41
                                    have c41b1 : decide (0 < t257.length) = true := decide_eq_true (by omega)
                                    clear c41
                                    by_cases c42 : ((rd_T31 t257 0).f2) = (wrap64 ((wrap64 (10 * x0_4)) + (wrap64 (Int.tmod a2 10))))
                                    · rw [if_pos c42] at H
                                      have c42b0 : (((rd_T31 t257 0).f2) == (wrap64 ((wrap64 (10 * x0_4)) + (wrap64 (Int.tmod a2 10))))) = true := beq_iff_eq.mpr c42
                                      try have c42b5 : (((rd_T31 t257 0).f2) == ((wrap64 (10 * x0_4)) + (wrap64 (Int.tmod a2 10)))) = true := by (have z : wrap64 ((wrap64 (10 * x0_4)) + (wrap64 (Int.tmod a2 10))) = (wrap64 (10 * x0_4)) + (wrap64 (Int.tmod a2 10)) := by (unfold wrap64; omega)); rw [z] at c42b0; exact c42b0
                                      try have c42b6 : (((rd_T31 t257 0).f2) != ((wrap64 (10 * x0_4)) + (wrap64 (Int.tmod a2 10)))) = false := by (have z : wrap64 ((wrap64 (10 * x0_4)) + (wrap64 (Int.tmod a2 10))) = (wrap64 (10 * x0_4)) + (wrap64 (Int.tmod a2 10)) := by (unfold wrap64; omega)); rw [z] at c42b0; rw [bne, c42b0]; rfl
                                      have c42b1 : (((rd_T31 t257 0).f2) != (wrap64 ((wrap64 (10 * x0_4)) + (wrap64 (Int.tmod a2 10))))) = false := bne_eq_false_iff_eq.mpr c42
                                      clear c42
                                      replace H := Option.bind_eq_some_iff.mp H
                                      obtain ⟨t266, A430, H⟩ := H
                                      replace H : (some t266) = some r := H
                                      have A43 := Aside0.mk A430
                                      clear A430
                                      obtain rfl := Option.some.inj H
                                      obtain ⟨Ao44, co44, eo44⟩ := Kd.R_slice HO_17.out
                                      subst eo44
                                      have p265 : 0 ≤ (0 : Int) := (by omega)
                                      have q265 : 0 < (t257.length : Int) := of_decide_eq_true (by first | (with_reducible assumption) | assumption)
                                      obtain ⟨ad265, e265, hx265_0, hx265_1, hx265_2, hx265_3⟩ := at_T31 (Kd.R_reads' HO_17.out).2.2 0 p265 q265
                                      cases e265
                                      have qi265 : (0 < t257.length) = True := eq_true (by omega)
                                      (try rw [show ((0 : Int)).toNat = 0 from rfl] at hx265_0)
                                      (try rw [show 0 * 4 = 0 from rfl] at hx265_0)
                                      (try rw [Addr.add_zero'] at hx265_0)
                                      (try rw [show ((0 : Int)).toNat = 0 from rfl] at hx265_1)
                                      (try rw [show 0 * 4 = 0 from rfl] at hx265_1)
                                      (try rw [Addr.add_zero'] at hx265_1)
                                      (try rw [show ((0 : Int)).toNat = 0 from rfl] at hx265_2)
                                      (try rw [show 0 * 4 = 0 from rfl] at hx265_2)
                                      (try rw [Addr.add_zero'] at hx265_2)
                                      (try rw [show ((0 : Int)).toNat = 0 from rfl] at hx265_3)
                                      (try rw [show 0 * 4 = 0 from rfl] at hx265_3)
                                      (try rw [Addr.add_zero'] at hx265_3)
                                      replace p265 := eq_true p265
                                      replace q265 := eq_true q265
                                      go_wp2_with (first | (go_at_call 10; (with_reducible refine (ratlinelaw4_awake.calls kj16  t266 _ A43.out (by refine Laid.below ?_ hL; repeat (first | (with_reducible first | exact HB.out | apply below_alloc | apply pw_below_drewN | apply below_drew1) | exact HB.out))).mono ?_); rintro e w45 ⟨rfl, hb⟩; have n0_ := Aside0.mk (Kd.R_below (by (with_reducible repeat (first | apply Kd.R_alloc | apply Kd.R_drewN | apply Kd.R_drew)); exact HO_17.out) hb); have n1_ := Aside0.mk (below_step (by repeat (first | (with_reducible first | exact HB.out | apply below_alloc | apply pw_below_drewN | apply below_drew1) | exact HB.out)) hb); clear HO_17; clear HB; have HO_17 := n0_; have HB := n1_; clear n0_ n1_; (try clear hb); (try clear hb2); (try clear hk); (try clear hi)))
                                      go_ret
                                      exact ⟨by first | rfl | (simp [errW_none, errW_some] <;> rfl) | (simp [*, errW_none, errW_some] <;> rfl), by repeat (first | (with_reducible first | exact HB.out | apply below_alloc | apply pw_below_drewN | apply below_drew1) | exact HB.out)⟩
                                    · rw [if_neg c42] at H
                                      have c42b0 : (((rd_T31 t257 0).f2) == (wrap64 ((wrap64 (10 * x0_4)) + (wrap64 (Int.tmod a2 10))))) = false := beq_eq_false_iff_ne.mpr c42
                                      try have c42b5 : (((rd_T31 t257 0).f2) == ((wrap64 (10 * x0_4)) + (wrap64 (Int.tmod a2 10)))) = false := by (have z : wrap64 ((wrap64 (10 * x0_4)) + (wrap64 (Int.tmod a2 10))) = (wrap64 (10 * x0_4)) + (wrap64 (Int.tmod a2 10)) := by (unfold wrap64; omega)); rw [z] at c42b0; exact c42b0
                                      try have c42b6 : (((rd_T31 t257 0).f2) != ((wrap64 (10 * x0_4)) + (wrap64 (Int.tmod a2 10)))) = true := by (have z : wrap64 ((wrap64 (10 * x0_4)) + (wrap64 (Int.tmod a2 10))) = (wrap64 (10 * x0_4)) + (wrap64 (Int.tmod a2 10)) := by (unfold wrap64; omega)); rw [z] at c42b0; rw [bne, c42b0]; rfl
                                      have c42b1 : (((rd_T31 t257 0).f2) != (wrap64 ((wrap64 (10 * x0_4)) + (wrap64 (Int.tmod a2 10))))) = true := bne_iff_ne.mpr c42
                                      obtain rfl := Option.some.inj H
                                      obtain ⟨Ao46, co46, eo46⟩ := Kd.R_slice HO_17.out
                                      subst eo46
                                      have p265 : 0 ≤ (0 : Int) := (by omega)
                                      have q265 : 0 < (t257.length : Int) := of_decide_eq_true (by first | (with_reducible assumption) | assumption)
                                      obtain ⟨ad265, e265, hx265_0, hx265_1, hx265_2, hx265_3⟩ := at_T31 (Kd.R_reads' HO_17.out).2.2 0 p265 q265
                                      cases e265
                                      have qi265 : (0 < t257.length) = True := eq_true (by omega)
                                      (try rw [show ((0 : Int)).toNat = 0 from rfl] at hx265_0)
                                      (try rw [show 0 * 4 = 0 from rfl] at hx265_0)
                                      (try rw [Addr.add_zero'] at hx265_0)
                                      (try rw [show ((0 : Int)).toNat = 0 from rfl] at hx265_1)
                                      (try rw [show 0 * 4 = 0 from rfl] at hx265_1)
                                      (try rw [Addr.add_zero'] at hx265_1)
                                      (try rw [show ((0 : Int)).toNat = 0 from rfl] at hx265_2)
                                      (try rw [show 0 * 4 = 0 from rfl] at hx265_2)
                                      (try rw [Addr.add_zero'] at hx265_2)
                                      (try rw [show ((0 : Int)).toNat = 0 from rfl] at hx265_3)
                                      (try rw [show 0 * 4 = 0 from rfl] at hx265_3)
                                      (try rw [Addr.add_zero'] at hx265_3)
                                      replace p265 := eq_true p265
                                      replace q265 := eq_true q265
                                      go_wp2
                                      go_ret
                                      exact ⟨by first | rfl | (simp [errW_none, errW_some] <;> rfl) | (simp [*, errW_none, errW_some] <;> rfl), by repeat (first | (with_reducible first | exact HB.out | apply below_alloc | apply pw_below_drewN | apply below_drew1) | exact HB.out)⟩
                                  · rw [if_neg c41] at H
                                    exact absurd H (by simp)
                                · rw [if_neg c40] at H
                                  have c40b0 : ((t257.length : Int) == 1) = false := beq_eq_false_iff_ne.mpr c40
                                  have c40b1 : ((t257.length : Int) != 1) = true := bne_iff_ne.mpr c40
                                  obtain rfl := Option.some.inj H
                                  obtain ⟨Ao47, co47, eo47⟩ := Kd.R_slice HO_17.out
                                  subst eo47
                                  go_wp2
                                  go_ret
                                  exact ⟨by first | rfl | (simp [errW_none, errW_some] <;> rfl) | (simp [*, errW_none, errW_some] <;> rfl), by repeat (first | (with_reducible first | exact HB.out | apply below_alloc | apply pw_below_drewN | apply below_drew1) | exact HB.out)⟩
                              · rw [if_neg c39] at H
                                have c39b0 : (t259 == 0) = false := beq_eq_false_iff_ne.mpr c39
                                have c39b1 : (t259 != 0) = true := bne_iff_ne.mpr c39
                                obtain rfl := Option.some.inj H
                                go_wp2
                                go_ret
                                exact ⟨by first | rfl | (simp [errW_none, errW_some] <;> rfl) | (simp [*, errW_none, errW_some] <;> rfl), by repeat (first | (with_reducible first | exact HB.out | apply below_alloc | apply pw_below_drewN | apply below_drew1) | exact HB.out)⟩
                    · rw [if_neg c15] at H
                      exact absurd H (by simp)
                  · rw [if_neg c14] at H
                    exact absurd H (by simp)
                · rw [if_neg c12] at H
                  exact absurd H (by simp)

/-- THE ONE PURE STATEMENT of ratlinelaw4_LexInts: yours. -/
def ratlinelaw4_LexInts.Pure : Prop := ∀ (a0 : Int) (a1 : Int) (a2 : Int) (a3 : Bool), (Lit.int .i64 a0).wf = true → (Lit.int .i64 a1).wf = true → (Lit.int .u8 a2).wf = true → ∃ k, ratlinelaw4_LexInts.f k a0 a1 a2 a3 = some true
theorem ratlinelaw4_LexInts.walk (P : ratlinelaw4_LexInts.Pure) (a0 : Int) (a1 : Int) (a2 : Int) (a3 : Bool) (w : World) (w0 : (Lit.int .i64 a0).wf = true) (w1 : (Lit.int .i64 a1).wf = true) (w2 : (Lit.int .u8 a2).wf = true) (hL : Laid w) :
    Calls Tryd.prog 6 #[.int .i64 a0, .int .i64 a1, .int .u8 a2, .bool a3] w fun e w' => e = .returned (.bool true) ∧ Below w.heap.size w w' := by
  obtain ⟨k, h⟩ := P a0 a1 a2 a3 w0 w1 w2
  refine (ratlinelaw4_LexInts.calls k a0 a1 a2 a3 true w h hL).mono ?_
  rintro e w' ⟨rfl, hd⟩
  exact ⟨rfl, hd⟩

end Go.Proofs.YtmmndmfphcbieaaDoor.XLex
