-- written by gprint.py: the printer run with given contracts
import Derived.Test.YtmmndmfphcbieaaDoorXLexx0
import Derived.Test.YtmmndmfphcbieaaDoorXLexx1
import Derived.Test.YtmmndmfphcbieaaDoorXLexx5
import Derived.Test.YtmmndmfphcbieaaDoorXLexx9
namespace Go.Proofs.YtmmndmfphcbieaaDoor.XLex
open Go.RowKit Go.Proofs.YtmmndmfphcbieaaDoorW.PrintWords Go.Proofs.YtmmndmfphcbieaaDoorW.PrintLast Go.Proofs.YtmmndmfphcbieaaDoorW.PrintMore
attribute [local go_sem] max2_int min2_int max_two min_two max_three min_three max_four min_four   -- for this text's walks alone
set_option linter.unusedVariables false
set_option linter.unusedSimpArgs false

/-! ### ratlinelaw4_LexRemarks: function 7 -/
def ratlinelaw4_LexRemarks.l0 : Nat → ByteArray → Int → Option (Bool)
  | 0, _, _ => none
  | k + 1, x0, x3 => if x3 < (x0.size : Int) then (if 0 ≤ x3 then (if (bt x0 x3) = 10 then ((ratlinelaw4_awake.f k).bind fun t267 => (some t267)) else (ratlinelaw4_LexRemarks.l0 k x0 (wrap64 (x3 + 1)))) else (none)) else (if (x0.size : Int) > 500 then ((ratlinelaw4_awake.f k).bind fun t268 => (some t268)) else (if 3 + x0.size ≤ 9223372036854775807 then (if ((⟨#[97, 32, 35]⟩ : ByteArray) ++ x0).size + 2 ≤ 9223372036854775807 then ((lex_Tokens.f k (((⟨#[97, 32, 35]⟩ : ByteArray) ++ x0) ++ (⟨#[10, 98]⟩ : ByteArray))).bind fun bt269 => (if bt269.2.2 = 0 then (if (bt269.1.length : Int) = 2 then (if 1 < (bt269.1.length : Int) then (if ((rd_T31 bt269.1 1).f1).toList = ([98] : List UInt8) then (if ((rd_T31 bt269.1 1).f3) = (wrap64 ((x0.size : Int) + 4)) then ((ratlinelaw4_awake.f k).bind fun t276 => (some t276)) else (some false)) else (some false)) else (none)) else (some false)) else (some false))) else (none)) else (none)))
def ratlinelaw4_LexRemarks.f (k : Nat) (a0 : ByteArray) : Option (Bool) := ratlinelaw4_LexRemarks.l0 k a0 0
theorem ratlinelaw4_LexRemarks.mono_l : ∀ k, (∀ y0 y1, LeO (ratlinelaw4_LexRemarks.l0 k y0 y1) (ratlinelaw4_LexRemarks.l0 (k + 1) y0 y1))
  | 0 => fun _ _ r h => by simp [ratlinelaw4_LexRemarks.l0] at h
  | k + 1 => by
    have ih0 := ratlinelaw4_LexRemarks.mono_l k
    · intro y0 y1
      unfold ratlinelaw4_LexRemarks.l0
      repeat' first
      | (with_reducible exact ih0 _ _)
      | (with_reducible exact lex_Tokens.mono _ _)
      | (with_reducible exact ratlinelaw4_awake.mono _)
      | (with_reducible exact LeO.refl _)
      | (with_reducible exact LeO.none _)
      | (with_reducible refine LeO.ite ?_ ?_)
      | (with_reducible refine LeO.bind ?_ (fun _ => ?_))
      | exact ih0 _ _
      | exact lex_Tokens.mono _ _
      | exact ratlinelaw4_awake.mono _
      | exact LeO.none _
      | refine LeO.ite ?_ ?_
      | refine LeO.bind ?_ (fun _ => ?_)
theorem ratlinelaw4_LexRemarks.mono : ∀ a0 k, LeO (ratlinelaw4_LexRemarks.f k a0) (ratlinelaw4_LexRemarks.f (k + 1) a0) := by
  intro a0 k
  have ih0 := ratlinelaw4_LexRemarks.mono_l k
  unfold ratlinelaw4_LexRemarks.f
  repeat' first
      | (with_reducible exact ih0 _ _)
      | (with_reducible exact lex_Tokens.mono _ _)
      | (with_reducible exact ratlinelaw4_awake.mono _)
      | (with_reducible exact LeO.refl _)
      | (with_reducible exact LeO.none _)
      | (with_reducible refine LeO.ite ?_ ?_)
      | (with_reducible refine LeO.bind ?_ (fun _ => ?_))
      | exact ih0 _ _
      | exact lex_Tokens.mono _ _
      | exact ratlinelaw4_awake.mono _
      | exact LeO.none _
      | refine LeO.ite ?_ ?_
      | refine LeO.bind ?_ (fun _ => ?_)
set_option maxHeartbeats 8000000 in
set_option maxRecDepth 100000 in
theorem ratlinelaw4_LexRemarks.calls (k : Nat) (a0 : ByteArray) (r : Bool) (w : World) (h : ratlinelaw4_LexRemarks.f k a0 = some r) (hL : Laid w) :
    Calls Tryd.prog 7 #[.string a0] w fun e w' => e = .returned (.bool r) ∧ Below w.heap.size w w' := by
  have HB := Aside0.mk (Below.refl w.heap.size w)
  have H : (ratlinelaw4_LexRemarks.l0 k a0 0) = some r := h
  clear h
  have H' := Aside0.mk H
  clear H
  go_enter Tryd.func7, Tryd.ntmps7
  go_wp2
  go_loopg [3] k (fun kq v3 w' => ∃ (x3_1 : Int), v3 = .int .i64 x3_1 ∧ Aside0 (ratlinelaw4_LexRemarks.l0 kq a0 x3_1 = some r) ∧ Aside0 (kq ≤ k) ∧ Aside0 (Below w.heap.size w w'))
  case atStart => exact ⟨(0), (by first | rfl | (simp; done) | (simp [*]; done)), H', ⟨Nat.le_refl _⟩, ⟨by repeat (first | (with_reducible first | exact HB.out | apply below_alloc | apply pw_below_drewN | apply below_drew1) | exact HB.out)⟩⟩
  case round =>
    clear H'
    obtain ⟨x3_1, rfl, HA, HK1, HB⟩ := hrel
    cases gk with
    | zero => exact absurd HA.out (by simp [ratlinelaw4_LexRemarks.l0])
    | succ k1 =>
      have H := HA.out
      clear HA
      simp only [ratlinelaw4_LexRemarks.l0] at H
      by_cases c2 : x3_1 < (a0.size : Int)
      · rw [if_pos c2] at H
        have c2b0 : decide (x3_1 < (a0.size : Int)) = true := decide_eq_true c2
        clear c2
        by_cases c3 : 0 ≤ x3_1
        · rw [if_pos c3] at H
          have c3b0 : decide (0 ≤ x3_1) = true := decide_eq_true c3
          clear c3
          by_cases c5 : (bt a0 x3_1) = 10
          · rw [if_pos c5] at H
            have c5b0 : ((bt a0 x3_1) == 10) = true := beq_iff_eq.mpr c5
            have c5b1 : ((bt a0 x3_1) != 10) = false := bne_eq_false_iff_eq.mpr c5
            clear c5
            replace H := Option.bind_eq_some_iff.mp H
            obtain ⟨t267, A60, H⟩ := H
            replace H : (some t267) = some r := H
            have A6 := Aside0.mk A60
            clear A60
            obtain rfl := Option.some.inj H
            have p4 : 0 ≤ (x3_1 : Int) := of_decide_eq_true (by first | (with_reducible assumption) | assumption)
            have q4 : x3_1 < (a0.size : Int) := of_decide_eq_true (by first | (with_reducible assumption) | assumption)
            have hx4 := bt_at a0 x3_1
            replace p4 := eq_true p4
            replace q4 := eq_true q4
            go_wp2_with (first | ((with_reducible refine gate_callee (f := 10) rfl ?_); refine goesL_ (some 17) rfl rfl Tryd.func10 (by kernel_rfl) rfl #[] rfl (by (try simp only [List.map_toArray, List.map_cons, List.map_nil]); first | done | rfl | (simp only [List.length_drop, List.length_take]; rfl)) ?_; (with_reducible refine (ratlinelaw4_awake.calls k1  t267 _ A6.out (by refine Laid.below ?_ hL; repeat (first | (with_reducible first | exact HB.out | apply below_alloc | apply pw_below_drewN | apply below_drew1) | exact HB.out))).mono ?_); rintro e w7 ⟨rfl, hb⟩; refine ⟨_, rfl, ?_⟩; have n0_ := Aside0.mk (below_step (by repeat (first | (with_reducible first | exact HB.out | apply below_alloc | apply pw_below_drewN | apply below_drew1) | exact HB.out)) hb); clear HB; have HB := n0_; clear n0_; (try clear hb); (try clear hb2); (try clear hk); (try clear hi)))
            go_ret
            exact ⟨by first | rfl | (simp [errW_none, errW_some] <;> rfl) | (simp [*, errW_none, errW_some] <;> rfl), by repeat (first | (with_reducible first | exact HB.out | apply below_alloc | apply pw_below_drewN | apply below_drew1) | exact HB.out)⟩
          · rw [if_neg c5] at H
            have c5b0 : ((bt a0 x3_1) == 10) = false := beq_eq_false_iff_ne.mpr c5
            have c5b1 : ((bt a0 x3_1) != 10) = true := bne_iff_ne.mpr c5
            have H' := Aside0.mk H
            clear H
            have p4 : 0 ≤ (x3_1 : Int) := of_decide_eq_true (by first | (with_reducible assumption) | assumption)
            have q4 : x3_1 < (a0.size : Int) := of_decide_eq_true (by first | (with_reducible assumption) | assumption)
            have hx4 := bt_at a0 x3_1
            replace p4 := eq_true p4
            replace q4 := eq_true q4
            go_wp2
            go_roundg k1
            case measure => have := HK1.out; omega
            case rel => exact ⟨(wrap64 (x3_1 + 1)), (by first | rfl | (simp; done) | (simp [*]; done)), H', ⟨by have := HK1.out; omega⟩, ⟨by repeat (first | (with_reducible first | exact HB.out | apply below_alloc | apply pw_below_drewN | apply below_drew1) | exact HB.out)⟩⟩
        · rw [if_neg c3] at H
          exact absurd H (by simp)
      · rw [if_neg c2] at H
        have c2b0 : decide (x3_1 < (a0.size : Int)) = false := decide_eq_false c2
        clear c2
        by_cases c8 : (a0.size : Int) > 500
        · rw [if_pos c8] at H
          have c8b0 : decide (500 < (a0.size : Int)) = true := decide_eq_true c8
          have c8b1 : decide (500 < a0.size) = true := decide_eq_true (by omega)
          clear c8
          replace H := Option.bind_eq_some_iff.mp H
          obtain ⟨t268, A90, H⟩ := H
          replace H : (some t268) = some r := H
          have A9 := Aside0.mk A90
          clear A90
          obtain rfl := Option.some.inj H
          go_wp2_with (first | ((with_reducible refine gate_callee (f := 10) rfl ?_); refine goesL_ (some 21) rfl rfl Tryd.func10 (by kernel_rfl) rfl #[] rfl (by (try simp only [List.map_toArray, List.map_cons, List.map_nil]); first | done | rfl | (simp only [List.length_drop, List.length_take]; rfl)) ?_; (with_reducible refine (ratlinelaw4_awake.calls k1  t268 _ A9.out (by refine Laid.below ?_ hL; repeat (first | (with_reducible first | exact HB.out | apply below_alloc | apply pw_below_drewN | apply below_drew1) | exact HB.out))).mono ?_); rintro e w10 ⟨rfl, hb⟩; refine ⟨_, rfl, ?_⟩; have n0_ := Aside0.mk (below_step (by repeat (first | (with_reducible first | exact HB.out | apply below_alloc | apply pw_below_drewN | apply below_drew1) | exact HB.out)) hb); clear HB; have HB := n0_; clear n0_; (try clear hb); (try clear hb2); (try clear hk); (try clear hi)))
          go_ret
          exact ⟨by first | rfl | (simp [errW_none, errW_some] <;> rfl) | (simp [*, errW_none, errW_some] <;> rfl), by repeat (first | (with_reducible first | exact HB.out | apply below_alloc | apply pw_below_drewN | apply below_drew1) | exact HB.out)⟩
        · rw [if_neg c8] at H
          have c8b0 : decide (500 < (a0.size : Int)) = false := decide_eq_false c8
          have c8b1 : decide (500 < a0.size) = false := decide_eq_false (by omega)
          clear c8
          by_cases c11 : 3 + a0.size ≤ 9223372036854775807
          · rw [if_pos c11] at H
            have c11b0 := eq_true c11
            have c11b1 : decide (3 + a0.size ≤ 9223372036854775807) = true := decide_eq_true c11
            try have c11b2 : (9223372036854775807 < 3 + a0.size) = False := eq_false (Nat.not_lt.2 c11)
            by_cases c12 : ((⟨#[97, 32, 35]⟩ : ByteArray) ++ a0).size + 2 ≤ 9223372036854775807
            · rw [if_pos c12] at H
              have c12b0 := eq_true c12
              have c12b1 : decide (((⟨#[97, 32, 35]⟩ : ByteArray) ++ a0).size + 2 ≤ 9223372036854775807) = true := decide_eq_true c12
              try have c12b2 : (9223372036854775807 < ((⟨#[97, 32, 35]⟩ : ByteArray) ++ a0).size + 2) = False := eq_false (Nat.not_lt.2 c12)
              try have c12b4 : (9223372036854775807 < 3 + a0.size + 2) = False := eq_false (Nat.not_lt.2 (by rw [ByteArray.size_append] at c12; exact c12))
              replace H := Option.bind_eq_some_iff.mp H
              obtain ⟨⟨t269, t270, t271⟩, A130, H⟩ := H
              replace H : (if t271 = 0 then (if (t269.length : Int) = 2 then (if 1 < (t269.length : Int) then (if ((rd_T31 t269 1).f1).toList = ([98] : List UInt8) then (if ((rd_T31 t269 1).f3) = (wrap64 ((a0.size : Int) + 4)) then ((ratlinelaw4_awake.f k1).bind fun t276 => (some t276)) else (some false)) else (some false)) else (none)) else (some false)) else (some false)) = some r := H
              have A13 := Aside0.mk A130
              clear A130
              by_cases c14 : t271 = 0
              · rw [if_pos c14] at H
                have c14b0 : (t271 == 0) = true := beq_iff_eq.mpr c14
                have c14b1 : (t271 != 0) = false := bne_eq_false_iff_eq.mpr c14
                clear c14
                by_cases c15 : (t269.length : Int) = 2
                · rw [if_pos c15] at H
                  have c15b0 : ((t269.length : Int) == 2) = true := beq_iff_eq.mpr c15
                  have c15b1 : ((t269.length : Int) != 2) = false := bne_eq_false_iff_eq.mpr c15
                  clear c15
                  by_cases c16 : 1 < (t269.length : Int)
                  · rw [if_pos c16] at H
                    have c16b0 : decide (1 < (t269.length : Int)) = true := decide_eq_true c16
                    have c16b1 : decide (1 < t269.length) = true := decide_eq_true (by omega)
                    clear c16
                    by_cases c17 : ((rd_T31 t269 1).f1).toList = ([98] : List UInt8)
                    · rw [if_pos c17] at H
                      have c17b0 : (((rd_T31 t269 1).f1).toList == ([98] : List UInt8)) = true := beq_iff_eq.mpr c17
                      have c17b1 : (((rd_T31 t269 1).f1).toList != ([98] : List UInt8)) = false := bne_eq_false_iff_eq.mpr c17
                      clear c17
                      by_cases c18 : ((rd_T31 t269 1).f3) = (wrap64 ((a0.size : Int) + 4))
                      · rw [if_pos c18] at H
                        have c18b0 : (((rd_T31 t269 1).f3) == (wrap64 ((a0.size : Int) + 4))) = true := beq_iff_eq.mpr c18
                        try have c18b5 : (((rd_T31 t269 1).f3) == ((a0.size : Int) + 4)) = true := by (have z : wrap64 ((a0.size : Int) + 4) = (a0.size : Int) + 4 := by (unfold wrap64; omega)); rw [z] at c18b0; exact c18b0
                        try have c18b6 : (((rd_T31 t269 1).f3) != ((a0.size : Int) + 4)) = false := by (have z : wrap64 ((a0.size : Int) + 4) = (a0.size : Int) + 4 := by (unfold wrap64; omega)); rw [z] at c18b0; rw [bne, c18b0]; rfl
                        have c18b1 : (((rd_T31 t269 1).f3) != (wrap64 ((a0.size : Int) + 4))) = false := bne_eq_false_iff_eq.mpr c18
                        clear c18
                        replace H := Option.bind_eq_some_iff.mp H
                        obtain ⟨t276, A190, H⟩ := H
                        replace H : (some t276) = some r := H
                        have A19 := Aside0.mk A190
                        clear A190
                        obtain rfl := Option.some.inj H
                        go_wp2_with (first | ((with_reducible refine gate_callee (f := 8) rfl ?_); refine goesL_ (some 26) rfl rfl Tryd.func8 (by kernel_rfl) rfl #[.string (((⟨#[97, 32, 35]⟩ : ByteArray) ++ a0) ++ (⟨#[10, 98]⟩ : ByteArray))] rfl (by (try simp only [List.map_toArray, List.map_cons, List.map_nil]); first | done | rfl | (simp only [List.length_drop, List.length_take]; rfl)) ?_; (with_reducible refine (lex_Tokens.calls k1 (((⟨#[97, 32, 35]⟩ : ByteArray) ++ a0) ++ (⟨#[10, 98]⟩ : ByteArray)) t269 t270 t271 _ A13.out (by refine Laid.below ?_ hL; repeat (first | (with_reducible first | exact HB.out | apply below_alloc | apply pw_below_drewN | apply below_drew1) | exact HB.out))).mono ?_); rintro e w20 ⟨v272, rfl, ho0, hb⟩; refine ⟨_, rfl, ?_⟩; have n0_ := Aside0.mk (Kd.R_lower ho0 (below_size (by repeat (first | (with_reducible first | exact HB.out | apply below_alloc | apply pw_below_drewN | apply below_drew1) | exact HB.out)))); have n1_ := Aside0.mk (below_step (by repeat (first | (with_reducible first | exact HB.out | apply below_alloc | apply pw_below_drewN | apply below_drew1) | exact HB.out)) hb); clear HB; have HO273 := n0_; have HB := n1_; clear n0_ n1_; (try clear hb); (try clear hb2); (try clear hk); (try clear hi); (try clear ho0); obtain ⟨Ao21, co21, eo21⟩ := Kd.R_slice HO273.out; subst eo21; have p274 : 0 ≤ (1 : Int) := (by omega); have q274 : 1 < (t269.length : Int) := of_decide_eq_true (by first | (with_reducible assumption) | assumption); obtain ⟨ad274, e274, hx274_0, hx274_1, hx274_2, hx274_3⟩ := at_T31 (Kd.R_reads' HO273.out).2.2 1 p274 q274; cases e274; (try simp only [show (1 : Int).toNat = 1 from rfl, Nat.reduceMul, Nat.reduceEqDiff, Go.Addr.add, ↓reduceIte] at hx274_0); (try simp only [show (1 : Int).toNat = 1 from rfl, Nat.reduceMul, Nat.reduceEqDiff, Go.Addr.add, ↓reduceIte] at hx274_1); (try simp only [show (1 : Int).toNat = 1 from rfl, Nat.reduceMul, Nat.reduceEqDiff, Go.Addr.add, ↓reduceIte] at hx274_2); (try simp only [show (1 : Int).toNat = 1 from rfl, Nat.reduceMul, Nat.reduceEqDiff, Go.Addr.add, ↓reduceIte] at hx274_3); have qi274 : (1 < t269.length) = True := eq_true (by omega); (try rw [show ((1 : Int)).toNat = 1 from rfl] at hx274_0); (try rw [show 1 * 4 = 4 from rfl] at hx274_0); (try rw [show ((1 : Int)).toNat = 1 from rfl] at hx274_1); (try rw [show 1 * 4 = 4 from rfl] at hx274_1); (try rw [show ((1 : Int)).toNat = 1 from rfl] at hx274_2); (try rw [show 1 * 4 = 4 from rfl] at hx274_2); (try rw [show ((1 : Int)).toNat = 1 from rfl] at hx274_3); (try rw [show 1 * 4 = 4 from rfl] at hx274_3); replace p274 := eq_true p274; replace q274 := eq_true q274; have p275 : 0 ≤ (1 : Int) := (by omega); have q275 : 1 < (t269.length : Int) := of_decide_eq_true (by first | (with_reducible assumption) | assumption); obtain ⟨ad275, e275, hx275_0, hx275_1, hx275_2, hx275_3⟩ := at_T31 (Kd.R_reads' HO273.out).2.2 1 p275 q275; obtain rfl : ad274 = ad275 := (by injection e275); (try simp only [show (1 : Int).toNat = 1 from rfl, Nat.reduceMul, Nat.reduceEqDiff, Go.Addr.add, ↓reduceIte] at hx275_0); (try simp only [show (1 : Int).toNat = 1 from rfl, Nat.reduceMul, Nat.reduceEqDiff, Go.Addr.add, ↓reduceIte] at hx275_1); (try simp only [show (1 : Int).toNat = 1 from rfl, Nat.reduceMul, Nat.reduceEqDiff, Go.Addr.add, ↓reduceIte] at hx275_2); (try simp only [show (1 : Int).toNat = 1 from rfl, Nat.reduceMul, Nat.reduceEqDiff, Go.Addr.add, ↓reduceIte] at hx275_3); have qi275 : (1 < t269.length) = True := eq_true (by omega); (try rw [show ((1 : Int)).toNat = 1 from rfl] at hx275_0); (try rw [show 1 * 4 = 4 from rfl] at hx275_0); (try rw [show ((1 : Int)).toNat = 1 from rfl] at hx275_1); (try rw [show 1 * 4 = 4 from rfl] at hx275_1); (try rw [show ((1 : Int)).toNat = 1 from rfl] at hx275_2); (try rw [show 1 * 4 = 4 from rfl] at hx275_2); (try rw [show ((1 : Int)).toNat = 1 from rfl] at hx275_3); (try rw [show 1 * 4 = 4 from rfl] at hx275_3); replace p275 := eq_true p275; replace q275 := eq_true q275) | (go_at_call 10; (with_reducible refine (ratlinelaw4_awake.calls k1  t276 _ A19.out (by refine Laid.below ?_ hL; repeat (first | (with_reducible first | exact HB.out | apply below_alloc | apply pw_below_drewN | apply below_drew1) | exact HB.out))).mono ?_); rintro e w22 ⟨rfl, hb⟩; have n0_ := Aside0.mk (Kd.R_below (by (with_reducible repeat (first | apply Kd.R_alloc | apply Kd.R_drewN | apply Kd.R_drew)); exact HO273.out) hb); have n1_ := Aside0.mk (below_step (by repeat (first | (with_reducible first | exact HB.out | apply below_alloc | apply pw_below_drewN | apply below_drew1) | exact HB.out)) hb); clear HO273; clear HB; have HO273 := n0_; have HB := n1_; clear n0_ n1_; (try clear hb); (try clear hb2); (try clear hk); (try clear hi)))
                        go_ret
                        exact ⟨by first | rfl | (simp [errW_none, errW_some] <;> rfl) | (simp [*, errW_none, errW_some] <;> rfl), by repeat (first | (with_reducible first | exact HB.out | apply below_alloc | apply pw_below_drewN | apply below_drew1) | exact HB.out)⟩
                      · rw [if_neg c18] at H
                        have c18b0 : (((rd_T31 t269 1).f3) == (wrap64 ((a0.size : Int) + 4))) = false := beq_eq_false_iff_ne.mpr c18
                        try have c18b5 : (((rd_T31 t269 1).f3) == ((a0.size : Int) + 4)) = false := by (have z : wrap64 ((a0.size : Int) + 4) = (a0.size : Int) + 4 := by (unfold wrap64; omega)); rw [z] at c18b0; exact c18b0
                        try have c18b6 : (((rd_T31 t269 1).f3) != ((a0.size : Int) + 4)) = true := by (have z : wrap64 ((a0.size : Int) + 4) = (a0.size : Int) + 4 := by (unfold wrap64; omega)); rw [z] at c18b0; rw [bne, c18b0]; rfl
                        have c18b1 : (((rd_T31 t269 1).f3) != (wrap64 ((a0.size : Int) + 4))) = true := bne_iff_ne.mpr c18
                        obtain rfl := Option.some.inj H
                        go_wp2_with (first | ((with_reducible refine gate_callee (f := 8) rfl ?_); refine goesL_ (some 26) rfl rfl Tryd.func8 (by kernel_rfl) rfl #[.string (((⟨#[97, 32, 35]⟩ : ByteArray) ++ a0) ++ (⟨#[10, 98]⟩ : ByteArray))] rfl (by (try simp only [List.map_toArray, List.map_cons, List.map_nil]); first | done | rfl | (simp only [List.length_drop, List.length_take]; rfl)) ?_; (with_reducible refine (lex_Tokens.calls k1 (((⟨#[97, 32, 35]⟩ : ByteArray) ++ a0) ++ (⟨#[10, 98]⟩ : ByteArray)) t269 t270 t271 _ A13.out (by refine Laid.below ?_ hL; repeat (first | (with_reducible first | exact HB.out | apply below_alloc | apply pw_below_drewN | apply below_drew1) | exact HB.out))).mono ?_); rintro e w23 ⟨v272, rfl, ho0, hb⟩; refine ⟨_, rfl, ?_⟩; have n0_ := Aside0.mk (Kd.R_lower ho0 (below_size (by repeat (first | (with_reducible first | exact HB.out | apply below_alloc | apply pw_below_drewN | apply below_drew1) | exact HB.out)))); have n1_ := Aside0.mk (below_step (by repeat (first | (with_reducible first | exact HB.out | apply below_alloc | apply pw_below_drewN | apply below_drew1) | exact HB.out)) hb); clear HB; have HO273 := n0_; have HB := n1_; clear n0_ n1_; (try clear hb); (try clear hb2); (try clear hk); (try clear hi); (try clear ho0); obtain ⟨Ao24, co24, eo24⟩ := Kd.R_slice HO273.out; subst eo24; have p274 : 0 ≤ (1 : Int) := (by omega); have q274 : 1 < (t269.length : Int) := of_decide_eq_true (by first | (with_reducible assumption) | assumption); obtain ⟨ad274, e274, hx274_0, hx274_1, hx274_2, hx274_3⟩ := at_T31 (Kd.R_reads' HO273.out).2.2 1 p274 q274; cases e274; (try simp only [show (1 : Int).toNat = 1 from rfl, Nat.reduceMul, Nat.reduceEqDiff, Go.Addr.add, ↓reduceIte] at hx274_0); (try simp only [show (1 : Int).toNat = 1 from rfl, Nat.reduceMul, Nat.reduceEqDiff, Go.Addr.add, ↓reduceIte] at hx274_1); (try simp only [show (1 : Int).toNat = 1 from rfl, Nat.reduceMul, Nat.reduceEqDiff, Go.Addr.add, ↓reduceIte] at hx274_2); (try simp only [show (1 : Int).toNat = 1 from rfl, Nat.reduceMul, Nat.reduceEqDiff, Go.Addr.add, ↓reduceIte] at hx274_3); have qi274 : (1 < t269.length) = True := eq_true (by omega); (try rw [show ((1 : Int)).toNat = 1 from rfl] at hx274_0); (try rw [show 1 * 4 = 4 from rfl] at hx274_0); (try rw [show ((1 : Int)).toNat = 1 from rfl] at hx274_1); (try rw [show 1 * 4 = 4 from rfl] at hx274_1); (try rw [show ((1 : Int)).toNat = 1 from rfl] at hx274_2); (try rw [show 1 * 4 = 4 from rfl] at hx274_2); (try rw [show ((1 : Int)).toNat = 1 from rfl] at hx274_3); (try rw [show 1 * 4 = 4 from rfl] at hx274_3); replace p274 := eq_true p274; replace q274 := eq_true q274; have p275 : 0 ≤ (1 : Int) := (by omega); have q275 : 1 < (t269.length : Int) := of_decide_eq_true (by first | (with_reducible assumption) | assumption); obtain ⟨ad275, e275, hx275_0, hx275_1, hx275_2, hx275_3⟩ := at_T31 (Kd.R_reads' HO273.out).2.2 1 p275 q275; obtain rfl : ad274 = ad275 := (by injection e275); (try simp only [show (1 : Int).toNat = 1 from rfl, Nat.reduceMul, Nat.reduceEqDiff, Go.Addr.add, ↓reduceIte] at hx275_0); (try simp only [show (1 : Int).toNat = 1 from rfl, Nat.reduceMul, Nat.reduceEqDiff, Go.Addr.add, ↓reduceIte] at hx275_1); (try simp only [show (1 : Int).toNat = 1 from rfl, Nat.reduceMul, Nat.reduceEqDiff, Go.Addr.add, ↓reduceIte] at hx275_2); (try simp only [show (1 : Int).toNat = 1 from rfl, Nat.reduceMul, Nat.reduceEqDiff, Go.Addr.add, ↓reduceIte] at hx275_3); have qi275 : (1 < t269.length) = True := eq_true (by omega); (try rw [show ((1 : Int)).toNat = 1 from rfl] at hx275_0); (try rw [show 1 * 4 = 4 from rfl] at hx275_0); (try rw [show ((1 : Int)).toNat = 1 from rfl] at hx275_1); (try rw [show 1 * 4 = 4 from rfl] at hx275_1); (try rw [show ((1 : Int)).toNat = 1 from rfl] at hx275_2); (try rw [show 1 * 4 = 4 from rfl] at hx275_2); (try rw [show ((1 : Int)).toNat = 1 from rfl] at hx275_3); (try rw [show 1 * 4 = 4 from rfl] at hx275_3); replace p275 := eq_true p275; replace q275 := eq_true q275))
                        go_ret
                        exact ⟨by first | rfl | (simp [errW_none, errW_some] <;> rfl) | (simp [*, errW_none, errW_some] <;> rfl), by repeat (first | (with_reducible first | exact HB.out | apply below_alloc | apply pw_below_drewN | apply below_drew1) | exact HB.out)⟩
                    · rw [if_neg c17] at H
                      have c17b0 : (((rd_T31 t269 1).f1).toList == ([98] : List UInt8)) = false := beq_eq_false_iff_ne.mpr c17
                      have c17b1 : (((rd_T31 t269 1).f1).toList != ([98] : List UInt8)) = true := bne_iff_ne.mpr c17
                      obtain rfl := Option.some.inj H
                      go_wp2_with (first | ((with_reducible refine gate_callee (f := 8) rfl ?_); refine goesL_ (some 26) rfl rfl Tryd.func8 (by kernel_rfl) rfl #[.string (((⟨#[97, 32, 35]⟩ : ByteArray) ++ a0) ++ (⟨#[10, 98]⟩ : ByteArray))] rfl (by (try simp only [List.map_toArray, List.map_cons, List.map_nil]); first | done | rfl | (simp only [List.length_drop, List.length_take]; rfl)) ?_; (with_reducible refine (lex_Tokens.calls k1 (((⟨#[97, 32, 35]⟩ : ByteArray) ++ a0) ++ (⟨#[10, 98]⟩ : ByteArray)) t269 t270 t271 _ A13.out (by refine Laid.below ?_ hL; repeat (first | (with_reducible first | exact HB.out | apply below_alloc | apply pw_below_drewN | apply below_drew1) | exact HB.out))).mono ?_); rintro e w25 ⟨v272, rfl, ho0, hb⟩; refine ⟨_, rfl, ?_⟩; have n0_ := Aside0.mk (Kd.R_lower ho0 (below_size (by repeat (first | (with_reducible first | exact HB.out | apply below_alloc | apply pw_below_drewN | apply below_drew1) | exact HB.out)))); have n1_ := Aside0.mk (below_step (by repeat (first | (with_reducible first | exact HB.out | apply below_alloc | apply pw_below_drewN | apply below_drew1) | exact HB.out)) hb); clear HB; have HO273 := n0_; have HB := n1_; clear n0_ n1_; (try clear hb); (try clear hb2); (try clear hk); (try clear hi); (try clear ho0); obtain ⟨Ao26, co26, eo26⟩ := Kd.R_slice HO273.out; subst eo26; have p274 : 0 ≤ (1 : Int) := (by omega); have q274 : 1 < (t269.length : Int) := of_decide_eq_true (by first | (with_reducible assumption) | assumption); obtain ⟨ad274, e274, hx274_0, hx274_1, hx274_2, hx274_3⟩ := at_T31 (Kd.R_reads' HO273.out).2.2 1 p274 q274; cases e274; (try simp only [show (1 : Int).toNat = 1 from rfl, Nat.reduceMul, Nat.reduceEqDiff, Go.Addr.add, ↓reduceIte] at hx274_0); (try simp only [show (1 : Int).toNat = 1 from rfl, Nat.reduceMul, Nat.reduceEqDiff, Go.Addr.add, ↓reduceIte] at hx274_1); (try simp only [show (1 : Int).toNat = 1 from rfl, Nat.reduceMul, Nat.reduceEqDiff, Go.Addr.add, ↓reduceIte] at hx274_2); (try simp only [show (1 : Int).toNat = 1 from rfl, Nat.reduceMul, Nat.reduceEqDiff, Go.Addr.add, ↓reduceIte] at hx274_3); have qi274 : (1 < t269.length) = True := eq_true (by omega); (try rw [show ((1 : Int)).toNat = 1 from rfl] at hx274_0); (try rw [show 1 * 4 = 4 from rfl] at hx274_0); (try rw [show ((1 : Int)).toNat = 1 from rfl] at hx274_1); (try rw [show 1 * 4 = 4 from rfl] at hx274_1); (try rw [show ((1 : Int)).toNat = 1 from rfl] at hx274_2); (try rw [show 1 * 4 = 4 from rfl] at hx274_2); (try rw [show ((1 : Int)).toNat = 1 from rfl] at hx274_3); (try rw [show 1 * 4 = 4 from rfl] at hx274_3); replace p274 := eq_true p274; replace q274 := eq_true q274))
                      go_ret
                      exact ⟨by first | rfl | (simp [errW_none, errW_some] <;> rfl) | (simp [*, errW_none, errW_some] <;> rfl), by repeat (first | (with_reducible first | exact HB.out | apply below_alloc | apply pw_below_drewN | apply below_drew1) | exact HB.out)⟩
                  · rw [if_neg c16] at H
                    exact absurd H (by simp)
                · rw [if_neg c15] at H
                  have c15b0 : ((t269.length : Int) == 2) = false := beq_eq_false_iff_ne.mpr c15
                  have c15b1 : ((t269.length : Int) != 2) = true := bne_iff_ne.mpr c15
                  obtain rfl := Option.some.inj H
                  go_wp2_with (first | ((with_reducible refine gate_callee (f := 8) rfl ?_); refine goesL_ (some 26) rfl rfl Tryd.func8 (by kernel_rfl) rfl #[.string (((⟨#[97, 32, 35]⟩ : ByteArray) ++ a0) ++ (⟨#[10, 98]⟩ : ByteArray))] rfl (by (try simp only [List.map_toArray, List.map_cons, List.map_nil]); first | done | rfl | (simp only [List.length_drop, List.length_take]; rfl)) ?_; (with_reducible refine (lex_Tokens.calls k1 (((⟨#[97, 32, 35]⟩ : ByteArray) ++ a0) ++ (⟨#[10, 98]⟩ : ByteArray)) t269 t270 t271 _ A13.out (by refine Laid.below ?_ hL; repeat (first | (with_reducible first | exact HB.out | apply below_alloc | apply pw_below_drewN | apply below_drew1) | exact HB.out))).mono ?_); rintro e w27 ⟨v272, rfl, ho0, hb⟩; refine ⟨_, rfl, ?_⟩; have n0_ := Aside0.mk (Kd.R_lower ho0 (below_size (by repeat (first | (with_reducible first | exact HB.out | apply below_alloc | apply pw_below_drewN | apply below_drew1) | exact HB.out)))); have n1_ := Aside0.mk (below_step (by repeat (first | (with_reducible first | exact HB.out | apply below_alloc | apply pw_below_drewN | apply below_drew1) | exact HB.out)) hb); clear HB; have HO273 := n0_; have HB := n1_; clear n0_ n1_; (try clear hb); (try clear hb2); (try clear hk); (try clear hi); (try clear ho0); obtain ⟨Ao28, co28, eo28⟩ := Kd.R_slice HO273.out; subst eo28))
                  go_ret
                  exact ⟨by first | rfl | (simp [errW_none, errW_some] <;> rfl) | (simp [*, errW_none, errW_some] <;> rfl), by repeat (first | (with_reducible first | exact HB.out | apply below_alloc | apply pw_below_drewN | apply below_drew1) | exact HB.out)⟩
              · rw [if_neg c14] at H
                have c14b0 : (t271 == 0) = false := beq_eq_false_iff_ne.mpr c14
                have c14b1 : (t271 != 0) = true := bne_iff_ne.mpr c14
                obtain rfl := Option.some.inj H
                go_wp2_with (first | ((with_reducible refine gate_callee (f := 8) rfl ?_); refine goesL_ (some 26) rfl rfl Tryd.func8 (by kernel_rfl) rfl #[.string (((⟨#[97, 32, 35]⟩ : ByteArray) ++ a0) ++ (⟨#[10, 98]⟩ : ByteArray))] rfl (by (try simp only [List.map_toArray, List.map_cons, List.map_nil]); first | done | rfl | (simp only [List.length_drop, List.length_take]; rfl)) ?_; (with_reducible refine (lex_Tokens.calls k1 (((⟨#[97, 32, 35]⟩ : ByteArray) ++ a0) ++ (⟨#[10, 98]⟩ : ByteArray)) t269 t270 t271 _ A13.out (by refine Laid.below ?_ hL; repeat (first | (with_reducible first | exact HB.out | apply below_alloc | apply pw_below_drewN | apply below_drew1) | exact HB.out))).mono ?_); rintro e w29 ⟨v272, rfl, ho0, hb⟩; refine ⟨_, rfl, ?_⟩; have n0_ := Aside0.mk (Kd.R_lower ho0 (below_size (by repeat (first | (with_reducible first | exact HB.out | apply below_alloc | apply pw_below_drewN | apply below_drew1) | exact HB.out)))); have n1_ := Aside0.mk (below_step (by repeat (first | (with_reducible first | exact HB.out | apply below_alloc | apply pw_below_drewN | apply below_drew1) | exact HB.out)) hb); clear HB; have HO273 := n0_; have HB := n1_; clear n0_ n1_; (try clear hb); (try clear hb2); (try clear hk); (try clear hi); (try clear ho0)))
                go_ret
                exact ⟨by first | rfl | (simp [errW_none, errW_some] <;> rfl) | (simp [*, errW_none, errW_some] <;> rfl), by repeat (first | (with_reducible first | exact HB.out | apply below_alloc | apply pw_below_drewN | apply below_drew1) | exact HB.out)⟩
            · rw [if_neg c12] at H
              exact absurd H (by simp)
          · rw [if_neg c11] at H
            exact absurd H (by simp)

/-- THE ONE PURE STATEMENT of ratlinelaw4_LexRemarks: yours. -/
def ratlinelaw4_LexRemarks.Pure : Prop := ∀ (a0 : ByteArray), a0.size ≤ 140737488351232 → ∃ k, ratlinelaw4_LexRemarks.f k a0 = some true
theorem ratlinelaw4_LexRemarks.walk (P : ratlinelaw4_LexRemarks.Pure) (a0 : ByteArray) (w : World) (w0 : a0.size ≤ 140737488351232) (hL : Laid w) :
    Calls Tryd.prog 7 #[.string a0] w fun e w' => e = .returned (.bool true) ∧ Below w.heap.size w w' := by
  obtain ⟨k, h⟩ := P a0 w0
  refine (ratlinelaw4_LexRemarks.calls k a0 true w h hL).mono ?_
  rintro e w' ⟨rfl, hd⟩
  exact ⟨rfl, hd⟩

end Go.Proofs.YtmmndmfphcbieaaDoor.XLex
