-- written by gprint.py: the printer run with given contracts
import Derived.Test.YtidhllheipopbaaXColx0
import Derived.Test.YtidhllheipopbaaColGiven
namespace Go.Proofs.Ytidhllheipopbaa.XCol
open Go.RowKit Go.Proofs.YtidhllheipopbaaW.PrintWords Go.Proofs.YtidhllheipopbaaW.PrintLast Go.Proofs.YtidhllheipopbaaW.PrintMore
attribute [local go_sem] max2_int min2_int max_two min_two max_three min_three max_four min_four   -- for this text's walks alone
set_option linter.unusedVariables false
set_option linter.unusedSimpArgs false

/-! ### ratlinelaw18_rows: function 9 -/
def ratlinelaw18_rows.l0 : Nat → List (S46) → List (S24) → List (S47) → Int → Int → Option ((List (S24)) × (List (S47)))
  | 0, _, _, _, _, _ => none
  | k + 1, x0, x4, x5, x6, x7 => if x7 < (x0.length : Int) then (if 0 ≤ x7 then (if x4.length < 5864062014805 then (if x5.length < 5864062014805 then (ratlinelaw18_rows.l0 k x0 (x4 ++ [(⟨x7, wrap64 (x6 + (Go.bits .and .i64 ((rd_T46 x0 x7).f1) 7)), wrap64 ((wrap64 (x6 + (Go.bits .and .i64 ((rd_T46 x0 x7).f1) 7))) + (Go.bits .and .i64 ((rd_T46 x0 x7).f2) 31))⟩ : S24)]) (x5 ++ [(⟨x7, wrap64 (x6 + (Go.bits .and .i64 ((rd_T46 x0 x7).f1) 7)), wrap64 ((wrap64 (x6 + (Go.bits .and .i64 ((rd_T46 x0 x7).f1) 7))) + (Go.bits .and .i64 ((rd_T46 x0 x7).f2) 31))⟩ : S47)]) (wrap64 (x6 + (Go.bits .and .i64 ((rd_T46 x0 x7).f1) 7))) (wrap64 (x7 + 1))) else (none)) else (none)) else (none)) else (some (x4, x5))
def ratlinelaw18_rows.f (k : Nat) (l0 : List (S46)) : Option ((List (S24)) × (List (S47))) := ratlinelaw18_rows.l0 k l0 ([] : List (S24)) ([] : List (S47)) 0 0
theorem ratlinelaw18_rows.mono_l : ∀ k, (∀ y0 y1 y2 y3 y4, LeO (ratlinelaw18_rows.l0 k y0 y1 y2 y3 y4) (ratlinelaw18_rows.l0 (k + 1) y0 y1 y2 y3 y4))
  | 0 => fun _ _ _ _ _ r h => by simp [ratlinelaw18_rows.l0] at h
  | k + 1 => by
    have ih0 := ratlinelaw18_rows.mono_l k
    · intro y0 y1 y2 y3 y4
      unfold ratlinelaw18_rows.l0
      repeat' first
      | (with_reducible exact ih0 _ _ _ _ _)
      | (with_reducible exact LeO.refl _)
      | (with_reducible exact LeO.none _)
      | (with_reducible refine LeO.ite ?_ ?_)
      | (with_reducible refine LeO.bind ?_ (fun _ => ?_))
      | exact ih0 _ _ _ _ _
      | exact LeO.none _
      | refine LeO.ite ?_ ?_
      | refine LeO.bind ?_ (fun _ => ?_)
theorem ratlinelaw18_rows.mono : ∀ a0 k, LeO (ratlinelaw18_rows.f k a0) (ratlinelaw18_rows.f (k + 1) a0) := by
  intro a0 k
  have ih0 := ratlinelaw18_rows.mono_l k
  unfold ratlinelaw18_rows.f
  repeat' first
      | (with_reducible exact ih0 _ _ _ _ _)
      | (with_reducible exact LeO.refl _)
      | (with_reducible exact LeO.none _)
      | (with_reducible refine LeO.ite ?_ ?_)
      | (with_reducible refine LeO.bind ?_ (fun _ => ?_))
      | exact ih0 _ _ _ _ _
      | exact LeO.none _
      | refine LeO.ite ?_ ?_
      | refine LeO.bind ?_ (fun _ => ?_)
set_option maxHeartbeats 8000000 in
set_option maxRecDepth 100000 in
theorem ratlinelaw18_rows.calls (k : Nat) (A0 : Option Addr) (c0 : Nat) (l0 : List (S46)) (r1 : List (S24)) (r2 : List (S47)) (w : World) (hr0 : Kd.C k46 w A0 l0.length l0) (hc0 : l0.length ≤ c0) (h : ratlinelaw18_rows.f k l0 = some (r1, r2)) :
    Calls Try.prog 9 #[.slice A0 l0.length c0] w fun e w' => ∃ v0_ v1_ : Value, e = .returned (.tuple #[v0_, v1_]) ∧ Kd.R k24 24 w' w.heap.size (fun _ => True) v0_ r1 ∧ Kd.R k47 47 w' w.heap.size (fun _ => True) v1_ r2 ∧ Below w.heap.size w w' := by
  have hu24 := Try.underlying24
  have hu47 := Try.underlying47
  have HR0 := Aside0.mk hr0
  have HC0 := Aside0.mk hc0
  clear hr0 hc0
  have HB := Aside0.mk (Below.refl w.heap.size w)
  have H : (ratlinelaw18_rows.l0 k l0 ([] : List (S24)) ([] : List (S47)) 0 0) = some (r1, r2) := h
  clear h
  have H' := Aside0.mk H
  clear H
  go_enter Try.func9, Try.ntmps9
  go_wp2
  go_loopg [4, 5, 6, 7] k (fun kq v4 v5 v6 v7 w' => ∃ (x4_1 : List (S24)) (x5_1 : List (S47)) (x6_1 : Int) (x7_1 : Int), v6 = .int .i64 x6_1 ∧ v7 = .int .i64 x7_1 ∧ Aside0 (ratlinelaw18_rows.l0 kq l0 x4_1 x5_1 x6_1 x7_1 = some (r1, r2)) ∧ Aside0 (kq ≤ k) ∧ Aside0 (Kd.R k24 24 w' w.heap.size (fun _ => True) v4 x4_1) ∧ Aside0 (Kd.R k47 47 w' w.heap.size (fun _ => True) v5 x5_1) ∧ Aside0 (Below w.heap.size w w'))
  case atStart => exact ⟨(([] : List (S24))), (([] : List (S47))), (0), (0), (by first | rfl | (simp; done) | (simp [*]; done)), (by first | rfl | (simp; done) | (simp [*]; done)), H', ⟨Nat.le_refl _⟩, ⟨by first | exact Kd.R_nil _ _ _ _ _ | exact Kd.N_nil _ _ _ _ _ | exact Kd.V_nil _ _ _ _ _ | exact Kd.Q_nil _ _ _ _ _ | exact Kd.S_nil _ _ _ _ _⟩, ⟨by first | exact Kd.R_nil _ _ _ _ _ | exact Kd.N_nil _ _ _ _ _ | exact Kd.V_nil _ _ _ _ _ | exact Kd.Q_nil _ _ _ _ _ | exact Kd.S_nil _ _ _ _ _⟩, ⟨by repeat (first | (with_reducible first | exact HB.out | apply below_alloc | apply pw_below_drewN | apply below_drew1) | exact HB.out)⟩⟩
  case round =>
    clear H'
    obtain ⟨x4_1, x5_1, x6_1, x7_1, rfl, rfl, HA, HK1, HO_4, HO_5, HB⟩ := hrel
    cases gk with
    | zero => exact absurd HA.out (by simp [ratlinelaw18_rows.l0])
    | succ k1 =>
      have H := HA.out
      clear HA
      simp only [ratlinelaw18_rows.l0] at H
      by_cases c2 : x7_1 < (l0.length : Int)
      · rw [if_pos c2] at H
        have c2b0 : decide (x7_1 < (l0.length : Int)) = true := decide_eq_true c2
        clear c2
        by_cases c3 : 0 ≤ x7_1
        · rw [if_pos c3] at H
          have c3b0 : decide (0 ≤ x7_1) = true := decide_eq_true c3
          clear c3
          by_cases c4 : x4_1.length < 5864062014805
          · rw [if_pos c4] at H
            have LMc4 := Aside0.mk c4
            clear c4
            obtain ⟨y139, hy139⟩ : ∃ y_ : List (S24), y_ = (x4_1 ++ [(⟨x7_1, wrap64 (x6_1 + (Go.bits .and .i64 ((rd_T46 l0 x7_1).f1) 7)), wrap64 ((wrap64 (x6_1 + (Go.bits .and .i64 ((rd_T46 l0 x7_1).f1) 7))) + (Go.bits .and .i64 ((rd_T46 l0 x7_1).f2) 31))⟩ : S24)]) := ⟨_, rfl⟩
            replace H : (if x5_1.length < 5864062014805 then (ratlinelaw18_rows.l0 k1 l0 y139 (x5_1 ++ [(⟨x7_1, wrap64 (x6_1 + (Go.bits .and .i64 ((rd_T46 l0 x7_1).f1) 7)), wrap64 ((wrap64 (x6_1 + (Go.bits .and .i64 ((rd_T46 l0 x7_1).f1) 7))) + (Go.bits .and .i64 ((rd_T46 l0 x7_1).f2) 31))⟩ : S47)]) (wrap64 (x6_1 + (Go.bits .and .i64 ((rd_T46 l0 x7_1).f1) 7))) (wrap64 (x7_1 + 1))) else (none)) = some (r1, r2) := by first | (rw [hy139]; with_reducible exact H) | (have H2_ := (Option.bind_some _ _).symm.trans H; rw [hy139]; with_reducible exact H2_) | (have H2_ := (Option.bind_some _ _).symm.trans H; with_reducible exact H2_) | with_reducible exact H | (rw [hy139]; exact H) | exact H
            have Ny139 := Aside0.mk hy139
            clear hy139
            by_cases c5 : x5_1.length < 5864062014805
            · rw [if_pos c5] at H
              have LMc5 := Aside0.mk c5
              clear c5
              obtain ⟨y142, hy142⟩ : ∃ y_ : List (S47), y_ = (x5_1 ++ [(⟨x7_1, wrap64 (x6_1 + (Go.bits .and .i64 ((rd_T46 l0 x7_1).f1) 7)), wrap64 ((wrap64 (x6_1 + (Go.bits .and .i64 ((rd_T46 l0 x7_1).f1) 7))) + (Go.bits .and .i64 ((rd_T46 l0 x7_1).f2) 31))⟩ : S47)]) := ⟨_, rfl⟩
              replace H : (ratlinelaw18_rows.l0 k1 l0 y139 y142 (wrap64 (x6_1 + (Go.bits .and .i64 ((rd_T46 l0 x7_1).f1) 7))) (wrap64 (x7_1 + 1))) = some (r1, r2) := by first | (rw [hy142]; with_reducible exact H) | (have H2_ := (Option.bind_some _ _).symm.trans H; rw [hy142]; with_reducible exact H2_) | (have H2_ := (Option.bind_some _ _).symm.trans H; with_reducible exact H2_) | with_reducible exact H | (rw [hy142]; exact H) | exact H
              have Ny142 := Aside0.mk hy142
              clear hy142
              have H' := Aside0.mk H
              clear H
              have p137 : 0 ≤ (x7_1 : Int) := of_decide_eq_true (by first | (with_reducible assumption) | assumption)
              have q137 : x7_1 < (l0.length : Int) := of_decide_eq_true (by first | (with_reducible assumption) | assumption)
              obtain ⟨ad137, e137, hx137_0, hx137_1, hx137_2⟩ := at_T46 HR0.out x7_1 p137 q137
              cases e137
              replace hx137_0 := (HB.out.cell (World.block_lt_of_cell? w _ hx137_0)).trans hx137_0
              replace hx137_1 := (HB.out.cell (World.block_lt_of_cell? w _ hx137_1)).trans hx137_1
              replace hx137_2 := (HB.out.cell (World.block_lt_of_cell? w _ hx137_2)).trans hx137_2
              replace p137 := eq_true p137
              replace q137 := eq_true q137
              have p138 : 0 ≤ (x7_1 : Int) := of_decide_eq_true (by first | (with_reducible assumption) | assumption)
              have q138 : x7_1 < (l0.length : Int) := of_decide_eq_true (by first | (with_reducible assumption) | assumption)
              obtain ⟨ad138, e138, hx138_0, hx138_1, hx138_2⟩ := at_T46 HR0.out x7_1 p138 q138
              obtain rfl : ad137 = ad138 := (by injection e138)
              replace hx138_0 := (HB.out.cell (World.block_lt_of_cell? w _ hx138_0)).trans hx138_0
              replace hx138_1 := (HB.out.cell (World.block_lt_of_cell? w _ hx138_1)).trans hx138_1
              replace hx138_2 := (HB.out.cell (World.block_lt_of_cell? w _ hx138_2)).trans hx138_2
              replace p138 := eq_true p138
              replace q138 := eq_true q138
              go_wp2_with (first | ((with_reducible refine gate_builtin (b := .append) (xs := #[.tmp 31, .tmp 36]) rfl ?_); at_builtin; refine Kd.R_append k24 (w0 := w) w.heap.size rfl (.tmp 31) (.tmp 36) 22 24 (.agg #[(.int .i64 0), (.int .i64 0), (.int .i64 0)]) 24 rfl Try.underlying22 info24 rfl (by decide) (by omega) u4 x4_1 (⟨x7_1, wrap64 (x6_1 + (Go.bits .and .i64 ((rd_T46 l0 x7_1).f1) 7)), wrap64 ((wrap64 (x6_1 + (Go.bits .and .i64 ((rd_T46 l0 x7_1).f1) 7))) + (Go.bits .and .i64 ((rd_T46 l0 x7_1).f2) 31))⟩ : S24) [.int .i64 x7_1, .int .i64 (wrap64 (x6_1 + (Go.bits .and .i64 ((rd_T46 l0 x7_1).f1) 7))), .int .i64 (wrap64 ((wrap64 (x6_1 + (Go.bits .and .i64 ((rd_T46 l0 x7_1).f1) 7))) + (Go.bits .and .i64 ((rd_T46 l0 x7_1).f2) 31)))] (fun _ => True) (fun _ => False) rfl rfl ?aP (fun _ hk => hk.elim) ?aF ?aO ?aB ?aS ?aL ?_; (case aP => exact k24_mkM _ _ _ (⟨x7_1, wrap64 (x6_1 + (Go.bits .and .i64 ((rd_T46 l0 x7_1).f1) 7)), wrap64 ((wrap64 (x6_1 + (Go.bits .and .i64 ((rd_T46 l0 x7_1).f1) 7))) + (Go.bits .and .i64 ((rd_T46 l0 x7_1).f2) 31))⟩ : S24)); (case aB => exact (by repeat (first | (with_reducible first | exact HB.out | apply below_alloc | apply pw_below_drewN | apply below_drew1) | exact HB.out))); (case aF => exact (fun _ _ => trivial)); (case aO => exact (by (with_reducible repeat (first | apply Kd.R_alloc | apply Kd.R_drewN | apply Kd.R_drew)); exact HO_4.out)); (case aS => exact (below_size (by repeat (first | (with_reducible first | exact HB.out | apply below_alloc | apply pw_below_drewN | apply below_drew1) | exact HB.out)))); (case aL => have := LMc4.out; omega); intro v140 w6 ho hb hg hat; rw [← Ny139.out] at ho; have n0_ := Aside0.mk (Kd.R_over' (by (with_reducible repeat (first | apply Kd.R_alloc | apply Kd.R_drewN | apply Kd.R_drew)); exact HO_5.out) (Kd.R_typed (by (with_reducible repeat (first | apply Kd.R_alloc | apply Kd.R_drewN | apply Kd.R_drew)); exact HO_4.out)) (by decide) hg); have n1_ := Aside0.mk (hb); have n2_ := Aside0.mk (ho); clear HO_5; clear HB; clear HO_4; have HO_5 := n0_; have HB := n1_; have HO141 := n2_; clear n0_ n1_ n2_; clear ho hb hg hat) | ((with_reducible refine gate_builtin (b := .append) (xs := #[.tmp 38, .tmp 43]) rfl ?_); at_builtin; refine Kd.R_append k47 (w0 := w) w.heap.size rfl (.tmp 38) (.tmp 43) 33 47 (.agg #[(.int .i64 0), (.int .i64 0), (.int .i64 0)]) 24 rfl Try.underlying33 info47 rfl (by decide) (by omega) u5 x5_1 (⟨x7_1, wrap64 (x6_1 + (Go.bits .and .i64 ((rd_T46 l0 x7_1).f1) 7)), wrap64 ((wrap64 (x6_1 + (Go.bits .and .i64 ((rd_T46 l0 x7_1).f1) 7))) + (Go.bits .and .i64 ((rd_T46 l0 x7_1).f2) 31))⟩ : S47) [.int .i64 x7_1, .int .i64 (wrap64 (x6_1 + (Go.bits .and .i64 ((rd_T46 l0 x7_1).f1) 7))), .int .i64 (wrap64 ((wrap64 (x6_1 + (Go.bits .and .i64 ((rd_T46 l0 x7_1).f1) 7))) + (Go.bits .and .i64 ((rd_T46 l0 x7_1).f2) 31)))] (fun _ => True) (fun _ => False) rfl rfl ?aP (fun _ hk => hk.elim) ?aF ?aO ?aB ?aS ?aL ?_; (case aP => exact k47_mkM _ _ _ (⟨x7_1, wrap64 (x6_1 + (Go.bits .and .i64 ((rd_T46 l0 x7_1).f1) 7)), wrap64 ((wrap64 (x6_1 + (Go.bits .and .i64 ((rd_T46 l0 x7_1).f1) 7))) + (Go.bits .and .i64 ((rd_T46 l0 x7_1).f2) 31))⟩ : S47)); (case aB => exact (by repeat (first | (with_reducible first | exact HB.out | apply below_alloc | apply pw_below_drewN | apply below_drew1) | exact HB.out))); (case aF => exact (fun _ _ => trivial)); (case aO => exact (by (with_reducible repeat (first | apply Kd.R_alloc | apply Kd.R_drewN | apply Kd.R_drew)); exact HO_5.out)); (case aS => exact (below_size (by repeat (first | (with_reducible first | exact HB.out | apply below_alloc | apply pw_below_drewN | apply below_drew1) | exact HB.out)))); (case aL => have := LMc5.out; omega); intro v143 w7 ho hb hg hat; rw [← Ny142.out] at ho; have n0_ := Aside0.mk (Kd.R_over' (by (with_reducible repeat (first | apply Kd.R_alloc | apply Kd.R_drewN | apply Kd.R_drew)); exact HO141.out) (Kd.R_typed (by (with_reducible repeat (first | apply Kd.R_alloc | apply Kd.R_drewN | apply Kd.R_drew)); exact HO_5.out)) (by decide) hg); have n1_ := Aside0.mk (hb); have n2_ := Aside0.mk (ho); clear HO141; clear HB; clear HO_5; have HO141 := n0_; have HB := n1_; have HO144 := n2_; clear n0_ n1_ n2_; clear ho hb hg hat))
              go_roundg k1
              case measure => have := HK1.out; omega
              case rel => exact ⟨(y139), (y142), (wrap64 (x6_1 + (Go.bits .and .i64 ((rd_T46 l0 x7_1).f1) 7))), (wrap64 (x7_1 + 1)), (by first | rfl | (simp; done) | (simp [*]; done)), (by first | rfl | (simp; done) | (simp [*]; done)), H', ⟨by have := HK1.out; omega⟩, ⟨by (with_reducible repeat (first | apply Kd.R_alloc | apply Kd.R_drewN | apply Kd.R_drew)); exact HO141.out⟩, ⟨by (with_reducible repeat (first | apply Kd.R_alloc | apply Kd.R_drewN | apply Kd.R_drew)); exact HO144.out⟩, ⟨by repeat (first | (with_reducible first | exact HB.out | apply below_alloc | apply pw_below_drewN | apply below_drew1) | exact HB.out)⟩⟩
            · rw [if_neg c5] at H
              exact absurd H (by simp)
          · rw [if_neg c4] at H
            exact absurd H (by simp)
        · rw [if_neg c3] at H
          exact absurd H (by simp)
      · rw [if_neg c2] at H
        have c2b0 : decide (x7_1 < (l0.length : Int)) = false := decide_eq_false c2
        clear c2
        simp only [Option.some.injEq, Prod.mk.injEq] at H
        obtain ⟨rfl, rfl⟩ := H
        go_wp2
        go_ret2
        exact ⟨_, _, by first | rfl | (simp [errW_none, errW_some] <;> rfl) | (simp [*, errW_none, errW_some] <;> rfl), by (with_reducible repeat (first | apply Kd.R_alloc | apply Kd.R_drewN | apply Kd.R_drew)); exact HO_4.out, by (with_reducible repeat (first | apply Kd.R_alloc | apply Kd.R_drewN | apply Kd.R_drew)); exact HO_5.out, by repeat (first | (with_reducible first | exact HB.out | apply below_alloc | apply pw_below_drewN | apply below_drew1) | exact HB.out)⟩

end Go.Proofs.Ytidhllheipopbaa.XCol
