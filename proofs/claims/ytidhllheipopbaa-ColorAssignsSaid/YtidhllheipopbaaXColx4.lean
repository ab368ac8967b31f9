-- written by gprint.py: the printer run with given contracts
import Derived.Test.YtidhllheipopbaaXColx0
import Derived.Test.YtidhllheipopbaaColGiven
import Derived.Test.YtidhllheipopbaaXColx4d
namespace Go.Proofs.Ytidhllheipopbaa.XCol
open Go.RowKit Go.Proofs.YtidhllheipopbaaW.PrintWords Go.Proofs.YtidhllheipopbaaW.PrintLast Go.Proofs.YtidhllheipopbaaW.PrintMore
attribute [local go_sem] max2_int min2_int max_two min_two max_three min_three max_four min_four   -- for this text's walks alone
set_option linter.unusedVariables false
set_option linter.unusedSimpArgs false

set_option maxHeartbeats 8000000 in
set_option maxRecDepth 100000 in
theorem ratlineref18_Assign.calls (k : Nat) (A0 : Option Addr) (c0 : Nat) (l0 : List (S47)) (a1 : Int) (r : List (S38)) (w : World) (hr0 : Kd.C k47 w A0 l0.length l0) (hc0 : l0.length ≤ c0) (h : ratlineref18_Assign.f k l0 a1 = some r) :
  Calls Try.prog 10 #[.slice A0 l0.length c0, .int .i64 a1] w fun e w' => ∃ v0_ : Value, e = .returned (v0_) ∧ Kd.R k38 38 w' w.heap.size (fun _ => True) v0_ r ∧ Below w.heap.size w w' := by
 have hu38 := Try.underlying38
 have hu47 := Try.underlying47
 have HR0 := Aside0.mk hr0
 have HC0 := Aside0.mk hc0
 clear hr0 hc0
 have HB := Aside0.mk (Below.refl w.heap.size w)
 have H : (if 0 ≤ (l0.length : Int) then (if ((l0.length : Int) : Int).toNat ≤ 11728124029610 then (if 0 ≤ (mn (mx a1 1) (wrap64 ((l0.length : Int) + 1))) then (if (mn (mx a1 1) (wrap64 ((l0.length : Int) + 1)) : Int).toNat ≤ 35184372088832 then (ratlineref18_Assign.l0 k l0 (List.replicate ((l0.length : Int) : Int).toNat z38) (List.replicate (mn (mx a1 1) (wrap64 ((l0.length : Int) + 1)) : Int).toNat 0) 0) else (none)) else (none)) else (none)) else (none)) = some r := h
 clear h
 obtain ⟨ji3, hji3⟩ : ∃ j_ : Int, (mx a1 1) = j_ := ⟨_, rfl⟩
 replace H : (if 0 ≤ (l0.length : Int) then (if ((l0.length : Int) : Int).toNat ≤ 11728124029610 then (if 0 ≤ (mn (ji3) (wrap64 ((l0.length : Int) + 1))) then (if (mn (ji3) (wrap64 ((l0.length : Int) + 1)) : Int).toNat ≤ 35184372088832 then (ratlineref18_Assign.l0 k l0 (List.replicate ((l0.length : Int) : Int).toNat z38) (List.replicate (mn (ji3) (wrap64 ((l0.length : Int) + 1)) : Int).toNat 0) 0) else (none)) else (none)) else (none)) else (none)) = some r := by first | (rw [hji3] at H; exact H) | (simp only [hji3] at H ⊢; exact H)
 (try (have hji3l : 1 ≤ ji3 := by (rw [← hji3]; unfold mx; (repeat' split) <;> omega)))
 (try (have hji3m : 0 ≤ ji3 := by omega))
 have hji3_ : (if a1 < 1 then 1 else a1) = ji3 := hji3
 by_cases c4 : 0 ≤ (l0.length : Int)
 rotate_left
 ·rw [if_neg c4] at H
  exact absurd H (by simp)

 rw [if_pos c4] at H
 have c4b0 := eq_true c4
 have c4b1 : decide (0 ≤ (l0.length : Int)) = true := decide_eq_true c4
 clear c4
 by_cases c5 : ((l0.length : Int) : Int).toNat ≤ 11728124029610
 rotate_left
 ·rw [if_neg c5] at H
  exact absurd H (by simp)
 rw [if_pos c5] at H
 have c5b0 := eq_true c5
 have c5b1 : decide (((l0.length : Int) : Int).toNat ≤ 11728124029610) = true := decide_eq_true c5
 clear c5
 obtain ⟨y125, hy125⟩ : ∃ y_ : List (S38), y_ = (List.replicate ((l0.length : Int) : Int).toNat z38) := ⟨_, rfl⟩
 replace H : (if 0 ≤ (mn (ji3) (wrap64 ((l0.length : Int) + 1))) then (if (mn (ji3) (wrap64 ((l0.length : Int) + 1)) : Int).toNat ≤ 35184372088832 then (ratlineref18_Assign.l0 k l0 y125 (List.replicate (mn (ji3) (wrap64 ((l0.length : Int) + 1)) : Int).toNat 0) 0) else (none)) else (none)) = some r := by first | (rw [hy125]; with_reducible exact H) | (have H2_ := (Option.bind_some _ _).symm.trans H; rw [hy125]; with_reducible exact H2_) | (have H2_ := (Option.bind_some _ _).symm.trans H; with_reducible exact H2_) | with_reducible exact H | (rw [hy125]; exact H) | exact H
 have Ny125 := Aside0.mk hy125
 clear hy125
 obtain ⟨ji6, hji6⟩ : ∃ j_ : Int, (mn (ji3) (wrap64 ((l0.length : Int) + 1))) = j_ := ⟨_, rfl⟩
 replace H : (if 0 ≤ (ji6) then (if (ji6 : Int).toNat ≤ 35184372088832 then (ratlineref18_Assign.l0 k l0 y125 (List.replicate (ji6 : Int).toNat 0) 0) else (none)) else (none)) = some r := by first | (rw [hji6] at H; exact H) | (simp only [hji6] at H ⊢; exact H)
 have hji6_ : (if (wrap64 ((l0.length : Int) + 1)) < (ji3) then (wrap64 ((l0.length : Int) + 1)) else (ji3)) = ji6 := hji6
 by_cases c7 : 0 ≤ (ji6)
 rotate_left
 ·rw [if_neg c7] at H
  exact absurd H (by simp)
 rw [if_pos c7] at H
 have c7b0 := eq_true c7
 have c7b1 : decide (0 ≤ (ji6)) = true := decide_eq_true c7
 clear c7
 by_cases c8 : (ji6 : Int).toNat ≤ 35184372088832
 rotate_left
 ·rw [if_neg c8] at H
  exact absurd H (by simp)
 rw [if_pos c8] at H
 have c8b0 := eq_true c8
 have c8b1 : decide ((ji6 : Int).toNat ≤ 35184372088832) = true := decide_eq_true c8
 clear c8
 obtain ⟨y128, hy128⟩ : ∃ y_ : List Int, y_ = (List.replicate (ji6 : Int).toNat 0) := ⟨_, rfl⟩
 replace H : (ratlineref18_Assign.l0 k l0 y125 y128 0) = some r := by first | (rw [hy128]; with_reducible exact H) | (have H2_ := (Option.bind_some _ _).symm.trans H; rw [hy128]; with_reducible exact H2_) | (have H2_ := (Option.bind_some _ _).symm.trans H; with_reducible exact H2_) | with_reducible exact H | (rw [hy128]; exact H) | exact H
 have Ny128 := Aside0.mk hy128
 clear hy128
 have H' := Aside0.mk H
 clear H
 go_enter Try.func10, Try.ntmps10
 go_wp2_with (first | ((with_reducible refine gate_dst (N := 21) rfl ?_); refine Kd.R_make k38 _ 38 rfl (N := 21) rfl 36 _ _ rfl (l0.length : Int) rfl rfl Try.underlying36 (.agg #[(.int .i64 0), (.int .i64 0), (.int .i64 0)]) 24 info38 rfl (by decide) (by omega) z38 (ok := fun _ => True) (okp := fun _ => True) (k38_mkM _ _ _ z38 ) (fun _ hk => hk) trivial (of_decide_eq_true ‹_›) (Nat.le_trans (Nat.mul_le_mul_right _ (of_decide_eq_true (by first | (with_reducible assumption) | assumption) : (l0.length : Int).toNat ≤ 11728124029610)) (by omega)) (Below.refl _ _) (Nat.le_refl _) ?_; intro v126 w9 ho10 hb hg_ hnew_; clear hg_ hnew_; (first | rw [← Ny125.out] at ho10 | (simp only [Int.reduceToNat] at ho10; rw [← Ny125.out] at ho10)); have n0_ := Aside0.mk (Kd.R_lower ho10 (below_size (by repeat (first | (with_reducible first | exact HB.out | apply below_alloc | apply pw_below_drewN | apply below_drew1) | exact HB.out)))); have n1_ := Aside0.mk (below_step (by repeat (first | (with_reducible first | exact HB.out | apply below_alloc | apply pw_below_drewN | apply below_drew1) | exact HB.out)) hb); clear HB; have HO127 := n0_; have HB := n1_; clear n0_ n1_; clear hb ho10) | ((with_reducible refine gate_dst (N := 27) rfl ?_); refine Kd.R_make (Kd.int .i64) _ 3 rfl (N := 27) rfl 48 _ _ rfl ji6 rfl rfl Try.underlying48 (.int .i64 0) 8 info3 rfl (by decide) (by omega) 0 (ok := fun _ => True) (okp := fun _ => True) rfl (fun _ hk => hk) trivial (of_decide_eq_true ‹_›) (Nat.le_trans (Nat.mul_le_mul_right _ (of_decide_eq_true (by first | (with_reducible assumption) | assumption) : ji6.toNat ≤ 35184372088832)) (by omega)) (Below.refl _ _) (Nat.le_refl _) ?_; intro v129 w11 ho12 hb hg_ hnew_; clear hg_ hnew_; (first | rw [← Ny128.out] at ho12 | (simp only [Int.reduceToNat] at ho12; rw [← Ny128.out] at ho12)); have n0_ := Aside0.mk (Kd.R_below (by (with_reducible repeat (first | apply Kd.R_alloc | apply Kd.R_drewN | apply Kd.R_drew)); exact HO127.out) hb); have n1_ := Aside0.mk (Kd.R_lower ho12 (below_size (by repeat (first | (with_reducible first | exact HB.out | apply below_alloc | apply pw_below_drewN | apply below_drew1) | exact HB.out)))); have n2_ := Aside0.mk (below_step (by repeat (first | (with_reducible first | exact HB.out | apply below_alloc | apply pw_below_drewN | apply below_drew1) | exact HB.out)) hb); clear HO127; clear HB; have HO127 := n0_; have HO130 := n1_; have HB := n2_; clear n0_ n1_ n2_; clear hb ho12))
 go_loopg [7] k (fun kq v7 w' => ∃ (x6_1 : List Int) (x7_1 : Int), v7 = .int .i64 x7_1 ∧ Aside0 (ratlineref18_Assign.l0 kq l0 y125 x6_1 x7_1 = some r) ∧ Aside0 (kq ≤ k) ∧ Aside0 (Kd.R k38 38 w' w.heap.size (fun _ => True) v126 y125) ∧ Aside0 (Kd.R (Kd.int .i64) 3 w' w.heap.size (fun _ => True) v129 x6_1) ∧ Aside0 (Below w.heap.size w w'))
 case atStart => exact ⟨(y128), (0), (by first | rfl | (simp; done) | (simp [*]; done)), H', ⟨Nat.le_refl _⟩, ⟨by (with_reducible repeat (first | apply Kd.R_alloc | apply Kd.R_drewN | apply Kd.R_drew)); exact HO127.out⟩, ⟨by (with_reducible repeat (first | apply Kd.R_alloc | apply Kd.R_drewN | apply Kd.R_drew)); exact HO130.out⟩, ⟨by repeat (first | (with_reducible first | exact HB.out | apply below_alloc | apply pw_below_drewN | apply below_drew1) | exact HB.out)⟩⟩
 case round =>
  clear H'
  (try clear c1); (try clear p2); (try clear c4); (try clear c4b0); (try clear c4b1); (try clear c5); (try clear c5b0); (try clear c5b1); (try clear p6); (try clear c7); (try clear c7b0); (try clear c7b1); (try clear c8); (try clear c8b0); (try clear c8b1); (try clear c10)
  obtain ⟨x6_1, x7_1, rfl, HA, HK1, HO_5, HO_6, HB⟩ := hrel
  cases gk with
  | zero => exact absurd HA.out (by simp [ratlineref18_Assign.l0])
  | succ k1 =>
   have H := HA.out
   clear HA
   simp only [ratlineref18_Assign.l0] at H
   by_cases c13 : x7_1 < (x6_1.length : Int)
   ·rw [if_pos c13] at H
    have c13b0 : decide (x7_1 < (x6_1.length : Int)) = true := decide_eq_true c13
    clear c13
    by_cases c14 : 0 ≤ x7_1
    rotate_left
    ·rw [if_neg c14] at H
     exact absurd H (by simp)
    rw [if_pos c14] at H
    have c14b0 : decide (0 ≤ x7_1) = true := decide_eq_true c14
    clear c14
    obtain ⟨y131, hy131⟩ : ∃ y_ : List Int, y_ = (x6_1.set (x7_1 : Int).toNat (-1)) := ⟨_, rfl⟩
    replace H : (ratlineref18_Assign.l0 k1 l0 y125 y131 (wrap64 (x7_1 + 1))) = some r := by first | (rw [hy131]; with_reducible exact H) | (have H2_ := (Option.bind_some _ _).symm.trans H; rw [hy131]; with_reducible exact H2_) | (have H2_ := (Option.bind_some _ _).symm.trans H; with_reducible exact H2_) | with_reducible exact H | (rw [hy131]; exact H) | exact H
    have Ny131 := Aside0.mk hy131
    clear hy131
    have H' := Aside0.mk H
    clear H
    obtain ⟨Ao16, co16, eo16⟩ := Kd.R_slice HO_6.out
    subst eo16
    have p15 : 0 ≤ (x7_1 : Int) := of_decide_eq_true (by first | (with_reducible assumption) | assumption)
    have q15 : (x7_1 : Int) < ((x6_1.length : Int) : Int) := of_decide_eq_true (by first | (with_reducible assumption) | assumption)
    obtain ⟨go15, co15, eo15, gb15, gl15, cl15, HG15⟩ := Kd.R_form HO_6.out (by omega)
    (first | cases eo15 | (injection eo15 with ea_ en_ ec_; (first | subst ea_ | (injection ea_ with ea_; subst ea_)); subst ec_; clear en_))
    have GB15 := Aside0.mk gb15
    have GG15 := Aside0.mk HG15
    clear gb15 gl15 HG15
    obtain ⟨hx15_0, hf15_0⟩ := Kd.R_celln 0 HO_6.out (x7_1 : Int) p15 q15
    replace p15 := eq_true p15
    replace q15 := eq_true q15
    have HP17 := Kd.R_putg HO_6.out (x7_1 : Int) (-1)
    go_wp2_with (first | ((with_reducible refine gate_store (t := 3) (p := 36) rfl ?_); refine store_event (t := 3) (p := 36) (v := ?vo_w18) (w1 := (wr.setCell ⟨go15, (x7_1 : Int).toNat, none⟩ (.int .i64 (-1)))) ?hg ?ho ?hn ?hr ?_; (case ho => rfl); (case hg => rfl); (case hn => rfl); (case hr => first | (go_simp; done) | (go_simp; rfl)); intro w18 hw; have hg : wr.grownBy w18 (some go15) := (by rw [hw]; exact HP17.2); have hp_ : Kd.R (Kd.int .i64) 3 w18 w.heap.size (fun _ => True) (.slice (some ⟨go15, 0, none⟩) x6_1.length co16) y131 := (by rw [hw, Ny131.out]; exact HP17.1); clear HP17; have n0_ := Aside0.mk (Kd.R_over' (v := (.slice (some ⟨go15, 0, none⟩) x6_1.length co16)) (by (with_reducible repeat (first | apply Kd.R_alloc | apply Kd.R_drewN | apply Kd.R_drew)); exact HO_5.out) (Kd.R_typed HO_6.out) (by decide) hg); have n1_ := Aside0.mk (hp_); have n2_ := Aside0.mk ((by rw [hw]; exact below_set (HB.out) GB15.out : Below w.heap.size w w18)); clear HO_5; clear HO_6; clear HB; have HO_5 := n0_; have HO_6 := n1_; have HB := n2_; clear n0_ n1_ n2_; clear hg hw hp_))
    go_roundg k1
    case measure => have := HK1.out; omega
    case rel => exact ⟨(y131), (wrap64 (x7_1 + 1)), (by first | rfl | (simp; done) | (simp [*]; done)), H', ⟨by have := HK1.out; omega⟩, ⟨by (with_reducible repeat (first | apply Kd.R_alloc | apply Kd.R_drewN | apply Kd.R_drew)); exact HO_5.out⟩, ⟨by (with_reducible repeat (first | apply Kd.R_alloc | apply Kd.R_drewN | apply Kd.R_drew)); exact HO_6.out⟩, ⟨by repeat (first | (with_reducible first | exact HB.out | apply below_alloc | apply pw_below_drewN | apply below_drew1) | exact HB.out)⟩⟩
   ·rw [if_neg c13] at H
    have c13b0 : decide (x7_1 < (x6_1.length : Int)) = false := decide_eq_false c13
    clear c13
    have H' := Aside0.mk H
    clear H
    obtain ⟨Ao19, co19, eo19⟩ := Kd.R_slice HO_6.out
    subst eo19
    go_wp2
    go_loopg [8, 9] k1 (fun kq v8 v9 w' => ∃ (x5_2 : List (S38)) (x6_2 : List Int) (x8_2 : Int) (x9_2 : Int), v8 = .int .i64 x8_2 ∧ v9 = .int .i64 x9_2 ∧ Aside0 (ratlineref18_Assign.l1 kq l0 x5_2 x6_2 x8_2 x9_2 = some r) ∧ Aside0 (kq ≤ k1) ∧ Aside0 (Kd.R k38 38 w' w.heap.size (fun _ => True) v126 x5_2) ∧ Aside0 (Kd.R (Kd.int .i64) 3 w' w.heap.size (fun _ => True) (.slice Ao19 x6_1.length co19) x6_2) ∧ Aside0 (Below w.heap.size w w'))
    case atStart => exact ⟨(y125), (x6_1), (0), (0), (by first | rfl | (simp; done) | (simp [*]; done)), (by first | rfl | (simp; done) | (simp [*]; done)), H', ⟨Nat.le_refl _⟩, ⟨by (with_reducible repeat (first | apply Kd.R_alloc | apply Kd.R_drewN | apply Kd.R_drew)); exact HO_5.out⟩, ⟨by (with_reducible repeat (first | apply Kd.R_alloc | apply Kd.R_drewN | apply Kd.R_drew)); exact HO_6.out⟩, ⟨by repeat (first | (with_reducible first | exact HB.out | apply below_alloc | apply pw_below_drewN | apply below_drew1) | exact HB.out)⟩⟩
    case round =>
     clear H'
     (try clear c1); (try clear p1); (try clear q1); (try clear hx1); (try clear p2); (try clear c4); (try clear c4b0); (try clear c4b1); (try clear c5); (try clear c5b0); (try clear c5b1); (try clear p6); (try clear c7); (try clear c7b0); (try clear c7b1); (try clear c8); (try clear c8b0); (try clear c8b1); (try clear c10); (try clear c13); (try clear c13b0); (try clear c14); (try clear c14b0); (try clear p15); (try clear q15); (try clear hx15); (try clear hf15); (try clear hx15_0); (try clear p15); (try clear p2); (try clear p6); (try clear q15)
     obtain ⟨x5_2, x6_2, x8_2, x9_2, rfl, rfl, HA, HK2, HO_5, HO_6, HB⟩ := hrel
     have hl6_2 := (Kd.R_reads' HO_6.out).1
     rw [hl6_2] at HO_6
     (try simp only [hl6_2])
     (try simp only [hl6_2] at HO_5)
     cases gk with
     | zero => exact absurd HA.out (by simp [ratlineref18_Assign.l1])
     | succ k2 =>
      have H := HA.out
      clear HA
      simp only [ratlineref18_Assign.l1] at H
      by_cases c20 : x9_2 < (l0.length : Int)
      rotate_left
      ·rw [if_neg c20] at H
       have c20b0 : decide (x9_2 < (l0.length : Int)) = false := decide_eq_false c20
       clear c20
       obtain rfl := Option.some.inj H
       go_wp2
       go_ret
       exact ⟨_, by first | rfl | (simp [errW_none, errW_some] <;> rfl) | (simp only [← hji3, ← hji6]; first | rfl | (simp [errW_none, errW_some] <;> rfl)) | (simp [*, errW_none, errW_some] <;> rfl), by (with_reducible repeat (first | apply Kd.R_alloc | apply Kd.R_drewN | apply Kd.R_drew)); exact HO_5.out, by repeat (first | (with_reducible first | exact HB.out | apply below_alloc | apply pw_below_drewN | apply below_drew1) | exact HB.out)⟩
      rw [if_pos c20] at H
      have c20b0 : decide (x9_2 < (l0.length : Int)) = true := decide_eq_true c20
      clear c20
      by_cases c21 : 0 ≤ x9_2
      rotate_left
      ·rw [if_neg c21] at H
       exact absurd H (by simp)
      rw [if_pos c21] at H
      have c21b0 : decide (0 ≤ x9_2) = true := decide_eq_true c21
      clear c21
      by_cases c22 : x9_2 < (x5_2.length : Int)
      rotate_left
      ·rw [if_neg c22] at H
       exact absurd H (by simp)
      rw [if_pos c22] at H
      have c22b0 : decide (x9_2 < (x5_2.length : Int)) = true := decide_eq_true c22
      clear c22
      obtain ⟨y133, hy133⟩ : ∃ y_ : List (S38), y_ = (x5_2.set (x9_2 : Int).toNat (⟨(rd_T47 l0 x9_2).f0, (-1), (-1)⟩ : S38)) := ⟨_, rfl⟩
      replace H : (ratlineref18_Assign.l2 k2 l0 y133 x6_2 x8_2 x9_2 (-1) 0) = some r := by first | (rw [hy133]; with_reducible exact H) | (have H2_ := (Option.bind_some _ _).symm.trans H; rw [hy133]; with_reducible exact H2_) | (have H2_ := (Option.bind_some _ _).symm.trans H; with_reducible exact H2_) | with_reducible exact H | (rw [hy133]; exact H) | exact H
      have Ny133 := Aside0.mk hy133
      clear hy133
      have H' := Aside0.mk H
      clear H
      have p132 : 0 ≤ (x9_2 : Int) := of_decide_eq_true (by first | (with_reducible assumption) | assumption)
      have q132 : x9_2 < (l0.length : Int) := of_decide_eq_true (by first | (with_reducible assumption) | assumption)
      obtain ⟨ad132, e132, hx132_0, hx132_1, hx132_2⟩ := at_T47 HR0.out x9_2 p132 q132
      cases e132
      replace hx132_0 := (HB.out.cell (World.block_lt_of_cell? w _ hx132_0)).trans hx132_0
      replace hx132_1 := (HB.out.cell (World.block_lt_of_cell? w _ hx132_1)).trans hx132_1
      replace hx132_2 := (HB.out.cell (World.block_lt_of_cell? w _ hx132_2)).trans hx132_2
      replace p132 := eq_true p132
      replace q132 := eq_true q132
      have p23 : 0 ≤ (x9_2 : Int) := of_decide_eq_true (by first | (with_reducible assumption) | assumption)
      have q23 : (x9_2 : Int) < ((x5_2.length : Int) : Int) := of_decide_eq_true (by first | (with_reducible assumption) | assumption)
      obtain ⟨go23, co23, eo23, gb23, gl23, cl23, HG23⟩ := Kd.R_form HO_5.out (by omega)
      (first | cases eo23 | (injection eo23 with ea_ en_ ec_; (first | subst ea_ | (injection ea_ with ea_; subst ea_)); subst ec_; clear en_))
      have GB23 := Aside0.mk gb23
      have GG23 := Aside0.mk HG23
      clear gb23 gl23 HG23
      obtain ⟨ce23, hcl23, hM23, hcc23, hfr23⟩ := Kd.R_elem HO_5.out z38 (x9_2 : Int) p23 q23
      obtain rfl := k38_openM hM23
      have hx23_0 : wr.cell? ⟨go23, (x9_2 : Int).toNat * 3, none⟩ = some (.int .i64 ((rd_T38 x5_2 x9_2).f0)) := hcc23 0 _ rfl
      have hx23_1 : wr.cell? ⟨go23, (x9_2 : Int).toNat * 3 + 1, none⟩ = some (.int .i64 ((rd_T38 x5_2 x9_2).f1)) := hcc23 1 _ rfl
      have hx23_2 : wr.cell? ⟨go23, (x9_2 : Int).toNat * 3 + 2, none⟩ = some (.int .i64 ((rd_T38 x5_2 x9_2).f2)) := hcc23 2 _ rfl
      have hf23_0 : wr.frozen? ⟨go23, (x9_2 : Int).toNat * 3, none⟩ = false := hfr23 0
      have hf23_1 : wr.frozen? ⟨go23, (x9_2 : Int).toNat * 3 + 1, none⟩ = false := hfr23 1
      have hf23_2 : wr.frozen? ⟨go23, (x9_2 : Int).toNat * 3 + 2, none⟩ = false := hfr23 2
      clear hcl23 hcc23 hfr23 hM23
      replace p23 := eq_true p23
      replace q23 := eq_true q23
      have HX24 := Aside0.mk (show Kd.R k38 38 wr w.heap.size (fun _ => True) (.slice (some ⟨go23, 0, none⟩) x5_2.length co23) x5_2 from (by (with_reducible repeat (first | apply Kd.R_alloc | apply Kd.R_drewN | apply Kd.R_drew)); exact HO_5.out))
      obtain ⟨ce24, hcl24, hM24, hcc24, hfr24⟩ := Kd.R_elem HX24.out z38 (x9_2 : Int) (of_decide_eq_true ‹_›) (by have h_ : (x9_2 : Int) < ((x5_2.length : Int) : Int) := of_decide_eq_true (by first | (with_reducible assumption) | assumption); first | exact h_ | (have e_ := (Kd.R_reads' HO_5.out).1; omega) | simpa using h_)
      obtain rfl := k38_openM hM24
      have HP24 := Kd.R_seg HX24.out (x9_2 : Int) (of_decide_eq_true ‹_›) (by have h_ : (x9_2 : Int) < ((x5_2.length : Int) : Int) := of_decide_eq_true (by first | (with_reducible assumption) | assumption); first | exact h_ | (have e_ := (Kd.R_reads' HO_5.out).1; omega) | simpa using h_) (seg := [.int .i64 ((rd_T47 l0 x9_2).f0), .int .i64 (-1), .int .i64 (-1)]) (j := 0) hcl24 hcc24 (show 3 ≤ 3 from by decide) (x' := (⟨(rd_T47 l0 x9_2).f0, (-1), (-1)⟩ : S38)) (k38_mkM _ _ _ (⟨(rd_T47 l0 x9_2).f0, (-1), (-1)⟩ : S38) ) (fun _ hk => hk)
      have hx24_0 := hcc24 0 _ rfl
      (try simp only [show (k38).sz = 3 from rfl, Nat.mul_one, Nat.add_zero] at hx24_0)
      have hf24_0 := hfr24 0
      (try simp only [show (k38).sz = 3 from rfl, Nat.mul_one, Nat.add_zero] at hf24_0)
      have hx24_1 := hcc24 1 _ rfl
      (try simp only [show (k38).sz = 3 from rfl, Nat.mul_one, Nat.add_zero] at hx24_1)
      have hf24_1 := hfr24 1
      (try simp only [show (k38).sz = 3 from rfl, Nat.mul_one, Nat.add_zero] at hf24_1)
      have hx24_2 := hcc24 2 _ rfl
      (try simp only [show (k38).sz = 3 from rfl, Nat.mul_one, Nat.add_zero] at hx24_2)
      have hf24_2 := hfr24 2
      (try simp only [show (k38).sz = 3 from rfl, Nat.mul_one, Nat.add_zero] at hf24_2)
      clear hcl24 hcc24 hfr24 hM24
      go_wp2_with (first | ((with_reducible refine gate_store (t := 38) (p := 51) rfl ?_); refine store_event (t := 38) (p := 51) (v := ?vo_w25) (w1 := (((wr.setCell ⟨go23, (x9_2 : Int).toNat * 3, none⟩ (.int .i64 ((rd_T47 l0 x9_2).f0))).setCell ⟨go23, (x9_2 : Int).toNat * 3 + 1, none⟩ (.int .i64 (-1))).setCell ⟨go23, (x9_2 : Int).toNat * 3 + 2, none⟩ (.int .i64 (-1)))) ?hg ?ho ?hn ?hr ?_; (case ho => rfl); (case hg => rfl); (case hn => rfl); (case hr => first | (go_simp; done) | (go_simp; rfl)); intro w25 hw; have hg : wr.grownBy w25 (some go23) := (by rw [hw]; exact HP24.2); have hp_ : Kd.R k38 38 w25 w.heap.size (fun _ => True) (.slice (some ⟨go23, 0, none⟩) x5_2.length co23) y133 := (by rw [hw, Ny133.out]; exact HP24.1); clear HP24; have n0_ := Aside0.mk (hp_); have n1_ := Aside0.mk (Kd.R_over' (v := (.slice (some ⟨go23, 0, none⟩) x5_2.length co23)) (by (with_reducible repeat (first | apply Kd.R_alloc | apply Kd.R_drewN | apply Kd.R_drew)); exact HO_6.out) (Kd.R_typed HO_5.out) (by decide) hg); have n2_ := Aside0.mk ((by rw [hw]; exact below_set (below_set (below_set (HB.out) GB23.out) GB23.out) GB23.out : Below w.heap.size w w25)); clear HO_5; clear HO_6; clear HB; have HO_5 := n0_; have HO_6 := n1_; have HB := n2_; clear n0_ n1_ n2_; clear hg hw hp_))
      go_loopg [11] k2 (fun kq v11 w' => ∃ (x6_3 : List Int) (x11_3 : Int), v11 = .int .i64 x11_3 ∧ Aside0 (ratlineref18_Assign.l2 kq l0 y133 x6_3 x8_2 x9_2 (-1) x11_3 = some r) ∧ Aside0 (kq ≤ k2) ∧ Aside0 (Kd.R k38 38 w' w.heap.size (fun _ => True) (.slice (some ⟨go23, 0, none⟩) x5_2.length co23) y133) ∧ Aside0 (Kd.R (Kd.int .i64) 3 w' w.heap.size (fun _ => True) (.slice Ao19 x6_2.length co19) x6_3) ∧ Aside0 (Below w.heap.size w w'))
      case atStart => exact ⟨(x6_2), (0), (by first | rfl | (simp; done) | (simp [*]; done)), H', ⟨Nat.le_refl _⟩, ⟨by (try simp only [hl6_2]); (with_reducible repeat (first | apply Kd.R_alloc | apply Kd.R_drewN | apply Kd.R_drew)); exact HO_5.out⟩, ⟨by (try simp only [hl6_2]); (with_reducible repeat (first | apply Kd.R_alloc | apply Kd.R_drewN | apply Kd.R_drew)); exact HO_6.out⟩, ⟨by repeat (first | (with_reducible first | exact HB.out | apply below_alloc | apply pw_below_drewN | apply below_drew1) | exact HB.out)⟩⟩
      case round =>
       clear H'
       (try clear c1); (try clear p1); (try clear q1); (try clear hx1); (try clear c2); (try clear p2); (try clear q2); (try clear hx2); (try clear hf2); (try clear c4); (try clear c4b0); (try clear c4b1); (try clear c5); (try clear c5b0); (try clear c5b1); (try clear p6); (try clear c7); (try clear c7b0); (try clear c7b1); (try clear c8); (try clear c8b0); (try clear c8b1); (try clear c10); (try clear c13); (try clear c13b0); (try clear p13); (try clear q13); (try clear hx13); (try clear c14); (try clear c14b0); (try clear p15); (try clear q15); (try clear hx15); (try clear hf15); (try clear c20); (try clear c20b0); (try clear c21); (try clear c21b0); (try clear c22); (try clear c22b0); (try clear c23); (try clear p23); (try clear q23); (try clear hx23); (try clear hf23); (try clear c24); (try clear hx24); (try clear hf24); (try clear hx132_0); (try clear hx132_1); (try clear hx132_2); (try clear hx15_0); (try clear hx23_0); (try clear hx23_1); (try clear hx23_2); (try clear hx24_0); (try clear hx24_1); (try clear hx24_2); (try clear p1); (try clear p132); (try clear p15); (try clear p2); (try clear p23); (try clear p6); (try clear q1); (try clear q132); (try clear q15); (try clear q23)
       obtain ⟨x6_3, x11_3, rfl, HA, HK3, HO_5, HO_6, HB⟩ := hrel
       have hl5_3 := (Kd.R_reads' HO_5.out).1
       rw [hl5_3] at HO_5
       (try simp only [hl5_3])
       (try simp only [hl5_3] at HO_6)
       have hl6_3 := (Kd.R_reads' HO_6.out).1
       rw [hl6_3] at HO_6
       (try simp only [hl6_3])
       (try simp only [hl6_3] at HO_5)
       cases gk with
       | zero => exact absurd HA.out (by simp [ratlineref18_Assign.l2])
       | succ k3 =>
        have H := HA.out
        clear HA
        simp only [ratlineref18_Assign.l2] at H
        by_cases c26 : x11_3 < (x6_3.length : Int)
        ·rw [if_pos c26] at H
         have c26b0 : decide (x11_3 < (x6_3.length : Int)) = true := decide_eq_true c26
         clear c26
         by_cases c27 : 0 ≤ x11_3
         rotate_left
         ·rw [if_neg c27] at H
          exact absurd H (by simp)
         rw [if_pos c27] at H
         have c27b0 : decide (0 ≤ x11_3) = true := decide_eq_true c27
         clear c27
         by_cases c28 : (rd x6_3 x11_3) ≥ 0
         ·rw [if_pos c28] at H
          have c28b0 : decide (0 ≤ (rd x6_3 x11_3)) = true := decide_eq_true c28
          clear c28
          by_cases c29 : 0 ≤ (rd x6_3 x11_3)
          rotate_left
          ·rw [if_neg c29] at H
           exact absurd H (by simp)
          rw [if_pos c29] at H
          have c29b0 : decide (0 ≤ (rd x6_3 x11_3)) = true := decide_eq_true c29
          clear c29
          by_cases c30 : (rd x6_3 x11_3) < (l0.length : Int)
          rotate_left
          ·rw [if_neg c30] at H
           exact absurd H (by simp)
          rw [if_pos c30] at H
          have c30b0 : decide ((rd x6_3 x11_3) < (l0.length : Int)) = true := decide_eq_true c30
          clear c30
          by_cases c31 : 0 ≤ x9_2
          rotate_left
          ·rw [if_neg c31] at H
           exact absurd H (by simp)
          rw [if_pos c31] at H
          have c31b0 : decide (0 ≤ x9_2) = true := decide_eq_true c31
          clear c31
          by_cases c32 : x9_2 < (l0.length : Int)
          rotate_left
          ·rw [if_neg c32] at H
           exact absurd H (by simp)
          rw [if_pos c32] at H
          have c32b0 : decide (x9_2 < (l0.length : Int)) = true := decide_eq_true c32
          clear c32
          by_cases c33 : ((rd_T47 l0 (rd x6_3 x11_3)).f2) < ((rd_T47 l0 x9_2).f1)
          ·rw [if_pos c33] at H
           have c33b0 : decide (((rd_T47 l0 (rd x6_3 x11_3)).f2) < ((rd_T47 l0 x9_2).f1)) = true := decide_eq_true c33
           clear c33
           obtain ⟨y138, hy138⟩ : ∃ y_ : List Int, y_ = (x6_3.set (x11_3 : Int).toNat (-1)) := ⟨_, rfl⟩
           replace H : (ratlineref18_Assign.l2 k3 l0 y133 y138 x8_2 x9_2 (-1) (wrap64 (x11_3 + 1))) = some r := by first | (rw [hy138]; with_reducible exact H) | (have H2_ := (Option.bind_some _ _).symm.trans H; rw [hy138]; with_reducible exact H2_) | (have H2_ := (Option.bind_some _ _).symm.trans H; with_reducible exact H2_) | with_reducible exact H | (rw [hy138]; exact H) | exact H
           have Ny138 := Aside0.mk hy138
           clear hy138
           have H' := Aside0.mk H
           clear H
           try go_wp2
           have n0_ := Aside0.mk (Kd.R_drew HO_5.out)
           have n1_ := Aside0.mk (Kd.R_drew HO_6.out)
           have n2_ := Aside0.mk (below_drew1 HB.out)
           clear HO_5
           clear HO_6
           clear HB
           have HO_5 := n0_
           have HO_6 := n1_
           have HB := n2_
           clear n0_ n1_ n2_
           have p134 : 0 ≤ (x11_3 : Int) := of_decide_eq_true (by first | (with_reducible assumption) | assumption)
           have q134 : x11_3 < (x6_3.length : Int) := of_decide_eq_true (by first | (with_reducible assumption) | assumption)
           obtain ⟨ad134, e134, hx134_0⟩ := Kd.at_int (Kd.R_reads' HO_6.out).2.2 x11_3 p134 q134
           cases e134
           replace p134 := eq_true p134
           replace q134 := eq_true q134
           have p135 : 0 ≤ (x11_3 : Int) := of_decide_eq_true (by first | (with_reducible assumption) | assumption)
           have q135 : x11_3 < (x6_3.length : Int) := of_decide_eq_true (by first | (with_reducible assumption) | assumption)
           obtain ⟨ad135, e135, hx135_0⟩ := Kd.at_int (Kd.R_reads' HO_6.out).2.2 x11_3 p135 q135
           obtain rfl : ad134 = ad135 := (by injection e135)
           replace p135 := eq_true p135
           replace q135 := eq_true q135
           have p136 : 0 ≤ ((rd x6_3 x11_3) : Int) := of_decide_eq_true (by first | (with_reducible assumption) | assumption)
           have q136 : (rd x6_3 x11_3) < (l0.length : Int) := of_decide_eq_true (by first | (with_reducible assumption) | assumption)
           obtain ⟨ad136, e136, hx136_0, hx136_1, hx136_2⟩ := at_T47 HR0.out (rd x6_3 x11_3) p136 q136
           have hw136_2 := hx136_2
           have hw136_1 := hx136_1
           have hw136_0 := hx136_0
           obtain rfl : ad132 = ad136 := (by injection e136)
           replace hx136_0 := (HB.out.cell (World.block_lt_of_cell? w _ hx136_0)).trans hx136_0
           replace hx136_1 := (HB.out.cell (World.block_lt_of_cell? w _ hx136_1)).trans hx136_1
           replace hx136_2 := (HB.out.cell (World.block_lt_of_cell? w _ hx136_2)).trans hx136_2
           replace p136 := eq_true p136
           replace q136 := eq_true q136
           have p137 : 0 ≤ (x9_2 : Int) := of_decide_eq_true (by first | (with_reducible assumption) | assumption)
           have q137 : x9_2 < (l0.length : Int) := of_decide_eq_true (by first | (with_reducible assumption) | assumption)
           obtain ⟨ad137, e137, hx137_0, hx137_1, hx137_2⟩ := at_T47 HR0.out x9_2 p137 q137
           have hw137_2 := hx137_2
           have hw137_1 := hx137_1
           have hw137_0 := hx137_0
           obtain rfl : ad132 = ad137 := (by injection e137)
           replace hx137_0 := (HB.out.cell (World.block_lt_of_cell? w _ hx137_0)).trans hx137_0
           replace hx137_1 := (HB.out.cell (World.block_lt_of_cell? w _ hx137_1)).trans hx137_1
           replace hx137_2 := (HB.out.cell (World.block_lt_of_cell? w _ hx137_2)).trans hx137_2
           replace p137 := eq_true p137
           replace q137 := eq_true q137
           refine start_ (n := 21) (S := fun w' => w'.cell? (ad134.add (x11_3).toNat) = some (.int .i64 (rd x6_3 x11_3)) ∧ w'.cell? (ad134.add (x11_3).toNat) = some (.int .i64 (rd x6_3 x11_3)) ∧ w'.cell? (ad132.add (((rd x6_3 x11_3)).toNat * 3)) = some (.int .i64 ((rd_T47 l0 (rd x6_3 x11_3)).f0)) ∧ w'.cell? ⟨(ad132.add (((rd x6_3 x11_3)).toNat * 3)).block, (ad132.add (((rd x6_3 x11_3)).toNat * 3)).off + 1, none⟩ = some (.int .i64 ((rd_T47 l0 (rd x6_3 x11_3)).f1)) ∧ w'.cell? ⟨(ad132.add (((rd x6_3 x11_3)).toNat * 3)).block, (ad132.add (((rd x6_3 x11_3)).toNat * 3)).off + 2, none⟩ = some (.int .i64 ((rd_T47 l0 (rd x6_3 x11_3)).f2)) ∧ w'.cell? (ad132.add ((x9_2).toNat * 3)) = some (.int .i64 ((rd_T47 l0 x9_2).f0)) ∧ w'.cell? ⟨(ad132.add ((x9_2).toNat * 3)).block, (ad132.add ((x9_2).toNat * 3)).off + 1, none⟩ = some (.int .i64 ((rd_T47 l0 x9_2).f1)) ∧ w'.cell? ⟨(ad132.add ((x9_2).toNat * 3)).block, (ad132.add ((x9_2).toNat * 3)).off + 2, none⟩ = some (.int .i64 ((rd_T47 l0 x9_2).f2))) (ds := []) #[F,F,F,F,F,F,F,F,F,F,F,F,F,F,F,F,F,F,F,F,F] (by kernel_rfl) rfl rfl ⟨hx134_0, hx135_0, ((HB.out.cell (World.block_lt_of_cell? w _ hw136_0)).trans hw136_0), ((HB.out.cell (World.block_lt_of_cell? w _ hw136_1)).trans hw136_1), ((HB.out.cell (World.block_lt_of_cell? w _ hw136_2)).trans hw136_2), ((HB.out.cell (World.block_lt_of_cell? w _ hw137_0)).trans hw137_0), ((HB.out.cell (World.block_lt_of_cell? w _ hw137_1)).trans hw137_1), ((HB.out.cell (World.block_lt_of_cell? w _ hw137_2)).trans hw137_2)⟩ (fun hHeld => ?_); refine with_tabW ratlineref18_Assign.tab17 ratlineref18_Assign.bits17 (fun HT_ HW_ => ?_)
           generalize wr.drew = w35 at HO_5 HO_6 HB hx134_0 hx135_0 hx136_0 hx136_1 hx136_2 hx137_0 hx137_1 hx137_2 hHeld ⊢
           refine pure_ (i := 0) (N := some 58) (v := ?_) (a' := ?_) #[T,F,F,F,F,F,F,F,F,F,F,F,F,F,F,F,F,F,F,F,F] rfl rfl (any_of HT_.out (by kernel_rfl)) (fun _ _ _ h => h) (Or.inl ⟨by rfl, ?_⟩) ?_ ?_
           rotate_left; (focus intro w'; go_simp; with_reducible rfl); rotate_left; (focus simp only [Act.put, List.setIfInBounds_toArray, List.set_cons_zero, List.set_cons_succ, i64_w, i32_w]; rfl)
           refine pure_ (i := 1) (N := some 59) (v := ?_) (a' := ?_) #[T,T,F,F,F,F,F,F,F,F,F,F,F,F,F,F,F,F,F,F,F] rfl rfl (any_of HT_.out (by kernel_rfl)) (fun _ _ _ h => h) (Or.inl ⟨by rfl, ?_⟩) ?_ ?_
           rotate_left; (focus intro w'; go_simp; with_reducible rfl); rotate_left; (focus simp only [Act.put, List.setIfInBounds_toArray, List.set_cons_zero, List.set_cons_succ, i64_w, i32_w]; rfl)
           refine pure_ (i := 2) (N := some 60) (v := ?_) (a' := ?_) #[T,T,T,F,F,F,F,F,F,F,F,F,F,F,F,F,F,F,F,F,F] rfl rfl (any_of HT_.out (by kernel_rfl)) (fun _ _ _ h => h) (Or.inl ⟨by rfl, ?_⟩) ?_ ?_
           rotate_left; (focus intro w'; go_simp; with_reducible rfl); rotate_left; (focus simp only [Act.put, List.setIfInBounds_toArray, List.set_cons_zero, List.set_cons_succ, i64_w, i32_w]; rfl)
           refine take_ (i := 3) (N := some 61) (v := ?_) (a' := ?_) #[T,T,T,T,F,F,F,F,F,F,F,F,F,F,F,F,F,F,F,F,F] rfl rfl (take_ofW HT_.out HW_.out (by kernel_rfl)) (fun _ _ _ h => h) (Or.inl ⟨by rfl, ?_⟩) hHeld ?_ ?_
           rotate_left
           ·rintro w' ⟨s0, s1, s2, s3, s4, s5, s6, s7⟩
            go_simp
            with_reducible rfl
           rotate_left
           ·simp only [Act.put, List.setIfInBounds_toArray, List.set_cons_zero, List.set_cons_succ, i64_w, i32_w]
            rfl
           refine pure_ (i := 4) (N := some 62) (v := ?_) (a' := ?_) #[T,T,T,T,T,F,F,F,F,F,F,F,F,F,F,F,F,F,F,F,F] rfl rfl (any_of HT_.out (by kernel_rfl)) (fun _ _ _ h => h) (Or.inl ⟨by rfl, ?_⟩) ?_ ?_
           rotate_left; (focus intro w'; go_simp; with_reducible rfl); rotate_left; (focus simp only [Act.put, List.setIfInBounds_toArray, List.set_cons_zero, List.set_cons_succ, i64_w, i32_w]; rfl)
           refine pure_ (i := 5) (N := some 63) (v := ?_) (a' := ?_) #[T,T,T,T,T,T,F,F,F,F,F,F,F,F,F,F,F,F,F,F,F] rfl rfl (any_of HT_.out (by kernel_rfl)) (fun _ _ _ h => h) (Or.inl ⟨by rfl, ?_⟩) ?_ ?_
           rotate_left; (focus intro w'; go_simp; with_reducible rfl); rotate_left; (focus simp only [Act.put, List.setIfInBounds_toArray, List.set_cons_zero, List.set_cons_succ, i64_w, i32_w]; rfl)
           refine pure_ (i := 6) (N := some 64) (v := ?_) (a' := ?_) #[T,T,T,T,T,T,T,F,F,F,F,F,F,F,F,F,F,F,F,F,F] rfl rfl (any_of HT_.out (by kernel_rfl)) (fun _ _ _ h => h) (Or.inl ⟨by rfl, ?_⟩) ?_ ?_
           rotate_left; (focus intro w'; go_simp; with_reducible rfl); rotate_left; (focus simp only [Act.put, List.setIfInBounds_toArray, List.set_cons_zero, List.set_cons_succ, i64_w, i32_w]; rfl)
           refine pure_ (i := 7) (N := some 65) (v := ?_) (a' := ?_) #[T,T,T,T,T,T,T,T,F,F,F,F,F,F,F,F,F,F,F,F,F] rfl rfl (any_of HT_.out (by kernel_rfl)) (fun _ _ _ h => h) (Or.inl ⟨by rfl, ?_⟩) ?_ ?_
           rotate_left; (focus intro w'; go_simp; with_reducible rfl); rotate_left; (focus simp only [Act.put, List.setIfInBounds_toArray, List.set_cons_zero, List.set_cons_succ, i64_w, i32_w]; rfl)
           refine pure_ (i := 8) (N := some 66) (v := ?_) (a' := ?_) #[T,T,T,T,T,T,T,T,T,F,F,F,F,F,F,F,F,F,F,F,F] rfl rfl (any_of HT_.out (by kernel_rfl)) (fun _ _ _ h => h) (Or.inl ⟨by rfl, ?_⟩) ?_ ?_
           rotate_left; (focus intro w'; go_simp; with_reducible rfl); rotate_left; (focus simp only [Act.put, List.setIfInBounds_toArray, List.set_cons_zero, List.set_cons_succ, i64_w, i32_w]; rfl)
           refine pure_ (i := 9) (N := some 67) (v := ?_) (a' := ?_) #[T,T,T,T,T,T,T,T,T,T,F,F,F,F,F,F,F,F,F,F,F] rfl rfl (any_of HT_.out (by kernel_rfl)) (fun _ _ _ h => h) (Or.inl ⟨by rfl, ?_⟩) ?_ ?_
           rotate_left; (focus intro w'; go_simp; with_reducible rfl); rotate_left; (focus simp only [Act.put, List.setIfInBounds_toArray, List.set_cons_zero, List.set_cons_succ, i64_w, i32_w]; rfl)
           refine pure_ (i := 14) (N := some 72) (v := ?_) (a' := ?_) #[T,T,T,T,T,T,T,T,T,T,F,F,F,F,T,F,F,F,F,F,F] rfl rfl (any_of HT_.out (by kernel_rfl)) (fun _ _ _ h => h) (Or.inl ⟨by rfl, ?_⟩) ?_ ?_
           rotate_left; (focus intro w'; go_simp; with_reducible rfl); rotate_left; (focus simp only [Act.put, List.setIfInBounds_toArray, List.set_cons_zero, List.set_cons_succ, i64_w, i32_w]; rfl)
           refine pure_ (i := 15) (N := some 73) (v := ?_) (a' := ?_) #[T,T,T,T,T,T,T,T,T,T,F,F,F,F,T,T,F,F,F,F,F] rfl rfl (any_of HT_.out (by kernel_rfl)) (fun _ _ _ h => h) (Or.inl ⟨by rfl, ?_⟩) ?_ ?_
           rotate_left; (focus intro w'; go_simp; with_reducible rfl); rotate_left; (focus simp only [Act.put, List.setIfInBounds_toArray, List.set_cons_zero, List.set_cons_succ, i64_w, i32_w]; rfl)
           refine pure_ (i := 16) (N := some 74) (v := ?_) (a' := ?_) #[T,T,T,T,T,T,T,T,T,T,F,F,F,F,T,T,T,F,F,F,F] rfl rfl (any_of HT_.out (by kernel_rfl)) (fun _ _ _ h => h) (Or.inl ⟨by rfl, ?_⟩) ?_ ?_
           rotate_left; (focus intro w'; go_simp; with_reducible rfl); rotate_left; (focus simp only [Act.put, List.setIfInBounds_toArray, List.set_cons_zero, List.set_cons_succ, i64_w, i32_w]; rfl)
           refine pure_ (i := 17) (N := some 75) (v := ?_) (a' := ?_) #[T,T,T,T,T,T,T,T,T,T,F,F,F,F,T,T,T,T,F,F,F] rfl rfl (any_of HT_.out (by kernel_rfl)) (fun _ _ _ h => h) (Or.inl ⟨by rfl, ?_⟩) ?_ ?_
           rotate_left; (focus intro w'; go_simp; with_reducible rfl); rotate_left; (focus simp only [Act.put, List.setIfInBounds_toArray, List.set_cons_zero, List.set_cons_succ, i64_w, i32_w]; rfl)
           refine take_ (i := 10) (N := some 68) (v := ?_) (a' := ?_) #[T,T,T,T,T,T,T,T,T,T,T,F,F,F,T,T,T,T,F,F,F] rfl rfl (take_ofW HT_.out HW_.out (by kernel_rfl)) (fun _ _ _ h => h) (Or.inl ⟨by rfl, ?_⟩) hHeld ?_ ?_
           rotate_left
           ·rintro w' ⟨s0, s1, s2, s3, s4, s5, s6, s7⟩
            go_simp
            with_reducible rfl
           rotate_left
           ·simp only [Act.put, List.setIfInBounds_toArray, List.set_cons_zero, List.set_cons_succ, i64_w, i32_w]
            rfl
           refine pure_ (i := 11) (N := some 69) (v := ?_) (a' := ?_) #[T,T,T,T,T,T,T,T,T,T,T,T,F,F,T,T,T,T,F,F,F] rfl rfl (any_of HT_.out (by kernel_rfl)) (fun _ _ _ h => h) (Or.inl ⟨by rfl, ?_⟩) ?_ ?_
           rotate_left; (focus intro w'; go_simp; with_reducible rfl); rotate_left; (focus simp only [Act.put, List.setIfInBounds_toArray, List.set_cons_zero, List.set_cons_succ, i64_w, i32_w]; rfl)
           refine pure_ (i := 12) (N := some 70) (v := ?_) (a' := ?_) #[T,T,T,T,T,T,T,T,T,T,T,T,T,F,T,T,T,T,F,F,F] rfl rfl (any_of HT_.out (by kernel_rfl)) (fun _ _ _ h => h) (Or.inl ⟨by rfl, ?_⟩) ?_ ?_
           rotate_left; (focus intro w'; go_simp; with_reducible rfl); rotate_left; (focus simp only [Act.put, List.setIfInBounds_toArray, List.set_cons_zero, List.set_cons_succ, i64_w, i32_w]; rfl)
           refine take_ (i := 13) (N := some 71) (v := ?_) (a' := ?_) #[T,T,T,T,T,T,T,T,T,T,T,T,T,T,T,T,T,T,F,F,F] rfl rfl (take_ofW HT_.out HW_.out (by kernel_rfl)) (fun _ _ _ h => h) (Or.inl ⟨by rfl, ?_⟩) hHeld ?_ ?_
           rotate_left
           ·rintro w' ⟨s0, s1, s2, s3, s4, s5, s6, s7⟩
            go_simp
            with_reducible rfl
           rotate_left
           ·simp only [Act.put, List.setIfInBounds_toArray, List.set_cons_zero, List.set_cons_succ, i64_w, i32_w]
            rfl
           refine take_ (i := 18) (N := some 76) (v := ?_) (a' := ?_) #[T,T,T,T,T,T,T,T,T,T,T,T,T,T,T,T,T,T,T,F,F] rfl rfl (take_ofW HT_.out HW_.out (by kernel_rfl)) (fun _ _ _ h => h) (Or.inl ⟨by rfl, ?_⟩) hHeld ?_ ?_
           rotate_left
           ·rintro w' ⟨s0, s1, s2, s3, s4, s5, s6, s7⟩
            go_simp
            with_reducible rfl
           rotate_left
           ·simp only [Act.put, List.setIfInBounds_toArray, List.set_cons_zero, List.set_cons_succ, i64_w, i32_w]
            rfl
           refine pure_ (i := 19) (N := some 77) (v := ?_) (a' := ?_) #[T,T,T,T,T,T,T,T,T,T,T,T,T,T,T,T,T,T,T,T,F] rfl rfl (any_of HT_.out (by kernel_rfl)) (fun _ _ _ h => h) (Or.inl ⟨by rfl, ?_⟩) ?_ ?_
           rotate_left; (focus intro w'; go_simp; with_reducible rfl); rotate_left; (focus simp only [Act.put, List.setIfInBounds_toArray, List.set_cons_zero, List.set_cons_succ, i64_w, i32_w]; rfl)
           refine pure_ (i := 20) (N := some 78) (v := ?_) (a' := ?_) #[T,T,T,T,T,T,T,T,T,T,T,T,T,T,T,T,T,T,T,T,T] rfl rfl (any_of HT_.out (by kernel_rfl)) (fun _ _ _ h => h) (Or.inl ⟨by rfl, ?_⟩) ?_ ?_
           rotate_left; (focus intro w'; go_simp; with_reducible rfl); rotate_left; (focus simp only [Act.put, List.setIfInBounds_toArray, List.set_cons_zero, List.set_cons_succ, i64_w, i32_w]; rfl)
           refine done_ (done_of HT_.out (by kernel_rfl)) ?_
           have p34 : 0 ≤ (x11_3 : Int) := of_decide_eq_true (by first | (with_reducible assumption) | assumption)
           have q34 : (x11_3 : Int) < ((x6_3.length : Int) : Int) := of_decide_eq_true (by first | (with_reducible assumption) | assumption)
           obtain ⟨go34, co34, eo34, gb34, gl34, cl34, HG34⟩ := Kd.R_form HO_6.out (by omega)
           (first | cases eo34 | (injection eo34 with ea_ en_ ec_; (first | subst ea_ | (injection ea_ with ea_; subst ea_)); subst ec_; clear en_))
           have GB34 := Aside0.mk gb34
           have GG34 := Aside0.mk HG34
           clear gb34 gl34 HG34
           (first | simp only [add_plain] at hx134_0 | skip)
           (first | simp only [add_plain] at hx135_0 | skip)
           obtain ⟨hx34_0, hf34_0⟩ := Kd.R_celln 0 HO_6.out (x11_3 : Int) p34 q34
           replace p34 := eq_true p34
           replace q34 := eq_true q34
           obtain ⟨hy36_, hz36_⟩ := Kd.R_celln 0 HO_6.out (x11_3 : Int) (of_decide_eq_true ‹_›) (of_decide_eq_true ‹_›)
           have HP36 := Kd.R_putg HO_6.out (x11_3 : Int) (-1)
           try go_wp2_with (first | ((with_reducible refine gate_store (t := 3) (p := 81) rfl ?_); refine store_event (t := 3) (p := 81) (v := ?vo_w37) (w1 := (w35.setCell ⟨go34, (x11_3 : Int).toNat, none⟩ (.int .i64 (-1)))) ?hg ?ho ?hn ?hr ?_; (case ho => rfl); (case hg => rfl); (case hn => rfl); (case hr => first | (go_simp; done) | (go_simp; rfl)); intro w37 hw; have hg : w35.grownBy w37 (some go34) := (by rw [hw]; exact HP36.2); have hp_ : Kd.R (Kd.int .i64) 3 w37 w.heap.size (fun _ => True) (.slice (some ⟨go34, 0, none⟩) x6_3.length co19) y138 := (by rw [hw, Ny138.out]; exact HP36.1); clear HP36; have n0_ := Aside0.mk (Kd.R_over' (v := (.slice (some ⟨go34, 0, none⟩) x6_3.length co19)) (by (with_reducible repeat (first | apply Kd.R_alloc | apply Kd.R_drewN | apply Kd.R_drew)); exact HO_5.out) (Kd.R_typed HO_6.out) (by decide) hg); have n1_ := Aside0.mk (hp_); have n2_ := Aside0.mk ((by rw [hw]; exact below_set (HB.out) GB34.out : Below w.heap.size w w37)); clear HO_5; clear HO_6; clear HB; have HO_5 := n0_; have HO_6 := n1_; have HB := n2_; clear n0_ n1_ n2_; clear hg hw hp_))
           (try simp only [← hl5_3, ← hl6_3])
           go_roundg k3
           case measure => have := HK1.out; have := HK2.out; have := HK3.out; omega
           case rel => exact ⟨(y138), (wrap64 (x11_3 + 1)), (by first | rfl | (simp; done) | (simp [*]; done)), H', ⟨by have := HK1.out; have := HK2.out; have := HK3.out; omega⟩, ⟨by (try simp only [hl6_2]); (try simp only [hl5_3]); (try simp only [hl6_3]); (with_reducible repeat (first | apply Kd.R_alloc | apply Kd.R_drewN | apply Kd.R_drew)); exact HO_5.out⟩, ⟨by (try simp only [hl6_2]); (try simp only [hl5_3]); (try simp only [hl6_3]); (with_reducible repeat (first | apply Kd.R_alloc | apply Kd.R_drewN | apply Kd.R_drew)); exact HO_6.out⟩, ⟨by repeat (first | (with_reducible first | exact HB.out | apply below_alloc | apply pw_below_drewN | apply below_drew1) | exact HB.out)⟩⟩
          ·rw [if_neg c33] at H
           have c33b0 : decide (((rd_T47 l0 (rd x6_3 x11_3)).f2) < ((rd_T47 l0 x9_2).f1)) = false := decide_eq_false c33
           clear c33
           have H' := Aside0.mk H
           clear H
           try go_wp2
           have n0_ := Aside0.mk (Kd.R_drew HO_5.out)
           have n1_ := Aside0.mk (Kd.R_drew HO_6.out)
           have n2_ := Aside0.mk (below_drew1 HB.out)
           clear HO_5
           clear HO_6
           clear HB
           have HO_5 := n0_
           have HO_6 := n1_
           have HB := n2_
           clear n0_ n1_ n2_
           have p134 : 0 ≤ (x11_3 : Int) := of_decide_eq_true (by first | (with_reducible assumption) | assumption)
           have q134 : x11_3 < (x6_3.length : Int) := of_decide_eq_true (by first | (with_reducible assumption) | assumption)
           obtain ⟨ad134, e134, hx134_0⟩ := Kd.at_int (Kd.R_reads' HO_6.out).2.2 x11_3 p134 q134
           cases e134
           replace p134 := eq_true p134
           replace q134 := eq_true q134
           have p135 : 0 ≤ (x11_3 : Int) := of_decide_eq_true (by first | (with_reducible assumption) | assumption)
           have q135 : x11_3 < (x6_3.length : Int) := of_decide_eq_true (by first | (with_reducible assumption) | assumption)
           obtain ⟨ad135, e135, hx135_0⟩ := Kd.at_int (Kd.R_reads' HO_6.out).2.2 x11_3 p135 q135
           obtain rfl : ad134 = ad135 := (by injection e135)
           replace p135 := eq_true p135
           replace q135 := eq_true q135
           have p136 : 0 ≤ ((rd x6_3 x11_3) : Int) := of_decide_eq_true (by first | (with_reducible assumption) | assumption)
           have q136 : (rd x6_3 x11_3) < (l0.length : Int) := of_decide_eq_true (by first | (with_reducible assumption) | assumption)
           obtain ⟨ad136, e136, hx136_0, hx136_1, hx136_2⟩ := at_T47 HR0.out (rd x6_3 x11_3) p136 q136
           have hw136_2 := hx136_2
           have hw136_1 := hx136_1
           have hw136_0 := hx136_0
           obtain rfl : ad132 = ad136 := (by injection e136)
           replace hx136_0 := (HB.out.cell (World.block_lt_of_cell? w _ hx136_0)).trans hx136_0
           replace hx136_1 := (HB.out.cell (World.block_lt_of_cell? w _ hx136_1)).trans hx136_1
           replace hx136_2 := (HB.out.cell (World.block_lt_of_cell? w _ hx136_2)).trans hx136_2
           replace p136 := eq_true p136
           replace q136 := eq_true q136
           have p137 : 0 ≤ (x9_2 : Int) := of_decide_eq_true (by first | (with_reducible assumption) | assumption)
           have q137 : x9_2 < (l0.length : Int) := of_decide_eq_true (by first | (with_reducible assumption) | assumption)
           obtain ⟨ad137, e137, hx137_0, hx137_1, hx137_2⟩ := at_T47 HR0.out x9_2 p137 q137
           have hw137_2 := hx137_2
           have hw137_1 := hx137_1
           have hw137_0 := hx137_0
           obtain rfl : ad132 = ad137 := (by injection e137)
           replace hx137_0 := (HB.out.cell (World.block_lt_of_cell? w _ hx137_0)).trans hx137_0
           replace hx137_1 := (HB.out.cell (World.block_lt_of_cell? w _ hx137_1)).trans hx137_1
           replace hx137_2 := (HB.out.cell (World.block_lt_of_cell? w _ hx137_2)).trans hx137_2
           replace p137 := eq_true p137
           replace q137 := eq_true q137
           refine start_ (n := 21) (S := fun w' => w'.cell? (ad134.add (x11_3).toNat) = some (.int .i64 (rd x6_3 x11_3)) ∧ w'.cell? (ad134.add (x11_3).toNat) = some (.int .i64 (rd x6_3 x11_3)) ∧ w'.cell? (ad132.add (((rd x6_3 x11_3)).toNat * 3)) = some (.int .i64 ((rd_T47 l0 (rd x6_3 x11_3)).f0)) ∧ w'.cell? ⟨(ad132.add (((rd x6_3 x11_3)).toNat * 3)).block, (ad132.add (((rd x6_3 x11_3)).toNat * 3)).off + 1, none⟩ = some (.int .i64 ((rd_T47 l0 (rd x6_3 x11_3)).f1)) ∧ w'.cell? ⟨(ad132.add (((rd x6_3 x11_3)).toNat * 3)).block, (ad132.add (((rd x6_3 x11_3)).toNat * 3)).off + 2, none⟩ = some (.int .i64 ((rd_T47 l0 (rd x6_3 x11_3)).f2)) ∧ w'.cell? (ad132.add ((x9_2).toNat * 3)) = some (.int .i64 ((rd_T47 l0 x9_2).f0)) ∧ w'.cell? ⟨(ad132.add ((x9_2).toNat * 3)).block, (ad132.add ((x9_2).toNat * 3)).off + 1, none⟩ = some (.int .i64 ((rd_T47 l0 x9_2).f1)) ∧ w'.cell? ⟨(ad132.add ((x9_2).toNat * 3)).block, (ad132.add ((x9_2).toNat * 3)).off + 2, none⟩ = some (.int .i64 ((rd_T47 l0 x9_2).f2))) (ds := []) #[F,F,F,F,F,F,F,F,F,F,F,F,F,F,F,F,F,F,F,F,F] (by kernel_rfl) rfl rfl ⟨hx134_0, hx135_0, ((HB.out.cell (World.block_lt_of_cell? w _ hw136_0)).trans hw136_0), ((HB.out.cell (World.block_lt_of_cell? w _ hw136_1)).trans hw136_1), ((HB.out.cell (World.block_lt_of_cell? w _ hw136_2)).trans hw136_2), ((HB.out.cell (World.block_lt_of_cell? w _ hw137_0)).trans hw137_0), ((HB.out.cell (World.block_lt_of_cell? w _ hw137_1)).trans hw137_1), ((HB.out.cell (World.block_lt_of_cell? w _ hw137_2)).trans hw137_2)⟩ (fun hHeld => ?_); refine with_tabW ratlineref18_Assign.tab17 ratlineref18_Assign.bits17 (fun HT_ HW_ => ?_)
           generalize wr.drew = w38 at HO_5 HO_6 HB hx134_0 hx135_0 hx136_0 hx136_1 hx136_2 hx137_0 hx137_1 hx137_2 hHeld ⊢
           refine pure_ (i := 0) (N := some 58) (v := ?_) (a' := ?_) #[T,F,F,F,F,F,F,F,F,F,F,F,F,F,F,F,F,F,F,F,F] rfl rfl (any_of HT_.out (by kernel_rfl)) (fun _ _ _ h => h) (Or.inl ⟨by rfl, ?_⟩) ?_ ?_
           rotate_left; (focus intro w'; go_simp; with_reducible rfl); rotate_left; (focus simp only [Act.put, List.setIfInBounds_toArray, List.set_cons_zero, List.set_cons_succ, i64_w, i32_w]; rfl)
           refine pure_ (i := 1) (N := some 59) (v := ?_) (a' := ?_) #[T,T,F,F,F,F,F,F,F,F,F,F,F,F,F,F,F,F,F,F,F] rfl rfl (any_of HT_.out (by kernel_rfl)) (fun _ _ _ h => h) (Or.inl ⟨by rfl, ?_⟩) ?_ ?_
           rotate_left; (focus intro w'; go_simp; with_reducible rfl); rotate_left; (focus simp only [Act.put, List.setIfInBounds_toArray, List.set_cons_zero, List.set_cons_succ, i64_w, i32_w]; rfl)
           refine pure_ (i := 2) (N := some 60) (v := ?_) (a' := ?_) #[T,T,T,F,F,F,F,F,F,F,F,F,F,F,F,F,F,F,F,F,F] rfl rfl (any_of HT_.out (by kernel_rfl)) (fun _ _ _ h => h) (Or.inl ⟨by rfl, ?_⟩) ?_ ?_
           rotate_left; (focus intro w'; go_simp; with_reducible rfl); rotate_left; (focus simp only [Act.put, List.setIfInBounds_toArray, List.set_cons_zero, List.set_cons_succ, i64_w, i32_w]; rfl)
           refine take_ (i := 3) (N := some 61) (v := ?_) (a' := ?_) #[T,T,T,T,F,F,F,F,F,F,F,F,F,F,F,F,F,F,F,F,F] rfl rfl (take_ofW HT_.out HW_.out (by kernel_rfl)) (fun _ _ _ h => h) (Or.inl ⟨by rfl, ?_⟩) hHeld ?_ ?_
           rotate_left
           ·rintro w' ⟨s0, s1, s2, s3, s4, s5, s6, s7⟩
            go_simp
            with_reducible rfl
           rotate_left
           ·simp only [Act.put, List.setIfInBounds_toArray, List.set_cons_zero, List.set_cons_succ, i64_w, i32_w]
            rfl
           refine pure_ (i := 4) (N := some 62) (v := ?_) (a' := ?_) #[T,T,T,T,T,F,F,F,F,F,F,F,F,F,F,F,F,F,F,F,F] rfl rfl (any_of HT_.out (by kernel_rfl)) (fun _ _ _ h => h) (Or.inl ⟨by rfl, ?_⟩) ?_ ?_
           rotate_left; (focus intro w'; go_simp; with_reducible rfl); rotate_left; (focus simp only [Act.put, List.setIfInBounds_toArray, List.set_cons_zero, List.set_cons_succ, i64_w, i32_w]; rfl)
           refine pure_ (i := 5) (N := some 63) (v := ?_) (a' := ?_) #[T,T,T,T,T,T,F,F,F,F,F,F,F,F,F,F,F,F,F,F,F] rfl rfl (any_of HT_.out (by kernel_rfl)) (fun _ _ _ h => h) (Or.inl ⟨by rfl, ?_⟩) ?_ ?_
           rotate_left; (focus intro w'; go_simp; with_reducible rfl); rotate_left; (focus simp only [Act.put, List.setIfInBounds_toArray, List.set_cons_zero, List.set_cons_succ, i64_w, i32_w]; rfl)
           refine pure_ (i := 6) (N := some 64) (v := ?_) (a' := ?_) #[T,T,T,T,T,T,T,F,F,F,F,F,F,F,F,F,F,F,F,F,F] rfl rfl (any_of HT_.out (by kernel_rfl)) (fun _ _ _ h => h) (Or.inl ⟨by rfl, ?_⟩) ?_ ?_
           rotate_left; (focus intro w'; go_simp; with_reducible rfl); rotate_left; (focus simp only [Act.put, List.setIfInBounds_toArray, List.set_cons_zero, List.set_cons_succ, i64_w, i32_w]; rfl)
           refine pure_ (i := 7) (N := some 65) (v := ?_) (a' := ?_) #[T,T,T,T,T,T,T,T,F,F,F,F,F,F,F,F,F,F,F,F,F] rfl rfl (any_of HT_.out (by kernel_rfl)) (fun _ _ _ h => h) (Or.inl ⟨by rfl, ?_⟩) ?_ ?_
           rotate_left; (focus intro w'; go_simp; with_reducible rfl); rotate_left; (focus simp only [Act.put, List.setIfInBounds_toArray, List.set_cons_zero, List.set_cons_succ, i64_w, i32_w]; rfl)
           refine pure_ (i := 8) (N := some 66) (v := ?_) (a' := ?_) #[T,T,T,T,T,T,T,T,T,F,F,F,F,F,F,F,F,F,F,F,F] rfl rfl (any_of HT_.out (by kernel_rfl)) (fun _ _ _ h => h) (Or.inl ⟨by rfl, ?_⟩) ?_ ?_
           rotate_left; (focus intro w'; go_simp; with_reducible rfl); rotate_left; (focus simp only [Act.put, List.setIfInBounds_toArray, List.set_cons_zero, List.set_cons_succ, i64_w, i32_w]; rfl)
           refine pure_ (i := 9) (N := some 67) (v := ?_) (a' := ?_) #[T,T,T,T,T,T,T,T,T,T,F,F,F,F,F,F,F,F,F,F,F] rfl rfl (any_of HT_.out (by kernel_rfl)) (fun _ _ _ h => h) (Or.inl ⟨by rfl, ?_⟩) ?_ ?_
           rotate_left; (focus intro w'; go_simp; with_reducible rfl); rotate_left; (focus simp only [Act.put, List.setIfInBounds_toArray, List.set_cons_zero, List.set_cons_succ, i64_w, i32_w]; rfl)
           refine pure_ (i := 14) (N := some 72) (v := ?_) (a' := ?_) #[T,T,T,T,T,T,T,T,T,T,F,F,F,F,T,F,F,F,F,F,F] rfl rfl (any_of HT_.out (by kernel_rfl)) (fun _ _ _ h => h) (Or.inl ⟨by rfl, ?_⟩) ?_ ?_
           rotate_left; (focus intro w'; go_simp; with_reducible rfl); rotate_left; (focus simp only [Act.put, List.setIfInBounds_toArray, List.set_cons_zero, List.set_cons_succ, i64_w, i32_w]; rfl)
           refine pure_ (i := 15) (N := some 73) (v := ?_) (a' := ?_) #[T,T,T,T,T,T,T,T,T,T,F,F,F,F,T,T,F,F,F,F,F] rfl rfl (any_of HT_.out (by kernel_rfl)) (fun _ _ _ h => h) (Or.inl ⟨by rfl, ?_⟩) ?_ ?_
           rotate_left; (focus intro w'; go_simp; with_reducible rfl); rotate_left; (focus simp only [Act.put, List.setIfInBounds_toArray, List.set_cons_zero, List.set_cons_succ, i64_w, i32_w]; rfl)
           refine pure_ (i := 16) (N := some 74) (v := ?_) (a' := ?_) #[T,T,T,T,T,T,T,T,T,T,F,F,F,F,T,T,T,F,F,F,F] rfl rfl (any_of HT_.out (by kernel_rfl)) (fun _ _ _ h => h) (Or.inl ⟨by rfl, ?_⟩) ?_ ?_
           rotate_left; (focus intro w'; go_simp; with_reducible rfl); rotate_left; (focus simp only [Act.put, List.setIfInBounds_toArray, List.set_cons_zero, List.set_cons_succ, i64_w, i32_w]; rfl)
           refine pure_ (i := 17) (N := some 75) (v := ?_) (a' := ?_) #[T,T,T,T,T,T,T,T,T,T,F,F,F,F,T,T,T,T,F,F,F] rfl rfl (any_of HT_.out (by kernel_rfl)) (fun _ _ _ h => h) (Or.inl ⟨by rfl, ?_⟩) ?_ ?_
           rotate_left; (focus intro w'; go_simp; with_reducible rfl); rotate_left; (focus simp only [Act.put, List.setIfInBounds_toArray, List.set_cons_zero, List.set_cons_succ, i64_w, i32_w]; rfl)
           refine take_ (i := 10) (N := some 68) (v := ?_) (a' := ?_) #[T,T,T,T,T,T,T,T,T,T,T,F,F,F,T,T,T,T,F,F,F] rfl rfl (take_ofW HT_.out HW_.out (by kernel_rfl)) (fun _ _ _ h => h) (Or.inl ⟨by rfl, ?_⟩) hHeld ?_ ?_
           rotate_left
           ·rintro w' ⟨s0, s1, s2, s3, s4, s5, s6, s7⟩
            go_simp
            with_reducible rfl
           rotate_left
           ·simp only [Act.put, List.setIfInBounds_toArray, List.set_cons_zero, List.set_cons_succ, i64_w, i32_w]
            rfl
           refine pure_ (i := 11) (N := some 69) (v := ?_) (a' := ?_) #[T,T,T,T,T,T,T,T,T,T,T,T,F,F,T,T,T,T,F,F,F] rfl rfl (any_of HT_.out (by kernel_rfl)) (fun _ _ _ h => h) (Or.inl ⟨by rfl, ?_⟩) ?_ ?_
           rotate_left; (focus intro w'; go_simp; with_reducible rfl); rotate_left; (focus simp only [Act.put, List.setIfInBounds_toArray, List.set_cons_zero, List.set_cons_succ, i64_w, i32_w]; rfl)
           refine pure_ (i := 12) (N := some 70) (v := ?_) (a' := ?_) #[T,T,T,T,T,T,T,T,T,T,T,T,T,F,T,T,T,T,F,F,F] rfl rfl (any_of HT_.out (by kernel_rfl)) (fun _ _ _ h => h) (Or.inl ⟨by rfl, ?_⟩) ?_ ?_
           rotate_left; (focus intro w'; go_simp; with_reducible rfl); rotate_left; (focus simp only [Act.put, List.setIfInBounds_toArray, List.set_cons_zero, List.set_cons_succ, i64_w, i32_w]; rfl)
           refine take_ (i := 13) (N := some 71) (v := ?_) (a' := ?_) #[T,T,T,T,T,T,T,T,T,T,T,T,T,T,T,T,T,T,F,F,F] rfl rfl (take_ofW HT_.out HW_.out (by kernel_rfl)) (fun _ _ _ h => h) (Or.inl ⟨by rfl, ?_⟩) hHeld ?_ ?_
           rotate_left
           ·rintro w' ⟨s0, s1, s2, s3, s4, s5, s6, s7⟩
            go_simp
            with_reducible rfl
           rotate_left
           ·simp only [Act.put, List.setIfInBounds_toArray, List.set_cons_zero, List.set_cons_succ, i64_w, i32_w]
            rfl
           refine take_ (i := 18) (N := some 76) (v := ?_) (a' := ?_) #[T,T,T,T,T,T,T,T,T,T,T,T,T,T,T,T,T,T,T,F,F] rfl rfl (take_ofW HT_.out HW_.out (by kernel_rfl)) (fun _ _ _ h => h) (Or.inl ⟨by rfl, ?_⟩) hHeld ?_ ?_
           rotate_left
           ·rintro w' ⟨s0, s1, s2, s3, s4, s5, s6, s7⟩
            go_simp
            with_reducible rfl
           rotate_left
           ·simp only [Act.put, List.setIfInBounds_toArray, List.set_cons_zero, List.set_cons_succ, i64_w, i32_w]
            rfl
           refine pure_ (i := 19) (N := some 77) (v := ?_) (a' := ?_) #[T,T,T,T,T,T,T,T,T,T,T,T,T,T,T,T,T,T,T,T,F] rfl rfl (any_of HT_.out (by kernel_rfl)) (fun _ _ _ h => h) (Or.inl ⟨by rfl, ?_⟩) ?_ ?_
           rotate_left; (focus intro w'; go_simp; with_reducible rfl); rotate_left; (focus simp only [Act.put, List.setIfInBounds_toArray, List.set_cons_zero, List.set_cons_succ, i64_w, i32_w]; rfl)
           refine pure_ (i := 20) (N := some 78) (v := ?_) (a' := ?_) #[T,T,T,T,T,T,T,T,T,T,T,T,T,T,T,T,T,T,T,T,T] rfl rfl (any_of HT_.out (by kernel_rfl)) (fun _ _ _ h => h) (Or.inl ⟨by rfl, ?_⟩) ?_ ?_
           rotate_left; (focus intro w'; go_simp; with_reducible rfl); rotate_left; (focus simp only [Act.put, List.setIfInBounds_toArray, List.set_cons_zero, List.set_cons_succ, i64_w, i32_w]; rfl)
           refine done_ (done_of HT_.out (by kernel_rfl)) ?_
           try go_wp2
           (try simp only [← hl5_3, ← hl6_3])
           go_roundg k3
           case measure => have := HK1.out; have := HK2.out; have := HK3.out; omega
           case rel => exact ⟨(x6_3), (wrap64 (x11_3 + 1)), (by first | rfl | (simp; done) | (simp [*]; done)), H', ⟨by have := HK1.out; have := HK2.out; have := HK3.out; omega⟩, ⟨by (try simp only [hl6_2]); (try simp only [hl5_3]); (try simp only [hl6_3]); (with_reducible repeat (first | apply Kd.R_alloc | apply Kd.R_drewN | apply Kd.R_drew)); exact HO_5.out⟩, ⟨by (try simp only [hl6_2]); (try simp only [hl5_3]); (try simp only [hl6_3]); (with_reducible repeat (first | apply Kd.R_alloc | apply Kd.R_drewN | apply Kd.R_drew)); exact HO_6.out⟩, ⟨by repeat (first | (with_reducible first | exact HB.out | apply below_alloc | apply pw_below_drewN | apply below_drew1) | exact HB.out)⟩⟩
         ·rw [if_neg c28] at H
          have c28b0 : decide (0 ≤ (rd x6_3 x11_3)) = false := decide_eq_false c28
          clear c28
          have H' := Aside0.mk H
          clear H
          try go_wp2
          have n0_ := Aside0.mk (Kd.R_drew HO_5.out)
          have n1_ := Aside0.mk (Kd.R_drew HO_6.out)
          have n2_ := Aside0.mk (below_drew1 HB.out)
          clear HO_5
          clear HO_6
          clear HB
          have HO_5 := n0_
          have HO_6 := n1_
          have HB := n2_
          clear n0_ n1_ n2_
          have p134 : 0 ≤ (x11_3 : Int) := of_decide_eq_true (by first | (with_reducible assumption) | assumption)
          have q134 : x11_3 < (x6_3.length : Int) := of_decide_eq_true (by first | (with_reducible assumption) | assumption)
          obtain ⟨ad134, e134, hx134_0⟩ := Kd.at_int (Kd.R_reads' HO_6.out).2.2 x11_3 p134 q134
          cases e134
          replace p134 := eq_true p134
          replace q134 := eq_true q134
          refine start_ (n := 21) (S := fun w' => w'.cell? (ad134.add (x11_3).toNat) = some (.int .i64 (rd x6_3 x11_3))) (ds := []) #[F,F,F,F,F,F,F,F,F,F,F,F,F,F,F,F,F,F,F,F,F] (by kernel_rfl) rfl rfl (hx134_0) (fun hHeld => ?_); refine with_tabW ratlineref18_Assign.tab17 ratlineref18_Assign.bits17 (fun HT_ HW_ => ?_)
          generalize wr.drew = w39 at HO_5 HO_6 HB hx134_0 hHeld ⊢
          refine pure_ (i := 0) (N := some 58) (v := ?_) (a' := ?_) #[T,F,F,F,F,F,F,F,F,F,F,F,F,F,F,F,F,F,F,F,F] rfl rfl (any_of HT_.out (by kernel_rfl)) (fun _ _ _ h => h) (Or.inl ⟨by rfl, ?_⟩) ?_ ?_
          rotate_left; (focus intro w'; go_simp; with_reducible rfl); rotate_left; (focus simp only [Act.put, List.setIfInBounds_toArray, List.set_cons_zero, List.set_cons_succ, i64_w, i32_w]; rfl)
          refine pure_ (i := 1) (N := some 59) (v := ?_) (a' := ?_) #[T,T,F,F,F,F,F,F,F,F,F,F,F,F,F,F,F,F,F,F,F] rfl rfl (any_of HT_.out (by kernel_rfl)) (fun _ _ _ h => h) (Or.inl ⟨by rfl, ?_⟩) ?_ ?_
          rotate_left; (focus intro w'; go_simp; with_reducible rfl); rotate_left; (focus simp only [Act.put, List.setIfInBounds_toArray, List.set_cons_zero, List.set_cons_succ, i64_w, i32_w]; rfl)
          refine pure_ (i := 2) (N := some 60) (v := ?_) (a' := ?_) #[T,T,T,F,F,F,F,F,F,F,F,F,F,F,F,F,F,F,F,F,F] rfl rfl (any_of HT_.out (by kernel_rfl)) (fun _ _ _ h => h) (Or.inl ⟨by rfl, ?_⟩) ?_ ?_
          rotate_left; (focus intro w'; go_simp; with_reducible rfl); rotate_left; (focus simp only [Act.put, List.setIfInBounds_toArray, List.set_cons_zero, List.set_cons_succ, i64_w, i32_w]; rfl)
          refine take_ (i := 3) (N := some 61) (v := ?_) (a' := ?_) #[T,T,T,T,F,F,F,F,F,F,F,F,F,F,F,F,F,F,F,F,F] rfl rfl (take_ofW HT_.out HW_.out (by kernel_rfl)) (fun _ _ _ h => h) (Or.inl ⟨by rfl, ?_⟩) hHeld ?_ ?_
          rotate_left
          ·intro w' s0
           go_simp
           with_reducible rfl
          rotate_left
          ·simp only [Act.put, List.setIfInBounds_toArray, List.set_cons_zero, List.set_cons_succ, i64_w, i32_w]
           rfl
          refine pure_ (i := 4) (N := some 62) (v := ?_) (a' := ?_) #[T,T,T,T,T,F,F,F,F,F,F,F,F,F,F,F,F,F,F,F,F] rfl rfl (any_of HT_.out (by kernel_rfl)) (fun _ _ _ h => h) (Or.inl ⟨by rfl, ?_⟩) ?_ ?_
          rotate_left; (focus intro w'; go_simp; with_reducible rfl); rotate_left; (focus simp only [Act.put, List.setIfInBounds_toArray, List.set_cons_zero, List.set_cons_succ, i64_w, i32_w]; rfl)
          refine pure_ (i := 5) (N := some 63) (v := ?_) (a' := ?_) #[T,T,T,T,T,T,F,F,F,F,F,F,F,F,F,F,F,F,F,F,F] rfl rfl (any_of HT_.out (by kernel_rfl)) (fun _ _ _ h => h) (Or.inl ⟨by rfl, ?_⟩) ?_ ?_
          rotate_left; (focus intro w'; go_simp; with_reducible rfl); rotate_left; (focus simp only [Act.put, List.setIfInBounds_toArray, List.set_cons_zero, List.set_cons_succ, i64_w, i32_w]; rfl)
          refine pure_ (i := 6) (N := some 64) (v := undef) (a' := ?_) #[T,T,T,T,T,T,T,F,F,F,F,F,F,F,F,F,F,F,F,F,F] rfl rfl (any_of HT_.out (by kernel_rfl)) (fun _ _ _ h => h) (Or.inr ⟨by rfl, rfl⟩) ?_ ?_
          rotate_left
          ·simp only [Act.put, List.setIfInBounds_toArray, List.set_cons_zero, List.set_cons_succ, i64_w, i32_w]
           rfl
          refine pure_ (i := 7) (N := some 65) (v := undef) (a' := ?_) #[T,T,T,T,T,T,T,T,F,F,F,F,F,F,F,F,F,F,F,F,F] rfl rfl (any_of HT_.out (by kernel_rfl)) (fun _ _ _ h => h) (Or.inr ⟨by rfl, rfl⟩) ?_ ?_
          rotate_left
          ·simp only [Act.put, List.setIfInBounds_toArray, List.set_cons_zero, List.set_cons_succ, i64_w, i32_w]
           rfl
          refine pure_ (i := 8) (N := some 66) (v := undef) (a' := ?_) #[T,T,T,T,T,T,T,T,T,F,F,F,F,F,F,F,F,F,F,F,F] rfl rfl (any_of HT_.out (by kernel_rfl)) (fun _ _ _ h => h) (Or.inr ⟨by rfl, rfl⟩) ?_ ?_
          rotate_left
          ·simp only [Act.put, List.setIfInBounds_toArray, List.set_cons_zero, List.set_cons_succ, i64_w, i32_w]
           rfl
          refine pure_ (i := 9) (N := some 67) (v := undef) (a' := ?_) #[T,T,T,T,T,T,T,T,T,T,F,F,F,F,F,F,F,F,F,F,F] rfl rfl (any_of HT_.out (by kernel_rfl)) (fun _ _ _ h => h) (Or.inr ⟨by rfl, rfl⟩) ?_ ?_
          rotate_left
          ·simp only [Act.put, List.setIfInBounds_toArray, List.set_cons_zero, List.set_cons_succ, i64_w, i32_w]
           rfl
          refine pure_ (i := 10) (N := some 68) (v := undef) (a' := ?_) #[T,T,T,T,T,T,T,T,T,T,T,F,F,F,F,F,F,F,F,F,F] rfl rfl (any_of HT_.out (by kernel_rfl)) (fun _ _ _ h => h) (Or.inr ⟨by rfl, rfl⟩) ?_ ?_
          rotate_left
          ·simp only [Act.put, List.setIfInBounds_toArray, List.set_cons_zero, List.set_cons_succ, i64_w, i32_w]
           rfl
          refine pure_ (i := 11) (N := some 69) (v := undef) (a' := ?_) #[T,T,T,T,T,T,T,T,T,T,T,T,F,F,F,F,F,F,F,F,F] rfl rfl (any_of HT_.out (by kernel_rfl)) (fun _ _ _ h => h) (Or.inr ⟨by rfl, rfl⟩) ?_ ?_
          rotate_left
          ·simp only [Act.put, List.setIfInBounds_toArray, List.set_cons_zero, List.set_cons_succ, i64_w, i32_w]
           rfl
          refine pure_ (i := 12) (N := some 70) (v := undef) (a' := ?_) #[T,T,T,T,T,T,T,T,T,T,T,T,T,F,F,F,F,F,F,F,F] rfl rfl (any_of HT_.out (by kernel_rfl)) (fun _ _ _ h => h) (Or.inr ⟨by rfl, rfl⟩) ?_ ?_
          rotate_left
          ·simp only [Act.put, List.setIfInBounds_toArray, List.set_cons_zero, List.set_cons_succ, i64_w, i32_w]
           rfl
          refine pure_ (i := 13) (N := some 71) (v := undef) (a' := ?_) #[T,T,T,T,T,T,T,T,T,T,T,T,T,T,F,F,F,F,F,F,F] rfl rfl (any_of HT_.out (by kernel_rfl)) (fun _ _ _ h => h) (Or.inr ⟨by rfl, rfl⟩) ?_ ?_
          rotate_left
          ·simp only [Act.put, List.setIfInBounds_toArray, List.set_cons_zero, List.set_cons_succ, i64_w, i32_w]
           rfl
          refine pure_ (i := 14) (N := some 72) (v := undef) (a' := ?_) #[T,T,T,T,T,T,T,T,T,T,T,T,T,T,T,F,F,F,F,F,F] rfl rfl (any_of HT_.out (by kernel_rfl)) (fun _ _ _ h => h) (Or.inr ⟨by rfl, rfl⟩) ?_ ?_
          rotate_left
          ·simp only [Act.put, List.setIfInBounds_toArray, List.set_cons_zero, List.set_cons_succ, i64_w, i32_w]
           rfl
          refine pure_ (i := 15) (N := some 73) (v := undef) (a' := ?_) #[T,T,T,T,T,T,T,T,T,T,T,T,T,T,T,T,F,F,F,F,F] rfl rfl (any_of HT_.out (by kernel_rfl)) (fun _ _ _ h => h) (Or.inr ⟨by rfl, rfl⟩) ?_ ?_
          rotate_left
          ·simp only [Act.put, List.setIfInBounds_toArray, List.set_cons_zero, List.set_cons_succ, i64_w, i32_w]
           rfl
          refine pure_ (i := 16) (N := some 74) (v := undef) (a' := ?_) #[T,T,T,T,T,T,T,T,T,T,T,T,T,T,T,T,T,F,F,F,F] rfl rfl (any_of HT_.out (by kernel_rfl)) (fun _ _ _ h => h) (Or.inr ⟨by rfl, rfl⟩) ?_ ?_
          rotate_left
          ·simp only [Act.put, List.setIfInBounds_toArray, List.set_cons_zero, List.set_cons_succ, i64_w, i32_w]
           rfl
          refine pure_ (i := 17) (N := some 75) (v := undef) (a' := ?_) #[T,T,T,T,T,T,T,T,T,T,T,T,T,T,T,T,T,T,F,F,F] rfl rfl (any_of HT_.out (by kernel_rfl)) (fun _ _ _ h => h) (Or.inr ⟨by rfl, rfl⟩) ?_ ?_
          rotate_left
          ·simp only [Act.put, List.setIfInBounds_toArray, List.set_cons_zero, List.set_cons_succ, i64_w, i32_w]
           rfl
          refine pure_ (i := 18) (N := some 76) (v := undef) (a' := ?_) #[T,T,T,T,T,T,T,T,T,T,T,T,T,T,T,T,T,T,T,F,F] rfl rfl (any_of HT_.out (by kernel_rfl)) (fun _ _ _ h => h) (Or.inr ⟨by rfl, rfl⟩) ?_ ?_
          rotate_left
          ·simp only [Act.put, List.setIfInBounds_toArray, List.set_cons_zero, List.set_cons_succ, i64_w, i32_w]
           rfl
          refine pure_ (i := 19) (N := some 77) (v := undef) (a' := ?_) #[T,T,T,T,T,T,T,T,T,T,T,T,T,T,T,T,T,T,T,T,F] rfl rfl (any_of HT_.out (by kernel_rfl)) (fun _ _ _ h => h) (Or.inr ⟨by rfl, rfl⟩) ?_ ?_
          rotate_left
          ·simp only [Act.put, List.setIfInBounds_toArray, List.set_cons_zero, List.set_cons_succ, i64_w, i32_w]
           rfl
          refine pure_ (i := 20) (N := some 78) (v := ?_) (a' := ?_) #[T,T,T,T,T,T,T,T,T,T,T,T,T,T,T,T,T,T,T,T,T] rfl rfl (any_of HT_.out (by kernel_rfl)) (fun _ _ _ h => h) (Or.inl ⟨by rfl, ?_⟩) ?_ ?_
          rotate_left; (focus intro w'; go_simp; with_reducible rfl); rotate_left; (focus simp only [Act.put, List.setIfInBounds_toArray, List.set_cons_zero, List.set_cons_succ, i64_w, i32_w]; rfl)
          refine done_ (done_of HT_.out (by kernel_rfl)) ?_
          try go_wp2
          (try simp only [← hl5_3, ← hl6_3])
          go_roundg k3
          case measure => have := HK1.out; have := HK2.out; have := HK3.out; omega
          case rel => exact ⟨(x6_3), (wrap64 (x11_3 + 1)), (by first | rfl | (simp; done) | (simp [*]; done)), H', ⟨by have := HK1.out; have := HK2.out; have := HK3.out; omega⟩, ⟨by (try simp only [hl6_2]); (try simp only [hl5_3]); (try simp only [hl6_3]); (with_reducible repeat (first | apply Kd.R_alloc | apply Kd.R_drewN | apply Kd.R_drew)); exact HO_5.out⟩, ⟨by (try simp only [hl6_2]); (try simp only [hl5_3]); (try simp only [hl6_3]); (with_reducible repeat (first | apply Kd.R_alloc | apply Kd.R_drewN | apply Kd.R_drew)); exact HO_6.out⟩, ⟨by repeat (first | (with_reducible first | exact HB.out | apply below_alloc | apply pw_below_drewN | apply below_drew1) | exact HB.out)⟩⟩
        ·rw [if_neg c26] at H
         have c26b0 : decide (x11_3 < (x6_3.length : Int)) = false := decide_eq_false c26
         clear c26
         have H' := Aside0.mk H
         clear H
         go_wp2
         go_loopg [10, 12] k3 (fun kq v10 v12 w' => ∃ (x10_4 : Int) (x12_4 : Int), v10 = .int .i64 x10_4 ∧ v12 = .int .i64 x12_4 ∧ Aside0 (ratlineref18_Assign.l3 kq l0 y133 x6_3 x8_2 x9_2 x10_4 x12_4 = some r) ∧ Aside0 (kq ≤ k3) ∧ Aside0 (Kd.R k38 38 w' w.heap.size (fun _ => True) (.slice (some ⟨go23, 0, none⟩) y133.length co23) y133) ∧ Aside0 (Kd.R (Kd.int .i64) 3 w' w.heap.size (fun _ => True) (.slice Ao19 x6_3.length co19) x6_3) ∧ Aside0 (Below w.heap.size w w'))
         case atStart => exact ⟨((-1)), (wrap64 ((x6_3.length : Int) - 1)), (by first | rfl | (simp; done) | (simp [*]; done)), (by first | rfl | (simp; done) | (simp [*]; done)), H', ⟨Nat.le_refl _⟩, ⟨by (try simp only [hl6_2]); (try simp only [hl5_3]); (try simp only [hl6_3]); (with_reducible repeat (first | apply Kd.R_alloc | apply Kd.R_drewN | apply Kd.R_drew)); exact HO_5.out⟩, ⟨by (try simp only [hl6_2]); (try simp only [hl5_3]); (try simp only [hl6_3]); (with_reducible repeat (first | apply Kd.R_alloc | apply Kd.R_drewN | apply Kd.R_drew)); exact HO_6.out⟩, ⟨by repeat (first | (with_reducible first | exact HB.out | apply below_alloc | apply pw_below_drewN | apply below_drew1) | exact HB.out)⟩⟩
         case round =>
          clear H'
          (try clear p1); (try clear q1); (try clear hx1); (try clear c2); (try clear p2); (try clear c3); (try clear p3); (try clear q3); (try clear hx3); (try clear hf3); (try clear p6); (try clear p13); (try clear q13); (try clear hx13); (try clear c26); (try clear c26b0); (try clear c27); (try clear c28); (try clear c28b0); (try clear c29); (try clear c30); (try clear c31); (try clear c32); (try clear c33); (try clear c33b0); (try clear p34); (try clear q34); (try clear hx34); (try clear hf34); (try clear hx134_0); (try clear hx135_0); (try clear hx136_0); (try clear hx136_1); (try clear hx136_2); (try clear hx137_0); (try clear hx137_1); (try clear hx137_2); (try clear hx34_0); (try clear p134); (try clear p135); (try clear p136); (try clear p137); (try clear p34); (try clear q134); (try clear q135); (try clear q136); (try clear q137); (try clear q34)
          obtain ⟨x10_4, x12_4, rfl, rfl, HA, HK4, HO_5, HO_6, HB⟩ := hrel
          cases gk with
          | zero => exact absurd HA.out (by simp [ratlineref18_Assign.l3])
          | succ k4 =>
           have H := HA.out
           clear HA
           simp only [ratlineref18_Assign.l3] at H
           by_cases c40 : x12_4 ≥ 0
           ·rw [if_pos c40] at H
            have c40b0 : decide (0 ≤ x12_4) = true := decide_eq_true c40
            clear c40
            by_cases c41 : 0 ≤ x12_4
            rotate_left
            ·rw [if_neg c41] at H
             exact absurd H (by simp)
            rw [if_pos c41] at H
            have c41b0 : decide (0 ≤ x12_4) = true := decide_eq_true c41
            clear c41
            by_cases c42 : x12_4 < (x6_3.length : Int)
            rotate_left
            ·rw [if_neg c42] at H
             exact absurd H (by simp)
            rw [if_pos c42] at H
            have c42b0 : decide (x12_4 < (x6_3.length : Int)) = true := decide_eq_true c42
            clear c42
            by_cases c43 : (rd x6_3 x12_4) < 0
            ·rw [if_pos c43] at H
             have c43b0 : decide ((rd x6_3 x12_4) < 0) = true := decide_eq_true c43
             clear c43
             have H' := Aside0.mk H
             clear H
             have p139 : 0 ≤ (x12_4 : Int) := of_decide_eq_true (by first | (with_reducible assumption) | assumption)
             have q139 : x12_4 < (x6_3.length : Int) := of_decide_eq_true (by first | (with_reducible assumption) | assumption)
             obtain ⟨ad139, e139, hx139_0⟩ := Kd.at_int (Kd.R_reads' HO_6.out).2.2 x12_4 p139 q139
             cases e139
             replace p139 := eq_true p139
             replace q139 := eq_true q139
             go_wp2
             go_roundg k4
             case measure => have := HK1.out; have := HK2.out; have := HK3.out; have := HK4.out; omega
             case rel => exact ⟨(x12_4), (wrap64 (x12_4 - 1)), (by first | rfl | (simp; done) | (simp [*]; done)), (by first | rfl | (simp; done) | (simp [*]; done)), H', ⟨by have := HK1.out; have := HK2.out; have := HK3.out; have := HK4.out; omega⟩, ⟨by (try simp only [hl6_2]); (try simp only [hl5_3]); (try simp only [hl6_3]); (with_reducible repeat (first | apply Kd.R_alloc | apply Kd.R_drewN | apply Kd.R_drew)); exact HO_5.out⟩, ⟨by (try simp only [hl6_2]); (try simp only [hl5_3]); (try simp only [hl6_3]); (with_reducible repeat (first | apply Kd.R_alloc | apply Kd.R_drewN | apply Kd.R_drew)); exact HO_6.out⟩, ⟨by repeat (first | (with_reducible first | exact HB.out | apply below_alloc | apply pw_below_drewN | apply below_drew1) | exact HB.out)⟩⟩
            ·rw [if_neg c43] at H
             have c43b0 : decide ((rd x6_3 x12_4) < 0) = false := decide_eq_false c43
             clear c43
             have H' := Aside0.mk H
             clear H
             have p139 : 0 ≤ (x12_4 : Int) := of_decide_eq_true (by first | (with_reducible assumption) | assumption)
             have q139 : x12_4 < (x6_3.length : Int) := of_decide_eq_true (by first | (with_reducible assumption) | assumption)
             obtain ⟨ad139, e139, hx139_0⟩ := Kd.at_int (Kd.R_reads' HO_6.out).2.2 x12_4 p139 q139
             cases e139
             replace p139 := eq_true p139
             replace q139 := eq_true q139
             go_wp2
             go_roundg k4
             case measure => have := HK1.out; have := HK2.out; have := HK3.out; have := HK4.out; omega
             case rel => exact ⟨(x10_4), (wrap64 (x12_4 - 1)), (by first | rfl | (simp; done) | (simp [*]; done)), (by first | rfl | (simp; done) | (simp [*]; done)), H', ⟨by have := HK1.out; have := HK2.out; have := HK3.out; have := HK4.out; omega⟩, ⟨by (try simp only [hl6_2]); (try simp only [hl5_3]); (try simp only [hl6_3]); (with_reducible repeat (first | apply Kd.R_alloc | apply Kd.R_drewN | apply Kd.R_drew)); exact HO_5.out⟩, ⟨by (try simp only [hl6_2]); (try simp only [hl5_3]); (try simp only [hl6_3]); (with_reducible repeat (first | apply Kd.R_alloc | apply Kd.R_drewN | apply Kd.R_drew)); exact HO_6.out⟩, ⟨by repeat (first | (with_reducible first | exact HB.out | apply below_alloc | apply pw_below_drewN | apply below_drew1) | exact HB.out)⟩⟩
           ·rw [if_neg c40] at H
            have c40b0 : decide (0 ≤ x12_4) = false := decide_eq_false c40
            clear c40
            by_cases c44 : x10_4 ≥ 0
            ·rw [if_pos c44] at H
             have c44b0 : decide (0 ≤ x10_4) = true := decide_eq_true c44
             clear c44
             by_cases c45 : 0 ≤ x9_2
             rotate_left
             ·rw [if_neg c45] at H
              exact absurd H (by simp)
             rw [if_pos c45] at H
             have c45b0 : decide (0 ≤ x9_2) = true := decide_eq_true c45
             clear c45
             by_cases c46 : x9_2 < (y133.length : Int)
             rotate_left
             ·rw [if_neg c46] at H
              exact absurd H (by simp)
             rw [if_pos c46] at H
             have c46b0 : decide (x9_2 < (y133.length : Int)) = true := decide_eq_true c46
             clear c46
             obtain ⟨y140, hy140⟩ : ∃ y_ : List (S38), y_ = (y133.set (x9_2 : Int).toNat (⟨(rd_T38 y133 x9_2).f0, x10_4, (rd_T38 y133 x9_2).f2⟩ : S38)) := ⟨_, rfl⟩
             replace H : (if 0 ≤ x10_4 then (if x10_4 < (x6_3.length : Int) then (ratlineref18_Assign.l1 k4 l0 y140 (x6_3.set (x10_4 : Int).toNat x9_2) x8_2 (wrap64 (x9_2 + 1))) else (none)) else (none)) = some r := by first | (rw [hy140]; with_reducible exact H) | (have H2_ := (Option.bind_some _ _).symm.trans H; rw [hy140]; with_reducible exact H2_) | (have H2_ := (Option.bind_some _ _).symm.trans H; with_reducible exact H2_) | with_reducible exact H | (rw [hy140]; exact H) | exact H
             have Ny140 := Aside0.mk hy140
             clear hy140
             by_cases c48 : 0 ≤ x10_4
             rotate_left
             ·rw [if_neg c48] at H
              exact absurd H (by simp)
             rw [if_pos c48] at H
             have c48b0 : decide (0 ≤ x10_4) = true := decide_eq_true c48
             clear c48
             by_cases c49 : x10_4 < (x6_3.length : Int)
             rotate_left
             ·rw [if_neg c49] at H
              exact absurd H (by simp)
             rw [if_pos c49] at H
             have c49b0 : decide (x10_4 < (x6_3.length : Int)) = true := decide_eq_true c49
             clear c49
             obtain ⟨y141, hy141⟩ : ∃ y_ : List Int, y_ = (x6_3.set (x10_4 : Int).toNat x9_2) := ⟨_, rfl⟩
             replace H : (ratlineref18_Assign.l1 k4 l0 y140 y141 x8_2 (wrap64 (x9_2 + 1))) = some r := by first | (rw [hy141]; with_reducible exact H) | (have H2_ := (Option.bind_some _ _).symm.trans H; rw [hy141]; with_reducible exact H2_) | (have H2_ := (Option.bind_some _ _).symm.trans H; with_reducible exact H2_) | with_reducible exact H | (rw [hy141]; exact H) | exact H
             have Ny141 := Aside0.mk hy141
             clear hy141
             have H' := Aside0.mk H
             clear H
             have p47 : 0 ≤ (x9_2 : Int) := of_decide_eq_true (by first | (with_reducible assumption) | assumption)
             have q47 : (x9_2 : Int) < ((y133.length : Int) : Int) := of_decide_eq_true (by first | (with_reducible assumption) | assumption)
             obtain ⟨ce47, hcl47, hM47, hcc47, hfr47⟩ := Kd.R_elem HO_5.out z38 (x9_2 : Int) p47 q47
             obtain rfl := k38_openM hM47
             have hx47_0 : wr.cell? ⟨go23, (x9_2 : Int).toNat * 3, none⟩ = some (.int .i64 ((rd_T38 y133 x9_2).f0)) := hcc47 0 _ rfl
             have hx47_1 : wr.cell? ⟨go23, (x9_2 : Int).toNat * 3 + 1, none⟩ = some (.int .i64 ((rd_T38 y133 x9_2).f1)) := hcc47 1 _ rfl
             have hx47_2 : wr.cell? ⟨go23, (x9_2 : Int).toNat * 3 + 2, none⟩ = some (.int .i64 ((rd_T38 y133 x9_2).f2)) := hcc47 2 _ rfl
             have hf47_0 : wr.frozen? ⟨go23, (x9_2 : Int).toNat * 3, none⟩ = false := hfr47 0
             have hf47_1 : wr.frozen? ⟨go23, (x9_2 : Int).toNat * 3 + 1, none⟩ = false := hfr47 1
             have hf47_2 : wr.frozen? ⟨go23, (x9_2 : Int).toNat * 3 + 2, none⟩ = false := hfr47 2
             clear hcl47 hcc47 hfr47 hM47
             replace p47 := eq_true p47
             replace q47 := eq_true q47
             have HX51 := Aside0.mk (show Kd.R k38 38 wr w.heap.size (fun _ => True) (.slice (some ⟨go23, 0, none⟩) y133.length co23) y133 from (by (with_reducible repeat (first | apply Kd.R_alloc | apply Kd.R_drewN | apply Kd.R_drew)); exact HO_5.out))
             obtain ⟨ce51, hcl51, hM51, hcc51, hfr51⟩ := Kd.R_elem HX51.out z38 (x9_2 : Int) (of_decide_eq_true ‹_›) (by have h_ : (x9_2 : Int) < ((y133.length : Int) : Int) := of_decide_eq_true (by first | (with_reducible assumption) | assumption); first | exact h_ | (have e_ := (Kd.R_reads' HO_5.out).1; omega) | simpa using h_)
             obtain rfl := k38_openM hM51
             have HP51 := Kd.R_seg HX51.out (x9_2 : Int) (of_decide_eq_true ‹_›) (by have h_ : (x9_2 : Int) < ((y133.length : Int) : Int) := of_decide_eq_true (by first | (with_reducible assumption) | assumption); first | exact h_ | (have e_ := (Kd.R_reads' HO_5.out).1; omega) | simpa using h_) (seg := [.int .i64 x10_4]) (j := 1) hcl51 hcc51 (show 2 ≤ 3 from by decide) (x' := (⟨(rd_T38 y133 x9_2).f0, x10_4, (rd_T38 y133 x9_2).f2⟩ : S38)) (k38_mkM _ _ _ (⟨(rd_T38 y133 x9_2).f0, x10_4, (rd_T38 y133 x9_2).f2⟩ : S38) ) (fun _ hk => hk)
             have hx51_1 := hcc51 1 _ rfl
             (try simp only [show (k38).sz = 3 from rfl, Nat.mul_one, Nat.add_zero] at hx51_1)
             have hf51_1 := hfr51 1
             (try simp only [show (k38).sz = 3 from rfl, Nat.mul_one, Nat.add_zero] at hf51_1)
             clear hcl51 hcc51 hfr51 hM51
             go_wp2_with (first | ((with_reducible refine gate_store (t := 3) (p := 101) rfl ?_); refine store_event (t := 3) (p := 101) (v := ?vo_w52) (w1 := (wr.setCell ⟨go23, (x9_2 : Int).toNat * 3 + 1, none⟩ (.int .i64 x10_4))) ?hg ?ho ?hn ?hr ?_; (case ho => rfl); (case hg => rfl); (case hn => rfl); (case hr => first | (go_simp; done) | (go_simp; rfl)); intro w52 hw; have hg : wr.grownBy w52 (some go23) := (by rw [hw]; exact HP51.2); have hp_ : Kd.R k38 38 w52 w.heap.size (fun _ => True) (.slice (some ⟨go23, 0, none⟩) y133.length co23) y140 := (by rw [hw, Ny140.out]; exact HP51.1); clear HP51; have n0_ := Aside0.mk (hp_); have n1_ := Aside0.mk (Kd.R_over' (v := (.slice (some ⟨go23, 0, none⟩) y133.length co23)) (by (with_reducible repeat (first | apply Kd.R_alloc | apply Kd.R_drewN | apply Kd.R_drew)); exact HO_6.out) (Kd.R_typed HO_5.out) (by decide) hg); have n2_ := Aside0.mk ((by rw [hw]; exact below_set (HB.out) GB23.out : Below w.heap.size w w52)); clear HO_5; clear HO_6; clear HB; have HO_5 := n0_; have HO_6 := n1_; have HB := n2_; clear n0_ n1_ n2_; clear hg hw hp_; have p50 : 0 ≤ (x10_4 : Int) := of_decide_eq_true (by first | (with_reducible assumption) | assumption); have q50 : (x10_4 : Int) < ((x6_3.length : Int) : Int) := of_decide_eq_true (by first | (with_reducible assumption) | assumption); obtain ⟨go50, co50, eo50, gb50, gl50, cl50, HG50⟩ := Kd.R_form HO_6.out (by omega); (first | cases eo50 | (injection eo50 with ea_ en_ ec_; (first | subst ea_ | (injection ea_ with ea_; subst ea_)); subst ec_; clear en_)); have GB50 := Aside0.mk gb50; have GG50 := Aside0.mk HG50; clear gb50 gl50 HG50; obtain ⟨hx50_0, hf50_0⟩ := Kd.R_celln 0 HO_6.out (x10_4 : Int) p50 q50; replace p50 := eq_true p50; replace q50 := eq_true q50; obtain ⟨hy53_, hz53_⟩ := Kd.R_celln 0 HO_6.out (x10_4 : Int) (of_decide_eq_true ‹_›) (of_decide_eq_true ‹_›); have HP53 := Kd.R_putg HO_6.out (x10_4 : Int) x9_2) | ((with_reducible refine gate_store (t := 3) (p := 105) rfl ?_); refine store_event (t := 3) (p := 105) (v := ?vo_w54) (w1 := (w52.setCell ⟨go50, (x10_4 : Int).toNat, none⟩ (.int .i64 x9_2))) ?hg ?ho ?hn ?hr ?_; (case ho => rfl); (case hg => rfl); (case hn => rfl); (case hr => first | (go_simp; done) | (go_simp; rfl)); intro w54 hw; have hg : w52.grownBy w54 (some go50) := (by rw [hw]; exact HP53.2); have hp_ : Kd.R (Kd.int .i64) 3 w54 w.heap.size (fun _ => True) (.slice (some ⟨go50, 0, none⟩) x6_3.length co19) y141 := (by rw [hw, Ny141.out]; exact HP53.1); clear HP53; have n0_ := Aside0.mk (Kd.R_over' (v := (.slice (some ⟨go50, 0, none⟩) x6_3.length co19)) (by (with_reducible repeat (first | apply Kd.R_alloc | apply Kd.R_drewN | apply Kd.R_drew)); exact HO_5.out) (Kd.R_typed HO_6.out) (by decide) hg); have n1_ := Aside0.mk (hp_); have n2_ := Aside0.mk ((by rw [hw]; exact below_set (HB.out) GB50.out : Below w.heap.size w w54)); clear HO_5; clear HO_6; clear HB; have HO_5 := n0_; have HO_6 := n1_; have HB := n2_; clear n0_ n1_ n2_; clear hg hw hp_))
             (try simp only [← hl6_2, ← hl5_3, ← hl6_3])
             go_roundg k4
             case measure => have := HK1.out; have := HK2.out; have := HK3.out; have := HK4.out; omega
             case rel => exact ⟨(y140), (y141), (x8_2), (wrap64 (x9_2 + 1)), (by first | rfl | (simp; done) | (simp [*]; done)), (by first | rfl | (simp; done) | (simp [*]; done)), H', ⟨by have := HK1.out; have := HK2.out; have := HK3.out; have := HK4.out; omega⟩, ⟨by (try simp only [hl6_2]); (try simp only [hl5_3]); (try simp only [hl6_3]); (with_reducible repeat (first | apply Kd.R_alloc | apply Kd.R_drewN | apply Kd.R_drew)); exact HO_5.out⟩, ⟨by (try simp only [hl6_2]); (try simp only [hl5_3]); (try simp only [hl6_3]); (with_reducible repeat (first | apply Kd.R_alloc | apply Kd.R_drewN | apply Kd.R_drew)); exact HO_6.out⟩, ⟨by repeat (first | (with_reducible first | exact HB.out | apply below_alloc | apply pw_below_drewN | apply below_drew1) | exact HB.out)⟩⟩
            ·rw [if_neg c44] at H
             have c44b0 : decide (0 ≤ x10_4) = false := decide_eq_false c44
             clear c44
             have H' := Aside0.mk H
             clear H
             go_wp2
             go_loopg [13, 14] k4 (fun kq v13 v14 w' => ∃ (x13_5 : Int) (x14_5 : Int), v13 = .int .i64 x13_5 ∧ v14 = .int .i64 x14_5 ∧ Aside0 (ratlineref18_Assign.l4 kq l0 y133 x6_3 x8_2 x9_2 x13_5 x14_5 = some r) ∧ Aside0 (kq ≤ k4) ∧ Aside0 (Kd.R k38 38 w' w.heap.size (fun _ => True) (.slice (some ⟨go23, 0, none⟩) y133.length co23) y133) ∧ Aside0 (Kd.R (Kd.int .i64) 3 w' w.heap.size (fun _ => True) (.slice Ao19 x6_3.length co19) x6_3) ∧ Aside0 (Below w.heap.size w w'))
             case atStart => exact ⟨(x9_2), (0), (by first | rfl | (simp; done) | (simp [*]; done)), (by first | rfl | (simp; done) | (simp [*]; done)), H', ⟨Nat.le_refl _⟩, ⟨by (try simp only [hl6_2]); (try simp only [hl5_3]); (try simp only [hl6_3]); (with_reducible repeat (first | apply Kd.R_alloc | apply Kd.R_drewN | apply Kd.R_drew)); exact HO_5.out⟩, ⟨by (try simp only [hl6_2]); (try simp only [hl5_3]); (try simp only [hl6_3]); (with_reducible repeat (first | apply Kd.R_alloc | apply Kd.R_drewN | apply Kd.R_drew)); exact HO_6.out⟩, ⟨by repeat (first | (with_reducible first | exact HB.out | apply below_alloc | apply pw_below_drewN | apply below_drew1) | exact HB.out)⟩⟩
             case round =>
              clear H'
              (try clear p1); (try clear q1); (try clear hx1); (try clear c2); (try clear p2); (try clear c3); (try clear p3); (try clear q3); (try clear hx3); (try clear hf3); (try clear c4); (try clear p4); (try clear q4); (try clear hx4); (try clear hf4); (try clear c5); (try clear p5); (try clear q5); (try clear hx5); (try clear hf5); (try clear p6); (try clear p13); (try clear q13); (try clear hx13); (try clear c26); (try clear c26b0); (try clear c27); (try clear c28); (try clear c28b0); (try clear c29); (try clear c30); (try clear c31); (try clear c32); (try clear c33); (try clear c33b0); (try clear p34); (try clear q34); (try clear hx34); (try clear hf34); (try clear c40); (try clear c40b0); (try clear c41); (try clear c41b0); (try clear c42); (try clear c42b0); (try clear c43); (try clear c43b0); (try clear c44); (try clear c44b0); (try clear c45); (try clear c45b0); (try clear c46); (try clear c46b0); (try clear c47); (try clear p47); (try clear q47); (try clear hx47); (try clear hf47); (try clear c48); (try clear c48b0); (try clear c49); (try clear c49b0); (try clear p50); (try clear q50); (try clear hx50); (try clear hf50); (try clear c51); (try clear hx51); (try clear hf51); (try clear hx134_0); (try clear hx135_0); (try clear hx136_0); (try clear hx136_1); (try clear hx136_2); (try clear hx137_0); (try clear hx137_1); (try clear hx137_2); (try clear hx139_0); (try clear hx34_0); (try clear hx47_0); (try clear hx47_1); (try clear hx47_2); (try clear hx50_0); (try clear hx51_1); (try clear p1); (try clear p13); (try clear p134); (try clear p135); (try clear p136); (try clear p137); (try clear p139); (try clear p2); (try clear p3); (try clear p34); (try clear p47); (try clear p50); (try clear p6); (try clear q1); (try clear q13); (try clear q134); (try clear q135); (try clear q136); (try clear q137); (try clear q139); (try clear q3); (try clear q34); (try clear q47); (try clear q50)
              obtain ⟨x13_5, x14_5, rfl, rfl, HA, HK5, HO_5, HO_6, HB⟩ := hrel
              cases gk with
              | zero => exact absurd HA.out (by simp [ratlineref18_Assign.l4])
              | succ k5 =>
               have H := HA.out
               clear HA
               simp only [ratlineref18_Assign.l4] at H
               by_cases c55 : x14_5 < (x6_3.length : Int)
               ·rw [if_pos c55] at H
                have c55b0 : decide (x14_5 < (x6_3.length : Int)) = true := decide_eq_true c55
                clear c55
                by_cases c56 : 0 ≤ x14_5
                rotate_left
                ·rw [if_neg c56] at H
                 exact absurd H (by simp)
                rw [if_pos c56] at H
                have c56b0 : decide (0 ≤ x14_5) = true := decide_eq_true c56
                clear c56
                by_cases c57 : 0 ≤ (rd x6_3 x14_5)
                rotate_left
                ·rw [if_neg c57] at H
                 exact absurd H (by simp)
                rw [if_pos c57] at H
                have c57b0 : decide (0 ≤ (rd x6_3 x14_5)) = true := decide_eq_true c57
                clear c57
                by_cases c58 : (rd x6_3 x14_5) < (l0.length : Int)
                rotate_left
                ·rw [if_neg c58] at H
                 exact absurd H (by simp)
                rw [if_pos c58] at H
                have c58b0 : decide ((rd x6_3 x14_5) < (l0.length : Int)) = true := decide_eq_true c58
                clear c58
                by_cases c59 : 0 ≤ x13_5
                rotate_left
                ·rw [if_neg c59] at H
                 exact absurd H (by simp)
                rw [if_pos c59] at H
                have c59b0 : decide (0 ≤ x13_5) = true := decide_eq_true c59
                clear c59
                by_cases c60 : x13_5 < (l0.length : Int)
                rotate_left
                ·rw [if_neg c60] at H
                 exact absurd H (by simp)
                rw [if_pos c60] at H
                have c60b0 : decide (x13_5 < (l0.length : Int)) = true := decide_eq_true c60
                clear c60
                by_cases c61 : ((rd_T47 l0 (rd x6_3 x14_5)).f2) > ((rd_T47 l0 x13_5).f2)
                ·rw [if_pos c61] at H
                 have c61b0 : decide (((rd_T47 l0 x13_5).f2) < ((rd_T47 l0 (rd x6_3 x14_5)).f2)) = true := decide_eq_true c61
                 clear c61
                 have H' := Aside0.mk H
                 clear H
                 try go_wp2
                 have n0_ := Aside0.mk (Kd.R_drew HO_5.out)
                 have n1_ := Aside0.mk (Kd.R_drew HO_6.out)
                 have n2_ := Aside0.mk (below_drew1 HB.out)
                 clear HO_5
                 clear HO_6
                 clear HB
                 have HO_5 := n0_
                 have HO_6 := n1_
                 have HB := n2_
                 clear n0_ n1_ n2_
                 have p142 : 0 ≤ (x14_5 : Int) := of_decide_eq_true (by first | (with_reducible assumption) | assumption)
                 have q142 : x14_5 < (x6_3.length : Int) := of_decide_eq_true (by first | (with_reducible assumption) | assumption)
                 obtain ⟨ad142, e142, hx142_0⟩ := Kd.at_int (Kd.R_reads' HO_6.out).2.2 x14_5 p142 q142
                 cases e142
                 replace p142 := eq_true p142
                 replace q142 := eq_true q142
                 have p143 : 0 ≤ ((rd x6_3 x14_5) : Int) := of_decide_eq_true (by first | (with_reducible assumption) | assumption)
                 have q143 : (rd x6_3 x14_5) < (l0.length : Int) := of_decide_eq_true (by first | (with_reducible assumption) | assumption)
                 obtain ⟨ad143, e143, hx143_0, hx143_1, hx143_2⟩ := at_T47 HR0.out (rd x6_3 x14_5) p143 q143
                 have hw143_2 := hx143_2
                 have hw143_1 := hx143_1
                 have hw143_0 := hx143_0
                 obtain rfl : ad132 = ad143 := (by injection e143)
                 replace hx143_0 := (HB.out.cell (World.block_lt_of_cell? w _ hx143_0)).trans hx143_0
                 replace hx143_1 := (HB.out.cell (World.block_lt_of_cell? w _ hx143_1)).trans hx143_1
                 replace hx143_2 := (HB.out.cell (World.block_lt_of_cell? w _ hx143_2)).trans hx143_2
                 replace p143 := eq_true p143
                 replace q143 := eq_true q143
                 have p144 : 0 ≤ (x13_5 : Int) := of_decide_eq_true (by first | (with_reducible assumption) | assumption)
                 have q144 : x13_5 < (l0.length : Int) := of_decide_eq_true (by first | (with_reducible assumption) | assumption)
                 obtain ⟨ad144, e144, hx144_0, hx144_1, hx144_2⟩ := at_T47 HR0.out x13_5 p144 q144
                 have hw144_2 := hx144_2
                 have hw144_1 := hx144_1
                 have hw144_0 := hx144_0
                 obtain rfl : ad132 = ad144 := (by injection e144)
                 replace hx144_0 := (HB.out.cell (World.block_lt_of_cell? w _ hx144_0)).trans hx144_0
                 replace hx144_1 := (HB.out.cell (World.block_lt_of_cell? w _ hx144_1)).trans hx144_1
                 replace hx144_2 := (HB.out.cell (World.block_lt_of_cell? w _ hx144_2)).trans hx144_2
                 replace p144 := eq_true p144
                 replace q144 := eq_true q144
                 refine start_ (n := 15) (S := fun w' => w'.cell? (ad142.add (x14_5).toNat) = some (.int .i64 (rd x6_3 x14_5)) ∧ w'.cell? (ad132.add (((rd x6_3 x14_5)).toNat * 3)) = some (.int .i64 ((rd_T47 l0 (rd x6_3 x14_5)).f0)) ∧ w'.cell? ⟨(ad132.add (((rd x6_3 x14_5)).toNat * 3)).block, (ad132.add (((rd x6_3 x14_5)).toNat * 3)).off + 1, none⟩ = some (.int .i64 ((rd_T47 l0 (rd x6_3 x14_5)).f1)) ∧ w'.cell? ⟨(ad132.add (((rd x6_3 x14_5)).toNat * 3)).block, (ad132.add (((rd x6_3 x14_5)).toNat * 3)).off + 2, none⟩ = some (.int .i64 ((rd_T47 l0 (rd x6_3 x14_5)).f2)) ∧ w'.cell? (ad132.add ((x13_5).toNat * 3)) = some (.int .i64 ((rd_T47 l0 x13_5).f0)) ∧ w'.cell? ⟨(ad132.add ((x13_5).toNat * 3)).block, (ad132.add ((x13_5).toNat * 3)).off + 1, none⟩ = some (.int .i64 ((rd_T47 l0 x13_5).f1)) ∧ w'.cell? ⟨(ad132.add ((x13_5).toNat * 3)).block, (ad132.add ((x13_5).toNat * 3)).off + 2, none⟩ = some (.int .i64 ((rd_T47 l0 x13_5).f2))) (ds := []) #[F,F,F,F,F,F,F,F,F,F,F,F,F,F,F] (by kernel_rfl) rfl rfl ⟨hx142_0, ((HB.out.cell (World.block_lt_of_cell? w _ hw143_0)).trans hw143_0), ((HB.out.cell (World.block_lt_of_cell? w _ hw143_1)).trans hw143_1), ((HB.out.cell (World.block_lt_of_cell? w _ hw143_2)).trans hw143_2), ((HB.out.cell (World.block_lt_of_cell? w _ hw144_0)).trans hw144_0), ((HB.out.cell (World.block_lt_of_cell? w _ hw144_1)).trans hw144_1), ((HB.out.cell (World.block_lt_of_cell? w _ hw144_2)).trans hw144_2)⟩ (fun hHeld => ?_); refine with_tabW ratlineref18_Assign.tab31 ratlineref18_Assign.bits31 (fun HT_ HW_ => ?_)
                 generalize wr.drew = w62 at HO_5 HO_6 HB hx142_0 hx143_0 hx143_1 hx143_2 hx144_0 hx144_1 hx144_2 hHeld ⊢
                 refine pure_ (i := 0) (N := some 113) (v := ?_) (a' := ?_) #[T,F,F,F,F,F,F,F,F,F,F,F,F,F,F] rfl rfl (any_of HT_.out (by kernel_rfl)) (fun _ _ _ h => h) (Or.inl ⟨by rfl, ?_⟩) ?_ ?_
                 rotate_left; (focus intro w'; go_simp; with_reducible rfl); rotate_left; (focus simp only [Act.put, List.setIfInBounds_toArray, List.set_cons_zero, List.set_cons_succ, i64_w, i32_w]; rfl)
                 refine pure_ (i := 1) (N := some 114) (v := ?_) (a' := ?_) #[T,T,F,F,F,F,F,F,F,F,F,F,F,F,F] rfl rfl (any_of HT_.out (by kernel_rfl)) (fun _ _ _ h => h) (Or.inl ⟨by rfl, ?_⟩) ?_ ?_
                 rotate_left; (focus intro w'; go_simp; with_reducible rfl); rotate_left; (focus simp only [Act.put, List.setIfInBounds_toArray, List.set_cons_zero, List.set_cons_succ, i64_w, i32_w]; rfl)
                 refine pure_ (i := 2) (N := some 115) (v := ?_) (a' := ?_) #[T,T,T,F,F,F,F,F,F,F,F,F,F,F,F] rfl rfl (any_of HT_.out (by kernel_rfl)) (fun _ _ _ h => h) (Or.inl ⟨by rfl, ?_⟩) ?_ ?_
                 rotate_left; (focus intro w'; go_simp; with_reducible rfl); rotate_left; (focus simp only [Act.put, List.setIfInBounds_toArray, List.set_cons_zero, List.set_cons_succ, i64_w, i32_w]; rfl)
                 refine pure_ (i := 3) (N := some 116) (v := ?_) (a' := ?_) #[T,T,T,T,F,F,F,F,F,F,F,F,F,F,F] rfl rfl (any_of HT_.out (by kernel_rfl)) (fun _ _ _ h => h) (Or.inl ⟨by rfl, ?_⟩) ?_ ?_
                 rotate_left; (focus intro w'; go_simp; with_reducible rfl); rotate_left; (focus simp only [Act.put, List.setIfInBounds_toArray, List.set_cons_zero, List.set_cons_succ, i64_w, i32_w]; rfl)
                 refine pure_ (i := 7) (N := some 120) (v := ?_) (a' := ?_) #[T,T,T,T,F,F,F,T,F,F,F,F,F,F,F] rfl rfl (any_of HT_.out (by kernel_rfl)) (fun _ _ _ h => h) (Or.inl ⟨by rfl, ?_⟩) ?_ ?_
                 rotate_left; (focus intro w'; go_simp; with_reducible rfl); rotate_left; (focus simp only [Act.put, List.setIfInBounds_toArray, List.set_cons_zero, List.set_cons_succ, i64_w, i32_w]; rfl)
                 refine pure_ (i := 8) (N := some 121) (v := ?_) (a' := ?_) #[T,T,T,T,F,F,F,T,T,F,F,F,F,F,F] rfl rfl (any_of HT_.out (by kernel_rfl)) (fun _ _ _ h => h) (Or.inl ⟨by rfl, ?_⟩) ?_ ?_
                 rotate_left; (focus intro w'; go_simp; with_reducible rfl); rotate_left; (focus simp only [Act.put, List.setIfInBounds_toArray, List.set_cons_zero, List.set_cons_succ, i64_w, i32_w]; rfl)
                 refine pure_ (i := 9) (N := some 122) (v := ?_) (a' := ?_) #[T,T,T,T,F,F,F,T,T,T,F,F,F,F,F] rfl rfl (any_of HT_.out (by kernel_rfl)) (fun _ _ _ h => h) (Or.inl ⟨by rfl, ?_⟩) ?_ ?_
                 rotate_left; (focus intro w'; go_simp; with_reducible rfl); rotate_left; (focus simp only [Act.put, List.setIfInBounds_toArray, List.set_cons_zero, List.set_cons_succ, i64_w, i32_w]; rfl)
                 refine take_ (i := 4) (N := some 117) (v := ?_) (a' := ?_) #[T,T,T,T,T,F,F,T,T,T,F,F,F,F,F] rfl rfl (take_ofW HT_.out HW_.out (by kernel_rfl)) (fun _ _ _ h => h) (Or.inl ⟨by rfl, ?_⟩) hHeld ?_ ?_
                 rotate_left
                 ·rintro w' ⟨s0, s1, s2, s3, s4, s5, s6⟩
                  go_simp
                  with_reducible rfl
                 rotate_left
                 ·simp only [Act.put, List.setIfInBounds_toArray, List.set_cons_zero, List.set_cons_succ, i64_w, i32_w]
                  rfl
                 refine pure_ (i := 5) (N := some 118) (v := ?_) (a' := ?_) #[T,T,T,T,T,T,F,T,T,T,F,F,F,F,F] rfl rfl (any_of HT_.out (by kernel_rfl)) (fun _ _ _ h => h) (Or.inl ⟨by rfl, ?_⟩) ?_ ?_
                 rotate_left; (focus intro w'; go_simp; with_reducible rfl); rotate_left; (focus simp only [Act.put, List.setIfInBounds_toArray, List.set_cons_zero, List.set_cons_succ, i64_w, i32_w]; rfl)
                 refine take_ (i := 6) (N := some 119) (v := ?_) (a' := ?_) #[T,T,T,T,T,T,T,T,T,T,F,F,F,F,F] rfl rfl (take_ofW HT_.out HW_.out (by kernel_rfl)) (fun _ _ _ h => h) (Or.inl ⟨by rfl, ?_⟩) hHeld ?_ ?_
                 rotate_left
                 ·rintro w' ⟨s0, s1, s2, s3, s4, s5, s6⟩
                  go_simp
                  with_reducible rfl
                 rotate_left
                 ·simp only [Act.put, List.setIfInBounds_toArray, List.set_cons_zero, List.set_cons_succ, i64_w, i32_w]
                  rfl
                 refine take_ (i := 10) (N := some 123) (v := ?_) (a' := ?_) #[T,T,T,T,T,T,T,T,T,T,T,F,F,F,F] rfl rfl (take_ofW HT_.out HW_.out (by kernel_rfl)) (fun _ _ _ h => h) (Or.inl ⟨by rfl, ?_⟩) hHeld ?_ ?_
                 rotate_left
                 ·rintro w' ⟨s0, s1, s2, s3, s4, s5, s6⟩
                  go_simp
                  with_reducible rfl
                 rotate_left
                 ·simp only [Act.put, List.setIfInBounds_toArray, List.set_cons_zero, List.set_cons_succ, i64_w, i32_w]
                  rfl
                 refine join_ (σ := Nat × Nat) 2 #[T,T,T,T,T,T,T,T,T,T,T,T,T,F,F] (fun s_ => [(15, .pointer (some ⟨s_.1, 0, none⟩)), (16, .pointer (some ⟨s_.2, 0, none⟩))]) (fun s_ w' => (w'.cell? (ad142.add (x14_5).toNat) = some (.int .i64 (rd x6_3 x14_5)) ∧ w'.cell? (ad132.add (((rd x6_3 x14_5)).toNat * 3)) = some (.int .i64 ((rd_T47 l0 (rd x6_3 x14_5)).f0)) ∧ w'.cell? ⟨(ad132.add (((rd x6_3 x14_5)).toNat * 3)).block, (ad132.add (((rd x6_3 x14_5)).toNat * 3)).off + 1, none⟩ = some (.int .i64 ((rd_T47 l0 (rd x6_3 x14_5)).f1)) ∧ w'.cell? ⟨(ad132.add (((rd x6_3 x14_5)).toNat * 3)).block, (ad132.add (((rd x6_3 x14_5)).toNat * 3)).off + 2, none⟩ = some (.int .i64 ((rd_T47 l0 (rd x6_3 x14_5)).f2)) ∧ w'.cell? (ad132.add ((x13_5).toNat * 3)) = some (.int .i64 ((rd_T47 l0 x13_5).f0)) ∧ w'.cell? ⟨(ad132.add ((x13_5).toNat * 3)).block, (ad132.add ((x13_5).toNat * 3)).off + 1, none⟩ = some (.int .i64 ((rd_T47 l0 x13_5).f1)) ∧ w'.cell? ⟨(ad132.add ((x13_5).toNat * 3)).block, (ad132.add ((x13_5).toNat * 3)).off + 2, none⟩ = some (.int .i64 ((rd_T47 l0 x13_5).f2))) ∧ (Kd.R k38 38 w' w.heap.size (fun _ => True) (.slice (some ⟨go23, 0, none⟩) y133.length co23) y133) ∧ (Kd.R (Kd.int .i64) 3 w' w.heap.size (fun _ => True) (.slice (some ad142) x6_3.length co19) x6_3) ∧ (w'.heap[s_.1]? = some (.cells #[.int .i64 0, .int .i64 0, .int .i64 0] 47 (0, 0))) ∧ (w'.heap[s_.2]? = some (.cells #[.int .i64 0, .int .i64 0, .int .i64 0] 47 (0, 0))) ∧ (w.heap.size ≤ s_.1) ∧ (w.heap.size ≤ s_.1) ∧ (s_.2 ≠ s_.1) ∧ (s_.1 ≠ s_.2) ∧ (w.heap.size ≤ s_.2) ∧ (w.heap.size ≤ s_.2) ∧ (Below w.heap.size w w')) ?_ ?_
                 rotate_left
                 ·intro hCont
                  refine two_ (i := 11) (j := 12) (Ni := some 15) (Nj := some 16) #[T,T,T,T,T,T,T,T,T,T,T,T,F,F,F] #[T,T,T,T,T,T,T,T,T,T,T,F,T,F,F] rfl rfl rfl rfl (two_of HT_.out (by kernel_rfl)) (by decide) (by decide) (fun K hK => ?_) (fun K hK => ?_)
                  ·skip
                   refine box_step ?hg (N := 15) ?hd (cs := #[.int .i64 0, .int .i64 0, .int .i64 0]) (t := 47) ?hr ?_; (case hd => rfl); (case hg => rfl); (case hr => first | (go_simp; done) | (go_simp; rfl))
                   intro gb145 hg w63 hbox hb
                   have HS0_ := (hb.cell (World.block_lt_of_cell? _ _ (hHeld.1))).trans (hHeld.1)
                   have n0_ := Aside0.mk (Kd.R_below (by (with_reducible repeat (first | apply Kd.R_alloc | apply Kd.R_drewN | apply Kd.R_drew)); exact HO_5.out) hb)
                   have n1_ := Aside0.mk (Kd.R_below (by (with_reducible repeat (first | apply Kd.R_alloc | apply Kd.R_drewN | apply Kd.R_drew)); exact HO_6.out) hb)
                   have n2_ := Aside0.mk (below_step (by repeat (first | (with_reducible first | exact HB.out | apply below_alloc | apply pw_below_drewN | apply below_drew1) | exact HB.out)) hb)
                   have n3_ := Aside0.mk (hbox)
                   have n4_ := Aside0.mk ((by rw [hg]; exact (below_size (by repeat (first | (with_reducible first | exact HB.out | apply below_alloc | apply pw_below_drewN | apply below_drew1) | exact HB.out))) : w.heap.size ≤ gb145))
                   have n5_ := Aside0.mk ((by rw [hg]; exact (below_size (by repeat (first | (with_reducible first | exact HB.out | apply below_alloc | apply pw_below_drewN | apply below_drew1) | exact HB.out))) : w.heap.size ≤ gb145))
                   clear HO_5
                   clear HO_6
                   clear HB
                   have HO_5 := n0_
                   have HO_6 := n1_
                   have HB := n2_
                   have BK145 := n3_
                   have GW145 := n4_
                   have GE145 := n5_
                   clear n0_ n1_ n2_ n3_ n4_ n5_
                   clear hb hbox hg
                   refine hK.out _ _ ⟨HS0_, ((HB.out.cell (World.block_lt_of_cell? w _ hw143_0)).trans hw143_0), ((HB.out.cell (World.block_lt_of_cell? w _ hw143_1)).trans hw143_1), ((HB.out.cell (World.block_lt_of_cell? w _ hw143_2)).trans hw143_2), ((HB.out.cell (World.block_lt_of_cell? w _ hw144_0)).trans hw144_0), ((HB.out.cell (World.block_lt_of_cell? w _ hw144_1)).trans hw144_1), ((HB.out.cell (World.block_lt_of_cell? w _ hw144_2)).trans hw144_2)⟩ (fun hHeld => ?_)
                   clear hK K
                   refine norm_ (a' := ?_) ?_ ?_
                   rotate_left
                   ·show Act.put _ (some 15) _ = _
                    simp only [Act.put, List.setIfInBounds_toArray, List.set_cons_zero, List.set_cons_succ, i64_w, i32_w]
                    rfl
                   refine one_ (i := 12) (N := some 16) #[T,T,T,T,T,T,T,T,T,T,T,T,T,F,F] rfl rfl (one_of HT_.out (by kernel_rfl)) (by decide) (fun K hK => ?_)
                   refine box_step ?hg (N := 16) ?hd (cs := #[.int .i64 0, .int .i64 0, .int .i64 0]) (t := 47) ?hr ?_; (case hd => rfl); (case hg => rfl); (case hr => first | (go_simp; done) | (go_simp; rfl))
                   intro gb146 hg w64 hbox hb
                   have HS0_ := (hb.cell (World.block_lt_of_cell? _ _ (hHeld.1))).trans (hHeld.1)
                   have n0_ := Aside0.mk (Kd.R_below (by (with_reducible repeat (first | apply Kd.R_alloc | apply Kd.R_drewN | apply Kd.R_drew)); exact HO_5.out) hb)
                   have n1_ := Aside0.mk (Kd.R_below (by (with_reducible repeat (first | apply Kd.R_alloc | apply Kd.R_drewN | apply Kd.R_drew)); exact HO_6.out) hb)
                   have n2_ := Aside0.mk (blk_below (g := gb145) (o := .cells #[.int .i64 0, .int .i64 0, .int .i64 0] 47 (0, 0)) (by (with_reducible repeat (first | refine blk_drewN ?_ _ | refine blk_drew ?_ | refine blk_alloc ?_ _)); exact BK145.out) hb)
                   have n3_ := Aside0.mk (below_step (by repeat (first | (with_reducible first | exact HB.out | apply below_alloc | apply pw_below_drewN | apply below_drew1 | refine below_set ?_ GE145.out) | exact HB.out)) hb)
                   have n4_ := Aside0.mk (hbox)
                   have n5_ := Aside0.mk ((by rw [hg]; exact (below_size (by repeat (first | (with_reducible first | exact HB.out | apply below_alloc | apply pw_below_drewN | apply below_drew1 | refine below_set ?_ GE145.out) | exact HB.out))) : w.heap.size ≤ gb146))
                   have n6_ := Aside0.mk ((by rw [hg]; exact (below_size (by repeat (first | (with_reducible first | exact HB.out | apply below_alloc | apply pw_below_drewN | apply below_drew1 | refine below_set ?_ GE145.out) | exact HB.out))) : w.heap.size ≤ gb146))
                   have n7_ := Aside0.mk ((by rw [hg]; exact Nat.ne_of_lt (blk_lt (g := gb145) (o := .cells #[.int .i64 0, .int .i64 0, .int .i64 0] 47 (0, 0)) (by (with_reducible repeat (first | refine blk_drewN ?_ _ | refine blk_drew ?_ | refine blk_alloc ?_ _)); exact BK145.out)) : gb145 ≠ gb146))
                   have n8_ := Aside0.mk ((by rw [hg]; exact Nat.ne_of_gt (blk_lt (g := gb145) (o := .cells #[.int .i64 0, .int .i64 0, .int .i64 0] 47 (0, 0)) (by (with_reducible repeat (first | refine blk_drewN ?_ _ | refine blk_drew ?_ | refine blk_alloc ?_ _)); exact BK145.out)) : gb146 ≠ gb145))
                   clear HO_5
                   clear HO_6
                   clear BK145
                   clear HB
                   have HO_5 := n0_
                   have HO_6 := n1_
                   have BK145 := n2_
                   have HB := n3_
                   have BK146 := n4_
                   have GW146 := n5_
                   have GE146 := n6_
                   have NB145_146 := n7_
                   have NB146_145 := n8_
                   clear n0_ n1_ n2_ n3_ n4_ n5_ n6_ n7_ n8_
                   clear hb hbox hg
                   refine hK.out _ _ ⟨HS0_, ((HB.out.cell (World.block_lt_of_cell? w _ hw143_0)).trans hw143_0), ((HB.out.cell (World.block_lt_of_cell? w _ hw143_1)).trans hw143_1), ((HB.out.cell (World.block_lt_of_cell? w _ hw143_2)).trans hw143_2), ((HB.out.cell (World.block_lt_of_cell? w _ hw144_0)).trans hw144_0), ((HB.out.cell (World.block_lt_of_cell? w _ hw144_1)).trans hw144_1), ((HB.out.cell (World.block_lt_of_cell? w _ hw144_2)).trans hw144_2)⟩ (fun hHeld => ?_)
                   clear hK K
                   refine norm_ (a' := ?_) ?_ ?_
                   rotate_left
                   ·show Act.put _ (some 16) _ = _
                    simp only [Act.put, List.setIfInBounds_toArray, List.set_cons_zero, List.set_cons_succ, i64_w, i32_w]
                    rfl
                   exact norm_ (by simp only [putAll, Act.put, List.setIfInBounds_toArray, List.set_cons_zero, List.set_cons_succ]) (hCont (gb145, gb146) _ ⟨hHeld, (by (with_reducible repeat (first | apply Kd.R_alloc | apply Kd.R_drewN | apply Kd.R_drew)); exact HO_5.out), (by (with_reducible repeat (first | apply Kd.R_alloc | apply Kd.R_drewN | apply Kd.R_drew)); exact HO_6.out), (by (with_reducible repeat (first | refine blk_drewN ?_ _ | refine blk_drew ?_ | refine blk_alloc ?_ _)); exact BK145.out), (by (with_reducible repeat (first | refine blk_drewN ?_ _ | refine blk_drew ?_ | refine blk_alloc ?_ _)); exact BK146.out), GW145.out, GE145.out, NB146_145.out, NB145_146.out, GW146.out, GE146.out, (by repeat (first | (with_reducible first | exact HB.out | apply below_alloc | apply pw_below_drewN | apply below_drew1 | refine below_set ?_ GE145.out | refine below_set ?_ GE146.out) | exact HB.out))⟩)
                  ·skip
                   refine box_step ?hg (N := 16) ?hd (cs := #[.int .i64 0, .int .i64 0, .int .i64 0]) (t := 47) ?hr ?_; (case hd => rfl); (case hg => rfl); (case hr => first | (go_simp; done) | (go_simp; rfl))
                   intro gb146 hg w63 hbox hb
                   have HS0_ := (hb.cell (World.block_lt_of_cell? _ _ (hHeld.1))).trans (hHeld.1)
                   have n0_ := Aside0.mk (Kd.R_below (by (with_reducible repeat (first | apply Kd.R_alloc | apply Kd.R_drewN | apply Kd.R_drew)); exact HO_5.out) hb)
                   have n1_ := Aside0.mk (Kd.R_below (by (with_reducible repeat (first | apply Kd.R_alloc | apply Kd.R_drewN | apply Kd.R_drew)); exact HO_6.out) hb)
                   have n2_ := Aside0.mk (below_step (by repeat (first | (with_reducible first | exact HB.out | apply below_alloc | apply pw_below_drewN | apply below_drew1) | exact HB.out)) hb)
                   have n3_ := Aside0.mk (hbox)
                   have n4_ := Aside0.mk ((by rw [hg]; exact (below_size (by repeat (first | (with_reducible first | exact HB.out | apply below_alloc | apply pw_below_drewN | apply below_drew1) | exact HB.out))) : w.heap.size ≤ gb146))
                   have n5_ := Aside0.mk ((by rw [hg]; exact (below_size (by repeat (first | (with_reducible first | exact HB.out | apply below_alloc | apply pw_below_drewN | apply below_drew1) | exact HB.out))) : w.heap.size ≤ gb146))
                   clear HO_5
                   clear HO_6
                   clear HB
                   have HO_5 := n0_
                   have HO_6 := n1_
                   have HB := n2_
                   have BK146 := n3_
                   have GW146 := n4_
                   have GE146 := n5_
                   clear n0_ n1_ n2_ n3_ n4_ n5_
                   clear hb hbox hg
                   refine hK.out _ _ ⟨HS0_, ((HB.out.cell (World.block_lt_of_cell? w _ hw143_0)).trans hw143_0), ((HB.out.cell (World.block_lt_of_cell? w _ hw143_1)).trans hw143_1), ((HB.out.cell (World.block_lt_of_cell? w _ hw143_2)).trans hw143_2), ((HB.out.cell (World.block_lt_of_cell? w _ hw144_0)).trans hw144_0), ((HB.out.cell (World.block_lt_of_cell? w _ hw144_1)).trans hw144_1), ((HB.out.cell (World.block_lt_of_cell? w _ hw144_2)).trans hw144_2)⟩ (fun hHeld => ?_)
                   clear hK K
                   refine norm_ (a' := ?_) ?_ ?_
                   rotate_left
                   ·show Act.put _ (some 16) _ = _
                    simp only [Act.put, List.setIfInBounds_toArray, List.set_cons_zero, List.set_cons_succ, i64_w, i32_w]
                    rfl
                   refine one_ (i := 11) (N := some 15) #[T,T,T,T,T,T,T,T,T,T,T,T,T,F,F] rfl rfl (one_of HT_.out (by kernel_rfl)) (by decide) (fun K hK => ?_)
                   refine box_step ?hg (N := 15) ?hd (cs := #[.int .i64 0, .int .i64 0, .int .i64 0]) (t := 47) ?hr ?_; (case hd => rfl); (case hg => rfl); (case hr => first | (go_simp; done) | (go_simp; rfl))
                   intro gb145 hg w64 hbox hb
                   have HS0_ := (hb.cell (World.block_lt_of_cell? _ _ (hHeld.1))).trans (hHeld.1)
                   have n0_ := Aside0.mk (Kd.R_below (by (with_reducible repeat (first | apply Kd.R_alloc | apply Kd.R_drewN | apply Kd.R_drew)); exact HO_5.out) hb)
                   have n1_ := Aside0.mk (Kd.R_below (by (with_reducible repeat (first | apply Kd.R_alloc | apply Kd.R_drewN | apply Kd.R_drew)); exact HO_6.out) hb)
                   have n2_ := Aside0.mk (blk_below (g := gb146) (o := .cells #[.int .i64 0, .int .i64 0, .int .i64 0] 47 (0, 0)) (by (with_reducible repeat (first | refine blk_drewN ?_ _ | refine blk_drew ?_ | refine blk_alloc ?_ _)); exact BK146.out) hb)
                   have n3_ := Aside0.mk (below_step (by repeat (first | (with_reducible first | exact HB.out | apply below_alloc | apply pw_below_drewN | apply below_drew1 | refine below_set ?_ GE146.out) | exact HB.out)) hb)
                   have n4_ := Aside0.mk (hbox)
                   have n5_ := Aside0.mk ((by rw [hg]; exact (below_size (by repeat (first | (with_reducible first | exact HB.out | apply below_alloc | apply pw_below_drewN | apply below_drew1 | refine below_set ?_ GE146.out) | exact HB.out))) : w.heap.size ≤ gb145))
                   have n6_ := Aside0.mk ((by rw [hg]; exact (below_size (by repeat (first | (with_reducible first | exact HB.out | apply below_alloc | apply pw_below_drewN | apply below_drew1 | refine below_set ?_ GE146.out) | exact HB.out))) : w.heap.size ≤ gb145))
                   have n7_ := Aside0.mk ((by rw [hg]; exact Nat.ne_of_lt (blk_lt (g := gb146) (o := .cells #[.int .i64 0, .int .i64 0, .int .i64 0] 47 (0, 0)) (by (with_reducible repeat (first | refine blk_drewN ?_ _ | refine blk_drew ?_ | refine blk_alloc ?_ _)); exact BK146.out)) : gb146 ≠ gb145))
                   have n8_ := Aside0.mk ((by rw [hg]; exact Nat.ne_of_gt (blk_lt (g := gb146) (o := .cells #[.int .i64 0, .int .i64 0, .int .i64 0] 47 (0, 0)) (by (with_reducible repeat (first | refine blk_drewN ?_ _ | refine blk_drew ?_ | refine blk_alloc ?_ _)); exact BK146.out)) : gb145 ≠ gb146))
                   clear HO_5
                   clear HO_6
                   clear BK146
                   clear HB
                   have HO_5 := n0_
                   have HO_6 := n1_
                   have BK146 := n2_
                   have HB := n3_
                   have BK145 := n4_
                   have GW145 := n5_
                   have GE145 := n6_
                   have NB146_145 := n7_
                   have NB145_146 := n8_
                   clear n0_ n1_ n2_ n3_ n4_ n5_ n6_ n7_ n8_
                   clear hb hbox hg
                   refine hK.out _ _ ⟨HS0_, ((HB.out.cell (World.block_lt_of_cell? w _ hw143_0)).trans hw143_0), ((HB.out.cell (World.block_lt_of_cell? w _ hw143_1)).trans hw143_1), ((HB.out.cell (World.block_lt_of_cell? w _ hw143_2)).trans hw143_2), ((HB.out.cell (World.block_lt_of_cell? w _ hw144_0)).trans hw144_0), ((HB.out.cell (World.block_lt_of_cell? w _ hw144_1)).trans hw144_1), ((HB.out.cell (World.block_lt_of_cell? w _ hw144_2)).trans hw144_2)⟩ (fun hHeld => ?_)
                   clear hK K
                   refine norm_ (a' := ?_) ?_ ?_
                   rotate_left
                   ·show Act.put _ (some 15) _ = _
                    simp only [Act.put, List.setIfInBounds_toArray, List.set_cons_zero, List.set_cons_succ, i64_w, i32_w]
                    rfl
                   exact norm_ (by simp only [putAll, Act.put, List.setIfInBounds_toArray, List.set_cons_zero, List.set_cons_succ]) (hCont (gb145, gb146) _ ⟨hHeld, (by (with_reducible repeat (first | apply Kd.R_alloc | apply Kd.R_drewN | apply Kd.R_drew)); exact HO_5.out), (by (with_reducible repeat (first | apply Kd.R_alloc | apply Kd.R_drewN | apply Kd.R_drew)); exact HO_6.out), (by (with_reducible repeat (first | refine blk_drewN ?_ _ | refine blk_drew ?_ | refine blk_alloc ?_ _)); exact BK145.out), (by (with_reducible repeat (first | refine blk_drewN ?_ _ | refine blk_drew ?_ | refine blk_alloc ?_ _)); exact BK146.out), GW145.out, GE145.out, NB146_145.out, NB145_146.out, GW146.out, GE146.out, (by repeat (first | (with_reducible first | exact HB.out | apply below_alloc | apply pw_below_drewN | apply below_drew1 | refine below_set ?_ GE146.out | refine below_set ?_ GE145.out) | exact HB.out))⟩)
                 rintro ⟨gb145, gb146⟩ w65 ⟨hS_, h0_, h1_, h2_, h3_, h4_, h5_, h6_, h7_, h8_, h9_, h10_⟩
                 have n0_ : Aside0 (Kd.R k38 38 w65 w.heap.size (fun _ => True) (.slice (some ⟨go23, 0, none⟩) y133.length co23) y133) := ⟨h0_⟩
                 have n1_ : Aside0 (Kd.R (Kd.int .i64) 3 w65 w.heap.size (fun _ => True) (.slice (some ad142) x6_3.length co19) x6_3) := ⟨h1_⟩
                 have n2_ : Aside0 (w65.heap[gb145]? = some (.cells #[.int .i64 0, .int .i64 0, .int .i64 0] 47 (0, 0))) := ⟨h2_⟩
                 have n3_ : Aside0 (w65.heap[gb146]? = some (.cells #[.int .i64 0, .int .i64 0, .int .i64 0] 47 (0, 0))) := ⟨h3_⟩
                 have n4_ : Aside0 (w.heap.size ≤ gb145) := ⟨h4_⟩
                 have n5_ : Aside0 (w.heap.size ≤ gb145) := ⟨h5_⟩
                 have n6_ : Aside0 (gb146 ≠ gb145) := ⟨h6_⟩
                 have n7_ : Aside0 (gb145 ≠ gb146) := ⟨h7_⟩
                 have n8_ : Aside0 (w.heap.size ≤ gb146) := ⟨h8_⟩
                 have n9_ : Aside0 (w.heap.size ≤ gb146) := ⟨h9_⟩
                 have n10_ : Aside0 (Below w.heap.size w w65) := ⟨h10_⟩
                 clear HO_5
                 clear HO_6
                 clear HB
                 clear h0_ h1_ h2_ h3_ h4_ h5_ h6_ h7_ h8_ h9_ h10_
                 have HO_5 := n0_
                 have HO_6 := n1_
                 have BK145 := n2_
                 have BK146 := n3_
                 have GW145 := n4_
                 have GE145 := n5_
                 have NB146_145 := n6_
                 have NB145_146 := n7_
                 have GW146 := n8_
                 have GE146 := n9_
                 have HB := n10_
                 clear n0_ n1_ n2_ n3_ n4_ n5_ n6_ n7_ n8_ n9_ n10_
                 have hHeld : w65.cell? (ad142.add (x14_5).toNat) = some (.int .i64 (rd x6_3 x14_5)) ∧ w65.cell? (ad132.add (((rd x6_3 x14_5)).toNat * 3)) = some (.int .i64 ((rd_T47 l0 (rd x6_3 x14_5)).f0)) ∧ w65.cell? ⟨(ad132.add (((rd x6_3 x14_5)).toNat * 3)).block, (ad132.add (((rd x6_3 x14_5)).toNat * 3)).off + 1, none⟩ = some (.int .i64 ((rd_T47 l0 (rd x6_3 x14_5)).f1)) ∧ w65.cell? ⟨(ad132.add (((rd x6_3 x14_5)).toNat * 3)).block, (ad132.add (((rd x6_3 x14_5)).toNat * 3)).off + 2, none⟩ = some (.int .i64 ((rd_T47 l0 (rd x6_3 x14_5)).f2)) ∧ w65.cell? (ad132.add ((x13_5).toNat * 3)) = some (.int .i64 ((rd_T47 l0 x13_5).f0)) ∧ w65.cell? ⟨(ad132.add ((x13_5).toNat * 3)).block, (ad132.add ((x13_5).toNat * 3)).off + 1, none⟩ = some (.int .i64 ((rd_T47 l0 x13_5).f1)) ∧ w65.cell? ⟨(ad132.add ((x13_5).toNat * 3)).block, (ad132.add ((x13_5).toNat * 3)).off + 2, none⟩ = some (.int .i64 ((rd_T47 l0 x13_5).f2)) := hS_
                 refine norm_ (a' := ?_) ?_ ?_
                 rotate_left
                 ·simp only [putAll, Act.put, List.setIfInBounds_toArray, List.set_cons_zero, List.set_cons_succ]
                  rfl
                 refine one_ (i := 13) (N := none) #[T,T,T,T,T,T,T,T,T,T,T,T,T,T,F] rfl rfl (one_of HT_.out (by kernel_rfl)) (by decide) (fun K hK => ?_)
                 have hs66 : w65.cell? ⟨gb145, 0, none⟩ = some (.int .i64 0) := (blk_cell BK145.out 0).trans rfl
                 have hfs66 := blk_frozen BK145.out 0
                 have hns66_1 := NB146_145.out
                 have hms66_1 := NB145_146.out
                 have hs67 : w65.cell? ⟨gb145, 1, none⟩ = some (.int .i64 0) := (blk_cell BK145.out 1).trans rfl
                 have hfs67 := blk_frozen BK145.out 1
                 have hns67_1 := NB146_145.out
                 have hms67_1 := NB145_146.out
                 have hs68 : w65.cell? ⟨gb145, 2, none⟩ = some (.int .i64 0) := (blk_cell BK145.out 2).trans rfl
                 have hfs68 := blk_frozen BK145.out 2
                 have hns68_1 := NB146_145.out
                 have hms68_1 := NB145_146.out
                 refine skip_ (w1 := ?_) (by rfl) rfl ?_ ?_
                 rotate_left
                 ·go_simp
                  rfl
                 refine hK.out _ _ ⟨((cell_far (p := ⟨gb145, _, none⟩) (by first | exact Kd.own_blk (Kd.R_ne HO_6.out BK145.out (by decide)) | (rw [add_block]; exact Kd.own_blk (Kd.R_ne HO_6.out BK145.out (by decide))) | (show (Addr.add _ _).block ≠ _; rw [add_block]; exact Kd.own_blk (Kd.R_ne HO_6.out BK145.out (by decide))) | (dsimp only; exact Kd.own_blk (Kd.R_ne HO_6.out BK145.out (by decide)))) _).trans (((cell_far (p := ⟨gb145, _, none⟩) (by first | exact Kd.own_blk (Kd.R_ne HO_6.out BK145.out (by decide)) | (rw [add_block]; exact Kd.own_blk (Kd.R_ne HO_6.out BK145.out (by decide))) | (show (Addr.add _ _).block ≠ _; rw [add_block]; exact Kd.own_blk (Kd.R_ne HO_6.out BK145.out (by decide))) | (dsimp only; exact Kd.own_blk (Kd.R_ne HO_6.out BK145.out (by decide)))) _).trans (((cell_far (p := ⟨gb145, _, none⟩) (by first | exact Kd.own_blk (Kd.R_ne HO_6.out BK145.out (by decide)) | (rw [add_block]; exact Kd.own_blk (Kd.R_ne HO_6.out BK145.out (by decide))) | (show (Addr.add _ _).block ≠ _; rw [add_block]; exact Kd.own_blk (Kd.R_ne HO_6.out BK145.out (by decide))) | (dsimp only; exact Kd.own_blk (Kd.R_ne HO_6.out BK145.out (by decide)))) _).trans (hHeld.1)))))), ((cell_far (p := ⟨gb145, _, none⟩) (Nat.ne_of_lt (Nat.lt_of_lt_of_le (World.block_lt_of_cell? _ _ hw143_0) GW145.out)) _).trans (((cell_far (p := ⟨gb145, _, none⟩) (Nat.ne_of_lt (Nat.lt_of_lt_of_le (World.block_lt_of_cell? _ _ hw143_0) GW145.out)) _).trans (((cell_far (p := ⟨gb145, _, none⟩) (Nat.ne_of_lt (Nat.lt_of_lt_of_le (World.block_lt_of_cell? _ _ hw143_0) GW145.out)) _).trans (hHeld.2.1)))))), ((cell_far (p := ⟨gb145, _, none⟩) (Nat.ne_of_lt (Nat.lt_of_lt_of_le (World.block_lt_of_cell? _ _ hw143_1) GW145.out)) _).trans (((cell_far (p := ⟨gb145, _, none⟩) (Nat.ne_of_lt (Nat.lt_of_lt_of_le (World.block_lt_of_cell? _ _ hw143_1) GW145.out)) _).trans (((cell_far (p := ⟨gb145, _, none⟩) (Nat.ne_of_lt (Nat.lt_of_lt_of_le (World.block_lt_of_cell? _ _ hw143_1) GW145.out)) _).trans (hHeld.2.2.1)))))), ((cell_far (p := ⟨gb145, _, none⟩) (Nat.ne_of_lt (Nat.lt_of_lt_of_le (World.block_lt_of_cell? _ _ hw143_2) GW145.out)) _).trans (((cell_far (p := ⟨gb145, _, none⟩) (Nat.ne_of_lt (Nat.lt_of_lt_of_le (World.block_lt_of_cell? _ _ hw143_2) GW145.out)) _).trans (((cell_far (p := ⟨gb145, _, none⟩) (Nat.ne_of_lt (Nat.lt_of_lt_of_le (World.block_lt_of_cell? _ _ hw143_2) GW145.out)) _).trans (hHeld.2.2.2.1)))))), ((cell_far (p := ⟨gb145, _, none⟩) (Nat.ne_of_lt (Nat.lt_of_lt_of_le (World.block_lt_of_cell? _ _ hw144_0) GW145.out)) _).trans (((cell_far (p := ⟨gb145, _, none⟩) (Nat.ne_of_lt (Nat.lt_of_lt_of_le (World.block_lt_of_cell? _ _ hw144_0) GW145.out)) _).trans (((cell_far (p := ⟨gb145, _, none⟩) (Nat.ne_of_lt (Nat.lt_of_lt_of_le (World.block_lt_of_cell? _ _ hw144_0) GW145.out)) _).trans (hHeld.2.2.2.2.1)))))), ((cell_far (p := ⟨gb145, _, none⟩) (Nat.ne_of_lt (Nat.lt_of_lt_of_le (World.block_lt_of_cell? _ _ hw144_1) GW145.out)) _).trans (((cell_far (p := ⟨gb145, _, none⟩) (Nat.ne_of_lt (Nat.lt_of_lt_of_le (World.block_lt_of_cell? _ _ hw144_1) GW145.out)) _).trans (((cell_far (p := ⟨gb145, _, none⟩) (Nat.ne_of_lt (Nat.lt_of_lt_of_le (World.block_lt_of_cell? _ _ hw144_1) GW145.out)) _).trans (hHeld.2.2.2.2.2.1)))))), ((cell_far (p := ⟨gb145, _, none⟩) (Nat.ne_of_lt (Nat.lt_of_lt_of_le (World.block_lt_of_cell? _ _ hw144_2) GW145.out)) _).trans (((cell_far (p := ⟨gb145, _, none⟩) (Nat.ne_of_lt (Nat.lt_of_lt_of_le (World.block_lt_of_cell? _ _ hw144_2) GW145.out)) _).trans (((cell_far (p := ⟨gb145, _, none⟩) (Nat.ne_of_lt (Nat.lt_of_lt_of_le (World.block_lt_of_cell? _ _ hw144_2) GW145.out)) _).trans (hHeld.2.2.2.2.2.2))))))⟩ (fun hHeld => ?_)
                 clear hK K
                 refine one_ (i := 14) (N := none) #[T,T,T,T,T,T,T,T,T,T,T,T,T,T,T] rfl rfl (one_of HT_.out (by kernel_rfl)) (by decide) (fun K hK => ?_)
                 have hs69 : w65.cell? ⟨gb146, 0, none⟩ = some (.int .i64 0) := (blk_cell BK146.out 0).trans rfl
                 have hfs69 := blk_frozen BK146.out 0
                 have hns69_0 := NB145_146.out
                 have hms69_0 := NB146_145.out
                 have hs70 : w65.cell? ⟨gb146, 1, none⟩ = some (.int .i64 0) := (blk_cell BK146.out 1).trans rfl
                 have hfs70 := blk_frozen BK146.out 1
                 have hns70_0 := NB145_146.out
                 have hms70_0 := NB146_145.out
                 have hs71 : w65.cell? ⟨gb146, 2, none⟩ = some (.int .i64 0) := (blk_cell BK146.out 2).trans rfl
                 have hfs71 := blk_frozen BK146.out 2
                 have hns71_0 := NB145_146.out
                 have hms71_0 := NB146_145.out
                 refine skip_ (w1 := ?_) (by rfl) rfl ?_ ?_
                 rotate_left
                 ·go_simp
                  rfl
                 refine hK.out _ _ ⟨((cell_far (p := ⟨gb146, _, none⟩) (by first | exact Kd.own_blk (Kd.R_ne HO_6.out BK146.out (by decide)) | (rw [add_block]; exact Kd.own_blk (Kd.R_ne HO_6.out BK146.out (by decide))) | (show (Addr.add _ _).block ≠ _; rw [add_block]; exact Kd.own_blk (Kd.R_ne HO_6.out BK146.out (by decide))) | (dsimp only; exact Kd.own_blk (Kd.R_ne HO_6.out BK146.out (by decide)))) _).trans (((cell_far (p := ⟨gb146, _, none⟩) (by first | exact Kd.own_blk (Kd.R_ne HO_6.out BK146.out (by decide)) | (rw [add_block]; exact Kd.own_blk (Kd.R_ne HO_6.out BK146.out (by decide))) | (show (Addr.add _ _).block ≠ _; rw [add_block]; exact Kd.own_blk (Kd.R_ne HO_6.out BK146.out (by decide))) | (dsimp only; exact Kd.own_blk (Kd.R_ne HO_6.out BK146.out (by decide)))) _).trans (((cell_far (p := ⟨gb146, _, none⟩) (by first | exact Kd.own_blk (Kd.R_ne HO_6.out BK146.out (by decide)) | (rw [add_block]; exact Kd.own_blk (Kd.R_ne HO_6.out BK146.out (by decide))) | (show (Addr.add _ _).block ≠ _; rw [add_block]; exact Kd.own_blk (Kd.R_ne HO_6.out BK146.out (by decide))) | (dsimp only; exact Kd.own_blk (Kd.R_ne HO_6.out BK146.out (by decide)))) _).trans (hHeld.1)))))), ((cell_far (p := ⟨gb146, _, none⟩) (Nat.ne_of_lt (Nat.lt_of_lt_of_le (World.block_lt_of_cell? _ _ hw143_0) GW146.out)) _).trans (((cell_far (p := ⟨gb146, _, none⟩) (Nat.ne_of_lt (Nat.lt_of_lt_of_le (World.block_lt_of_cell? _ _ hw143_0) GW146.out)) _).trans (((cell_far (p := ⟨gb146, _, none⟩) (Nat.ne_of_lt (Nat.lt_of_lt_of_le (World.block_lt_of_cell? _ _ hw143_0) GW146.out)) _).trans (hHeld.2.1)))))), ((cell_far (p := ⟨gb146, _, none⟩) (Nat.ne_of_lt (Nat.lt_of_lt_of_le (World.block_lt_of_cell? _ _ hw143_1) GW146.out)) _).trans (((cell_far (p := ⟨gb146, _, none⟩) (Nat.ne_of_lt (Nat.lt_of_lt_of_le (World.block_lt_of_cell? _ _ hw143_1) GW146.out)) _).trans (((cell_far (p := ⟨gb146, _, none⟩) (Nat.ne_of_lt (Nat.lt_of_lt_of_le (World.block_lt_of_cell? _ _ hw143_1) GW146.out)) _).trans (hHeld.2.2.1)))))), ((cell_far (p := ⟨gb146, _, none⟩) (Nat.ne_of_lt (Nat.lt_of_lt_of_le (World.block_lt_of_cell? _ _ hw143_2) GW146.out)) _).trans (((cell_far (p := ⟨gb146, _, none⟩) (Nat.ne_of_lt (Nat.lt_of_lt_of_le (World.block_lt_of_cell? _ _ hw143_2) GW146.out)) _).trans (((cell_far (p := ⟨gb146, _, none⟩) (Nat.ne_of_lt (Nat.lt_of_lt_of_le (World.block_lt_of_cell? _ _ hw143_2) GW146.out)) _).trans (hHeld.2.2.2.1)))))), ((cell_far (p := ⟨gb146, _, none⟩) (Nat.ne_of_lt (Nat.lt_of_lt_of_le (World.block_lt_of_cell? _ _ hw144_0) GW146.out)) _).trans (((cell_far (p := ⟨gb146, _, none⟩) (Nat.ne_of_lt (Nat.lt_of_lt_of_le (World.block_lt_of_cell? _ _ hw144_0) GW146.out)) _).trans (((cell_far (p := ⟨gb146, _, none⟩) (Nat.ne_of_lt (Nat.lt_of_lt_of_le (World.block_lt_of_cell? _ _ hw144_0) GW146.out)) _).trans (hHeld.2.2.2.2.1)))))), ((cell_far (p := ⟨gb146, _, none⟩) (Nat.ne_of_lt (Nat.lt_of_lt_of_le (World.block_lt_of_cell? _ _ hw144_1) GW146.out)) _).trans (((cell_far (p := ⟨gb146, _, none⟩) (Nat.ne_of_lt (Nat.lt_of_lt_of_le (World.block_lt_of_cell? _ _ hw144_1) GW146.out)) _).trans (((cell_far (p := ⟨gb146, _, none⟩) (Nat.ne_of_lt (Nat.lt_of_lt_of_le (World.block_lt_of_cell? _ _ hw144_1) GW146.out)) _).trans (hHeld.2.2.2.2.2.1)))))), ((cell_far (p := ⟨gb146, _, none⟩) (Nat.ne_of_lt (Nat.lt_of_lt_of_le (World.block_lt_of_cell? _ _ hw144_2) GW146.out)) _).trans (((cell_far (p := ⟨gb146, _, none⟩) (Nat.ne_of_lt (Nat.lt_of_lt_of_le (World.block_lt_of_cell? _ _ hw144_2) GW146.out)) _).trans (((cell_far (p := ⟨gb146, _, none⟩) (Nat.ne_of_lt (Nat.lt_of_lt_of_le (World.block_lt_of_cell? _ _ hw144_2) GW146.out)) _).trans (hHeld.2.2.2.2.2.2))))))⟩ (fun hHeld => ?_)
                 clear hK K
                 refine done_ (done_of HT_.out (by kernel_rfl)) ?_
                 have hnb72 := NB145_146.out
                 have hnc72 := NB146_145.out
                 have hcz73_0 : w65.cell? ⟨gb145, 0, none⟩ = some (.int .i64 0) := (blk_cell BK145.out 0).trans rfl
                 have hcz73_1 : w65.cell? ⟨gb145, 1, none⟩ = some (.int .i64 0) := (blk_cell BK145.out 1).trans rfl
                 have hcz73_2 : w65.cell? ⟨gb145, 2, none⟩ = some (.int .i64 0) := (blk_cell BK145.out 2).trans rfl
                 have hfz73_0 := blk_frozen BK145.out 0
                 have hfz73_1 := blk_frozen BK145.out 1
                 have hfz73_2 := blk_frozen BK145.out 2
                 have hcz74_0 : w65.cell? ⟨gb146, 0, none⟩ = some (.int .i64 0) := (blk_cell BK146.out 0).trans rfl
                 have hcz74_1 : w65.cell? ⟨gb146, 1, none⟩ = some (.int .i64 0) := (blk_cell BK146.out 1).trans rfl
                 have hcz74_2 : w65.cell? ⟨gb146, 2, none⟩ = some (.int .i64 0) := (blk_cell BK146.out 2).trans rfl
                 have hfz74_0 := blk_frozen BK146.out 0
                 have hfz74_1 := blk_frozen BK146.out 1
                 have hfz74_2 := blk_frozen BK146.out 2
                 have p147 : 0 ≤ (x14_5 : Int) := of_decide_eq_true (by first | (with_reducible assumption) | assumption)
                 have q147 : x14_5 < (x6_3.length : Int) := of_decide_eq_true (by first | (with_reducible assumption) | assumption)
                 obtain ⟨ad147, e147, hx147_0⟩ := Kd.at_int (Kd.R_reads' HO_6.out).2.2 x14_5 p147 q147
                 obtain rfl : ad142 = ad147 := (by injection e147)
                 have hn147_0 : ad142.block ≠ gb145 := Kd.own_blk (Kd.R_ne HO_6.out BK145.out (by decide))
                 have hn147_1 : ad142.block ≠ gb145 := Kd.own_blk (Kd.R_ne HO_6.out BK145.out (by decide))
                 have hn147_2 : ad142.block ≠ gb145 := Kd.own_blk (Kd.R_ne HO_6.out BK145.out (by decide))
                 have hn147_3 : ad142.block ≠ gb146 := Kd.own_blk (Kd.R_ne HO_6.out BK146.out (by decide))
                 have hn147_4 : ad142.block ≠ gb146 := Kd.own_blk (Kd.R_ne HO_6.out BK146.out (by decide))
                 have hn147_5 : ad142.block ≠ gb146 := Kd.own_blk (Kd.R_ne HO_6.out BK146.out (by decide))
                 replace hx147_0 := (cell_far (p := ⟨gb145, 0, none⟩) (by first | (rw [add_block]; exact hn147_0) | (show (Addr.add _ _).block ≠ _; rw [add_block]; exact hn147_0) | exact hn147_0) (.int .i64 ((rd_T47 l0 (rd x6_3 x14_5)).f0))).trans hx147_0
                 replace hx147_0 := (cell_far (p := ⟨gb145, 1, none⟩) (by first | (rw [add_block]; exact hn147_1) | (show (Addr.add _ _).block ≠ _; rw [add_block]; exact hn147_1) | exact hn147_1) (.int .i64 ((rd_T47 l0 (rd x6_3 x14_5)).f1))).trans hx147_0
                 replace hx147_0 := (cell_far (p := ⟨gb145, 2, none⟩) (by first | (rw [add_block]; exact hn147_2) | (show (Addr.add _ _).block ≠ _; rw [add_block]; exact hn147_2) | exact hn147_2) (.int .i64 ((rd_T47 l0 (rd x6_3 x14_5)).f2))).trans hx147_0
                 replace hx147_0 := (cell_far (p := ⟨gb146, 0, none⟩) (by first | (rw [add_block]; exact hn147_3) | (show (Addr.add _ _).block ≠ _; rw [add_block]; exact hn147_3) | exact hn147_3) (.int .i64 ((rd_T47 l0 x13_5).f0))).trans hx147_0
                 replace hx147_0 := (cell_far (p := ⟨gb146, 1, none⟩) (by first | (rw [add_block]; exact hn147_4) | (show (Addr.add _ _).block ≠ _; rw [add_block]; exact hn147_4) | exact hn147_4) (.int .i64 ((rd_T47 l0 x13_5).f1))).trans hx147_0
                 replace hx147_0 := (cell_far (p := ⟨gb146, 2, none⟩) (by first | (rw [add_block]; exact hn147_5) | (show (Addr.add _ _).block ≠ _; rw [add_block]; exact hn147_5) | exact hn147_5) (.int .i64 ((rd_T47 l0 x13_5).f2))).trans hx147_0
                 clear hn147_0
                 clear hn147_1
                 clear hn147_2
                 clear hn147_3
                 clear hn147_4
                 clear hn147_5
                 replace p147 := eq_true p147
                 replace q147 := eq_true q147
                 try go_wp2
                 go_roundg k5
                 case measure => have := HK1.out; have := HK2.out; have := HK3.out; have := HK4.out; have := HK5.out; omega
                 case rel => exact ⟨(rd x6_3 x14_5), (wrap64 (x14_5 + 1)), (by first | rfl | (simp; done) | (simp [*]; done)), (by first | rfl | (simp; done) | (simp [*]; done)), H', ⟨by have := HK1.out; have := HK2.out; have := HK3.out; have := HK4.out; have := HK5.out; omega⟩, ⟨by (try simp only [hl6_2]); (try simp only [hl5_3]); (try simp only [hl6_3]); (with_reducible repeat (first | apply Kd.R_alloc | apply Kd.R_drewN | apply Kd.R_drew)); exact Kd.R_mono (Kd.R_far (p := ⟨gb146, 2, none⟩) (Kd.R_far (p := ⟨gb146, 1, none⟩) (Kd.R_far (p := ⟨gb146, 0, none⟩) (Kd.R_far (p := ⟨gb145, 2, none⟩) (Kd.R_far (p := ⟨gb145, 1, none⟩) (Kd.R_far (p := ⟨gb145, 0, none⟩) (Kd.R_types (Kd.R_types HO_5.out BK145.out (by decide)) BK146.out (by decide)) (fun _ hk => hk.1.2) (.int .i64 ((rd_T47 l0 (rd x6_3 x14_5)).f0))) (fun _ hk => hk.1.2) (.int .i64 ((rd_T47 l0 (rd x6_3 x14_5)).f1))) (fun _ hk => hk.1.2) (.int .i64 ((rd_T47 l0 (rd x6_3 x14_5)).f2))) (fun _ hk => hk.2) (.int .i64 ((rd_T47 l0 x13_5).f0))) (fun _ hk => hk.2) (.int .i64 ((rd_T47 l0 x13_5).f1))) (fun _ hk => hk.2) (.int .i64 ((rd_T47 l0 x13_5).f2))) (fun _ hk => trivial)⟩, ⟨by (try simp only [hl6_2]); (try simp only [hl5_3]); (try simp only [hl6_3]); (with_reducible repeat (first | apply Kd.R_alloc | apply Kd.R_drewN | apply Kd.R_drew)); exact Kd.R_mono (Kd.R_far (p := ⟨gb146, 2, none⟩) (Kd.R_far (p := ⟨gb146, 1, none⟩) (Kd.R_far (p := ⟨gb146, 0, none⟩) (Kd.R_far (p := ⟨gb145, 2, none⟩) (Kd.R_far (p := ⟨gb145, 1, none⟩) (Kd.R_far (p := ⟨gb145, 0, none⟩) (Kd.R_types (Kd.R_types HO_6.out BK145.out (by decide)) BK146.out (by decide)) (fun _ hk => hk.1.2) (.int .i64 ((rd_T47 l0 (rd x6_3 x14_5)).f0))) (fun _ hk => hk.1.2) (.int .i64 ((rd_T47 l0 (rd x6_3 x14_5)).f1))) (fun _ hk => hk.1.2) (.int .i64 ((rd_T47 l0 (rd x6_3 x14_5)).f2))) (fun _ hk => hk.2) (.int .i64 ((rd_T47 l0 x13_5).f0))) (fun _ hk => hk.2) (.int .i64 ((rd_T47 l0 x13_5).f1))) (fun _ hk => hk.2) (.int .i64 ((rd_T47 l0 x13_5).f2))) (fun _ hk => trivial)⟩, ⟨by repeat (first | (with_reducible first | exact HB.out | apply below_alloc | apply pw_below_drewN | apply below_drew1 | refine below_set ?_ GE145.out | refine below_set ?_ GE146.out) | exact HB.out)⟩⟩
                ·rw [if_neg c61] at H
                 have c61b0 : decide (((rd_T47 l0 x13_5).f2) < ((rd_T47 l0 (rd x6_3 x14_5)).f2)) = false := decide_eq_false c61
                 clear c61
                 by_cases c75 : ((rd_T47 l0 (rd x6_3 x14_5)).f2) = ((rd_T47 l0 x13_5).f2)
                 ·rw [if_pos c75] at H
                  have c75b0 : (((rd_T47 l0 (rd x6_3 x14_5)).f2) == ((rd_T47 l0 x13_5).f2)) = true := beq_iff_eq.mpr c75
                  have c75b1 : (((rd_T47 l0 (rd x6_3 x14_5)).f2) != ((rd_T47 l0 x13_5).f2)) = false := bne_eq_false_iff_eq.mpr c75
                  clear c75
                  by_cases c76 : ((rd_T47 l0 (rd x6_3 x14_5)).f0) > ((rd_T47 l0 x13_5).f0)
                  ·rw [if_pos c76] at H
                   have c76b0 : decide (((rd_T47 l0 x13_5).f0) < ((rd_T47 l0 (rd x6_3 x14_5)).f0)) = true := decide_eq_true c76
                   clear c76
                   have H' := Aside0.mk H
                   clear H
                   try go_wp2
                   have n0_ := Aside0.mk (Kd.R_drew HO_5.out)
                   have n1_ := Aside0.mk (Kd.R_drew HO_6.out)
                   have n2_ := Aside0.mk (below_drew1 HB.out)
                   clear HO_5
                   clear HO_6
                   clear HB
                   have HO_5 := n0_
                   have HO_6 := n1_
                   have HB := n2_
                   clear n0_ n1_ n2_
                   have p142 : 0 ≤ (x14_5 : Int) := of_decide_eq_true (by first | (with_reducible assumption) | assumption)
                   have q142 : x14_5 < (x6_3.length : Int) := of_decide_eq_true (by first | (with_reducible assumption) | assumption)
                   obtain ⟨ad142, e142, hx142_0⟩ := Kd.at_int (Kd.R_reads' HO_6.out).2.2 x14_5 p142 q142
                   cases e142
                   replace p142 := eq_true p142
                   replace q142 := eq_true q142
                   have p143 : 0 ≤ ((rd x6_3 x14_5) : Int) := of_decide_eq_true (by first | (with_reducible assumption) | assumption)
                   have q143 : (rd x6_3 x14_5) < (l0.length : Int) := of_decide_eq_true (by first | (with_reducible assumption) | assumption)
                   obtain ⟨ad143, e143, hx143_0, hx143_1, hx143_2⟩ := at_T47 HR0.out (rd x6_3 x14_5) p143 q143
                   have hw143_2 := hx143_2
                   have hw143_1 := hx143_1
                   have hw143_0 := hx143_0
                   obtain rfl : ad132 = ad143 := (by injection e143)
                   replace hx143_0 := (HB.out.cell (World.block_lt_of_cell? w _ hx143_0)).trans hx143_0
                   replace hx143_1 := (HB.out.cell (World.block_lt_of_cell? w _ hx143_1)).trans hx143_1
                   replace hx143_2 := (HB.out.cell (World.block_lt_of_cell? w _ hx143_2)).trans hx143_2
                   replace p143 := eq_true p143
                   replace q143 := eq_true q143
                   have p144 : 0 ≤ (x13_5 : Int) := of_decide_eq_true (by first | (with_reducible assumption) | assumption)
                   have q144 : x13_5 < (l0.length : Int) := of_decide_eq_true (by first | (with_reducible assumption) | assumption)
                   obtain ⟨ad144, e144, hx144_0, hx144_1, hx144_2⟩ := at_T47 HR0.out x13_5 p144 q144
                   have hw144_2 := hx144_2
                   have hw144_1 := hx144_1
                   have hw144_0 := hx144_0
                   obtain rfl : ad132 = ad144 := (by injection e144)
                   replace hx144_0 := (HB.out.cell (World.block_lt_of_cell? w _ hx144_0)).trans hx144_0
                   replace hx144_1 := (HB.out.cell (World.block_lt_of_cell? w _ hx144_1)).trans hx144_1
                   replace hx144_2 := (HB.out.cell (World.block_lt_of_cell? w _ hx144_2)).trans hx144_2
                   replace p144 := eq_true p144
                   replace q144 := eq_true q144
                   refine start_ (n := 15) (S := fun w' => w'.cell? (ad142.add (x14_5).toNat) = some (.int .i64 (rd x6_3 x14_5)) ∧ w'.cell? (ad132.add (((rd x6_3 x14_5)).toNat * 3)) = some (.int .i64 ((rd_T47 l0 (rd x6_3 x14_5)).f0)) ∧ w'.cell? ⟨(ad132.add (((rd x6_3 x14_5)).toNat * 3)).block, (ad132.add (((rd x6_3 x14_5)).toNat * 3)).off + 1, none⟩ = some (.int .i64 ((rd_T47 l0 (rd x6_3 x14_5)).f1)) ∧ w'.cell? ⟨(ad132.add (((rd x6_3 x14_5)).toNat * 3)).block, (ad132.add (((rd x6_3 x14_5)).toNat * 3)).off + 2, none⟩ = some (.int .i64 ((rd_T47 l0 (rd x6_3 x14_5)).f2)) ∧ w'.cell? (ad132.add ((x13_5).toNat * 3)) = some (.int .i64 ((rd_T47 l0 x13_5).f0)) ∧ w'.cell? ⟨(ad132.add ((x13_5).toNat * 3)).block, (ad132.add ((x13_5).toNat * 3)).off + 1, none⟩ = some (.int .i64 ((rd_T47 l0 x13_5).f1)) ∧ w'.cell? ⟨(ad132.add ((x13_5).toNat * 3)).block, (ad132.add ((x13_5).toNat * 3)).off + 2, none⟩ = some (.int .i64 ((rd_T47 l0 x13_5).f2))) (ds := []) #[F,F,F,F,F,F,F,F,F,F,F,F,F,F,F] (by kernel_rfl) rfl rfl ⟨hx142_0, ((HB.out.cell (World.block_lt_of_cell? w _ hw143_0)).trans hw143_0), ((HB.out.cell (World.block_lt_of_cell? w _ hw143_1)).trans hw143_1), ((HB.out.cell (World.block_lt_of_cell? w _ hw143_2)).trans hw143_2), ((HB.out.cell (World.block_lt_of_cell? w _ hw144_0)).trans hw144_0), ((HB.out.cell (World.block_lt_of_cell? w _ hw144_1)).trans hw144_1), ((HB.out.cell (World.block_lt_of_cell? w _ hw144_2)).trans hw144_2)⟩ (fun hHeld => ?_); refine with_tabW ratlineref18_Assign.tab31 ratlineref18_Assign.bits31 (fun HT_ HW_ => ?_)
                   generalize wr.drew = w77 at HO_5 HO_6 HB hx142_0 hx143_0 hx143_1 hx143_2 hx144_0 hx144_1 hx144_2 hHeld ⊢
                   refine pure_ (i := 0) (N := some 113) (v := ?_) (a' := ?_) #[T,F,F,F,F,F,F,F,F,F,F,F,F,F,F] rfl rfl (any_of HT_.out (by kernel_rfl)) (fun _ _ _ h => h) (Or.inl ⟨by rfl, ?_⟩) ?_ ?_
                   rotate_left; (focus intro w'; go_simp; with_reducible rfl); rotate_left; (focus simp only [Act.put, List.setIfInBounds_toArray, List.set_cons_zero, List.set_cons_succ, i64_w, i32_w]; rfl)
                   refine pure_ (i := 1) (N := some 114) (v := ?_) (a' := ?_) #[T,T,F,F,F,F,F,F,F,F,F,F,F,F,F] rfl rfl (any_of HT_.out (by kernel_rfl)) (fun _ _ _ h => h) (Or.inl ⟨by rfl, ?_⟩) ?_ ?_
                   rotate_left; (focus intro w'; go_simp; with_reducible rfl); rotate_left; (focus simp only [Act.put, List.setIfInBounds_toArray, List.set_cons_zero, List.set_cons_succ, i64_w, i32_w]; rfl)
                   refine pure_ (i := 2) (N := some 115) (v := ?_) (a' := ?_) #[T,T,T,F,F,F,F,F,F,F,F,F,F,F,F] rfl rfl (any_of HT_.out (by kernel_rfl)) (fun _ _ _ h => h) (Or.inl ⟨by rfl, ?_⟩) ?_ ?_
                   rotate_left; (focus intro w'; go_simp; with_reducible rfl); rotate_left; (focus simp only [Act.put, List.setIfInBounds_toArray, List.set_cons_zero, List.set_cons_succ, i64_w, i32_w]; rfl)
                   refine pure_ (i := 3) (N := some 116) (v := ?_) (a' := ?_) #[T,T,T,T,F,F,F,F,F,F,F,F,F,F,F] rfl rfl (any_of HT_.out (by kernel_rfl)) (fun _ _ _ h => h) (Or.inl ⟨by rfl, ?_⟩) ?_ ?_
                   rotate_left; (focus intro w'; go_simp; with_reducible rfl); rotate_left; (focus simp only [Act.put, List.setIfInBounds_toArray, List.set_cons_zero, List.set_cons_succ, i64_w, i32_w]; rfl)
                   refine pure_ (i := 7) (N := some 120) (v := ?_) (a' := ?_) #[T,T,T,T,F,F,F,T,F,F,F,F,F,F,F] rfl rfl (any_of HT_.out (by kernel_rfl)) (fun _ _ _ h => h) (Or.inl ⟨by rfl, ?_⟩) ?_ ?_
                   rotate_left; (focus intro w'; go_simp; with_reducible rfl); rotate_left; (focus simp only [Act.put, List.setIfInBounds_toArray, List.set_cons_zero, List.set_cons_succ, i64_w, i32_w]; rfl)
                   refine pure_ (i := 8) (N := some 121) (v := ?_) (a' := ?_) #[T,T,T,T,F,F,F,T,T,F,F,F,F,F,F] rfl rfl (any_of HT_.out (by kernel_rfl)) (fun _ _ _ h => h) (Or.inl ⟨by rfl, ?_⟩) ?_ ?_
                   rotate_left; (focus intro w'; go_simp; with_reducible rfl); rotate_left; (focus simp only [Act.put, List.setIfInBounds_toArray, List.set_cons_zero, List.set_cons_succ, i64_w, i32_w]; rfl)
                   refine pure_ (i := 9) (N := some 122) (v := ?_) (a' := ?_) #[T,T,T,T,F,F,F,T,T,T,F,F,F,F,F] rfl rfl (any_of HT_.out (by kernel_rfl)) (fun _ _ _ h => h) (Or.inl ⟨by rfl, ?_⟩) ?_ ?_
                   rotate_left; (focus intro w'; go_simp; with_reducible rfl); rotate_left; (focus simp only [Act.put, List.setIfInBounds_toArray, List.set_cons_zero, List.set_cons_succ, i64_w, i32_w]; rfl)
                   refine take_ (i := 4) (N := some 117) (v := ?_) (a' := ?_) #[T,T,T,T,T,F,F,T,T,T,F,F,F,F,F] rfl rfl (take_ofW HT_.out HW_.out (by kernel_rfl)) (fun _ _ _ h => h) (Or.inl ⟨by rfl, ?_⟩) hHeld ?_ ?_
                   rotate_left
                   ·rintro w' ⟨s0, s1, s2, s3, s4, s5, s6⟩
                    go_simp
                    with_reducible rfl
                   rotate_left
                   ·simp only [Act.put, List.setIfInBounds_toArray, List.set_cons_zero, List.set_cons_succ, i64_w, i32_w]
                    rfl
                   refine pure_ (i := 5) (N := some 118) (v := ?_) (a' := ?_) #[T,T,T,T,T,T,F,T,T,T,F,F,F,F,F] rfl rfl (any_of HT_.out (by kernel_rfl)) (fun _ _ _ h => h) (Or.inl ⟨by rfl, ?_⟩) ?_ ?_
                   rotate_left; (focus intro w'; go_simp; with_reducible rfl); rotate_left; (focus simp only [Act.put, List.setIfInBounds_toArray, List.set_cons_zero, List.set_cons_succ, i64_w, i32_w]; rfl)
                   refine take_ (i := 6) (N := some 119) (v := ?_) (a' := ?_) #[T,T,T,T,T,T,T,T,T,T,F,F,F,F,F] rfl rfl (take_ofW HT_.out HW_.out (by kernel_rfl)) (fun _ _ _ h => h) (Or.inl ⟨by rfl, ?_⟩) hHeld ?_ ?_
                   rotate_left
                   ·rintro w' ⟨s0, s1, s2, s3, s4, s5, s6⟩
                    go_simp
                    with_reducible rfl
                   rotate_left
                   ·simp only [Act.put, List.setIfInBounds_toArray, List.set_cons_zero, List.set_cons_succ, i64_w, i32_w]
                    rfl
                   refine take_ (i := 10) (N := some 123) (v := ?_) (a' := ?_) #[T,T,T,T,T,T,T,T,T,T,T,F,F,F,F] rfl rfl (take_ofW HT_.out HW_.out (by kernel_rfl)) (fun _ _ _ h => h) (Or.inl ⟨by rfl, ?_⟩) hHeld ?_ ?_
                   rotate_left
                   ·rintro w' ⟨s0, s1, s2, s3, s4, s5, s6⟩
                    go_simp
                    with_reducible rfl
                   rotate_left
                   ·simp only [Act.put, List.setIfInBounds_toArray, List.set_cons_zero, List.set_cons_succ, i64_w, i32_w]
                    rfl
                   refine join_ (σ := Nat × Nat) 2 #[T,T,T,T,T,T,T,T,T,T,T,T,T,F,F] (fun s_ => [(15, .pointer (some ⟨s_.1, 0, none⟩)), (16, .pointer (some ⟨s_.2, 0, none⟩))]) (fun s_ w' => (w'.cell? (ad142.add (x14_5).toNat) = some (.int .i64 (rd x6_3 x14_5)) ∧ w'.cell? (ad132.add (((rd x6_3 x14_5)).toNat * 3)) = some (.int .i64 ((rd_T47 l0 (rd x6_3 x14_5)).f0)) ∧ w'.cell? ⟨(ad132.add (((rd x6_3 x14_5)).toNat * 3)).block, (ad132.add (((rd x6_3 x14_5)).toNat * 3)).off + 1, none⟩ = some (.int .i64 ((rd_T47 l0 (rd x6_3 x14_5)).f1)) ∧ w'.cell? ⟨(ad132.add (((rd x6_3 x14_5)).toNat * 3)).block, (ad132.add (((rd x6_3 x14_5)).toNat * 3)).off + 2, none⟩ = some (.int .i64 ((rd_T47 l0 (rd x6_3 x14_5)).f2)) ∧ w'.cell? (ad132.add ((x13_5).toNat * 3)) = some (.int .i64 ((rd_T47 l0 x13_5).f0)) ∧ w'.cell? ⟨(ad132.add ((x13_5).toNat * 3)).block, (ad132.add ((x13_5).toNat * 3)).off + 1, none⟩ = some (.int .i64 ((rd_T47 l0 x13_5).f1)) ∧ w'.cell? ⟨(ad132.add ((x13_5).toNat * 3)).block, (ad132.add ((x13_5).toNat * 3)).off + 2, none⟩ = some (.int .i64 ((rd_T47 l0 x13_5).f2))) ∧ (Kd.R k38 38 w' w.heap.size (fun _ => True) (.slice (some ⟨go23, 0, none⟩) y133.length co23) y133) ∧ (Kd.R (Kd.int .i64) 3 w' w.heap.size (fun _ => True) (.slice (some ad142) x6_3.length co19) x6_3) ∧ (w'.heap[s_.1]? = some (.cells #[.int .i64 0, .int .i64 0, .int .i64 0] 47 (0, 0))) ∧ (w'.heap[s_.2]? = some (.cells #[.int .i64 0, .int .i64 0, .int .i64 0] 47 (0, 0))) ∧ (w.heap.size ≤ s_.1) ∧ (w.heap.size ≤ s_.1) ∧ (s_.2 ≠ s_.1) ∧ (s_.1 ≠ s_.2) ∧ (w.heap.size ≤ s_.2) ∧ (w.heap.size ≤ s_.2) ∧ (Below w.heap.size w w')) ?_ ?_
                   rotate_left
                   ·intro hCont
                    refine two_ (i := 11) (j := 12) (Ni := some 15) (Nj := some 16) #[T,T,T,T,T,T,T,T,T,T,T,T,F,F,F] #[T,T,T,T,T,T,T,T,T,T,T,F,T,F,F] rfl rfl rfl rfl (two_of HT_.out (by kernel_rfl)) (by decide) (by decide) (fun K hK => ?_) (fun K hK => ?_)
                    ·skip
                     refine box_step ?hg (N := 15) ?hd (cs := #[.int .i64 0, .int .i64 0, .int .i64 0]) (t := 47) ?hr ?_; (case hd => rfl); (case hg => rfl); (case hr => first | (go_simp; done) | (go_simp; rfl))
                     intro gb145 hg w78 hbox hb
                     have HS0_ := (hb.cell (World.block_lt_of_cell? _ _ (hHeld.1))).trans (hHeld.1)
                     have n0_ := Aside0.mk (Kd.R_below (by (with_reducible repeat (first | apply Kd.R_alloc | apply Kd.R_drewN | apply Kd.R_drew)); exact HO_5.out) hb)
                     have n1_ := Aside0.mk (Kd.R_below (by (with_reducible repeat (first | apply Kd.R_alloc | apply Kd.R_drewN | apply Kd.R_drew)); exact HO_6.out) hb)
                     have n2_ := Aside0.mk (below_step (by repeat (first | (with_reducible first | exact HB.out | apply below_alloc | apply pw_below_drewN | apply below_drew1) | exact HB.out)) hb)
                     have n3_ := Aside0.mk (hbox)
                     have n4_ := Aside0.mk ((by rw [hg]; exact (below_size (by repeat (first | (with_reducible first | exact HB.out | apply below_alloc | apply pw_below_drewN | apply below_drew1) | exact HB.out))) : w.heap.size ≤ gb145))
                     have n5_ := Aside0.mk ((by rw [hg]; exact (below_size (by repeat (first | (with_reducible first | exact HB.out | apply below_alloc | apply pw_below_drewN | apply below_drew1) | exact HB.out))) : w.heap.size ≤ gb145))
                     clear HO_5
                     clear HO_6
                     clear HB
                     have HO_5 := n0_
                     have HO_6 := n1_
                     have HB := n2_
                     have BK145 := n3_
                     have GW145 := n4_
                     have GE145 := n5_
                     clear n0_ n1_ n2_ n3_ n4_ n5_
                     clear hb hbox hg
                     refine hK.out _ _ ⟨HS0_, ((HB.out.cell (World.block_lt_of_cell? w _ hw143_0)).trans hw143_0), ((HB.out.cell (World.block_lt_of_cell? w _ hw143_1)).trans hw143_1), ((HB.out.cell (World.block_lt_of_cell? w _ hw143_2)).trans hw143_2), ((HB.out.cell (World.block_lt_of_cell? w _ hw144_0)).trans hw144_0), ((HB.out.cell (World.block_lt_of_cell? w _ hw144_1)).trans hw144_1), ((HB.out.cell (World.block_lt_of_cell? w _ hw144_2)).trans hw144_2)⟩ (fun hHeld => ?_)
                     clear hK K
                     refine norm_ (a' := ?_) ?_ ?_
                     rotate_left
                     ·show Act.put _ (some 15) _ = _
                      simp only [Act.put, List.setIfInBounds_toArray, List.set_cons_zero, List.set_cons_succ, i64_w, i32_w]
                      rfl
                     refine one_ (i := 12) (N := some 16) #[T,T,T,T,T,T,T,T,T,T,T,T,T,F,F] rfl rfl (one_of HT_.out (by kernel_rfl)) (by decide) (fun K hK => ?_)
                     refine box_step ?hg (N := 16) ?hd (cs := #[.int .i64 0, .int .i64 0, .int .i64 0]) (t := 47) ?hr ?_; (case hd => rfl); (case hg => rfl); (case hr => first | (go_simp; done) | (go_simp; rfl))
                     intro gb146 hg w79 hbox hb
                     have HS0_ := (hb.cell (World.block_lt_of_cell? _ _ (hHeld.1))).trans (hHeld.1)
                     have n0_ := Aside0.mk (Kd.R_below (by (with_reducible repeat (first | apply Kd.R_alloc | apply Kd.R_drewN | apply Kd.R_drew)); exact HO_5.out) hb)
                     have n1_ := Aside0.mk (Kd.R_below (by (with_reducible repeat (first | apply Kd.R_alloc | apply Kd.R_drewN | apply Kd.R_drew)); exact HO_6.out) hb)
                     have n2_ := Aside0.mk (blk_below (g := gb145) (o := .cells #[.int .i64 0, .int .i64 0, .int .i64 0] 47 (0, 0)) (by (with_reducible repeat (first | refine blk_drewN ?_ _ | refine blk_drew ?_ | refine blk_alloc ?_ _)); exact BK145.out) hb)
                     have n3_ := Aside0.mk (below_step (by repeat (first | (with_reducible first | exact HB.out | apply below_alloc | apply pw_below_drewN | apply below_drew1 | refine below_set ?_ GE145.out) | exact HB.out)) hb)
                     have n4_ := Aside0.mk (hbox)
                     have n5_ := Aside0.mk ((by rw [hg]; exact (below_size (by repeat (first | (with_reducible first | exact HB.out | apply below_alloc | apply pw_below_drewN | apply below_drew1 | refine below_set ?_ GE145.out) | exact HB.out))) : w.heap.size ≤ gb146))
                     have n6_ := Aside0.mk ((by rw [hg]; exact (below_size (by repeat (first | (with_reducible first | exact HB.out | apply below_alloc | apply pw_below_drewN | apply below_drew1 | refine below_set ?_ GE145.out) | exact HB.out))) : w.heap.size ≤ gb146))
                     have n7_ := Aside0.mk ((by rw [hg]; exact Nat.ne_of_lt (blk_lt (g := gb145) (o := .cells #[.int .i64 0, .int .i64 0, .int .i64 0] 47 (0, 0)) (by (with_reducible repeat (first | refine blk_drewN ?_ _ | refine blk_drew ?_ | refine blk_alloc ?_ _)); exact BK145.out)) : gb145 ≠ gb146))
                     have n8_ := Aside0.mk ((by rw [hg]; exact Nat.ne_of_gt (blk_lt (g := gb145) (o := .cells #[.int .i64 0, .int .i64 0, .int .i64 0] 47 (0, 0)) (by (with_reducible repeat (first | refine blk_drewN ?_ _ | refine blk_drew ?_ | refine blk_alloc ?_ _)); exact BK145.out)) : gb146 ≠ gb145))
                     clear HO_5
                     clear HO_6
                     clear BK145
                     clear HB
                     have HO_5 := n0_
                     have HO_6 := n1_
                     have BK145 := n2_
                     have HB := n3_
                     have BK146 := n4_
                     have GW146 := n5_
                     have GE146 := n6_
                     have NB145_146 := n7_
                     have NB146_145 := n8_
                     clear n0_ n1_ n2_ n3_ n4_ n5_ n6_ n7_ n8_
                     clear hb hbox hg
                     refine hK.out _ _ ⟨HS0_, ((HB.out.cell (World.block_lt_of_cell? w _ hw143_0)).trans hw143_0), ((HB.out.cell (World.block_lt_of_cell? w _ hw143_1)).trans hw143_1), ((HB.out.cell (World.block_lt_of_cell? w _ hw143_2)).trans hw143_2), ((HB.out.cell (World.block_lt_of_cell? w _ hw144_0)).trans hw144_0), ((HB.out.cell (World.block_lt_of_cell? w _ hw144_1)).trans hw144_1), ((HB.out.cell (World.block_lt_of_cell? w _ hw144_2)).trans hw144_2)⟩ (fun hHeld => ?_)
                     clear hK K
                     refine norm_ (a' := ?_) ?_ ?_
                     rotate_left
                     ·show Act.put _ (some 16) _ = _
                      simp only [Act.put, List.setIfInBounds_toArray, List.set_cons_zero, List.set_cons_succ, i64_w, i32_w]
                      rfl
                     exact norm_ (by simp only [putAll, Act.put, List.setIfInBounds_toArray, List.set_cons_zero, List.set_cons_succ]) (hCont (gb145, gb146) _ ⟨hHeld, (by (with_reducible repeat (first | apply Kd.R_alloc | apply Kd.R_drewN | apply Kd.R_drew)); exact HO_5.out), (by (with_reducible repeat (first | apply Kd.R_alloc | apply Kd.R_drewN | apply Kd.R_drew)); exact HO_6.out), (by (with_reducible repeat (first | refine blk_drewN ?_ _ | refine blk_drew ?_ | refine blk_alloc ?_ _)); exact BK145.out), (by (with_reducible repeat (first | refine blk_drewN ?_ _ | refine blk_drew ?_ | refine blk_alloc ?_ _)); exact BK146.out), GW145.out, GE145.out, NB146_145.out, NB145_146.out, GW146.out, GE146.out, (by repeat (first | (with_reducible first | exact HB.out | apply below_alloc | apply pw_below_drewN | apply below_drew1 | refine below_set ?_ GE145.out | refine below_set ?_ GE146.out) | exact HB.out))⟩)
                    ·skip
                     refine box_step ?hg (N := 16) ?hd (cs := #[.int .i64 0, .int .i64 0, .int .i64 0]) (t := 47) ?hr ?_; (case hd => rfl); (case hg => rfl); (case hr => first | (go_simp; done) | (go_simp; rfl))
                     intro gb146 hg w78 hbox hb
                     have HS0_ := (hb.cell (World.block_lt_of_cell? _ _ (hHeld.1))).trans (hHeld.1)
                     have n0_ := Aside0.mk (Kd.R_below (by (with_reducible repeat (first | apply Kd.R_alloc | apply Kd.R_drewN | apply Kd.R_drew)); exact HO_5.out) hb)
                     have n1_ := Aside0.mk (Kd.R_below (by (with_reducible repeat (first | apply Kd.R_alloc | apply Kd.R_drewN | apply Kd.R_drew)); exact HO_6.out) hb)
                     have n2_ := Aside0.mk (below_step (by repeat (first | (with_reducible first | exact HB.out | apply below_alloc | apply pw_below_drewN | apply below_drew1) | exact HB.out)) hb)
                     have n3_ := Aside0.mk (hbox)
                     have n4_ := Aside0.mk ((by rw [hg]; exact (below_size (by repeat (first | (with_reducible first | exact HB.out | apply below_alloc | apply pw_below_drewN | apply below_drew1) | exact HB.out))) : w.heap.size ≤ gb146))
                     have n5_ := Aside0.mk ((by rw [hg]; exact (below_size (by repeat (first | (with_reducible first | exact HB.out | apply below_alloc | apply pw_below_drewN | apply below_drew1) | exact HB.out))) : w.heap.size ≤ gb146))
                     clear HO_5
                     clear HO_6
                     clear HB
                     have HO_5 := n0_
                     have HO_6 := n1_
                     have HB := n2_
                     have BK146 := n3_
                     have GW146 := n4_
                     have GE146 := n5_
                     clear n0_ n1_ n2_ n3_ n4_ n5_
                     clear hb hbox hg
                     refine hK.out _ _ ⟨HS0_, ((HB.out.cell (World.block_lt_of_cell? w _ hw143_0)).trans hw143_0), ((HB.out.cell (World.block_lt_of_cell? w _ hw143_1)).trans hw143_1), ((HB.out.cell (World.block_lt_of_cell? w _ hw143_2)).trans hw143_2), ((HB.out.cell (World.block_lt_of_cell? w _ hw144_0)).trans hw144_0), ((HB.out.cell (World.block_lt_of_cell? w _ hw144_1)).trans hw144_1), ((HB.out.cell (World.block_lt_of_cell? w _ hw144_2)).trans hw144_2)⟩ (fun hHeld => ?_)
                     clear hK K
                     refine norm_ (a' := ?_) ?_ ?_
                     rotate_left
                     ·show Act.put _ (some 16) _ = _
                      simp only [Act.put, List.setIfInBounds_toArray, List.set_cons_zero, List.set_cons_succ, i64_w, i32_w]
                      rfl
                     refine one_ (i := 11) (N := some 15) #[T,T,T,T,T,T,T,T,T,T,T,T,T,F,F] rfl rfl (one_of HT_.out (by kernel_rfl)) (by decide) (fun K hK => ?_)
                     refine box_step ?hg (N := 15) ?hd (cs := #[.int .i64 0, .int .i64 0, .int .i64 0]) (t := 47) ?hr ?_; (case hd => rfl); (case hg => rfl); (case hr => first | (go_simp; done) | (go_simp; rfl))
                     intro gb145 hg w79 hbox hb
                     have HS0_ := (hb.cell (World.block_lt_of_cell? _ _ (hHeld.1))).trans (hHeld.1)
                     have n0_ := Aside0.mk (Kd.R_below (by (with_reducible repeat (first | apply Kd.R_alloc | apply Kd.R_drewN | apply Kd.R_drew)); exact HO_5.out) hb)
                     have n1_ := Aside0.mk (Kd.R_below (by (with_reducible repeat (first | apply Kd.R_alloc | apply Kd.R_drewN | apply Kd.R_drew)); exact HO_6.out) hb)
                     have n2_ := Aside0.mk (blk_below (g := gb146) (o := .cells #[.int .i64 0, .int .i64 0, .int .i64 0] 47 (0, 0)) (by (with_reducible repeat (first | refine blk_drewN ?_ _ | refine blk_drew ?_ | refine blk_alloc ?_ _)); exact BK146.out) hb)
                     have n3_ := Aside0.mk (below_step (by repeat (first | (with_reducible first | exact HB.out | apply below_alloc | apply pw_below_drewN | apply below_drew1 | refine below_set ?_ GE146.out) | exact HB.out)) hb)
                     have n4_ := Aside0.mk (hbox)
                     have n5_ := Aside0.mk ((by rw [hg]; exact (below_size (by repeat (first | (with_reducible first | exact HB.out | apply below_alloc | apply pw_below_drewN | apply below_drew1 | refine below_set ?_ GE146.out) | exact HB.out))) : w.heap.size ≤ gb145))
                     have n6_ := Aside0.mk ((by rw [hg]; exact (below_size (by repeat (first | (with_reducible first | exact HB.out | apply below_alloc | apply pw_below_drewN | apply below_drew1 | refine below_set ?_ GE146.out) | exact HB.out))) : w.heap.size ≤ gb145))
                     have n7_ := Aside0.mk ((by rw [hg]; exact Nat.ne_of_lt (blk_lt (g := gb146) (o := .cells #[.int .i64 0, .int .i64 0, .int .i64 0] 47 (0, 0)) (by (with_reducible repeat (first | refine blk_drewN ?_ _ | refine blk_drew ?_ | refine blk_alloc ?_ _)); exact BK146.out)) : gb146 ≠ gb145))
                     have n8_ := Aside0.mk ((by rw [hg]; exact Nat.ne_of_gt (blk_lt (g := gb146) (o := .cells #[.int .i64 0, .int .i64 0, .int .i64 0] 47 (0, 0)) (by (with_reducible repeat (first | refine blk_drewN ?_ _ | refine blk_drew ?_ | refine blk_alloc ?_ _)); exact BK146.out)) : gb145 ≠ gb146))
                     clear HO_5
                     clear HO_6
                     clear BK146
                     clear HB
                     have HO_5 := n0_
                     have HO_6 := n1_
                     have BK146 := n2_
                     have HB := n3_
                     have BK145 := n4_
                     have GW145 := n5_
                     have GE145 := n6_
                     have NB146_145 := n7_
                     have NB145_146 := n8_
                     clear n0_ n1_ n2_ n3_ n4_ n5_ n6_ n7_ n8_
                     clear hb hbox hg
                     refine hK.out _ _ ⟨HS0_, ((HB.out.cell (World.block_lt_of_cell? w _ hw143_0)).trans hw143_0), ((HB.out.cell (World.block_lt_of_cell? w _ hw143_1)).trans hw143_1), ((HB.out.cell (World.block_lt_of_cell? w _ hw143_2)).trans hw143_2), ((HB.out.cell (World.block_lt_of_cell? w _ hw144_0)).trans hw144_0), ((HB.out.cell (World.block_lt_of_cell? w _ hw144_1)).trans hw144_1), ((HB.out.cell (World.block_lt_of_cell? w _ hw144_2)).trans hw144_2)⟩ (fun hHeld => ?_)
                     clear hK K
                     refine norm_ (a' := ?_) ?_ ?_
                     rotate_left
                     ·show Act.put _ (some 15) _ = _
                      simp only [Act.put, List.setIfInBounds_toArray, List.set_cons_zero, List.set_cons_succ, i64_w, i32_w]
                      rfl
                     exact norm_ (by simp only [putAll, Act.put, List.setIfInBounds_toArray, List.set_cons_zero, List.set_cons_succ]) (hCont (gb145, gb146) _ ⟨hHeld, (by (with_reducible repeat (first | apply Kd.R_alloc | apply Kd.R_drewN | apply Kd.R_drew)); exact HO_5.out), (by (with_reducible repeat (first | apply Kd.R_alloc | apply Kd.R_drewN | apply Kd.R_drew)); exact HO_6.out), (by (with_reducible repeat (first | refine blk_drewN ?_ _ | refine blk_drew ?_ | refine blk_alloc ?_ _)); exact BK145.out), (by (with_reducible repeat (first | refine blk_drewN ?_ _ | refine blk_drew ?_ | refine blk_alloc ?_ _)); exact BK146.out), GW145.out, GE145.out, NB146_145.out, NB145_146.out, GW146.out, GE146.out, (by repeat (first | (with_reducible first | exact HB.out | apply below_alloc | apply pw_below_drewN | apply below_drew1 | refine below_set ?_ GE146.out | refine below_set ?_ GE145.out) | exact HB.out))⟩)
                   rintro ⟨gb145, gb146⟩ w80 ⟨hS_, h0_, h1_, h2_, h3_, h4_, h5_, h6_, h7_, h8_, h9_, h10_⟩
                   have n0_ : Aside0 (Kd.R k38 38 w80 w.heap.size (fun _ => True) (.slice (some ⟨go23, 0, none⟩) y133.length co23) y133) := ⟨h0_⟩
                   have n1_ : Aside0 (Kd.R (Kd.int .i64) 3 w80 w.heap.size (fun _ => True) (.slice (some ad142) x6_3.length co19) x6_3) := ⟨h1_⟩
                   have n2_ : Aside0 (w80.heap[gb145]? = some (.cells #[.int .i64 0, .int .i64 0, .int .i64 0] 47 (0, 0))) := ⟨h2_⟩
                   have n3_ : Aside0 (w80.heap[gb146]? = some (.cells #[.int .i64 0, .int .i64 0, .int .i64 0] 47 (0, 0))) := ⟨h3_⟩
                   have n4_ : Aside0 (w.heap.size ≤ gb145) := ⟨h4_⟩
                   have n5_ : Aside0 (w.heap.size ≤ gb145) := ⟨h5_⟩
                   have n6_ : Aside0 (gb146 ≠ gb145) := ⟨h6_⟩
                   have n7_ : Aside0 (gb145 ≠ gb146) := ⟨h7_⟩
                   have n8_ : Aside0 (w.heap.size ≤ gb146) := ⟨h8_⟩
                   have n9_ : Aside0 (w.heap.size ≤ gb146) := ⟨h9_⟩
                   have n10_ : Aside0 (Below w.heap.size w w80) := ⟨h10_⟩
                   clear HO_5
                   clear HO_6
                   clear HB
                   clear h0_ h1_ h2_ h3_ h4_ h5_ h6_ h7_ h8_ h9_ h10_
                   have HO_5 := n0_
                   have HO_6 := n1_
                   have BK145 := n2_
                   have BK146 := n3_
                   have GW145 := n4_
                   have GE145 := n5_
                   have NB146_145 := n6_
                   have NB145_146 := n7_
                   have GW146 := n8_
                   have GE146 := n9_
                   have HB := n10_
                   clear n0_ n1_ n2_ n3_ n4_ n5_ n6_ n7_ n8_ n9_ n10_
                   have hHeld : w80.cell? (ad142.add (x14_5).toNat) = some (.int .i64 (rd x6_3 x14_5)) ∧ w80.cell? (ad132.add (((rd x6_3 x14_5)).toNat * 3)) = some (.int .i64 ((rd_T47 l0 (rd x6_3 x14_5)).f0)) ∧ w80.cell? ⟨(ad132.add (((rd x6_3 x14_5)).toNat * 3)).block, (ad132.add (((rd x6_3 x14_5)).toNat * 3)).off + 1, none⟩ = some (.int .i64 ((rd_T47 l0 (rd x6_3 x14_5)).f1)) ∧ w80.cell? ⟨(ad132.add (((rd x6_3 x14_5)).toNat * 3)).block, (ad132.add (((rd x6_3 x14_5)).toNat * 3)).off + 2, none⟩ = some (.int .i64 ((rd_T47 l0 (rd x6_3 x14_5)).f2)) ∧ w80.cell? (ad132.add ((x13_5).toNat * 3)) = some (.int .i64 ((rd_T47 l0 x13_5).f0)) ∧ w80.cell? ⟨(ad132.add ((x13_5).toNat * 3)).block, (ad132.add ((x13_5).toNat * 3)).off + 1, none⟩ = some (.int .i64 ((rd_T47 l0 x13_5).f1)) ∧ w80.cell? ⟨(ad132.add ((x13_5).toNat * 3)).block, (ad132.add ((x13_5).toNat * 3)).off + 2, none⟩ = some (.int .i64 ((rd_T47 l0 x13_5).f2)) := hS_
                   refine norm_ (a' := ?_) ?_ ?_
                   rotate_left
                   ·simp only [putAll, Act.put, List.setIfInBounds_toArray, List.set_cons_zero, List.set_cons_succ]
                    rfl
                   refine one_ (i := 13) (N := none) #[T,T,T,T,T,T,T,T,T,T,T,T,T,T,F] rfl rfl (one_of HT_.out (by kernel_rfl)) (by decide) (fun K hK => ?_)
                   have hs81 : w80.cell? ⟨gb145, 0, none⟩ = some (.int .i64 0) := (blk_cell BK145.out 0).trans rfl
                   have hfs81 := blk_frozen BK145.out 0
                   have hns81_1 := NB146_145.out
                   have hms81_1 := NB145_146.out
                   have hs82 : w80.cell? ⟨gb145, 1, none⟩ = some (.int .i64 0) := (blk_cell BK145.out 1).trans rfl
                   have hfs82 := blk_frozen BK145.out 1
                   have hns82_1 := NB146_145.out
                   have hms82_1 := NB145_146.out
                   have hs83 : w80.cell? ⟨gb145, 2, none⟩ = some (.int .i64 0) := (blk_cell BK145.out 2).trans rfl
                   have hfs83 := blk_frozen BK145.out 2
                   have hns83_1 := NB146_145.out
                   have hms83_1 := NB145_146.out
                   refine skip_ (w1 := ?_) (by rfl) rfl ?_ ?_
                   rotate_left
                   ·go_simp
                    rfl
                   refine hK.out _ _ ⟨((cell_far (p := ⟨gb145, _, none⟩) (by first | exact Kd.own_blk (Kd.R_ne HO_6.out BK145.out (by decide)) | (rw [add_block]; exact Kd.own_blk (Kd.R_ne HO_6.out BK145.out (by decide))) | (show (Addr.add _ _).block ≠ _; rw [add_block]; exact Kd.own_blk (Kd.R_ne HO_6.out BK145.out (by decide))) | (dsimp only; exact Kd.own_blk (Kd.R_ne HO_6.out BK145.out (by decide)))) _).trans (((cell_far (p := ⟨gb145, _, none⟩) (by first | exact Kd.own_blk (Kd.R_ne HO_6.out BK145.out (by decide)) | (rw [add_block]; exact Kd.own_blk (Kd.R_ne HO_6.out BK145.out (by decide))) | (show (Addr.add _ _).block ≠ _; rw [add_block]; exact Kd.own_blk (Kd.R_ne HO_6.out BK145.out (by decide))) | (dsimp only; exact Kd.own_blk (Kd.R_ne HO_6.out BK145.out (by decide)))) _).trans (((cell_far (p := ⟨gb145, _, none⟩) (by first | exact Kd.own_blk (Kd.R_ne HO_6.out BK145.out (by decide)) | (rw [add_block]; exact Kd.own_blk (Kd.R_ne HO_6.out BK145.out (by decide))) | (show (Addr.add _ _).block ≠ _; rw [add_block]; exact Kd.own_blk (Kd.R_ne HO_6.out BK145.out (by decide))) | (dsimp only; exact Kd.own_blk (Kd.R_ne HO_6.out BK145.out (by decide)))) _).trans (hHeld.1)))))), ((cell_far (p := ⟨gb145, _, none⟩) (Nat.ne_of_lt (Nat.lt_of_lt_of_le (World.block_lt_of_cell? _ _ hw143_0) GW145.out)) _).trans (((cell_far (p := ⟨gb145, _, none⟩) (Nat.ne_of_lt (Nat.lt_of_lt_of_le (World.block_lt_of_cell? _ _ hw143_0) GW145.out)) _).trans (((cell_far (p := ⟨gb145, _, none⟩) (Nat.ne_of_lt (Nat.lt_of_lt_of_le (World.block_lt_of_cell? _ _ hw143_0) GW145.out)) _).trans (hHeld.2.1)))))), ((cell_far (p := ⟨gb145, _, none⟩) (Nat.ne_of_lt (Nat.lt_of_lt_of_le (World.block_lt_of_cell? _ _ hw143_1) GW145.out)) _).trans (((cell_far (p := ⟨gb145, _, none⟩) (Nat.ne_of_lt (Nat.lt_of_lt_of_le (World.block_lt_of_cell? _ _ hw143_1) GW145.out)) _).trans (((cell_far (p := ⟨gb145, _, none⟩) (Nat.ne_of_lt (Nat.lt_of_lt_of_le (World.block_lt_of_cell? _ _ hw143_1) GW145.out)) _).trans (hHeld.2.2.1)))))), ((cell_far (p := ⟨gb145, _, none⟩) (Nat.ne_of_lt (Nat.lt_of_lt_of_le (World.block_lt_of_cell? _ _ hw143_2) GW145.out)) _).trans (((cell_far (p := ⟨gb145, _, none⟩) (Nat.ne_of_lt (Nat.lt_of_lt_of_le (World.block_lt_of_cell? _ _ hw143_2) GW145.out)) _).trans (((cell_far (p := ⟨gb145, _, none⟩) (Nat.ne_of_lt (Nat.lt_of_lt_of_le (World.block_lt_of_cell? _ _ hw143_2) GW145.out)) _).trans (hHeld.2.2.2.1)))))), ((cell_far (p := ⟨gb145, _, none⟩) (Nat.ne_of_lt (Nat.lt_of_lt_of_le (World.block_lt_of_cell? _ _ hw144_0) GW145.out)) _).trans (((cell_far (p := ⟨gb145, _, none⟩) (Nat.ne_of_lt (Nat.lt_of_lt_of_le (World.block_lt_of_cell? _ _ hw144_0) GW145.out)) _).trans (((cell_far (p := ⟨gb145, _, none⟩) (Nat.ne_of_lt (Nat.lt_of_lt_of_le (World.block_lt_of_cell? _ _ hw144_0) GW145.out)) _).trans (hHeld.2.2.2.2.1)))))), ((cell_far (p := ⟨gb145, _, none⟩) (Nat.ne_of_lt (Nat.lt_of_lt_of_le (World.block_lt_of_cell? _ _ hw144_1) GW145.out)) _).trans (((cell_far (p := ⟨gb145, _, none⟩) (Nat.ne_of_lt (Nat.lt_of_lt_of_le (World.block_lt_of_cell? _ _ hw144_1) GW145.out)) _).trans (((cell_far (p := ⟨gb145, _, none⟩) (Nat.ne_of_lt (Nat.lt_of_lt_of_le (World.block_lt_of_cell? _ _ hw144_1) GW145.out)) _).trans (hHeld.2.2.2.2.2.1)))))), ((cell_far (p := ⟨gb145, _, none⟩) (Nat.ne_of_lt (Nat.lt_of_lt_of_le (World.block_lt_of_cell? _ _ hw144_2) GW145.out)) _).trans (((cell_far (p := ⟨gb145, _, none⟩) (Nat.ne_of_lt (Nat.lt_of_lt_of_le (World.block_lt_of_cell? _ _ hw144_2) GW145.out)) _).trans (((cell_far (p := ⟨gb145, _, none⟩) (Nat.ne_of_lt (Nat.lt_of_lt_of_le (World.block_lt_of_cell? _ _ hw144_2) GW145.out)) _).trans (hHeld.2.2.2.2.2.2))))))⟩ (fun hHeld => ?_)
                   clear hK K
                   refine one_ (i := 14) (N := none) #[T,T,T,T,T,T,T,T,T,T,T,T,T,T,T] rfl rfl (one_of HT_.out (by kernel_rfl)) (by decide) (fun K hK => ?_)
                   have hs84 : w80.cell? ⟨gb146, 0, none⟩ = some (.int .i64 0) := (blk_cell BK146.out 0).trans rfl
                   have hfs84 := blk_frozen BK146.out 0
                   have hns84_0 := NB145_146.out
                   have hms84_0 := NB146_145.out
                   have hs85 : w80.cell? ⟨gb146, 1, none⟩ = some (.int .i64 0) := (blk_cell BK146.out 1).trans rfl
                   have hfs85 := blk_frozen BK146.out 1
                   have hns85_0 := NB145_146.out
                   have hms85_0 := NB146_145.out
                   have hs86 : w80.cell? ⟨gb146, 2, none⟩ = some (.int .i64 0) := (blk_cell BK146.out 2).trans rfl
                   have hfs86 := blk_frozen BK146.out 2
                   have hns86_0 := NB145_146.out
                   have hms86_0 := NB146_145.out
                   refine skip_ (w1 := ?_) (by rfl) rfl ?_ ?_
                   rotate_left
                   ·go_simp
                    rfl
                   refine hK.out _ _ ⟨((cell_far (p := ⟨gb146, _, none⟩) (by first | exact Kd.own_blk (Kd.R_ne HO_6.out BK146.out (by decide)) | (rw [add_block]; exact Kd.own_blk (Kd.R_ne HO_6.out BK146.out (by decide))) | (show (Addr.add _ _).block ≠ _; rw [add_block]; exact Kd.own_blk (Kd.R_ne HO_6.out BK146.out (by decide))) | (dsimp only; exact Kd.own_blk (Kd.R_ne HO_6.out BK146.out (by decide)))) _).trans (((cell_far (p := ⟨gb146, _, none⟩) (by first | exact Kd.own_blk (Kd.R_ne HO_6.out BK146.out (by decide)) | (rw [add_block]; exact Kd.own_blk (Kd.R_ne HO_6.out BK146.out (by decide))) | (show (Addr.add _ _).block ≠ _; rw [add_block]; exact Kd.own_blk (Kd.R_ne HO_6.out BK146.out (by decide))) | (dsimp only; exact Kd.own_blk (Kd.R_ne HO_6.out BK146.out (by decide)))) _).trans (((cell_far (p := ⟨gb146, _, none⟩) (by first | exact Kd.own_blk (Kd.R_ne HO_6.out BK146.out (by decide)) | (rw [add_block]; exact Kd.own_blk (Kd.R_ne HO_6.out BK146.out (by decide))) | (show (Addr.add _ _).block ≠ _; rw [add_block]; exact Kd.own_blk (Kd.R_ne HO_6.out BK146.out (by decide))) | (dsimp only; exact Kd.own_blk (Kd.R_ne HO_6.out BK146.out (by decide)))) _).trans (hHeld.1)))))), ((cell_far (p := ⟨gb146, _, none⟩) (Nat.ne_of_lt (Nat.lt_of_lt_of_le (World.block_lt_of_cell? _ _ hw143_0) GW146.out)) _).trans (((cell_far (p := ⟨gb146, _, none⟩) (Nat.ne_of_lt (Nat.lt_of_lt_of_le (World.block_lt_of_cell? _ _ hw143_0) GW146.out)) _).trans (((cell_far (p := ⟨gb146, _, none⟩) (Nat.ne_of_lt (Nat.lt_of_lt_of_le (World.block_lt_of_cell? _ _ hw143_0) GW146.out)) _).trans (hHeld.2.1)))))), ((cell_far (p := ⟨gb146, _, none⟩) (Nat.ne_of_lt (Nat.lt_of_lt_of_le (World.block_lt_of_cell? _ _ hw143_1) GW146.out)) _).trans (((cell_far (p := ⟨gb146, _, none⟩) (Nat.ne_of_lt (Nat.lt_of_lt_of_le (World.block_lt_of_cell? _ _ hw143_1) GW146.out)) _).trans (((cell_far (p := ⟨gb146, _, none⟩) (Nat.ne_of_lt (Nat.lt_of_lt_of_le (World.block_lt_of_cell? _ _ hw143_1) GW146.out)) _).trans (hHeld.2.2.1)))))), ((cell_far (p := ⟨gb146, _, none⟩) (Nat.ne_of_lt (Nat.lt_of_lt_of_le (World.block_lt_of_cell? _ _ hw143_2) GW146.out)) _).trans (((cell_far (p := ⟨gb146, _, none⟩) (Nat.ne_of_lt (Nat.lt_of_lt_of_le (World.block_lt_of_cell? _ _ hw143_2) GW146.out)) _).trans (((cell_far (p := ⟨gb146, _, none⟩) (Nat.ne_of_lt (Nat.lt_of_lt_of_le (World.block_lt_of_cell? _ _ hw143_2) GW146.out)) _).trans (hHeld.2.2.2.1)))))), ((cell_far (p := ⟨gb146, _, none⟩) (Nat.ne_of_lt (Nat.lt_of_lt_of_le (World.block_lt_of_cell? _ _ hw144_0) GW146.out)) _).trans (((cell_far (p := ⟨gb146, _, none⟩) (Nat.ne_of_lt (Nat.lt_of_lt_of_le (World.block_lt_of_cell? _ _ hw144_0) GW146.out)) _).trans (((cell_far (p := ⟨gb146, _, none⟩) (Nat.ne_of_lt (Nat.lt_of_lt_of_le (World.block_lt_of_cell? _ _ hw144_0) GW146.out)) _).trans (hHeld.2.2.2.2.1)))))), ((cell_far (p := ⟨gb146, _, none⟩) (Nat.ne_of_lt (Nat.lt_of_lt_of_le (World.block_lt_of_cell? _ _ hw144_1) GW146.out)) _).trans (((cell_far (p := ⟨gb146, _, none⟩) (Nat.ne_of_lt (Nat.lt_of_lt_of_le (World.block_lt_of_cell? _ _ hw144_1) GW146.out)) _).trans (((cell_far (p := ⟨gb146, _, none⟩) (Nat.ne_of_lt (Nat.lt_of_lt_of_le (World.block_lt_of_cell? _ _ hw144_1) GW146.out)) _).trans (hHeld.2.2.2.2.2.1)))))), ((cell_far (p := ⟨gb146, _, none⟩) (Nat.ne_of_lt (Nat.lt_of_lt_of_le (World.block_lt_of_cell? _ _ hw144_2) GW146.out)) _).trans (((cell_far (p := ⟨gb146, _, none⟩) (Nat.ne_of_lt (Nat.lt_of_lt_of_le (World.block_lt_of_cell? _ _ hw144_2) GW146.out)) _).trans (((cell_far (p := ⟨gb146, _, none⟩) (Nat.ne_of_lt (Nat.lt_of_lt_of_le (World.block_lt_of_cell? _ _ hw144_2) GW146.out)) _).trans (hHeld.2.2.2.2.2.2))))))⟩ (fun hHeld => ?_)
                   clear hK K
                   refine done_ (done_of HT_.out (by kernel_rfl)) ?_
                   have hnb87 := NB145_146.out
                   have hnc87 := NB146_145.out
                   have hcz88_0 : w80.cell? ⟨gb145, 0, none⟩ = some (.int .i64 0) := (blk_cell BK145.out 0).trans rfl
                   have hcz88_1 : w80.cell? ⟨gb145, 1, none⟩ = some (.int .i64 0) := (blk_cell BK145.out 1).trans rfl
                   have hcz88_2 : w80.cell? ⟨gb145, 2, none⟩ = some (.int .i64 0) := (blk_cell BK145.out 2).trans rfl
                   have hfz88_0 := blk_frozen BK145.out 0
                   have hfz88_1 := blk_frozen BK145.out 1
                   have hfz88_2 := blk_frozen BK145.out 2
                   have hcz89_0 : w80.cell? ⟨gb146, 0, none⟩ = some (.int .i64 0) := (blk_cell BK146.out 0).trans rfl
                   have hcz89_1 : w80.cell? ⟨gb146, 1, none⟩ = some (.int .i64 0) := (blk_cell BK146.out 1).trans rfl
                   have hcz89_2 : w80.cell? ⟨gb146, 2, none⟩ = some (.int .i64 0) := (blk_cell BK146.out 2).trans rfl
                   have hfz89_0 := blk_frozen BK146.out 0
                   have hfz89_1 := blk_frozen BK146.out 1
                   have hfz89_2 := blk_frozen BK146.out 2
                   have p148 : 0 ≤ (x14_5 : Int) := of_decide_eq_true (by first | (with_reducible assumption) | assumption)
                   have q148 : x14_5 < (x6_3.length : Int) := of_decide_eq_true (by first | (with_reducible assumption) | assumption)
                   obtain ⟨ad148, e148, hx148_0⟩ := Kd.at_int (Kd.R_reads' HO_6.out).2.2 x14_5 p148 q148
                   obtain rfl : ad142 = ad148 := (by injection e148)
                   have hn148_0 : ad142.block ≠ gb145 := Kd.own_blk (Kd.R_ne HO_6.out BK145.out (by decide))
                   have hn148_1 : ad142.block ≠ gb145 := Kd.own_blk (Kd.R_ne HO_6.out BK145.out (by decide))
                   have hn148_2 : ad142.block ≠ gb145 := Kd.own_blk (Kd.R_ne HO_6.out BK145.out (by decide))
                   have hn148_3 : ad142.block ≠ gb146 := Kd.own_blk (Kd.R_ne HO_6.out BK146.out (by decide))
                   have hn148_4 : ad142.block ≠ gb146 := Kd.own_blk (Kd.R_ne HO_6.out BK146.out (by decide))
                   have hn148_5 : ad142.block ≠ gb146 := Kd.own_blk (Kd.R_ne HO_6.out BK146.out (by decide))
                   replace hx148_0 := (cell_far (p := ⟨gb145, 0, none⟩) (by first | (rw [add_block]; exact hn148_0) | (show (Addr.add _ _).block ≠ _; rw [add_block]; exact hn148_0) | exact hn148_0) (.int .i64 ((rd_T47 l0 (rd x6_3 x14_5)).f0))).trans hx148_0
                   replace hx148_0 := (cell_far (p := ⟨gb145, 1, none⟩) (by first | (rw [add_block]; exact hn148_1) | (show (Addr.add _ _).block ≠ _; rw [add_block]; exact hn148_1) | exact hn148_1) (.int .i64 ((rd_T47 l0 (rd x6_3 x14_5)).f1))).trans hx148_0
                   replace hx148_0 := (cell_far (p := ⟨gb145, 2, none⟩) (by first | (rw [add_block]; exact hn148_2) | (show (Addr.add _ _).block ≠ _; rw [add_block]; exact hn148_2) | exact hn148_2) (.int .i64 ((rd_T47 l0 (rd x6_3 x14_5)).f2))).trans hx148_0
                   replace hx148_0 := (cell_far (p := ⟨gb146, 0, none⟩) (by first | (rw [add_block]; exact hn148_3) | (show (Addr.add _ _).block ≠ _; rw [add_block]; exact hn148_3) | exact hn148_3) (.int .i64 ((rd_T47 l0 x13_5).f0))).trans hx148_0
                   replace hx148_0 := (cell_far (p := ⟨gb146, 1, none⟩) (by first | (rw [add_block]; exact hn148_4) | (show (Addr.add _ _).block ≠ _; rw [add_block]; exact hn148_4) | exact hn148_4) (.int .i64 ((rd_T47 l0 x13_5).f1))).trans hx148_0
                   replace hx148_0 := (cell_far (p := ⟨gb146, 2, none⟩) (by first | (rw [add_block]; exact hn148_5) | (show (Addr.add _ _).block ≠ _; rw [add_block]; exact hn148_5) | exact hn148_5) (.int .i64 ((rd_T47 l0 x13_5).f2))).trans hx148_0
                   clear hn148_0
                   clear hn148_1
                   clear hn148_2
                   clear hn148_3
                   clear hn148_4
                   clear hn148_5
                   replace p148 := eq_true p148
                   replace q148 := eq_true q148
                   try go_wp2
                   go_roundg k5
                   case measure => have := HK1.out; have := HK2.out; have := HK3.out; have := HK4.out; have := HK5.out; omega
                   case rel => exact ⟨(rd x6_3 x14_5), (wrap64 (x14_5 + 1)), (by first | rfl | (simp; done) | (simp [*]; done)), (by first | rfl | (simp; done) | (simp [*]; done)), H', ⟨by have := HK1.out; have := HK2.out; have := HK3.out; have := HK4.out; have := HK5.out; omega⟩, ⟨by (try simp only [hl6_2]); (try simp only [hl5_3]); (try simp only [hl6_3]); (with_reducible repeat (first | apply Kd.R_alloc | apply Kd.R_drewN | apply Kd.R_drew)); exact Kd.R_mono (Kd.R_far (p := ⟨gb146, 2, none⟩) (Kd.R_far (p := ⟨gb146, 1, none⟩) (Kd.R_far (p := ⟨gb146, 0, none⟩) (Kd.R_far (p := ⟨gb145, 2, none⟩) (Kd.R_far (p := ⟨gb145, 1, none⟩) (Kd.R_far (p := ⟨gb145, 0, none⟩) (Kd.R_types (Kd.R_types HO_5.out BK145.out (by decide)) BK146.out (by decide)) (fun _ hk => hk.1.2) (.int .i64 ((rd_T47 l0 (rd x6_3 x14_5)).f0))) (fun _ hk => hk.1.2) (.int .i64 ((rd_T47 l0 (rd x6_3 x14_5)).f1))) (fun _ hk => hk.1.2) (.int .i64 ((rd_T47 l0 (rd x6_3 x14_5)).f2))) (fun _ hk => hk.2) (.int .i64 ((rd_T47 l0 x13_5).f0))) (fun _ hk => hk.2) (.int .i64 ((rd_T47 l0 x13_5).f1))) (fun _ hk => hk.2) (.int .i64 ((rd_T47 l0 x13_5).f2))) (fun _ hk => trivial)⟩, ⟨by (try simp only [hl6_2]); (try simp only [hl5_3]); (try simp only [hl6_3]); (with_reducible repeat (first | apply Kd.R_alloc | apply Kd.R_drewN | apply Kd.R_drew)); exact Kd.R_mono (Kd.R_far (p := ⟨gb146, 2, none⟩) (Kd.R_far (p := ⟨gb146, 1, none⟩) (Kd.R_far (p := ⟨gb146, 0, none⟩) (Kd.R_far (p := ⟨gb145, 2, none⟩) (Kd.R_far (p := ⟨gb145, 1, none⟩) (Kd.R_far (p := ⟨gb145, 0, none⟩) (Kd.R_types (Kd.R_types HO_6.out BK145.out (by decide)) BK146.out (by decide)) (fun _ hk => hk.1.2) (.int .i64 ((rd_T47 l0 (rd x6_3 x14_5)).f0))) (fun _ hk => hk.1.2) (.int .i64 ((rd_T47 l0 (rd x6_3 x14_5)).f1))) (fun _ hk => hk.1.2) (.int .i64 ((rd_T47 l0 (rd x6_3 x14_5)).f2))) (fun _ hk => hk.2) (.int .i64 ((rd_T47 l0 x13_5).f0))) (fun _ hk => hk.2) (.int .i64 ((rd_T47 l0 x13_5).f1))) (fun _ hk => hk.2) (.int .i64 ((rd_T47 l0 x13_5).f2))) (fun _ hk => trivial)⟩, ⟨by repeat (first | (with_reducible first | exact HB.out | apply below_alloc | apply pw_below_drewN | apply below_drew1 | refine below_set ?_ GE145.out | refine below_set ?_ GE146.out) | exact HB.out)⟩⟩
                  ·rw [if_neg c76] at H
                   have c76b0 : decide (((rd_T47 l0 x13_5).f0) < ((rd_T47 l0 (rd x6_3 x14_5)).f0)) = false := decide_eq_false c76
                   clear c76
                   have H' := Aside0.mk H
                   clear H
                   try go_wp2
                   have n0_ := Aside0.mk (Kd.R_drew HO_5.out)
                   have n1_ := Aside0.mk (Kd.R_drew HO_6.out)
                   have n2_ := Aside0.mk (below_drew1 HB.out)
                   clear HO_5
                   clear HO_6
                   clear HB
                   have HO_5 := n0_
                   have HO_6 := n1_
                   have HB := n2_
                   clear n0_ n1_ n2_
                   have p142 : 0 ≤ (x14_5 : Int) := of_decide_eq_true (by first | (with_reducible assumption) | assumption)
                   have q142 : x14_5 < (x6_3.length : Int) := of_decide_eq_true (by first | (with_reducible assumption) | assumption)
                   obtain ⟨ad142, e142, hx142_0⟩ := Kd.at_int (Kd.R_reads' HO_6.out).2.2 x14_5 p142 q142
                   cases e142
                   replace p142 := eq_true p142
                   replace q142 := eq_true q142
                   have p143 : 0 ≤ ((rd x6_3 x14_5) : Int) := of_decide_eq_true (by first | (with_reducible assumption) | assumption)
                   have q143 : (rd x6_3 x14_5) < (l0.length : Int) := of_decide_eq_true (by first | (with_reducible assumption) | assumption)
                   obtain ⟨ad143, e143, hx143_0, hx143_1, hx143_2⟩ := at_T47 HR0.out (rd x6_3 x14_5) p143 q143
                   have hw143_2 := hx143_2
                   have hw143_1 := hx143_1
                   have hw143_0 := hx143_0
                   obtain rfl : ad132 = ad143 := (by injection e143)
                   replace hx143_0 := (HB.out.cell (World.block_lt_of_cell? w _ hx143_0)).trans hx143_0
                   replace hx143_1 := (HB.out.cell (World.block_lt_of_cell? w _ hx143_1)).trans hx143_1
                   replace hx143_2 := (HB.out.cell (World.block_lt_of_cell? w _ hx143_2)).trans hx143_2
                   replace p143 := eq_true p143
                   replace q143 := eq_true q143
                   have p144 : 0 ≤ (x13_5 : Int) := of_decide_eq_true (by first | (with_reducible assumption) | assumption)
                   have q144 : x13_5 < (l0.length : Int) := of_decide_eq_true (by first | (with_reducible assumption) | assumption)
                   obtain ⟨ad144, e144, hx144_0, hx144_1, hx144_2⟩ := at_T47 HR0.out x13_5 p144 q144
                   have hw144_2 := hx144_2
                   have hw144_1 := hx144_1
                   have hw144_0 := hx144_0
                   obtain rfl : ad132 = ad144 := (by injection e144)
                   replace hx144_0 := (HB.out.cell (World.block_lt_of_cell? w _ hx144_0)).trans hx144_0
                   replace hx144_1 := (HB.out.cell (World.block_lt_of_cell? w _ hx144_1)).trans hx144_1
                   replace hx144_2 := (HB.out.cell (World.block_lt_of_cell? w _ hx144_2)).trans hx144_2
                   replace p144 := eq_true p144
                   replace q144 := eq_true q144
                   refine start_ (n := 15) (S := fun w' => w'.cell? (ad142.add (x14_5).toNat) = some (.int .i64 (rd x6_3 x14_5)) ∧ w'.cell? (ad132.add (((rd x6_3 x14_5)).toNat * 3)) = some (.int .i64 ((rd_T47 l0 (rd x6_3 x14_5)).f0)) ∧ w'.cell? ⟨(ad132.add (((rd x6_3 x14_5)).toNat * 3)).block, (ad132.add (((rd x6_3 x14_5)).toNat * 3)).off + 1, none⟩ = some (.int .i64 ((rd_T47 l0 (rd x6_3 x14_5)).f1)) ∧ w'.cell? ⟨(ad132.add (((rd x6_3 x14_5)).toNat * 3)).block, (ad132.add (((rd x6_3 x14_5)).toNat * 3)).off + 2, none⟩ = some (.int .i64 ((rd_T47 l0 (rd x6_3 x14_5)).f2)) ∧ w'.cell? (ad132.add ((x13_5).toNat * 3)) = some (.int .i64 ((rd_T47 l0 x13_5).f0)) ∧ w'.cell? ⟨(ad132.add ((x13_5).toNat * 3)).block, (ad132.add ((x13_5).toNat * 3)).off + 1, none⟩ = some (.int .i64 ((rd_T47 l0 x13_5).f1)) ∧ w'.cell? ⟨(ad132.add ((x13_5).toNat * 3)).block, (ad132.add ((x13_5).toNat * 3)).off + 2, none⟩ = some (.int .i64 ((rd_T47 l0 x13_5).f2))) (ds := []) #[F,F,F,F,F,F,F,F,F,F,F,F,F,F,F] (by kernel_rfl) rfl rfl ⟨hx142_0, ((HB.out.cell (World.block_lt_of_cell? w _ hw143_0)).trans hw143_0), ((HB.out.cell (World.block_lt_of_cell? w _ hw143_1)).trans hw143_1), ((HB.out.cell (World.block_lt_of_cell? w _ hw143_2)).trans hw143_2), ((HB.out.cell (World.block_lt_of_cell? w _ hw144_0)).trans hw144_0), ((HB.out.cell (World.block_lt_of_cell? w _ hw144_1)).trans hw144_1), ((HB.out.cell (World.block_lt_of_cell? w _ hw144_2)).trans hw144_2)⟩ (fun hHeld => ?_); refine with_tabW ratlineref18_Assign.tab31 ratlineref18_Assign.bits31 (fun HT_ HW_ => ?_)
                   generalize wr.drew = w90 at HO_5 HO_6 HB hx142_0 hx143_0 hx143_1 hx143_2 hx144_0 hx144_1 hx144_2 hHeld ⊢
                   refine pure_ (i := 0) (N := some 113) (v := ?_) (a' := ?_) #[T,F,F,F,F,F,F,F,F,F,F,F,F,F,F] rfl rfl (any_of HT_.out (by kernel_rfl)) (fun _ _ _ h => h) (Or.inl ⟨by rfl, ?_⟩) ?_ ?_
                   rotate_left; (focus intro w'; go_simp; with_reducible rfl); rotate_left; (focus simp only [Act.put, List.setIfInBounds_toArray, List.set_cons_zero, List.set_cons_succ, i64_w, i32_w]; rfl)
                   refine pure_ (i := 1) (N := some 114) (v := ?_) (a' := ?_) #[T,T,F,F,F,F,F,F,F,F,F,F,F,F,F] rfl rfl (any_of HT_.out (by kernel_rfl)) (fun _ _ _ h => h) (Or.inl ⟨by rfl, ?_⟩) ?_ ?_
                   rotate_left; (focus intro w'; go_simp; with_reducible rfl); rotate_left; (focus simp only [Act.put, List.setIfInBounds_toArray, List.set_cons_zero, List.set_cons_succ, i64_w, i32_w]; rfl)
                   refine pure_ (i := 2) (N := some 115) (v := ?_) (a' := ?_) #[T,T,T,F,F,F,F,F,F,F,F,F,F,F,F] rfl rfl (any_of HT_.out (by kernel_rfl)) (fun _ _ _ h => h) (Or.inl ⟨by rfl, ?_⟩) ?_ ?_
                   rotate_left; (focus intro w'; go_simp; with_reducible rfl); rotate_left; (focus simp only [Act.put, List.setIfInBounds_toArray, List.set_cons_zero, List.set_cons_succ, i64_w, i32_w]; rfl)
                   refine pure_ (i := 3) (N := some 116) (v := ?_) (a' := ?_) #[T,T,T,T,F,F,F,F,F,F,F,F,F,F,F] rfl rfl (any_of HT_.out (by kernel_rfl)) (fun _ _ _ h => h) (Or.inl ⟨by rfl, ?_⟩) ?_ ?_
                   rotate_left; (focus intro w'; go_simp; with_reducible rfl); rotate_left; (focus simp only [Act.put, List.setIfInBounds_toArray, List.set_cons_zero, List.set_cons_succ, i64_w, i32_w]; rfl)
                   refine pure_ (i := 7) (N := some 120) (v := ?_) (a' := ?_) #[T,T,T,T,F,F,F,T,F,F,F,F,F,F,F] rfl rfl (any_of HT_.out (by kernel_rfl)) (fun _ _ _ h => h) (Or.inl ⟨by rfl, ?_⟩) ?_ ?_
                   rotate_left; (focus intro w'; go_simp; with_reducible rfl); rotate_left; (focus simp only [Act.put, List.setIfInBounds_toArray, List.set_cons_zero, List.set_cons_succ, i64_w, i32_w]; rfl)
                   refine pure_ (i := 8) (N := some 121) (v := ?_) (a' := ?_) #[T,T,T,T,F,F,F,T,T,F,F,F,F,F,F] rfl rfl (any_of HT_.out (by kernel_rfl)) (fun _ _ _ h => h) (Or.inl ⟨by rfl, ?_⟩) ?_ ?_
                   rotate_left; (focus intro w'; go_simp; with_reducible rfl); rotate_left; (focus simp only [Act.put, List.setIfInBounds_toArray, List.set_cons_zero, List.set_cons_succ, i64_w, i32_w]; rfl)
                   refine pure_ (i := 9) (N := some 122) (v := ?_) (a' := ?_) #[T,T,T,T,F,F,F,T,T,T,F,F,F,F,F] rfl rfl (any_of HT_.out (by kernel_rfl)) (fun _ _ _ h => h) (Or.inl ⟨by rfl, ?_⟩) ?_ ?_
                   rotate_left; (focus intro w'; go_simp; with_reducible rfl); rotate_left; (focus simp only [Act.put, List.setIfInBounds_toArray, List.set_cons_zero, List.set_cons_succ, i64_w, i32_w]; rfl)
                   refine take_ (i := 4) (N := some 117) (v := ?_) (a' := ?_) #[T,T,T,T,T,F,F,T,T,T,F,F,F,F,F] rfl rfl (take_ofW HT_.out HW_.out (by kernel_rfl)) (fun _ _ _ h => h) (Or.inl ⟨by rfl, ?_⟩) hHeld ?_ ?_
                   rotate_left
                   ·rintro w' ⟨s0, s1, s2, s3, s4, s5, s6⟩
                    go_simp
                    with_reducible rfl
                   rotate_left
                   ·simp only [Act.put, List.setIfInBounds_toArray, List.set_cons_zero, List.set_cons_succ, i64_w, i32_w]
                    rfl
                   refine pure_ (i := 5) (N := some 118) (v := ?_) (a' := ?_) #[T,T,T,T,T,T,F,T,T,T,F,F,F,F,F] rfl rfl (any_of HT_.out (by kernel_rfl)) (fun _ _ _ h => h) (Or.inl ⟨by rfl, ?_⟩) ?_ ?_
                   rotate_left; (focus intro w'; go_simp; with_reducible rfl); rotate_left; (focus simp only [Act.put, List.setIfInBounds_toArray, List.set_cons_zero, List.set_cons_succ, i64_w, i32_w]; rfl)
                   refine take_ (i := 6) (N := some 119) (v := ?_) (a' := ?_) #[T,T,T,T,T,T,T,T,T,T,F,F,F,F,F] rfl rfl (take_ofW HT_.out HW_.out (by kernel_rfl)) (fun _ _ _ h => h) (Or.inl ⟨by rfl, ?_⟩) hHeld ?_ ?_
                   rotate_left
                   ·rintro w' ⟨s0, s1, s2, s3, s4, s5, s6⟩
                    go_simp
                    with_reducible rfl
                   rotate_left
                   ·simp only [Act.put, List.setIfInBounds_toArray, List.set_cons_zero, List.set_cons_succ, i64_w, i32_w]
                    rfl
                   refine take_ (i := 10) (N := some 123) (v := ?_) (a' := ?_) #[T,T,T,T,T,T,T,T,T,T,T,F,F,F,F] rfl rfl (take_ofW HT_.out HW_.out (by kernel_rfl)) (fun _ _ _ h => h) (Or.inl ⟨by rfl, ?_⟩) hHeld ?_ ?_
                   rotate_left
                   ·rintro w' ⟨s0, s1, s2, s3, s4, s5, s6⟩
                    go_simp
                    with_reducible rfl
                   rotate_left
                   ·simp only [Act.put, List.setIfInBounds_toArray, List.set_cons_zero, List.set_cons_succ, i64_w, i32_w]
                    rfl
                   refine join_ (σ := Nat × Nat) 2 #[T,T,T,T,T,T,T,T,T,T,T,T,T,F,F] (fun s_ => [(15, .pointer (some ⟨s_.1, 0, none⟩)), (16, .pointer (some ⟨s_.2, 0, none⟩))]) (fun s_ w' => (w'.cell? (ad142.add (x14_5).toNat) = some (.int .i64 (rd x6_3 x14_5)) ∧ w'.cell? (ad132.add (((rd x6_3 x14_5)).toNat * 3)) = some (.int .i64 ((rd_T47 l0 (rd x6_3 x14_5)).f0)) ∧ w'.cell? ⟨(ad132.add (((rd x6_3 x14_5)).toNat * 3)).block, (ad132.add (((rd x6_3 x14_5)).toNat * 3)).off + 1, none⟩ = some (.int .i64 ((rd_T47 l0 (rd x6_3 x14_5)).f1)) ∧ w'.cell? ⟨(ad132.add (((rd x6_3 x14_5)).toNat * 3)).block, (ad132.add (((rd x6_3 x14_5)).toNat * 3)).off + 2, none⟩ = some (.int .i64 ((rd_T47 l0 (rd x6_3 x14_5)).f2)) ∧ w'.cell? (ad132.add ((x13_5).toNat * 3)) = some (.int .i64 ((rd_T47 l0 x13_5).f0)) ∧ w'.cell? ⟨(ad132.add ((x13_5).toNat * 3)).block, (ad132.add ((x13_5).toNat * 3)).off + 1, none⟩ = some (.int .i64 ((rd_T47 l0 x13_5).f1)) ∧ w'.cell? ⟨(ad132.add ((x13_5).toNat * 3)).block, (ad132.add ((x13_5).toNat * 3)).off + 2, none⟩ = some (.int .i64 ((rd_T47 l0 x13_5).f2))) ∧ (Kd.R k38 38 w' w.heap.size (fun _ => True) (.slice (some ⟨go23, 0, none⟩) y133.length co23) y133) ∧ (Kd.R (Kd.int .i64) 3 w' w.heap.size (fun _ => True) (.slice (some ad142) x6_3.length co19) x6_3) ∧ (w'.heap[s_.1]? = some (.cells #[.int .i64 0, .int .i64 0, .int .i64 0] 47 (0, 0))) ∧ (w'.heap[s_.2]? = some (.cells #[.int .i64 0, .int .i64 0, .int .i64 0] 47 (0, 0))) ∧ (w.heap.size ≤ s_.1) ∧ (w.heap.size ≤ s_.1) ∧ (s_.2 ≠ s_.1) ∧ (s_.1 ≠ s_.2) ∧ (w.heap.size ≤ s_.2) ∧ (w.heap.size ≤ s_.2) ∧ (Below w.heap.size w w')) ?_ ?_
                   rotate_left
                   ·intro hCont
                    refine two_ (i := 11) (j := 12) (Ni := some 15) (Nj := some 16) #[T,T,T,T,T,T,T,T,T,T,T,T,F,F,F] #[T,T,T,T,T,T,T,T,T,T,T,F,T,F,F] rfl rfl rfl rfl (two_of HT_.out (by kernel_rfl)) (by decide) (by decide) (fun K hK => ?_) (fun K hK => ?_)
                    ·skip
                     refine box_step ?hg (N := 15) ?hd (cs := #[.int .i64 0, .int .i64 0, .int .i64 0]) (t := 47) ?hr ?_; (case hd => rfl); (case hg => rfl); (case hr => first | (go_simp; done) | (go_simp; rfl))
                     intro gb145 hg w91 hbox hb
                     have HS0_ := (hb.cell (World.block_lt_of_cell? _ _ (hHeld.1))).trans (hHeld.1)
                     have n0_ := Aside0.mk (Kd.R_below (by (with_reducible repeat (first | apply Kd.R_alloc | apply Kd.R_drewN | apply Kd.R_drew)); exact HO_5.out) hb)
                     have n1_ := Aside0.mk (Kd.R_below (by (with_reducible repeat (first | apply Kd.R_alloc | apply Kd.R_drewN | apply Kd.R_drew)); exact HO_6.out) hb)
                     have n2_ := Aside0.mk (below_step (by repeat (first | (with_reducible first | exact HB.out | apply below_alloc | apply pw_below_drewN | apply below_drew1) | exact HB.out)) hb)
                     have n3_ := Aside0.mk (hbox)
                     have n4_ := Aside0.mk ((by rw [hg]; exact (below_size (by repeat (first | (with_reducible first | exact HB.out | apply below_alloc | apply pw_below_drewN | apply below_drew1) | exact HB.out))) : w.heap.size ≤ gb145))
                     have n5_ := Aside0.mk ((by rw [hg]; exact (below_size (by repeat (first | (with_reducible first | exact HB.out | apply below_alloc | apply pw_below_drewN | apply below_drew1) | exact HB.out))) : w.heap.size ≤ gb145))
                     clear HO_5
                     clear HO_6
                     clear HB
                     have HO_5 := n0_
                     have HO_6 := n1_
                     have HB := n2_
                     have BK145 := n3_
                     have GW145 := n4_
                     have GE145 := n5_
                     clear n0_ n1_ n2_ n3_ n4_ n5_
                     clear hb hbox hg
                     refine hK.out _ _ ⟨HS0_, ((HB.out.cell (World.block_lt_of_cell? w _ hw143_0)).trans hw143_0), ((HB.out.cell (World.block_lt_of_cell? w _ hw143_1)).trans hw143_1), ((HB.out.cell (World.block_lt_of_cell? w _ hw143_2)).trans hw143_2), ((HB.out.cell (World.block_lt_of_cell? w _ hw144_0)).trans hw144_0), ((HB.out.cell (World.block_lt_of_cell? w _ hw144_1)).trans hw144_1), ((HB.out.cell (World.block_lt_of_cell? w _ hw144_2)).trans hw144_2)⟩ (fun hHeld => ?_)
                     clear hK K
                     refine norm_ (a' := ?_) ?_ ?_
                     rotate_left
                     ·show Act.put _ (some 15) _ = _
                      simp only [Act.put, List.setIfInBounds_toArray, List.set_cons_zero, List.set_cons_succ, i64_w, i32_w]
                      rfl
                     refine one_ (i := 12) (N := some 16) #[T,T,T,T,T,T,T,T,T,T,T,T,T,F,F] rfl rfl (one_of HT_.out (by kernel_rfl)) (by decide) (fun K hK => ?_)
                     refine box_step ?hg (N := 16) ?hd (cs := #[.int .i64 0, .int .i64 0, .int .i64 0]) (t := 47) ?hr ?_; (case hd => rfl); (case hg => rfl); (case hr => first | (go_simp; done) | (go_simp; rfl))
                     intro gb146 hg w92 hbox hb
                     have HS0_ := (hb.cell (World.block_lt_of_cell? _ _ (hHeld.1))).trans (hHeld.1)
                     have n0_ := Aside0.mk (Kd.R_below (by (with_reducible repeat (first | apply Kd.R_alloc | apply Kd.R_drewN | apply Kd.R_drew)); exact HO_5.out) hb)
                     have n1_ := Aside0.mk (Kd.R_below (by (with_reducible repeat (first | apply Kd.R_alloc | apply Kd.R_drewN | apply Kd.R_drew)); exact HO_6.out) hb)
                     have n2_ := Aside0.mk (blk_below (g := gb145) (o := .cells #[.int .i64 0, .int .i64 0, .int .i64 0] 47 (0, 0)) (by (with_reducible repeat (first | refine blk_drewN ?_ _ | refine blk_drew ?_ | refine blk_alloc ?_ _)); exact BK145.out) hb)
                     have n3_ := Aside0.mk (below_step (by repeat (first | (with_reducible first | exact HB.out | apply below_alloc | apply pw_below_drewN | apply below_drew1 | refine below_set ?_ GE145.out) | exact HB.out)) hb)
                     have n4_ := Aside0.mk (hbox)
                     have n5_ := Aside0.mk ((by rw [hg]; exact (below_size (by repeat (first | (with_reducible first | exact HB.out | apply below_alloc | apply pw_below_drewN | apply below_drew1 | refine below_set ?_ GE145.out) | exact HB.out))) : w.heap.size ≤ gb146))
                     have n6_ := Aside0.mk ((by rw [hg]; exact (below_size (by repeat (first | (with_reducible first | exact HB.out | apply below_alloc | apply pw_below_drewN | apply below_drew1 | refine below_set ?_ GE145.out) | exact HB.out))) : w.heap.size ≤ gb146))
                     have n7_ := Aside0.mk ((by rw [hg]; exact Nat.ne_of_lt (blk_lt (g := gb145) (o := .cells #[.int .i64 0, .int .i64 0, .int .i64 0] 47 (0, 0)) (by (with_reducible repeat (first | refine blk_drewN ?_ _ | refine blk_drew ?_ | refine blk_alloc ?_ _)); exact BK145.out)) : gb145 ≠ gb146))
                     have n8_ := Aside0.mk ((by rw [hg]; exact Nat.ne_of_gt (blk_lt (g := gb145) (o := .cells #[.int .i64 0, .int .i64 0, .int .i64 0] 47 (0, 0)) (by (with_reducible repeat (first | refine blk_drewN ?_ _ | refine blk_drew ?_ | refine blk_alloc ?_ _)); exact BK145.out)) : gb146 ≠ gb145))
                     clear HO_5
                     clear HO_6
                     clear BK145
                     clear HB
                     have HO_5 := n0_
                     have HO_6 := n1_
                     have BK145 := n2_
                     have HB := n3_
                     have BK146 := n4_
                     have GW146 := n5_
                     have GE146 := n6_
                     have NB145_146 := n7_
                     have NB146_145 := n8_
                     clear n0_ n1_ n2_ n3_ n4_ n5_ n6_ n7_ n8_
                     clear hb hbox hg
                     refine hK.out _ _ ⟨HS0_, ((HB.out.cell (World.block_lt_of_cell? w _ hw143_0)).trans hw143_0), ((HB.out.cell (World.block_lt_of_cell? w _ hw143_1)).trans hw143_1), ((HB.out.cell (World.block_lt_of_cell? w _ hw143_2)).trans hw143_2), ((HB.out.cell (World.block_lt_of_cell? w _ hw144_0)).trans hw144_0), ((HB.out.cell (World.block_lt_of_cell? w _ hw144_1)).trans hw144_1), ((HB.out.cell (World.block_lt_of_cell? w _ hw144_2)).trans hw144_2)⟩ (fun hHeld => ?_)
                     clear hK K
                     refine norm_ (a' := ?_) ?_ ?_
                     rotate_left
                     ·show Act.put _ (some 16) _ = _
                      simp only [Act.put, List.setIfInBounds_toArray, List.set_cons_zero, List.set_cons_succ, i64_w, i32_w]
                      rfl
                     exact norm_ (by simp only [putAll, Act.put, List.setIfInBounds_toArray, List.set_cons_zero, List.set_cons_succ]) (hCont (gb145, gb146) _ ⟨hHeld, (by (with_reducible repeat (first | apply Kd.R_alloc | apply Kd.R_drewN | apply Kd.R_drew)); exact HO_5.out), (by (with_reducible repeat (first | apply Kd.R_alloc | apply Kd.R_drewN | apply Kd.R_drew)); exact HO_6.out), (by (with_reducible repeat (first | refine blk_drewN ?_ _ | refine blk_drew ?_ | refine blk_alloc ?_ _)); exact BK145.out), (by (with_reducible repeat (first | refine blk_drewN ?_ _ | refine blk_drew ?_ | refine blk_alloc ?_ _)); exact BK146.out), GW145.out, GE145.out, NB146_145.out, NB145_146.out, GW146.out, GE146.out, (by repeat (first | (with_reducible first | exact HB.out | apply below_alloc | apply pw_below_drewN | apply below_drew1 | refine below_set ?_ GE145.out | refine below_set ?_ GE146.out) | exact HB.out))⟩)
                    ·skip
                     refine box_step ?hg (N := 16) ?hd (cs := #[.int .i64 0, .int .i64 0, .int .i64 0]) (t := 47) ?hr ?_; (case hd => rfl); (case hg => rfl); (case hr => first | (go_simp; done) | (go_simp; rfl))
                     intro gb146 hg w91 hbox hb
                     have HS0_ := (hb.cell (World.block_lt_of_cell? _ _ (hHeld.1))).trans (hHeld.1)
                     have n0_ := Aside0.mk (Kd.R_below (by (with_reducible repeat (first | apply Kd.R_alloc | apply Kd.R_drewN | apply Kd.R_drew)); exact HO_5.out) hb)
                     have n1_ := Aside0.mk (Kd.R_below (by (with_reducible repeat (first | apply Kd.R_alloc | apply Kd.R_drewN | apply Kd.R_drew)); exact HO_6.out) hb)
                     have n2_ := Aside0.mk (below_step (by repeat (first | (with_reducible first | exact HB.out | apply below_alloc | apply pw_below_drewN | apply below_drew1) | exact HB.out)) hb)
                     have n3_ := Aside0.mk (hbox)
                     have n4_ := Aside0.mk ((by rw [hg]; exact (below_size (by repeat (first | (with_reducible first | exact HB.out | apply below_alloc | apply pw_below_drewN | apply below_drew1) | exact HB.out))) : w.heap.size ≤ gb146))
                     have n5_ := Aside0.mk ((by rw [hg]; exact (below_size (by repeat (first | (with_reducible first | exact HB.out | apply below_alloc | apply pw_below_drewN | apply below_drew1) | exact HB.out))) : w.heap.size ≤ gb146))
                     clear HO_5
                     clear HO_6
                     clear HB
                     have HO_5 := n0_
                     have HO_6 := n1_
                     have HB := n2_
                     have BK146 := n3_
                     have GW146 := n4_
                     have GE146 := n5_
                     clear n0_ n1_ n2_ n3_ n4_ n5_
                     clear hb hbox hg
                     refine hK.out _ _ ⟨HS0_, ((HB.out.cell (World.block_lt_of_cell? w _ hw143_0)).trans hw143_0), ((HB.out.cell (World.block_lt_of_cell? w _ hw143_1)).trans hw143_1), ((HB.out.cell (World.block_lt_of_cell? w _ hw143_2)).trans hw143_2), ((HB.out.cell (World.block_lt_of_cell? w _ hw144_0)).trans hw144_0), ((HB.out.cell (World.block_lt_of_cell? w _ hw144_1)).trans hw144_1), ((HB.out.cell (World.block_lt_of_cell? w _ hw144_2)).trans hw144_2)⟩ (fun hHeld => ?_)
                     clear hK K
                     refine norm_ (a' := ?_) ?_ ?_
                     rotate_left
                     ·show Act.put _ (some 16) _ = _
                      simp only [Act.put, List.setIfInBounds_toArray, List.set_cons_zero, List.set_cons_succ, i64_w, i32_w]
                      rfl
                     refine one_ (i := 11) (N := some 15) #[T,T,T,T,T,T,T,T,T,T,T,T,T,F,F] rfl rfl (one_of HT_.out (by kernel_rfl)) (by decide) (fun K hK => ?_)
                     refine box_step ?hg (N := 15) ?hd (cs := #[.int .i64 0, .int .i64 0, .int .i64 0]) (t := 47) ?hr ?_; (case hd => rfl); (case hg => rfl); (case hr => first | (go_simp; done) | (go_simp; rfl))
                     intro gb145 hg w92 hbox hb
                     have HS0_ := (hb.cell (World.block_lt_of_cell? _ _ (hHeld.1))).trans (hHeld.1)
                     have n0_ := Aside0.mk (Kd.R_below (by (with_reducible repeat (first | apply Kd.R_alloc | apply Kd.R_drewN | apply Kd.R_drew)); exact HO_5.out) hb)
                     have n1_ := Aside0.mk (Kd.R_below (by (with_reducible repeat (first | apply Kd.R_alloc | apply Kd.R_drewN | apply Kd.R_drew)); exact HO_6.out) hb)
                     have n2_ := Aside0.mk (blk_below (g := gb146) (o := .cells #[.int .i64 0, .int .i64 0, .int .i64 0] 47 (0, 0)) (by (with_reducible repeat (first | refine blk_drewN ?_ _ | refine blk_drew ?_ | refine blk_alloc ?_ _)); exact BK146.out) hb)
                     have n3_ := Aside0.mk (below_step (by repeat (first | (with_reducible first | exact HB.out | apply below_alloc | apply pw_below_drewN | apply below_drew1 | refine below_set ?_ GE146.out) | exact HB.out)) hb)
                     have n4_ := Aside0.mk (hbox)
                     have n5_ := Aside0.mk ((by rw [hg]; exact (below_size (by repeat (first | (with_reducible first | exact HB.out | apply below_alloc | apply pw_below_drewN | apply below_drew1 | refine below_set ?_ GE146.out) | exact HB.out))) : w.heap.size ≤ gb145))
                     have n6_ := Aside0.mk ((by rw [hg]; exact (below_size (by repeat (first | (with_reducible first | exact HB.out | apply below_alloc | apply pw_below_drewN | apply below_drew1 | refine below_set ?_ GE146.out) | exact HB.out))) : w.heap.size ≤ gb145))
                     have n7_ := Aside0.mk ((by rw [hg]; exact Nat.ne_of_lt (blk_lt (g := gb146) (o := .cells #[.int .i64 0, .int .i64 0, .int .i64 0] 47 (0, 0)) (by (with_reducible repeat (first | refine blk_drewN ?_ _ | refine blk_drew ?_ | refine blk_alloc ?_ _)); exact BK146.out)) : gb146 ≠ gb145))
                     have n8_ := Aside0.mk ((by rw [hg]; exact Nat.ne_of_gt (blk_lt (g := gb146) (o := .cells #[.int .i64 0, .int .i64 0, .int .i64 0] 47 (0, 0)) (by (with_reducible repeat (first | refine blk_drewN ?_ _ | refine blk_drew ?_ | refine blk_alloc ?_ _)); exact BK146.out)) : gb145 ≠ gb146))
                     clear HO_5
                     clear HO_6
                     clear BK146
                     clear HB
                     have HO_5 := n0_
                     have HO_6 := n1_
                     have BK146 := n2_
                     have HB := n3_
                     have BK145 := n4_
                     have GW145 := n5_
                     have GE145 := n6_
                     have NB146_145 := n7_
                     have NB145_146 := n8_
                     clear n0_ n1_ n2_ n3_ n4_ n5_ n6_ n7_ n8_
                     clear hb hbox hg
                     refine hK.out _ _ ⟨HS0_, ((HB.out.cell (World.block_lt_of_cell? w _ hw143_0)).trans hw143_0), ((HB.out.cell (World.block_lt_of_cell? w _ hw143_1)).trans hw143_1), ((HB.out.cell (World.block_lt_of_cell? w _ hw143_2)).trans hw143_2), ((HB.out.cell (World.block_lt_of_cell? w _ hw144_0)).trans hw144_0), ((HB.out.cell (World.block_lt_of_cell? w _ hw144_1)).trans hw144_1), ((HB.out.cell (World.block_lt_of_cell? w _ hw144_2)).trans hw144_2)⟩ (fun hHeld => ?_)
                     clear hK K
                     refine norm_ (a' := ?_) ?_ ?_
                     rotate_left
                     ·show Act.put _ (some 15) _ = _
                      simp only [Act.put, List.setIfInBounds_toArray, List.set_cons_zero, List.set_cons_succ, i64_w, i32_w]
                      rfl
                     exact norm_ (by simp only [putAll, Act.put, List.setIfInBounds_toArray, List.set_cons_zero, List.set_cons_succ]) (hCont (gb145, gb146) _ ⟨hHeld, (by (with_reducible repeat (first | apply Kd.R_alloc | apply Kd.R_drewN | apply Kd.R_drew)); exact HO_5.out), (by (with_reducible repeat (first | apply Kd.R_alloc | apply Kd.R_drewN | apply Kd.R_drew)); exact HO_6.out), (by (with_reducible repeat (first | refine blk_drewN ?_ _ | refine blk_drew ?_ | refine blk_alloc ?_ _)); exact BK145.out), (by (with_reducible repeat (first | refine blk_drewN ?_ _ | refine blk_drew ?_ | refine blk_alloc ?_ _)); exact BK146.out), GW145.out, GE145.out, NB146_145.out, NB145_146.out, GW146.out, GE146.out, (by repeat (first | (with_reducible first | exact HB.out | apply below_alloc | apply pw_below_drewN | apply below_drew1 | refine below_set ?_ GE146.out | refine below_set ?_ GE145.out) | exact HB.out))⟩)
                   rintro ⟨gb145, gb146⟩ w93 ⟨hS_, h0_, h1_, h2_, h3_, h4_, h5_, h6_, h7_, h8_, h9_, h10_⟩
                   have n0_ : Aside0 (Kd.R k38 38 w93 w.heap.size (fun _ => True) (.slice (some ⟨go23, 0, none⟩) y133.length co23) y133) := ⟨h0_⟩
                   have n1_ : Aside0 (Kd.R (Kd.int .i64) 3 w93 w.heap.size (fun _ => True) (.slice (some ad142) x6_3.length co19) x6_3) := ⟨h1_⟩
                   have n2_ : Aside0 (w93.heap[gb145]? = some (.cells #[.int .i64 0, .int .i64 0, .int .i64 0] 47 (0, 0))) := ⟨h2_⟩
                   have n3_ : Aside0 (w93.heap[gb146]? = some (.cells #[.int .i64 0, .int .i64 0, .int .i64 0] 47 (0, 0))) := ⟨h3_⟩
                   have n4_ : Aside0 (w.heap.size ≤ gb145) := ⟨h4_⟩
                   have n5_ : Aside0 (w.heap.size ≤ gb145) := ⟨h5_⟩
                   have n6_ : Aside0 (gb146 ≠ gb145) := ⟨h6_⟩
                   have n7_ : Aside0 (gb145 ≠ gb146) := ⟨h7_⟩
                   have n8_ : Aside0 (w.heap.size ≤ gb146) := ⟨h8_⟩
                   have n9_ : Aside0 (w.heap.size ≤ gb146) := ⟨h9_⟩
                   have n10_ : Aside0 (Below w.heap.size w w93) := ⟨h10_⟩
                   clear HO_5
                   clear HO_6
                   clear HB
                   clear h0_ h1_ h2_ h3_ h4_ h5_ h6_ h7_ h8_ h9_ h10_
                   have HO_5 := n0_
                   have HO_6 := n1_
                   have BK145 := n2_
                   have BK146 := n3_
                   have GW145 := n4_
                   have GE145 := n5_
                   have NB146_145 := n6_
                   have NB145_146 := n7_
                   have GW146 := n8_
                   have GE146 := n9_
                   have HB := n10_
                   clear n0_ n1_ n2_ n3_ n4_ n5_ n6_ n7_ n8_ n9_ n10_
                   have hHeld : w93.cell? (ad142.add (x14_5).toNat) = some (.int .i64 (rd x6_3 x14_5)) ∧ w93.cell? (ad132.add (((rd x6_3 x14_5)).toNat * 3)) = some (.int .i64 ((rd_T47 l0 (rd x6_3 x14_5)).f0)) ∧ w93.cell? ⟨(ad132.add (((rd x6_3 x14_5)).toNat * 3)).block, (ad132.add (((rd x6_3 x14_5)).toNat * 3)).off + 1, none⟩ = some (.int .i64 ((rd_T47 l0 (rd x6_3 x14_5)).f1)) ∧ w93.cell? ⟨(ad132.add (((rd x6_3 x14_5)).toNat * 3)).block, (ad132.add (((rd x6_3 x14_5)).toNat * 3)).off + 2, none⟩ = some (.int .i64 ((rd_T47 l0 (rd x6_3 x14_5)).f2)) ∧ w93.cell? (ad132.add ((x13_5).toNat * 3)) = some (.int .i64 ((rd_T47 l0 x13_5).f0)) ∧ w93.cell? ⟨(ad132.add ((x13_5).toNat * 3)).block, (ad132.add ((x13_5).toNat * 3)).off + 1, none⟩ = some (.int .i64 ((rd_T47 l0 x13_5).f1)) ∧ w93.cell? ⟨(ad132.add ((x13_5).toNat * 3)).block, (ad132.add ((x13_5).toNat * 3)).off + 2, none⟩ = some (.int .i64 ((rd_T47 l0 x13_5).f2)) := hS_
                   refine norm_ (a' := ?_) ?_ ?_
                   rotate_left
                   ·simp only [putAll, Act.put, List.setIfInBounds_toArray, List.set_cons_zero, List.set_cons_succ]
                    rfl
                   refine one_ (i := 13) (N := none) #[T,T,T,T,T,T,T,T,T,T,T,T,T,T,F] rfl rfl (one_of HT_.out (by kernel_rfl)) (by decide) (fun K hK => ?_)
                   have hs94 : w93.cell? ⟨gb145, 0, none⟩ = some (.int .i64 0) := (blk_cell BK145.out 0).trans rfl
                   have hfs94 := blk_frozen BK145.out 0
                   have hns94_1 := NB146_145.out
                   have hms94_1 := NB145_146.out
                   have hs95 : w93.cell? ⟨gb145, 1, none⟩ = some (.int .i64 0) := (blk_cell BK145.out 1).trans rfl
                   have hfs95 := blk_frozen BK145.out 1
                   have hns95_1 := NB146_145.out
                   have hms95_1 := NB145_146.out
                   have hs96 : w93.cell? ⟨gb145, 2, none⟩ = some (.int .i64 0) := (blk_cell BK145.out 2).trans rfl
                   have hfs96 := blk_frozen BK145.out 2
                   have hns96_1 := NB146_145.out
                   have hms96_1 := NB145_146.out
                   refine skip_ (w1 := ?_) (by rfl) rfl ?_ ?_
                   rotate_left
                   ·go_simp
                    rfl
                   refine hK.out _ _ ⟨((cell_far (p := ⟨gb145, _, none⟩) (by first | exact Kd.own_blk (Kd.R_ne HO_6.out BK145.out (by decide)) | (rw [add_block]; exact Kd.own_blk (Kd.R_ne HO_6.out BK145.out (by decide))) | (show (Addr.add _ _).block ≠ _; rw [add_block]; exact Kd.own_blk (Kd.R_ne HO_6.out BK145.out (by decide))) | (dsimp only; exact Kd.own_blk (Kd.R_ne HO_6.out BK145.out (by decide)))) _).trans (((cell_far (p := ⟨gb145, _, none⟩) (by first | exact Kd.own_blk (Kd.R_ne HO_6.out BK145.out (by decide)) | (rw [add_block]; exact Kd.own_blk (Kd.R_ne HO_6.out BK145.out (by decide))) | (show (Addr.add _ _).block ≠ _; rw [add_block]; exact Kd.own_blk (Kd.R_ne HO_6.out BK145.out (by decide))) | (dsimp only; exact Kd.own_blk (Kd.R_ne HO_6.out BK145.out (by decide)))) _).trans (((cell_far (p := ⟨gb145, _, none⟩) (by first | exact Kd.own_blk (Kd.R_ne HO_6.out BK145.out (by decide)) | (rw [add_block]; exact Kd.own_blk (Kd.R_ne HO_6.out BK145.out (by decide))) | (show (Addr.add _ _).block ≠ _; rw [add_block]; exact Kd.own_blk (Kd.R_ne HO_6.out BK145.out (by decide))) | (dsimp only; exact Kd.own_blk (Kd.R_ne HO_6.out BK145.out (by decide)))) _).trans (hHeld.1)))))), ((cell_far (p := ⟨gb145, _, none⟩) (Nat.ne_of_lt (Nat.lt_of_lt_of_le (World.block_lt_of_cell? _ _ hw143_0) GW145.out)) _).trans (((cell_far (p := ⟨gb145, _, none⟩) (Nat.ne_of_lt (Nat.lt_of_lt_of_le (World.block_lt_of_cell? _ _ hw143_0) GW145.out)) _).trans (((cell_far (p := ⟨gb145, _, none⟩) (Nat.ne_of_lt (Nat.lt_of_lt_of_le (World.block_lt_of_cell? _ _ hw143_0) GW145.out)) _).trans (hHeld.2.1)))))), ((cell_far (p := ⟨gb145, _, none⟩) (Nat.ne_of_lt (Nat.lt_of_lt_of_le (World.block_lt_of_cell? _ _ hw143_1) GW145.out)) _).trans (((cell_far (p := ⟨gb145, _, none⟩) (Nat.ne_of_lt (Nat.lt_of_lt_of_le (World.block_lt_of_cell? _ _ hw143_1) GW145.out)) _).trans (((cell_far (p := ⟨gb145, _, none⟩) (Nat.ne_of_lt (Nat.lt_of_lt_of_le (World.block_lt_of_cell? _ _ hw143_1) GW145.out)) _).trans (hHeld.2.2.1)))))), ((cell_far (p := ⟨gb145, _, none⟩) (Nat.ne_of_lt (Nat.lt_of_lt_of_le (World.block_lt_of_cell? _ _ hw143_2) GW145.out)) _).trans (((cell_far (p := ⟨gb145, _, none⟩) (Nat.ne_of_lt (Nat.lt_of_lt_of_le (World.block_lt_of_cell? _ _ hw143_2) GW145.out)) _).trans (((cell_far (p := ⟨gb145, _, none⟩) (Nat.ne_of_lt (Nat.lt_of_lt_of_le (World.block_lt_of_cell? _ _ hw143_2) GW145.out)) _).trans (hHeld.2.2.2.1)))))), ((cell_far (p := ⟨gb145, _, none⟩) (Nat.ne_of_lt (Nat.lt_of_lt_of_le (World.block_lt_of_cell? _ _ hw144_0) GW145.out)) _).trans (((cell_far (p := ⟨gb145, _, none⟩) (Nat.ne_of_lt (Nat.lt_of_lt_of_le (World.block_lt_of_cell? _ _ hw144_0) GW145.out)) _).trans (((cell_far (p := ⟨gb145, _, none⟩) (Nat.ne_of_lt (Nat.lt_of_lt_of_le (World.block_lt_of_cell? _ _ hw144_0) GW145.out)) _).trans (hHeld.2.2.2.2.1)))))), ((cell_far (p := ⟨gb145, _, none⟩) (Nat.ne_of_lt (Nat.lt_of_lt_of_le (World.block_lt_of_cell? _ _ hw144_1) GW145.out)) _).trans (((cell_far (p := ⟨gb145, _, none⟩) (Nat.ne_of_lt (Nat.lt_of_lt_of_le (World.block_lt_of_cell? _ _ hw144_1) GW145.out)) _).trans (((cell_far (p := ⟨gb145, _, none⟩) (Nat.ne_of_lt (Nat.lt_of_lt_of_le (World.block_lt_of_cell? _ _ hw144_1) GW145.out)) _).trans (hHeld.2.2.2.2.2.1)))))), ((cell_far (p := ⟨gb145, _, none⟩) (Nat.ne_of_lt (Nat.lt_of_lt_of_le (World.block_lt_of_cell? _ _ hw144_2) GW145.out)) _).trans (((cell_far (p := ⟨gb145, _, none⟩) (Nat.ne_of_lt (Nat.lt_of_lt_of_le (World.block_lt_of_cell? _ _ hw144_2) GW145.out)) _).trans (((cell_far (p := ⟨gb145, _, none⟩) (Nat.ne_of_lt (Nat.lt_of_lt_of_le (World.block_lt_of_cell? _ _ hw144_2) GW145.out)) _).trans (hHeld.2.2.2.2.2.2))))))⟩ (fun hHeld => ?_)
                   clear hK K
                   refine one_ (i := 14) (N := none) #[T,T,T,T,T,T,T,T,T,T,T,T,T,T,T] rfl rfl (one_of HT_.out (by kernel_rfl)) (by decide) (fun K hK => ?_)
                   have hs97 : w93.cell? ⟨gb146, 0, none⟩ = some (.int .i64 0) := (blk_cell BK146.out 0).trans rfl
                   have hfs97 := blk_frozen BK146.out 0
                   have hns97_0 := NB145_146.out
                   have hms97_0 := NB146_145.out
                   have hs98 : w93.cell? ⟨gb146, 1, none⟩ = some (.int .i64 0) := (blk_cell BK146.out 1).trans rfl
                   have hfs98 := blk_frozen BK146.out 1
                   have hns98_0 := NB145_146.out
                   have hms98_0 := NB146_145.out
                   have hs99 : w93.cell? ⟨gb146, 2, none⟩ = some (.int .i64 0) := (blk_cell BK146.out 2).trans rfl
                   have hfs99 := blk_frozen BK146.out 2
                   have hns99_0 := NB145_146.out
                   have hms99_0 := NB146_145.out
                   refine skip_ (w1 := ?_) (by rfl) rfl ?_ ?_
                   rotate_left
                   ·go_simp
                    rfl
                   refine hK.out _ _ ⟨((cell_far (p := ⟨gb146, _, none⟩) (by first | exact Kd.own_blk (Kd.R_ne HO_6.out BK146.out (by decide)) | (rw [add_block]; exact Kd.own_blk (Kd.R_ne HO_6.out BK146.out (by decide))) | (show (Addr.add _ _).block ≠ _; rw [add_block]; exact Kd.own_blk (Kd.R_ne HO_6.out BK146.out (by decide))) | (dsimp only; exact Kd.own_blk (Kd.R_ne HO_6.out BK146.out (by decide)))) _).trans (((cell_far (p := ⟨gb146, _, none⟩) (by first | exact Kd.own_blk (Kd.R_ne HO_6.out BK146.out (by decide)) | (rw [add_block]; exact Kd.own_blk (Kd.R_ne HO_6.out BK146.out (by decide))) | (show (Addr.add _ _).block ≠ _; rw [add_block]; exact Kd.own_blk (Kd.R_ne HO_6.out BK146.out (by decide))) | (dsimp only; exact Kd.own_blk (Kd.R_ne HO_6.out BK146.out (by decide)))) _).trans (((cell_far (p := ⟨gb146, _, none⟩) (by first | exact Kd.own_blk (Kd.R_ne HO_6.out BK146.out (by decide)) | (rw [add_block]; exact Kd.own_blk (Kd.R_ne HO_6.out BK146.out (by decide))) | (show (Addr.add _ _).block ≠ _; rw [add_block]; exact Kd.own_blk (Kd.R_ne HO_6.out BK146.out (by decide))) | (dsimp only; exact Kd.own_blk (Kd.R_ne HO_6.out BK146.out (by decide)))) _).trans (hHeld.1)))))), ((cell_far (p := ⟨gb146, _, none⟩) (Nat.ne_of_lt (Nat.lt_of_lt_of_le (World.block_lt_of_cell? _ _ hw143_0) GW146.out)) _).trans (((cell_far (p := ⟨gb146, _, none⟩) (Nat.ne_of_lt (Nat.lt_of_lt_of_le (World.block_lt_of_cell? _ _ hw143_0) GW146.out)) _).trans (((cell_far (p := ⟨gb146, _, none⟩) (Nat.ne_of_lt (Nat.lt_of_lt_of_le (World.block_lt_of_cell? _ _ hw143_0) GW146.out)) _).trans (hHeld.2.1)))))), ((cell_far (p := ⟨gb146, _, none⟩) (Nat.ne_of_lt (Nat.lt_of_lt_of_le (World.block_lt_of_cell? _ _ hw143_1) GW146.out)) _).trans (((cell_far (p := ⟨gb146, _, none⟩) (Nat.ne_of_lt (Nat.lt_of_lt_of_le (World.block_lt_of_cell? _ _ hw143_1) GW146.out)) _).trans (((cell_far (p := ⟨gb146, _, none⟩) (Nat.ne_of_lt (Nat.lt_of_lt_of_le (World.block_lt_of_cell? _ _ hw143_1) GW146.out)) _).trans (hHeld.2.2.1)))))), ((cell_far (p := ⟨gb146, _, none⟩) (Nat.ne_of_lt (Nat.lt_of_lt_of_le (World.block_lt_of_cell? _ _ hw143_2) GW146.out)) _).trans (((cell_far (p := ⟨gb146, _, none⟩) (Nat.ne_of_lt (Nat.lt_of_lt_of_le (World.block_lt_of_cell? _ _ hw143_2) GW146.out)) _).trans (((cell_far (p := ⟨gb146, _, none⟩) (Nat.ne_of_lt (Nat.lt_of_lt_of_le (World.block_lt_of_cell? _ _ hw143_2) GW146.out)) _).trans (hHeld.2.2.2.1)))))), ((cell_far (p := ⟨gb146, _, none⟩) (Nat.ne_of_lt (Nat.lt_of_lt_of_le (World.block_lt_of_cell? _ _ hw144_0) GW146.out)) _).trans (((cell_far (p := ⟨gb146, _, none⟩) (Nat.ne_of_lt (Nat.lt_of_lt_of_le (World.block_lt_of_cell? _ _ hw144_0) GW146.out)) _).trans (((cell_far (p := ⟨gb146, _, none⟩) (Nat.ne_of_lt (Nat.lt_of_lt_of_le (World.block_lt_of_cell? _ _ hw144_0) GW146.out)) _).trans (hHeld.2.2.2.2.1)))))), ((cell_far (p := ⟨gb146, _, none⟩) (Nat.ne_of_lt (Nat.lt_of_lt_of_le (World.block_lt_of_cell? _ _ hw144_1) GW146.out)) _).trans (((cell_far (p := ⟨gb146, _, none⟩) (Nat.ne_of_lt (Nat.lt_of_lt_of_le (World.block_lt_of_cell? _ _ hw144_1) GW146.out)) _).trans (((cell_far (p := ⟨gb146, _, none⟩) (Nat.ne_of_lt (Nat.lt_of_lt_of_le (World.block_lt_of_cell? _ _ hw144_1) GW146.out)) _).trans (hHeld.2.2.2.2.2.1)))))), ((cell_far (p := ⟨gb146, _, none⟩) (Nat.ne_of_lt (Nat.lt_of_lt_of_le (World.block_lt_of_cell? _ _ hw144_2) GW146.out)) _).trans (((cell_far (p := ⟨gb146, _, none⟩) (Nat.ne_of_lt (Nat.lt_of_lt_of_le (World.block_lt_of_cell? _ _ hw144_2) GW146.out)) _).trans (((cell_far (p := ⟨gb146, _, none⟩) (Nat.ne_of_lt (Nat.lt_of_lt_of_le (World.block_lt_of_cell? _ _ hw144_2) GW146.out)) _).trans (hHeld.2.2.2.2.2.2))))))⟩ (fun hHeld => ?_)
                   clear hK K
                   refine done_ (done_of HT_.out (by kernel_rfl)) ?_
                   have hnb100 := NB145_146.out
                   have hnc100 := NB146_145.out
                   have hcz101_0 : w93.cell? ⟨gb145, 0, none⟩ = some (.int .i64 0) := (blk_cell BK145.out 0).trans rfl
                   have hcz101_1 : w93.cell? ⟨gb145, 1, none⟩ = some (.int .i64 0) := (blk_cell BK145.out 1).trans rfl
                   have hcz101_2 : w93.cell? ⟨gb145, 2, none⟩ = some (.int .i64 0) := (blk_cell BK145.out 2).trans rfl
                   have hfz101_0 := blk_frozen BK145.out 0
                   have hfz101_1 := blk_frozen BK145.out 1
                   have hfz101_2 := blk_frozen BK145.out 2
                   have hcz102_0 : w93.cell? ⟨gb146, 0, none⟩ = some (.int .i64 0) := (blk_cell BK146.out 0).trans rfl
                   have hcz102_1 : w93.cell? ⟨gb146, 1, none⟩ = some (.int .i64 0) := (blk_cell BK146.out 1).trans rfl
                   have hcz102_2 : w93.cell? ⟨gb146, 2, none⟩ = some (.int .i64 0) := (blk_cell BK146.out 2).trans rfl
                   have hfz102_0 := blk_frozen BK146.out 0
                   have hfz102_1 := blk_frozen BK146.out 1
                   have hfz102_2 := blk_frozen BK146.out 2
                   try go_wp2
                   go_roundg k5
                   case measure => have := HK1.out; have := HK2.out; have := HK3.out; have := HK4.out; have := HK5.out; omega
                   case rel => exact ⟨(x13_5), (wrap64 (x14_5 + 1)), (by first | rfl | (simp; done) | (simp [*]; done)), (by first | rfl | (simp; done) | (simp [*]; done)), H', ⟨by have := HK1.out; have := HK2.out; have := HK3.out; have := HK4.out; have := HK5.out; omega⟩, ⟨by (try simp only [hl6_2]); (try simp only [hl5_3]); (try simp only [hl6_3]); (with_reducible repeat (first | apply Kd.R_alloc | apply Kd.R_drewN | apply Kd.R_drew)); exact Kd.R_mono (Kd.R_far (p := ⟨gb146, 2, none⟩) (Kd.R_far (p := ⟨gb146, 1, none⟩) (Kd.R_far (p := ⟨gb146, 0, none⟩) (Kd.R_far (p := ⟨gb145, 2, none⟩) (Kd.R_far (p := ⟨gb145, 1, none⟩) (Kd.R_far (p := ⟨gb145, 0, none⟩) (Kd.R_types (Kd.R_types HO_5.out BK145.out (by decide)) BK146.out (by decide)) (fun _ hk => hk.1.2) (.int .i64 ((rd_T47 l0 (rd x6_3 x14_5)).f0))) (fun _ hk => hk.1.2) (.int .i64 ((rd_T47 l0 (rd x6_3 x14_5)).f1))) (fun _ hk => hk.1.2) (.int .i64 ((rd_T47 l0 (rd x6_3 x14_5)).f2))) (fun _ hk => hk.2) (.int .i64 ((rd_T47 l0 x13_5).f0))) (fun _ hk => hk.2) (.int .i64 ((rd_T47 l0 x13_5).f1))) (fun _ hk => hk.2) (.int .i64 ((rd_T47 l0 x13_5).f2))) (fun _ hk => trivial)⟩, ⟨by (try simp only [hl6_2]); (try simp only [hl5_3]); (try simp only [hl6_3]); (with_reducible repeat (first | apply Kd.R_alloc | apply Kd.R_drewN | apply Kd.R_drew)); exact Kd.R_mono (Kd.R_far (p := ⟨gb146, 2, none⟩) (Kd.R_far (p := ⟨gb146, 1, none⟩) (Kd.R_far (p := ⟨gb146, 0, none⟩) (Kd.R_far (p := ⟨gb145, 2, none⟩) (Kd.R_far (p := ⟨gb145, 1, none⟩) (Kd.R_far (p := ⟨gb145, 0, none⟩) (Kd.R_types (Kd.R_types HO_6.out BK145.out (by decide)) BK146.out (by decide)) (fun _ hk => hk.1.2) (.int .i64 ((rd_T47 l0 (rd x6_3 x14_5)).f0))) (fun _ hk => hk.1.2) (.int .i64 ((rd_T47 l0 (rd x6_3 x14_5)).f1))) (fun _ hk => hk.1.2) (.int .i64 ((rd_T47 l0 (rd x6_3 x14_5)).f2))) (fun _ hk => hk.2) (.int .i64 ((rd_T47 l0 x13_5).f0))) (fun _ hk => hk.2) (.int .i64 ((rd_T47 l0 x13_5).f1))) (fun _ hk => hk.2) (.int .i64 ((rd_T47 l0 x13_5).f2))) (fun _ hk => trivial)⟩, ⟨by repeat (first | (with_reducible first | exact HB.out | apply below_alloc | apply pw_below_drewN | apply below_drew1 | refine below_set ?_ GE145.out | refine below_set ?_ GE146.out) | exact HB.out)⟩⟩
                 ·rw [if_neg c75] at H
                  have c75b0 : (((rd_T47 l0 (rd x6_3 x14_5)).f2) == ((rd_T47 l0 x13_5).f2)) = false := beq_eq_false_iff_ne.mpr c75
                  have c75b1 : (((rd_T47 l0 (rd x6_3 x14_5)).f2) != ((rd_T47 l0 x13_5).f2)) = true := bne_iff_ne.mpr c75
                  have H' := Aside0.mk H
                  clear H
                  try go_wp2
                  have n0_ := Aside0.mk (Kd.R_drew HO_5.out)
                  have n1_ := Aside0.mk (Kd.R_drew HO_6.out)
                  have n2_ := Aside0.mk (below_drew1 HB.out)
                  clear HO_5
                  clear HO_6
                  clear HB
                  have HO_5 := n0_
                  have HO_6 := n1_
                  have HB := n2_
                  clear n0_ n1_ n2_
                  have p142 : 0 ≤ (x14_5 : Int) := of_decide_eq_true (by first | (with_reducible assumption) | assumption)
                  have q142 : x14_5 < (x6_3.length : Int) := of_decide_eq_true (by first | (with_reducible assumption) | assumption)
                  obtain ⟨ad142, e142, hx142_0⟩ := Kd.at_int (Kd.R_reads' HO_6.out).2.2 x14_5 p142 q142
                  cases e142
                  replace p142 := eq_true p142
                  replace q142 := eq_true q142
                  have p143 : 0 ≤ ((rd x6_3 x14_5) : Int) := of_decide_eq_true (by first | (with_reducible assumption) | assumption)
                  have q143 : (rd x6_3 x14_5) < (l0.length : Int) := of_decide_eq_true (by first | (with_reducible assumption) | assumption)
                  obtain ⟨ad143, e143, hx143_0, hx143_1, hx143_2⟩ := at_T47 HR0.out (rd x6_3 x14_5) p143 q143
                  have hw143_2 := hx143_2
                  have hw143_1 := hx143_1
                  have hw143_0 := hx143_0
                  obtain rfl : ad132 = ad143 := (by injection e143)
                  replace hx143_0 := (HB.out.cell (World.block_lt_of_cell? w _ hx143_0)).trans hx143_0
                  replace hx143_1 := (HB.out.cell (World.block_lt_of_cell? w _ hx143_1)).trans hx143_1
                  replace hx143_2 := (HB.out.cell (World.block_lt_of_cell? w _ hx143_2)).trans hx143_2
                  replace p143 := eq_true p143
                  replace q143 := eq_true q143
                  have p144 : 0 ≤ (x13_5 : Int) := of_decide_eq_true (by first | (with_reducible assumption) | assumption)
                  have q144 : x13_5 < (l0.length : Int) := of_decide_eq_true (by first | (with_reducible assumption) | assumption)
                  obtain ⟨ad144, e144, hx144_0, hx144_1, hx144_2⟩ := at_T47 HR0.out x13_5 p144 q144
                  have hw144_2 := hx144_2
                  have hw144_1 := hx144_1
                  have hw144_0 := hx144_0
                  obtain rfl : ad132 = ad144 := (by injection e144)
                  replace hx144_0 := (HB.out.cell (World.block_lt_of_cell? w _ hx144_0)).trans hx144_0
                  replace hx144_1 := (HB.out.cell (World.block_lt_of_cell? w _ hx144_1)).trans hx144_1
                  replace hx144_2 := (HB.out.cell (World.block_lt_of_cell? w _ hx144_2)).trans hx144_2
                  replace p144 := eq_true p144
                  replace q144 := eq_true q144
                  refine start_ (n := 15) (S := fun w' => w'.cell? (ad142.add (x14_5).toNat) = some (.int .i64 (rd x6_3 x14_5)) ∧ w'.cell? (ad132.add (((rd x6_3 x14_5)).toNat * 3)) = some (.int .i64 ((rd_T47 l0 (rd x6_3 x14_5)).f0)) ∧ w'.cell? ⟨(ad132.add (((rd x6_3 x14_5)).toNat * 3)).block, (ad132.add (((rd x6_3 x14_5)).toNat * 3)).off + 1, none⟩ = some (.int .i64 ((rd_T47 l0 (rd x6_3 x14_5)).f1)) ∧ w'.cell? ⟨(ad132.add (((rd x6_3 x14_5)).toNat * 3)).block, (ad132.add (((rd x6_3 x14_5)).toNat * 3)).off + 2, none⟩ = some (.int .i64 ((rd_T47 l0 (rd x6_3 x14_5)).f2)) ∧ w'.cell? (ad132.add ((x13_5).toNat * 3)) = some (.int .i64 ((rd_T47 l0 x13_5).f0)) ∧ w'.cell? ⟨(ad132.add ((x13_5).toNat * 3)).block, (ad132.add ((x13_5).toNat * 3)).off + 1, none⟩ = some (.int .i64 ((rd_T47 l0 x13_5).f1)) ∧ w'.cell? ⟨(ad132.add ((x13_5).toNat * 3)).block, (ad132.add ((x13_5).toNat * 3)).off + 2, none⟩ = some (.int .i64 ((rd_T47 l0 x13_5).f2))) (ds := []) #[F,F,F,F,F,F,F,F,F,F,F,F,F,F,F] (by kernel_rfl) rfl rfl ⟨hx142_0, ((HB.out.cell (World.block_lt_of_cell? w _ hw143_0)).trans hw143_0), ((HB.out.cell (World.block_lt_of_cell? w _ hw143_1)).trans hw143_1), ((HB.out.cell (World.block_lt_of_cell? w _ hw143_2)).trans hw143_2), ((HB.out.cell (World.block_lt_of_cell? w _ hw144_0)).trans hw144_0), ((HB.out.cell (World.block_lt_of_cell? w _ hw144_1)).trans hw144_1), ((HB.out.cell (World.block_lt_of_cell? w _ hw144_2)).trans hw144_2)⟩ (fun hHeld => ?_); refine with_tabW ratlineref18_Assign.tab31 ratlineref18_Assign.bits31 (fun HT_ HW_ => ?_)
                  generalize wr.drew = w103 at HO_5 HO_6 HB hx142_0 hx143_0 hx143_1 hx143_2 hx144_0 hx144_1 hx144_2 hHeld ⊢
                  refine pure_ (i := 0) (N := some 113) (v := ?_) (a' := ?_) #[T,F,F,F,F,F,F,F,F,F,F,F,F,F,F] rfl rfl (any_of HT_.out (by kernel_rfl)) (fun _ _ _ h => h) (Or.inl ⟨by rfl, ?_⟩) ?_ ?_
                  rotate_left; (focus intro w'; go_simp; with_reducible rfl); rotate_left; (focus simp only [Act.put, List.setIfInBounds_toArray, List.set_cons_zero, List.set_cons_succ, i64_w, i32_w]; rfl)
                  refine pure_ (i := 1) (N := some 114) (v := ?_) (a' := ?_) #[T,T,F,F,F,F,F,F,F,F,F,F,F,F,F] rfl rfl (any_of HT_.out (by kernel_rfl)) (fun _ _ _ h => h) (Or.inl ⟨by rfl, ?_⟩) ?_ ?_
                  rotate_left; (focus intro w'; go_simp; with_reducible rfl); rotate_left; (focus simp only [Act.put, List.setIfInBounds_toArray, List.set_cons_zero, List.set_cons_succ, i64_w, i32_w]; rfl)
                  refine pure_ (i := 2) (N := some 115) (v := ?_) (a' := ?_) #[T,T,T,F,F,F,F,F,F,F,F,F,F,F,F] rfl rfl (any_of HT_.out (by kernel_rfl)) (fun _ _ _ h => h) (Or.inl ⟨by rfl, ?_⟩) ?_ ?_
                  rotate_left; (focus intro w'; go_simp; with_reducible rfl); rotate_left; (focus simp only [Act.put, List.setIfInBounds_toArray, List.set_cons_zero, List.set_cons_succ, i64_w, i32_w]; rfl)
                  refine pure_ (i := 3) (N := some 116) (v := ?_) (a' := ?_) #[T,T,T,T,F,F,F,F,F,F,F,F,F,F,F] rfl rfl (any_of HT_.out (by kernel_rfl)) (fun _ _ _ h => h) (Or.inl ⟨by rfl, ?_⟩) ?_ ?_
                  rotate_left; (focus intro w'; go_simp; with_reducible rfl); rotate_left; (focus simp only [Act.put, List.setIfInBounds_toArray, List.set_cons_zero, List.set_cons_succ, i64_w, i32_w]; rfl)
                  refine pure_ (i := 7) (N := some 120) (v := ?_) (a' := ?_) #[T,T,T,T,F,F,F,T,F,F,F,F,F,F,F] rfl rfl (any_of HT_.out (by kernel_rfl)) (fun _ _ _ h => h) (Or.inl ⟨by rfl, ?_⟩) ?_ ?_
                  rotate_left; (focus intro w'; go_simp; with_reducible rfl); rotate_left; (focus simp only [Act.put, List.setIfInBounds_toArray, List.set_cons_zero, List.set_cons_succ, i64_w, i32_w]; rfl)
                  refine pure_ (i := 8) (N := some 121) (v := ?_) (a' := ?_) #[T,T,T,T,F,F,F,T,T,F,F,F,F,F,F] rfl rfl (any_of HT_.out (by kernel_rfl)) (fun _ _ _ h => h) (Or.inl ⟨by rfl, ?_⟩) ?_ ?_
                  rotate_left; (focus intro w'; go_simp; with_reducible rfl); rotate_left; (focus simp only [Act.put, List.setIfInBounds_toArray, List.set_cons_zero, List.set_cons_succ, i64_w, i32_w]; rfl)
                  refine pure_ (i := 9) (N := some 122) (v := ?_) (a' := ?_) #[T,T,T,T,F,F,F,T,T,T,F,F,F,F,F] rfl rfl (any_of HT_.out (by kernel_rfl)) (fun _ _ _ h => h) (Or.inl ⟨by rfl, ?_⟩) ?_ ?_
                  rotate_left; (focus intro w'; go_simp; with_reducible rfl); rotate_left; (focus simp only [Act.put, List.setIfInBounds_toArray, List.set_cons_zero, List.set_cons_succ, i64_w, i32_w]; rfl)
                  refine take_ (i := 4) (N := some 117) (v := ?_) (a' := ?_) #[T,T,T,T,T,F,F,T,T,T,F,F,F,F,F] rfl rfl (take_ofW HT_.out HW_.out (by kernel_rfl)) (fun _ _ _ h => h) (Or.inl ⟨by rfl, ?_⟩) hHeld ?_ ?_
                  rotate_left
                  ·rintro w' ⟨s0, s1, s2, s3, s4, s5, s6⟩
                   go_simp
                   with_reducible rfl
                  rotate_left
                  ·simp only [Act.put, List.setIfInBounds_toArray, List.set_cons_zero, List.set_cons_succ, i64_w, i32_w]
                   rfl
                  refine pure_ (i := 5) (N := some 118) (v := ?_) (a' := ?_) #[T,T,T,T,T,T,F,T,T,T,F,F,F,F,F] rfl rfl (any_of HT_.out (by kernel_rfl)) (fun _ _ _ h => h) (Or.inl ⟨by rfl, ?_⟩) ?_ ?_
                  rotate_left; (focus intro w'; go_simp; with_reducible rfl); rotate_left; (focus simp only [Act.put, List.setIfInBounds_toArray, List.set_cons_zero, List.set_cons_succ, i64_w, i32_w]; rfl)
                  refine take_ (i := 6) (N := some 119) (v := ?_) (a' := ?_) #[T,T,T,T,T,T,T,T,T,T,F,F,F,F,F] rfl rfl (take_ofW HT_.out HW_.out (by kernel_rfl)) (fun _ _ _ h => h) (Or.inl ⟨by rfl, ?_⟩) hHeld ?_ ?_
                  rotate_left
                  ·rintro w' ⟨s0, s1, s2, s3, s4, s5, s6⟩
                   go_simp
                   with_reducible rfl
                  rotate_left
                  ·simp only [Act.put, List.setIfInBounds_toArray, List.set_cons_zero, List.set_cons_succ, i64_w, i32_w]
                   rfl
                  refine take_ (i := 10) (N := some 123) (v := ?_) (a' := ?_) #[T,T,T,T,T,T,T,T,T,T,T,F,F,F,F] rfl rfl (take_ofW HT_.out HW_.out (by kernel_rfl)) (fun _ _ _ h => h) (Or.inl ⟨by rfl, ?_⟩) hHeld ?_ ?_
                  rotate_left
                  ·rintro w' ⟨s0, s1, s2, s3, s4, s5, s6⟩
                   go_simp
                   with_reducible rfl
                  rotate_left
                  ·simp only [Act.put, List.setIfInBounds_toArray, List.set_cons_zero, List.set_cons_succ, i64_w, i32_w]
                   rfl
                  refine join_ (σ := Nat × Nat) 2 #[T,T,T,T,T,T,T,T,T,T,T,T,T,F,F] (fun s_ => [(15, .pointer (some ⟨s_.1, 0, none⟩)), (16, .pointer (some ⟨s_.2, 0, none⟩))]) (fun s_ w' => (w'.cell? (ad142.add (x14_5).toNat) = some (.int .i64 (rd x6_3 x14_5)) ∧ w'.cell? (ad132.add (((rd x6_3 x14_5)).toNat * 3)) = some (.int .i64 ((rd_T47 l0 (rd x6_3 x14_5)).f0)) ∧ w'.cell? ⟨(ad132.add (((rd x6_3 x14_5)).toNat * 3)).block, (ad132.add (((rd x6_3 x14_5)).toNat * 3)).off + 1, none⟩ = some (.int .i64 ((rd_T47 l0 (rd x6_3 x14_5)).f1)) ∧ w'.cell? ⟨(ad132.add (((rd x6_3 x14_5)).toNat * 3)).block, (ad132.add (((rd x6_3 x14_5)).toNat * 3)).off + 2, none⟩ = some (.int .i64 ((rd_T47 l0 (rd x6_3 x14_5)).f2)) ∧ w'.cell? (ad132.add ((x13_5).toNat * 3)) = some (.int .i64 ((rd_T47 l0 x13_5).f0)) ∧ w'.cell? ⟨(ad132.add ((x13_5).toNat * 3)).block, (ad132.add ((x13_5).toNat * 3)).off + 1, none⟩ = some (.int .i64 ((rd_T47 l0 x13_5).f1)) ∧ w'.cell? ⟨(ad132.add ((x13_5).toNat * 3)).block, (ad132.add ((x13_5).toNat * 3)).off + 2, none⟩ = some (.int .i64 ((rd_T47 l0 x13_5).f2))) ∧ (Kd.R k38 38 w' w.heap.size (fun _ => True) (.slice (some ⟨go23, 0, none⟩) y133.length co23) y133) ∧ (Kd.R (Kd.int .i64) 3 w' w.heap.size (fun _ => True) (.slice (some ad142) x6_3.length co19) x6_3) ∧ (w'.heap[s_.1]? = some (.cells #[.int .i64 0, .int .i64 0, .int .i64 0] 47 (0, 0))) ∧ (w'.heap[s_.2]? = some (.cells #[.int .i64 0, .int .i64 0, .int .i64 0] 47 (0, 0))) ∧ (w.heap.size ≤ s_.1) ∧ (w.heap.size ≤ s_.1) ∧ (s_.2 ≠ s_.1) ∧ (s_.1 ≠ s_.2) ∧ (w.heap.size ≤ s_.2) ∧ (w.heap.size ≤ s_.2) ∧ (Below w.heap.size w w')) ?_ ?_
                  rotate_left
                  ·intro hCont
                   refine two_ (i := 11) (j := 12) (Ni := some 15) (Nj := some 16) #[T,T,T,T,T,T,T,T,T,T,T,T,F,F,F] #[T,T,T,T,T,T,T,T,T,T,T,F,T,F,F] rfl rfl rfl rfl (two_of HT_.out (by kernel_rfl)) (by decide) (by decide) (fun K hK => ?_) (fun K hK => ?_)
                   ·skip
                    refine box_step ?hg (N := 15) ?hd (cs := #[.int .i64 0, .int .i64 0, .int .i64 0]) (t := 47) ?hr ?_; (case hd => rfl); (case hg => rfl); (case hr => first | (go_simp; done) | (go_simp; rfl))
                    intro gb145 hg w104 hbox hb
                    have HS0_ := (hb.cell (World.block_lt_of_cell? _ _ (hHeld.1))).trans (hHeld.1)
                    have n0_ := Aside0.mk (Kd.R_below (by (with_reducible repeat (first | apply Kd.R_alloc | apply Kd.R_drewN | apply Kd.R_drew)); exact HO_5.out) hb)
                    have n1_ := Aside0.mk (Kd.R_below (by (with_reducible repeat (first | apply Kd.R_alloc | apply Kd.R_drewN | apply Kd.R_drew)); exact HO_6.out) hb)
                    have n2_ := Aside0.mk (below_step (by repeat (first | (with_reducible first | exact HB.out | apply below_alloc | apply pw_below_drewN | apply below_drew1) | exact HB.out)) hb)
                    have n3_ := Aside0.mk (hbox)
                    have n4_ := Aside0.mk ((by rw [hg]; exact (below_size (by repeat (first | (with_reducible first | exact HB.out | apply below_alloc | apply pw_below_drewN | apply below_drew1) | exact HB.out))) : w.heap.size ≤ gb145))
                    have n5_ := Aside0.mk ((by rw [hg]; exact (below_size (by repeat (first | (with_reducible first | exact HB.out | apply below_alloc | apply pw_below_drewN | apply below_drew1) | exact HB.out))) : w.heap.size ≤ gb145))
                    clear HO_5
                    clear HO_6
                    clear HB
                    have HO_5 := n0_
                    have HO_6 := n1_
                    have HB := n2_
                    have BK145 := n3_
                    have GW145 := n4_
                    have GE145 := n5_
                    clear n0_ n1_ n2_ n3_ n4_ n5_
                    clear hb hbox hg
                    refine hK.out _ _ ⟨HS0_, ((HB.out.cell (World.block_lt_of_cell? w _ hw143_0)).trans hw143_0), ((HB.out.cell (World.block_lt_of_cell? w _ hw143_1)).trans hw143_1), ((HB.out.cell (World.block_lt_of_cell? w _ hw143_2)).trans hw143_2), ((HB.out.cell (World.block_lt_of_cell? w _ hw144_0)).trans hw144_0), ((HB.out.cell (World.block_lt_of_cell? w _ hw144_1)).trans hw144_1), ((HB.out.cell (World.block_lt_of_cell? w _ hw144_2)).trans hw144_2)⟩ (fun hHeld => ?_)
                    clear hK K
                    refine norm_ (a' := ?_) ?_ ?_
                    rotate_left
                    ·show Act.put _ (some 15) _ = _
                     simp only [Act.put, List.setIfInBounds_toArray, List.set_cons_zero, List.set_cons_succ, i64_w, i32_w]
                     rfl
                    refine one_ (i := 12) (N := some 16) #[T,T,T,T,T,T,T,T,T,T,T,T,T,F,F] rfl rfl (one_of HT_.out (by kernel_rfl)) (by decide) (fun K hK => ?_)
                    refine box_step ?hg (N := 16) ?hd (cs := #[.int .i64 0, .int .i64 0, .int .i64 0]) (t := 47) ?hr ?_; (case hd => rfl); (case hg => rfl); (case hr => first | (go_simp; done) | (go_simp; rfl))
                    intro gb146 hg w105 hbox hb
                    have HS0_ := (hb.cell (World.block_lt_of_cell? _ _ (hHeld.1))).trans (hHeld.1)
                    have n0_ := Aside0.mk (Kd.R_below (by (with_reducible repeat (first | apply Kd.R_alloc | apply Kd.R_drewN | apply Kd.R_drew)); exact HO_5.out) hb)
                    have n1_ := Aside0.mk (Kd.R_below (by (with_reducible repeat (first | apply Kd.R_alloc | apply Kd.R_drewN | apply Kd.R_drew)); exact HO_6.out) hb)
                    have n2_ := Aside0.mk (blk_below (g := gb145) (o := .cells #[.int .i64 0, .int .i64 0, .int .i64 0] 47 (0, 0)) (by (with_reducible repeat (first | refine blk_drewN ?_ _ | refine blk_drew ?_ | refine blk_alloc ?_ _)); exact BK145.out) hb)
                    have n3_ := Aside0.mk (below_step (by repeat (first | (with_reducible first | exact HB.out | apply below_alloc | apply pw_below_drewN | apply below_drew1 | refine below_set ?_ GE145.out) | exact HB.out)) hb)
                    have n4_ := Aside0.mk (hbox)
                    have n5_ := Aside0.mk ((by rw [hg]; exact (below_size (by repeat (first | (with_reducible first | exact HB.out | apply below_alloc | apply pw_below_drewN | apply below_drew1 | refine below_set ?_ GE145.out) | exact HB.out))) : w.heap.size ≤ gb146))
                    have n6_ := Aside0.mk ((by rw [hg]; exact (below_size (by repeat (first | (with_reducible first | exact HB.out | apply below_alloc | apply pw_below_drewN | apply below_drew1 | refine below_set ?_ GE145.out) | exact HB.out))) : w.heap.size ≤ gb146))
                    have n7_ := Aside0.mk ((by rw [hg]; exact Nat.ne_of_lt (blk_lt (g := gb145) (o := .cells #[.int .i64 0, .int .i64 0, .int .i64 0] 47 (0, 0)) (by (with_reducible repeat (first | refine blk_drewN ?_ _ | refine blk_drew ?_ | refine blk_alloc ?_ _)); exact BK145.out)) : gb145 ≠ gb146))
                    have n8_ := Aside0.mk ((by rw [hg]; exact Nat.ne_of_gt (blk_lt (g := gb145) (o := .cells #[.int .i64 0, .int .i64 0, .int .i64 0] 47 (0, 0)) (by (with_reducible repeat (first | refine blk_drewN ?_ _ | refine blk_drew ?_ | refine blk_alloc ?_ _)); exact BK145.out)) : gb146 ≠ gb145))
                    clear HO_5
                    clear HO_6
                    clear BK145
                    clear HB
                    have HO_5 := n0_
                    have HO_6 := n1_
                    have BK145 := n2_
                    have HB := n3_
                    have BK146 := n4_
                    have GW146 := n5_
                    have GE146 := n6_
                    have NB145_146 := n7_
                    have NB146_145 := n8_
                    clear n0_ n1_ n2_ n3_ n4_ n5_ n6_ n7_ n8_
                    clear hb hbox hg
                    refine hK.out _ _ ⟨HS0_, ((HB.out.cell (World.block_lt_of_cell? w _ hw143_0)).trans hw143_0), ((HB.out.cell (World.block_lt_of_cell? w _ hw143_1)).trans hw143_1), ((HB.out.cell (World.block_lt_of_cell? w _ hw143_2)).trans hw143_2), ((HB.out.cell (World.block_lt_of_cell? w _ hw144_0)).trans hw144_0), ((HB.out.cell (World.block_lt_of_cell? w _ hw144_1)).trans hw144_1), ((HB.out.cell (World.block_lt_of_cell? w _ hw144_2)).trans hw144_2)⟩ (fun hHeld => ?_)
                    clear hK K
                    refine norm_ (a' := ?_) ?_ ?_
                    rotate_left
                    ·show Act.put _ (some 16) _ = _
                     simp only [Act.put, List.setIfInBounds_toArray, List.set_cons_zero, List.set_cons_succ, i64_w, i32_w]
                     rfl
                    exact norm_ (by simp only [putAll, Act.put, List.setIfInBounds_toArray, List.set_cons_zero, List.set_cons_succ]) (hCont (gb145, gb146) _ ⟨hHeld, (by (with_reducible repeat (first | apply Kd.R_alloc | apply Kd.R_drewN | apply Kd.R_drew)); exact HO_5.out), (by (with_reducible repeat (first | apply Kd.R_alloc | apply Kd.R_drewN | apply Kd.R_drew)); exact HO_6.out), (by (with_reducible repeat (first | refine blk_drewN ?_ _ | refine blk_drew ?_ | refine blk_alloc ?_ _)); exact BK145.out), (by (with_reducible repeat (first | refine blk_drewN ?_ _ | refine blk_drew ?_ | refine blk_alloc ?_ _)); exact BK146.out), GW145.out, GE145.out, NB146_145.out, NB145_146.out, GW146.out, GE146.out, (by repeat (first | (with_reducible first | exact HB.out | apply below_alloc | apply pw_below_drewN | apply below_drew1 | refine below_set ?_ GE145.out | refine below_set ?_ GE146.out) | exact HB.out))⟩)
                   ·skip
                    refine box_step ?hg (N := 16) ?hd (cs := #[.int .i64 0, .int .i64 0, .int .i64 0]) (t := 47) ?hr ?_; (case hd => rfl); (case hg => rfl); (case hr => first | (go_simp; done) | (go_simp; rfl))
                    intro gb146 hg w104 hbox hb
                    have HS0_ := (hb.cell (World.block_lt_of_cell? _ _ (hHeld.1))).trans (hHeld.1)
                    have n0_ := Aside0.mk (Kd.R_below (by (with_reducible repeat (first | apply Kd.R_alloc | apply Kd.R_drewN | apply Kd.R_drew)); exact HO_5.out) hb)
                    have n1_ := Aside0.mk (Kd.R_below (by (with_reducible repeat (first | apply Kd.R_alloc | apply Kd.R_drewN | apply Kd.R_drew)); exact HO_6.out) hb)
                    have n2_ := Aside0.mk (below_step (by repeat (first | (with_reducible first | exact HB.out | apply below_alloc | apply pw_below_drewN | apply below_drew1) | exact HB.out)) hb)
                    have n3_ := Aside0.mk (hbox)
                    have n4_ := Aside0.mk ((by rw [hg]; exact (below_size (by repeat (first | (with_reducible first | exact HB.out | apply below_alloc | apply pw_below_drewN | apply below_drew1) | exact HB.out))) : w.heap.size ≤ gb146))
                    have n5_ := Aside0.mk ((by rw [hg]; exact (below_size (by repeat (first | (with_reducible first | exact HB.out | apply below_alloc | apply pw_below_drewN | apply below_drew1) | exact HB.out))) : w.heap.size ≤ gb146))
                    clear HO_5
                    clear HO_6
                    clear HB
                    have HO_5 := n0_
                    have HO_6 := n1_
                    have HB := n2_
                    have BK146 := n3_
                    have GW146 := n4_
                    have GE146 := n5_
                    clear n0_ n1_ n2_ n3_ n4_ n5_
                    clear hb hbox hg
                    refine hK.out _ _ ⟨HS0_, ((HB.out.cell (World.block_lt_of_cell? w _ hw143_0)).trans hw143_0), ((HB.out.cell (World.block_lt_of_cell? w _ hw143_1)).trans hw143_1), ((HB.out.cell (World.block_lt_of_cell? w _ hw143_2)).trans hw143_2), ((HB.out.cell (World.block_lt_of_cell? w _ hw144_0)).trans hw144_0), ((HB.out.cell (World.block_lt_of_cell? w _ hw144_1)).trans hw144_1), ((HB.out.cell (World.block_lt_of_cell? w _ hw144_2)).trans hw144_2)⟩ (fun hHeld => ?_)
                    clear hK K
                    refine norm_ (a' := ?_) ?_ ?_
                    rotate_left
                    ·show Act.put _ (some 16) _ = _
                     simp only [Act.put, List.setIfInBounds_toArray, List.set_cons_zero, List.set_cons_succ, i64_w, i32_w]
                     rfl
                    refine one_ (i := 11) (N := some 15) #[T,T,T,T,T,T,T,T,T,T,T,T,T,F,F] rfl rfl (one_of HT_.out (by kernel_rfl)) (by decide) (fun K hK => ?_)
                    refine box_step ?hg (N := 15) ?hd (cs := #[.int .i64 0, .int .i64 0, .int .i64 0]) (t := 47) ?hr ?_; (case hd => rfl); (case hg => rfl); (case hr => first | (go_simp; done) | (go_simp; rfl))
                    intro gb145 hg w105 hbox hb
                    have HS0_ := (hb.cell (World.block_lt_of_cell? _ _ (hHeld.1))).trans (hHeld.1)
                    have n0_ := Aside0.mk (Kd.R_below (by (with_reducible repeat (first | apply Kd.R_alloc | apply Kd.R_drewN | apply Kd.R_drew)); exact HO_5.out) hb)
                    have n1_ := Aside0.mk (Kd.R_below (by (with_reducible repeat (first | apply Kd.R_alloc | apply Kd.R_drewN | apply Kd.R_drew)); exact HO_6.out) hb)
                    have n2_ := Aside0.mk (blk_below (g := gb146) (o := .cells #[.int .i64 0, .int .i64 0, .int .i64 0] 47 (0, 0)) (by (with_reducible repeat (first | refine blk_drewN ?_ _ | refine blk_drew ?_ | refine blk_alloc ?_ _)); exact BK146.out) hb)
                    have n3_ := Aside0.mk (below_step (by repeat (first | (with_reducible first | exact HB.out | apply below_alloc | apply pw_below_drewN | apply below_drew1 | refine below_set ?_ GE146.out) | exact HB.out)) hb)
                    have n4_ := Aside0.mk (hbox)
                    have n5_ := Aside0.mk ((by rw [hg]; exact (below_size (by repeat (first | (with_reducible first | exact HB.out | apply below_alloc | apply pw_below_drewN | apply below_drew1 | refine below_set ?_ GE146.out) | exact HB.out))) : w.heap.size ≤ gb145))
                    have n6_ := Aside0.mk ((by rw [hg]; exact (below_size (by repeat (first | (with_reducible first | exact HB.out | apply below_alloc | apply pw_below_drewN | apply below_drew1 | refine below_set ?_ GE146.out) | exact HB.out))) : w.heap.size ≤ gb145))
                    have n7_ := Aside0.mk ((by rw [hg]; exact Nat.ne_of_lt (blk_lt (g := gb146) (o := .cells #[.int .i64 0, .int .i64 0, .int .i64 0] 47 (0, 0)) (by (with_reducible repeat (first | refine blk_drewN ?_ _ | refine blk_drew ?_ | refine blk_alloc ?_ _)); exact BK146.out)) : gb146 ≠ gb145))
                    have n8_ := Aside0.mk ((by rw [hg]; exact Nat.ne_of_gt (blk_lt (g := gb146) (o := .cells #[.int .i64 0, .int .i64 0, .int .i64 0] 47 (0, 0)) (by (with_reducible repeat (first | refine blk_drewN ?_ _ | refine blk_drew ?_ | refine blk_alloc ?_ _)); exact BK146.out)) : gb145 ≠ gb146))
                    clear HO_5
                    clear HO_6
                    clear BK146
                    clear HB
                    have HO_5 := n0_
                    have HO_6 := n1_
                    have BK146 := n2_
                    have HB := n3_
                    have BK145 := n4_
                    have GW145 := n5_
                    have GE145 := n6_
                    have NB146_145 := n7_
                    have NB145_146 := n8_
                    clear n0_ n1_ n2_ n3_ n4_ n5_ n6_ n7_ n8_
                    clear hb hbox hg
                    refine hK.out _ _ ⟨HS0_, ((HB.out.cell (World.block_lt_of_cell? w _ hw143_0)).trans hw143_0), ((HB.out.cell (World.block_lt_of_cell? w _ hw143_1)).trans hw143_1), ((HB.out.cell (World.block_lt_of_cell? w _ hw143_2)).trans hw143_2), ((HB.out.cell (World.block_lt_of_cell? w _ hw144_0)).trans hw144_0), ((HB.out.cell (World.block_lt_of_cell? w _ hw144_1)).trans hw144_1), ((HB.out.cell (World.block_lt_of_cell? w _ hw144_2)).trans hw144_2)⟩ (fun hHeld => ?_)
                    clear hK K
                    refine norm_ (a' := ?_) ?_ ?_
                    rotate_left
                    ·show Act.put _ (some 15) _ = _
                     simp only [Act.put, List.setIfInBounds_toArray, List.set_cons_zero, List.set_cons_succ, i64_w, i32_w]
                     rfl
                    exact norm_ (by simp only [putAll, Act.put, List.setIfInBounds_toArray, List.set_cons_zero, List.set_cons_succ]) (hCont (gb145, gb146) _ ⟨hHeld, (by (with_reducible repeat (first | apply Kd.R_alloc | apply Kd.R_drewN | apply Kd.R_drew)); exact HO_5.out), (by (with_reducible repeat (first | apply Kd.R_alloc | apply Kd.R_drewN | apply Kd.R_drew)); exact HO_6.out), (by (with_reducible repeat (first | refine blk_drewN ?_ _ | refine blk_drew ?_ | refine blk_alloc ?_ _)); exact BK145.out), (by (with_reducible repeat (first | refine blk_drewN ?_ _ | refine blk_drew ?_ | refine blk_alloc ?_ _)); exact BK146.out), GW145.out, GE145.out, NB146_145.out, NB145_146.out, GW146.out, GE146.out, (by repeat (first | (with_reducible first | exact HB.out | apply below_alloc | apply pw_below_drewN | apply below_drew1 | refine below_set ?_ GE146.out | refine below_set ?_ GE145.out) | exact HB.out))⟩)
                  rintro ⟨gb145, gb146⟩ w106 ⟨hS_, h0_, h1_, h2_, h3_, h4_, h5_, h6_, h7_, h8_, h9_, h10_⟩
                  have n0_ : Aside0 (Kd.R k38 38 w106 w.heap.size (fun _ => True) (.slice (some ⟨go23, 0, none⟩) y133.length co23) y133) := ⟨h0_⟩
                  have n1_ : Aside0 (Kd.R (Kd.int .i64) 3 w106 w.heap.size (fun _ => True) (.slice (some ad142) x6_3.length co19) x6_3) := ⟨h1_⟩
                  have n2_ : Aside0 (w106.heap[gb145]? = some (.cells #[.int .i64 0, .int .i64 0, .int .i64 0] 47 (0, 0))) := ⟨h2_⟩
                  have n3_ : Aside0 (w106.heap[gb146]? = some (.cells #[.int .i64 0, .int .i64 0, .int .i64 0] 47 (0, 0))) := ⟨h3_⟩
                  have n4_ : Aside0 (w.heap.size ≤ gb145) := ⟨h4_⟩
                  have n5_ : Aside0 (w.heap.size ≤ gb145) := ⟨h5_⟩
                  have n6_ : Aside0 (gb146 ≠ gb145) := ⟨h6_⟩
                  have n7_ : Aside0 (gb145 ≠ gb146) := ⟨h7_⟩
                  have n8_ : Aside0 (w.heap.size ≤ gb146) := ⟨h8_⟩
                  have n9_ : Aside0 (w.heap.size ≤ gb146) := ⟨h9_⟩
                  have n10_ : Aside0 (Below w.heap.size w w106) := ⟨h10_⟩
                  clear HO_5
                  clear HO_6
                  clear HB
                  clear h0_ h1_ h2_ h3_ h4_ h5_ h6_ h7_ h8_ h9_ h10_
                  have HO_5 := n0_
                  have HO_6 := n1_
                  have BK145 := n2_
                  have BK146 := n3_
                  have GW145 := n4_
                  have GE145 := n5_
                  have NB146_145 := n6_
                  have NB145_146 := n7_
                  have GW146 := n8_
                  have GE146 := n9_
                  have HB := n10_
                  clear n0_ n1_ n2_ n3_ n4_ n5_ n6_ n7_ n8_ n9_ n10_
                  have hHeld : w106.cell? (ad142.add (x14_5).toNat) = some (.int .i64 (rd x6_3 x14_5)) ∧ w106.cell? (ad132.add (((rd x6_3 x14_5)).toNat * 3)) = some (.int .i64 ((rd_T47 l0 (rd x6_3 x14_5)).f0)) ∧ w106.cell? ⟨(ad132.add (((rd x6_3 x14_5)).toNat * 3)).block, (ad132.add (((rd x6_3 x14_5)).toNat * 3)).off + 1, none⟩ = some (.int .i64 ((rd_T47 l0 (rd x6_3 x14_5)).f1)) ∧ w106.cell? ⟨(ad132.add (((rd x6_3 x14_5)).toNat * 3)).block, (ad132.add (((rd x6_3 x14_5)).toNat * 3)).off + 2, none⟩ = some (.int .i64 ((rd_T47 l0 (rd x6_3 x14_5)).f2)) ∧ w106.cell? (ad132.add ((x13_5).toNat * 3)) = some (.int .i64 ((rd_T47 l0 x13_5).f0)) ∧ w106.cell? ⟨(ad132.add ((x13_5).toNat * 3)).block, (ad132.add ((x13_5).toNat * 3)).off + 1, none⟩ = some (.int .i64 ((rd_T47 l0 x13_5).f1)) ∧ w106.cell? ⟨(ad132.add ((x13_5).toNat * 3)).block, (ad132.add ((x13_5).toNat * 3)).off + 2, none⟩ = some (.int .i64 ((rd_T47 l0 x13_5).f2)) := hS_
                  refine norm_ (a' := ?_) ?_ ?_
                  rotate_left
                  ·simp only [putAll, Act.put, List.setIfInBounds_toArray, List.set_cons_zero, List.set_cons_succ]
                   rfl
                  refine one_ (i := 13) (N := none) #[T,T,T,T,T,T,T,T,T,T,T,T,T,T,F] rfl rfl (one_of HT_.out (by kernel_rfl)) (by decide) (fun K hK => ?_)
                  have hs107 : w106.cell? ⟨gb145, 0, none⟩ = some (.int .i64 0) := (blk_cell BK145.out 0).trans rfl
                  have hfs107 := blk_frozen BK145.out 0
                  have hns107_1 := NB146_145.out
                  have hms107_1 := NB145_146.out
                  have hs108 : w106.cell? ⟨gb145, 1, none⟩ = some (.int .i64 0) := (blk_cell BK145.out 1).trans rfl
                  have hfs108 := blk_frozen BK145.out 1
                  have hns108_1 := NB146_145.out
                  have hms108_1 := NB145_146.out
                  have hs109 : w106.cell? ⟨gb145, 2, none⟩ = some (.int .i64 0) := (blk_cell BK145.out 2).trans rfl
                  have hfs109 := blk_frozen BK145.out 2
                  have hns109_1 := NB146_145.out
                  have hms109_1 := NB145_146.out
                  refine skip_ (w1 := ?_) (by rfl) rfl ?_ ?_
                  rotate_left
                  ·go_simp
                   rfl
                  refine hK.out _ _ ⟨((cell_far (p := ⟨gb145, _, none⟩) (by first | exact Kd.own_blk (Kd.R_ne HO_6.out BK145.out (by decide)) | (rw [add_block]; exact Kd.own_blk (Kd.R_ne HO_6.out BK145.out (by decide))) | (show (Addr.add _ _).block ≠ _; rw [add_block]; exact Kd.own_blk (Kd.R_ne HO_6.out BK145.out (by decide))) | (dsimp only; exact Kd.own_blk (Kd.R_ne HO_6.out BK145.out (by decide)))) _).trans (((cell_far (p := ⟨gb145, _, none⟩) (by first | exact Kd.own_blk (Kd.R_ne HO_6.out BK145.out (by decide)) | (rw [add_block]; exact Kd.own_blk (Kd.R_ne HO_6.out BK145.out (by decide))) | (show (Addr.add _ _).block ≠ _; rw [add_block]; exact Kd.own_blk (Kd.R_ne HO_6.out BK145.out (by decide))) | (dsimp only; exact Kd.own_blk (Kd.R_ne HO_6.out BK145.out (by decide)))) _).trans (((cell_far (p := ⟨gb145, _, none⟩) (by first | exact Kd.own_blk (Kd.R_ne HO_6.out BK145.out (by decide)) | (rw [add_block]; exact Kd.own_blk (Kd.R_ne HO_6.out BK145.out (by decide))) | (show (Addr.add _ _).block ≠ _; rw [add_block]; exact Kd.own_blk (Kd.R_ne HO_6.out BK145.out (by decide))) | (dsimp only; exact Kd.own_blk (Kd.R_ne HO_6.out BK145.out (by decide)))) _).trans (hHeld.1)))))), ((cell_far (p := ⟨gb145, _, none⟩) (Nat.ne_of_lt (Nat.lt_of_lt_of_le (World.block_lt_of_cell? _ _ hw143_0) GW145.out)) _).trans (((cell_far (p := ⟨gb145, _, none⟩) (Nat.ne_of_lt (Nat.lt_of_lt_of_le (World.block_lt_of_cell? _ _ hw143_0) GW145.out)) _).trans (((cell_far (p := ⟨gb145, _, none⟩) (Nat.ne_of_lt (Nat.lt_of_lt_of_le (World.block_lt_of_cell? _ _ hw143_0) GW145.out)) _).trans (hHeld.2.1)))))), ((cell_far (p := ⟨gb145, _, none⟩) (Nat.ne_of_lt (Nat.lt_of_lt_of_le (World.block_lt_of_cell? _ _ hw143_1) GW145.out)) _).trans (((cell_far (p := ⟨gb145, _, none⟩) (Nat.ne_of_lt (Nat.lt_of_lt_of_le (World.block_lt_of_cell? _ _ hw143_1) GW145.out)) _).trans (((cell_far (p := ⟨gb145, _, none⟩) (Nat.ne_of_lt (Nat.lt_of_lt_of_le (World.block_lt_of_cell? _ _ hw143_1) GW145.out)) _).trans (hHeld.2.2.1)))))), ((cell_far (p := ⟨gb145, _, none⟩) (Nat.ne_of_lt (Nat.lt_of_lt_of_le (World.block_lt_of_cell? _ _ hw143_2) GW145.out)) _).trans (((cell_far (p := ⟨gb145, _, none⟩) (Nat.ne_of_lt (Nat.lt_of_lt_of_le (World.block_lt_of_cell? _ _ hw143_2) GW145.out)) _).trans (((cell_far (p := ⟨gb145, _, none⟩) (Nat.ne_of_lt (Nat.lt_of_lt_of_le (World.block_lt_of_cell? _ _ hw143_2) GW145.out)) _).trans (hHeld.2.2.2.1)))))), ((cell_far (p := ⟨gb145, _, none⟩) (Nat.ne_of_lt (Nat.lt_of_lt_of_le (World.block_lt_of_cell? _ _ hw144_0) GW145.out)) _).trans (((cell_far (p := ⟨gb145, _, none⟩) (Nat.ne_of_lt (Nat.lt_of_lt_of_le (World.block_lt_of_cell? _ _ hw144_0) GW145.out)) _).trans (((cell_far (p := ⟨gb145, _, none⟩) (Nat.ne_of_lt (Nat.lt_of_lt_of_le (World.block_lt_of_cell? _ _ hw144_0) GW145.out)) _).trans (hHeld.2.2.2.2.1)))))), ((cell_far (p := ⟨gb145, _, none⟩) (Nat.ne_of_lt (Nat.lt_of_lt_of_le (World.block_lt_of_cell? _ _ hw144_1) GW145.out)) _).trans (((cell_far (p := ⟨gb145, _, none⟩) (Nat.ne_of_lt (Nat.lt_of_lt_of_le (World.block_lt_of_cell? _ _ hw144_1) GW145.out)) _).trans (((cell_far (p := ⟨gb145, _, none⟩) (Nat.ne_of_lt (Nat.lt_of_lt_of_le (World.block_lt_of_cell? _ _ hw144_1) GW145.out)) _).trans (hHeld.2.2.2.2.2.1)))))), ((cell_far (p := ⟨gb145, _, none⟩) (Nat.ne_of_lt (Nat.lt_of_lt_of_le (World.block_lt_of_cell? _ _ hw144_2) GW145.out)) _).trans (((cell_far (p := ⟨gb145, _, none⟩) (Nat.ne_of_lt (Nat.lt_of_lt_of_le (World.block_lt_of_cell? _ _ hw144_2) GW145.out)) _).trans (((cell_far (p := ⟨gb145, _, none⟩) (Nat.ne_of_lt (Nat.lt_of_lt_of_le (World.block_lt_of_cell? _ _ hw144_2) GW145.out)) _).trans (hHeld.2.2.2.2.2.2))))))⟩ (fun hHeld => ?_)
                  clear hK K
                  refine one_ (i := 14) (N := none) #[T,T,T,T,T,T,T,T,T,T,T,T,T,T,T] rfl rfl (one_of HT_.out (by kernel_rfl)) (by decide) (fun K hK => ?_)
                  have hs110 : w106.cell? ⟨gb146, 0, none⟩ = some (.int .i64 0) := (blk_cell BK146.out 0).trans rfl
                  have hfs110 := blk_frozen BK146.out 0
                  have hns110_0 := NB145_146.out
                  have hms110_0 := NB146_145.out
                  have hs111 : w106.cell? ⟨gb146, 1, none⟩ = some (.int .i64 0) := (blk_cell BK146.out 1).trans rfl
                  have hfs111 := blk_frozen BK146.out 1
                  have hns111_0 := NB145_146.out
                  have hms111_0 := NB146_145.out
                  have hs112 : w106.cell? ⟨gb146, 2, none⟩ = some (.int .i64 0) := (blk_cell BK146.out 2).trans rfl
                  have hfs112 := blk_frozen BK146.out 2
                  have hns112_0 := NB145_146.out
                  have hms112_0 := NB146_145.out
                  refine skip_ (w1 := ?_) (by rfl) rfl ?_ ?_
                  rotate_left
                  ·go_simp
                   rfl
                  refine hK.out _ _ ⟨((cell_far (p := ⟨gb146, _, none⟩) (by first | exact Kd.own_blk (Kd.R_ne HO_6.out BK146.out (by decide)) | (rw [add_block]; exact Kd.own_blk (Kd.R_ne HO_6.out BK146.out (by decide))) | (show (Addr.add _ _).block ≠ _; rw [add_block]; exact Kd.own_blk (Kd.R_ne HO_6.out BK146.out (by decide))) | (dsimp only; exact Kd.own_blk (Kd.R_ne HO_6.out BK146.out (by decide)))) _).trans (((cell_far (p := ⟨gb146, _, none⟩) (by first | exact Kd.own_blk (Kd.R_ne HO_6.out BK146.out (by decide)) | (rw [add_block]; exact Kd.own_blk (Kd.R_ne HO_6.out BK146.out (by decide))) | (show (Addr.add _ _).block ≠ _; rw [add_block]; exact Kd.own_blk (Kd.R_ne HO_6.out BK146.out (by decide))) | (dsimp only; exact Kd.own_blk (Kd.R_ne HO_6.out BK146.out (by decide)))) _).trans (((cell_far (p := ⟨gb146, _, none⟩) (by first | exact Kd.own_blk (Kd.R_ne HO_6.out BK146.out (by decide)) | (rw [add_block]; exact Kd.own_blk (Kd.R_ne HO_6.out BK146.out (by decide))) | (show (Addr.add _ _).block ≠ _; rw [add_block]; exact Kd.own_blk (Kd.R_ne HO_6.out BK146.out (by decide))) | (dsimp only; exact Kd.own_blk (Kd.R_ne HO_6.out BK146.out (by decide)))) _).trans (hHeld.1)))))), ((cell_far (p := ⟨gb146, _, none⟩) (Nat.ne_of_lt (Nat.lt_of_lt_of_le (World.block_lt_of_cell? _ _ hw143_0) GW146.out)) _).trans (((cell_far (p := ⟨gb146, _, none⟩) (Nat.ne_of_lt (Nat.lt_of_lt_of_le (World.block_lt_of_cell? _ _ hw143_0) GW146.out)) _).trans (((cell_far (p := ⟨gb146, _, none⟩) (Nat.ne_of_lt (Nat.lt_of_lt_of_le (World.block_lt_of_cell? _ _ hw143_0) GW146.out)) _).trans (hHeld.2.1)))))), ((cell_far (p := ⟨gb146, _, none⟩) (Nat.ne_of_lt (Nat.lt_of_lt_of_le (World.block_lt_of_cell? _ _ hw143_1) GW146.out)) _).trans (((cell_far (p := ⟨gb146, _, none⟩) (Nat.ne_of_lt (Nat.lt_of_lt_of_le (World.block_lt_of_cell? _ _ hw143_1) GW146.out)) _).trans (((cell_far (p := ⟨gb146, _, none⟩) (Nat.ne_of_lt (Nat.lt_of_lt_of_le (World.block_lt_of_cell? _ _ hw143_1) GW146.out)) _).trans (hHeld.2.2.1)))))), ((cell_far (p := ⟨gb146, _, none⟩) (Nat.ne_of_lt (Nat.lt_of_lt_of_le (World.block_lt_of_cell? _ _ hw143_2) GW146.out)) _).trans (((cell_far (p := ⟨gb146, _, none⟩) (Nat.ne_of_lt (Nat.lt_of_lt_of_le (World.block_lt_of_cell? _ _ hw143_2) GW146.out)) _).trans (((cell_far (p := ⟨gb146, _, none⟩) (Nat.ne_of_lt (Nat.lt_of_lt_of_le (World.block_lt_of_cell? _ _ hw143_2) GW146.out)) _).trans (hHeld.2.2.2.1)))))), ((cell_far (p := ⟨gb146, _, none⟩) (Nat.ne_of_lt (Nat.lt_of_lt_of_le (World.block_lt_of_cell? _ _ hw144_0) GW146.out)) _).trans (((cell_far (p := ⟨gb146, _, none⟩) (Nat.ne_of_lt (Nat.lt_of_lt_of_le (World.block_lt_of_cell? _ _ hw144_0) GW146.out)) _).trans (((cell_far (p := ⟨gb146, _, none⟩) (Nat.ne_of_lt (Nat.lt_of_lt_of_le (World.block_lt_of_cell? _ _ hw144_0) GW146.out)) _).trans (hHeld.2.2.2.2.1)))))), ((cell_far (p := ⟨gb146, _, none⟩) (Nat.ne_of_lt (Nat.lt_of_lt_of_le (World.block_lt_of_cell? _ _ hw144_1) GW146.out)) _).trans (((cell_far (p := ⟨gb146, _, none⟩) (Nat.ne_of_lt (Nat.lt_of_lt_of_le (World.block_lt_of_cell? _ _ hw144_1) GW146.out)) _).trans (((cell_far (p := ⟨gb146, _, none⟩) (Nat.ne_of_lt (Nat.lt_of_lt_of_le (World.block_lt_of_cell? _ _ hw144_1) GW146.out)) _).trans (hHeld.2.2.2.2.2.1)))))), ((cell_far (p := ⟨gb146, _, none⟩) (Nat.ne_of_lt (Nat.lt_of_lt_of_le (World.block_lt_of_cell? _ _ hw144_2) GW146.out)) _).trans (((cell_far (p := ⟨gb146, _, none⟩) (Nat.ne_of_lt (Nat.lt_of_lt_of_le (World.block_lt_of_cell? _ _ hw144_2) GW146.out)) _).trans (((cell_far (p := ⟨gb146, _, none⟩) (Nat.ne_of_lt (Nat.lt_of_lt_of_le (World.block_lt_of_cell? _ _ hw144_2) GW146.out)) _).trans (hHeld.2.2.2.2.2.2))))))⟩ (fun hHeld => ?_)
                  clear hK K
                  refine done_ (done_of HT_.out (by kernel_rfl)) ?_
                  have hnb113 := NB145_146.out
                  have hnc113 := NB146_145.out
                  have hcz114_0 : w106.cell? ⟨gb145, 0, none⟩ = some (.int .i64 0) := (blk_cell BK145.out 0).trans rfl
                  have hcz114_1 : w106.cell? ⟨gb145, 1, none⟩ = some (.int .i64 0) := (blk_cell BK145.out 1).trans rfl
                  have hcz114_2 : w106.cell? ⟨gb145, 2, none⟩ = some (.int .i64 0) := (blk_cell BK145.out 2).trans rfl
                  have hfz114_0 := blk_frozen BK145.out 0
                  have hfz114_1 := blk_frozen BK145.out 1
                  have hfz114_2 := blk_frozen BK145.out 2
                  have hcz115_0 : w106.cell? ⟨gb146, 0, none⟩ = some (.int .i64 0) := (blk_cell BK146.out 0).trans rfl
                  have hcz115_1 : w106.cell? ⟨gb146, 1, none⟩ = some (.int .i64 0) := (blk_cell BK146.out 1).trans rfl
                  have hcz115_2 : w106.cell? ⟨gb146, 2, none⟩ = some (.int .i64 0) := (blk_cell BK146.out 2).trans rfl
                  have hfz115_0 := blk_frozen BK146.out 0
                  have hfz115_1 := blk_frozen BK146.out 1
                  have hfz115_2 := blk_frozen BK146.out 2
                  try go_wp2
                  go_roundg k5
                  case measure => have := HK1.out; have := HK2.out; have := HK3.out; have := HK4.out; have := HK5.out; omega
                  case rel => exact ⟨(x13_5), (wrap64 (x14_5 + 1)), (by first | rfl | (simp; done) | (simp [*]; done)), (by first | rfl | (simp; done) | (simp [*]; done)), H', ⟨by have := HK1.out; have := HK2.out; have := HK3.out; have := HK4.out; have := HK5.out; omega⟩, ⟨by (try simp only [hl6_2]); (try simp only [hl5_3]); (try simp only [hl6_3]); (with_reducible repeat (first | apply Kd.R_alloc | apply Kd.R_drewN | apply Kd.R_drew)); exact Kd.R_mono (Kd.R_far (p := ⟨gb146, 2, none⟩) (Kd.R_far (p := ⟨gb146, 1, none⟩) (Kd.R_far (p := ⟨gb146, 0, none⟩) (Kd.R_far (p := ⟨gb145, 2, none⟩) (Kd.R_far (p := ⟨gb145, 1, none⟩) (Kd.R_far (p := ⟨gb145, 0, none⟩) (Kd.R_types (Kd.R_types HO_5.out BK145.out (by decide)) BK146.out (by decide)) (fun _ hk => hk.1.2) (.int .i64 ((rd_T47 l0 (rd x6_3 x14_5)).f0))) (fun _ hk => hk.1.2) (.int .i64 ((rd_T47 l0 (rd x6_3 x14_5)).f1))) (fun _ hk => hk.1.2) (.int .i64 ((rd_T47 l0 (rd x6_3 x14_5)).f2))) (fun _ hk => hk.2) (.int .i64 ((rd_T47 l0 x13_5).f0))) (fun _ hk => hk.2) (.int .i64 ((rd_T47 l0 x13_5).f1))) (fun _ hk => hk.2) (.int .i64 ((rd_T47 l0 x13_5).f2))) (fun _ hk => trivial)⟩, ⟨by (try simp only [hl6_2]); (try simp only [hl5_3]); (try simp only [hl6_3]); (with_reducible repeat (first | apply Kd.R_alloc | apply Kd.R_drewN | apply Kd.R_drew)); exact Kd.R_mono (Kd.R_far (p := ⟨gb146, 2, none⟩) (Kd.R_far (p := ⟨gb146, 1, none⟩) (Kd.R_far (p := ⟨gb146, 0, none⟩) (Kd.R_far (p := ⟨gb145, 2, none⟩) (Kd.R_far (p := ⟨gb145, 1, none⟩) (Kd.R_far (p := ⟨gb145, 0, none⟩) (Kd.R_types (Kd.R_types HO_6.out BK145.out (by decide)) BK146.out (by decide)) (fun _ hk => hk.1.2) (.int .i64 ((rd_T47 l0 (rd x6_3 x14_5)).f0))) (fun _ hk => hk.1.2) (.int .i64 ((rd_T47 l0 (rd x6_3 x14_5)).f1))) (fun _ hk => hk.1.2) (.int .i64 ((rd_T47 l0 (rd x6_3 x14_5)).f2))) (fun _ hk => hk.2) (.int .i64 ((rd_T47 l0 x13_5).f0))) (fun _ hk => hk.2) (.int .i64 ((rd_T47 l0 x13_5).f1))) (fun _ hk => hk.2) (.int .i64 ((rd_T47 l0 x13_5).f2))) (fun _ hk => trivial)⟩, ⟨by repeat (first | (with_reducible first | exact HB.out | apply below_alloc | apply pw_below_drewN | apply below_drew1 | refine below_set ?_ GE145.out | refine below_set ?_ GE146.out) | exact HB.out)⟩⟩
               ·rw [if_neg c55] at H
                have c55b0 : decide (x14_5 < (x6_3.length : Int)) = false := decide_eq_false c55
                clear c55
                by_cases c116 : x13_5 = x9_2
                ·rw [if_pos c116] at H
                 have c116b0 : (x13_5 == x9_2) = true := beq_iff_eq.mpr c116
                 have c116b1 : (x13_5 != x9_2) = false := bne_eq_false_iff_eq.mpr c116
                 clear c116
                 by_cases c117 : 0 ≤ x13_5
                 rotate_left
                 ·rw [if_neg c117] at H
                  exact absurd H (by simp)
                 rw [if_pos c117] at H
                 have c117b0 : decide (0 ≤ x13_5) = true := decide_eq_true c117
                 clear c117
                 by_cases c118 : x13_5 < (y133.length : Int)
                 rotate_left
                 ·rw [if_neg c118] at H
                  exact absurd H (by simp)
                 rw [if_pos c118] at H
                 have c118b0 : decide (x13_5 < (y133.length : Int)) = true := decide_eq_true c118
                 clear c118
                 obtain ⟨y149, hy149⟩ : ∃ y_ : List (S38), y_ = (y133.set (x13_5 : Int).toNat (⟨(rd_T38 y133 x13_5).f0, (rd_T38 y133 x13_5).f1, x8_2⟩ : S38)) := ⟨_, rfl⟩
                 replace H : (ratlineref18_Assign.l1 k5 l0 y149 x6_3 (wrap64 (x8_2 + 1)) (wrap64 (x9_2 + 1))) = some r := by first | (rw [hy149]; with_reducible exact H) | (have H2_ := (Option.bind_some _ _).symm.trans H; rw [hy149]; with_reducible exact H2_) | (have H2_ := (Option.bind_some _ _).symm.trans H; with_reducible exact H2_) | with_reducible exact H | (rw [hy149]; exact H) | exact H
                 have Ny149 := Aside0.mk hy149
                 clear hy149
                 have H' := Aside0.mk H
                 clear H
                 have p119 : 0 ≤ (x13_5 : Int) := of_decide_eq_true (by first | (with_reducible assumption) | assumption)
                 have q119 : (x13_5 : Int) < ((y133.length : Int) : Int) := of_decide_eq_true (by first | (with_reducible assumption) | assumption)
                 obtain ⟨ce119, hcl119, hM119, hcc119, hfr119⟩ := Kd.R_elem HO_5.out z38 (x13_5 : Int) p119 q119
                 obtain rfl := k38_openM hM119
                 have hx119_0 : wr.cell? ⟨go23, (x13_5 : Int).toNat * 3, none⟩ = some (.int .i64 ((rd_T38 y133 x13_5).f0)) := hcc119 0 _ rfl
                 have hx119_1 : wr.cell? ⟨go23, (x13_5 : Int).toNat * 3 + 1, none⟩ = some (.int .i64 ((rd_T38 y133 x13_5).f1)) := hcc119 1 _ rfl
                 have hx119_2 : wr.cell? ⟨go23, (x13_5 : Int).toNat * 3 + 2, none⟩ = some (.int .i64 ((rd_T38 y133 x13_5).f2)) := hcc119 2 _ rfl
                 have hf119_0 : wr.frozen? ⟨go23, (x13_5 : Int).toNat * 3, none⟩ = false := hfr119 0
                 have hf119_1 : wr.frozen? ⟨go23, (x13_5 : Int).toNat * 3 + 1, none⟩ = false := hfr119 1
                 have hf119_2 : wr.frozen? ⟨go23, (x13_5 : Int).toNat * 3 + 2, none⟩ = false := hfr119 2
                 clear hcl119 hcc119 hfr119 hM119
                 replace p119 := eq_true p119
                 replace q119 := eq_true q119
                 have HX120 := Aside0.mk (show Kd.R k38 38 wr w.heap.size (fun _ => True) (.slice (some ⟨go23, 0, none⟩) y133.length co23) y133 from (by (with_reducible repeat (first | apply Kd.R_alloc | apply Kd.R_drewN | apply Kd.R_drew)); exact HO_5.out))
                 obtain ⟨ce120, hcl120, hM120, hcc120, hfr120⟩ := Kd.R_elem HX120.out z38 (x13_5 : Int) (of_decide_eq_true ‹_›) (by have h_ : (x13_5 : Int) < ((y133.length : Int) : Int) := of_decide_eq_true (by first | (with_reducible assumption) | assumption); first | exact h_ | (have e_ := (Kd.R_reads' HO_5.out).1; omega) | simpa using h_)
                 obtain rfl := k38_openM hM120
                 have HP120 := Kd.R_seg HX120.out (x13_5 : Int) (of_decide_eq_true ‹_›) (by have h_ : (x13_5 : Int) < ((y133.length : Int) : Int) := of_decide_eq_true (by first | (with_reducible assumption) | assumption); first | exact h_ | (have e_ := (Kd.R_reads' HO_5.out).1; omega) | simpa using h_) (seg := [.int .i64 x8_2]) (j := 2) hcl120 hcc120 (show 3 ≤ 3 from by decide) (x' := (⟨(rd_T38 y133 x13_5).f0, (rd_T38 y133 x13_5).f1, x8_2⟩ : S38)) (k38_mkM _ _ _ (⟨(rd_T38 y133 x13_5).f0, (rd_T38 y133 x13_5).f1, x8_2⟩ : S38) ) (fun _ hk => hk)
                 have hx120_2 := hcc120 2 _ rfl
                 (try simp only [show (k38).sz = 3 from rfl, Nat.mul_one, Nat.add_zero] at hx120_2)
                 have hf120_2 := hfr120 2
                 (try simp only [show (k38).sz = 3 from rfl, Nat.mul_one, Nat.add_zero] at hf120_2)
                 clear hcl120 hcc120 hfr120 hM120
                 go_wp2_with (first | ((with_reducible refine gate_store (t := 3) (p := 175) rfl ?_); refine store_event (t := 3) (p := 175) (v := ?vo_w121) (w1 := (wr.setCell ⟨go23, (x13_5 : Int).toNat * 3 + 2, none⟩ (.int .i64 x8_2))) ?hg ?ho ?hn ?hr ?_; (case ho => rfl); (case hg => rfl); (case hn => rfl); (case hr => first | (go_simp; done) | (go_simp; rfl)); intro w121 hw; have hg : wr.grownBy w121 (some go23) := (by rw [hw]; exact HP120.2); have hp_ : Kd.R k38 38 w121 w.heap.size (fun _ => True) (.slice (some ⟨go23, 0, none⟩) y133.length co23) y149 := (by rw [hw, Ny149.out]; exact HP120.1); clear HP120; have n0_ := Aside0.mk (hp_); have n1_ := Aside0.mk (Kd.R_over' (v := (.slice (some ⟨go23, 0, none⟩) y133.length co23)) (by (with_reducible repeat (first | apply Kd.R_alloc | apply Kd.R_drewN | apply Kd.R_drew)); exact HO_6.out) (Kd.R_typed HO_5.out) (by decide) hg); have n2_ := Aside0.mk ((by rw [hw]; exact below_set (HB.out) GB23.out : Below w.heap.size w w121)); clear HO_5; clear HO_6; clear HB; have HO_5 := n0_; have HO_6 := n1_; have HB := n2_; clear n0_ n1_ n2_; clear hg hw hp_))
                 (try simp only [← hl6_2, ← hl5_3, ← hl6_3])
                 go_roundg k5
                 case measure => have := HK1.out; have := HK2.out; have := HK3.out; have := HK4.out; have := HK5.out; omega
                 case rel => exact ⟨(y149), (x6_3), (wrap64 (x8_2 + 1)), (wrap64 (x9_2 + 1)), (by first | rfl | (simp; done) | (simp [*]; done)), (by first | rfl | (simp; done) | (simp [*]; done)), H', ⟨by have := HK1.out; have := HK2.out; have := HK3.out; have := HK4.out; have := HK5.out; omega⟩, ⟨by (try simp only [hl6_2]); (try simp only [hl5_3]); (try simp only [hl6_3]); (with_reducible repeat (first | apply Kd.R_alloc | apply Kd.R_drewN | apply Kd.R_drew)); exact HO_5.out⟩, ⟨by (try simp only [hl6_2]); (try simp only [hl5_3]); (try simp only [hl6_3]); (with_reducible repeat (first | apply Kd.R_alloc | apply Kd.R_drewN | apply Kd.R_drew)); exact HO_6.out⟩, ⟨by repeat (first | (with_reducible first | exact HB.out | apply below_alloc | apply pw_below_drewN | apply below_drew1) | exact HB.out)⟩⟩
                ·rw [if_neg c116] at H
                 have c116b0 : (x13_5 == x9_2) = false := beq_eq_false_iff_ne.mpr c116
                 have c116b1 : (x13_5 != x9_2) = true := bne_iff_ne.mpr c116
                 by_cases c122 : 0 ≤ x13_5
                 rotate_left
                 ·rw [if_neg c122] at H
                  exact absurd H (by simp)
                 rw [if_pos c122] at H
                 have c122b0 : decide (0 ≤ x13_5) = true := decide_eq_true c122
                 clear c122
                 by_cases c123 : x13_5 < (y133.length : Int)
                 rotate_left
                 ·rw [if_neg c123] at H
                  exact absurd H (by simp)
                 rw [if_pos c123] at H
                 have c123b0 : decide (x13_5 < (y133.length : Int)) = true := decide_eq_true c123
                 clear c123
                 by_cases c124 : 0 ≤ x9_2
                 rotate_left
                 ·rw [if_neg c124] at H
                  exact absurd H (by simp)
                 rw [if_pos c124] at H
                 have c124b0 : decide (0 ≤ x9_2) = true := decide_eq_true c124
                 clear c124
                 by_cases c125 : x9_2 < (y133.length : Int)
                 rotate_left
                 ·rw [if_neg c125] at H
                  exact absurd H (by simp)
                 rw [if_pos c125] at H
                 have c125b0 : decide (x9_2 < (y133.length : Int)) = true := decide_eq_true c125
                 clear c125
                 obtain ⟨y151, hy151⟩ : ∃ y_ : List (S38), y_ = (y133.set (x9_2 : Int).toNat (⟨(rd_T38 y133 x9_2).f0, (rd_T38 y133 x13_5).f1, (rd_T38 y133 x9_2).f2⟩ : S38)) := ⟨_, rfl⟩
                 replace H : (if 0 ≤ ((rd_T38 y151 x9_2).f1) then (if ((rd_T38 y151 x9_2).f1) < (x6_3.length : Int) then ((some (y151.set (x13_5 : Int).toNat (⟨(rd_T38 y151 x13_5).f0, (-1), (rd_T38 y151 x13_5).f2⟩ : S38) : List (S38))).bind fun y154 => (ratlineref18_Assign.l1 k5 l0 (y154.set (x13_5 : Int).toNat (⟨(rd_T38 y154 x13_5).f0, (rd_T38 y154 x13_5).f1, x8_2⟩ : S38)) (x6_3.set (((rd_T38 y151 x9_2).f1) : Int).toNat x9_2) (wrap64 (x8_2 + 1)) (wrap64 (x9_2 + 1)))) else (none)) else (none)) = some r := by first | (rw [hy151]; with_reducible exact H) | (have H2_ := (Option.bind_some _ _).symm.trans H; rw [hy151]; with_reducible exact H2_) | (have H2_ := (Option.bind_some _ _).symm.trans H; with_reducible exact H2_) | with_reducible exact H | (rw [hy151]; exact H) | exact H
                 have Ny151 := Aside0.mk hy151
                 clear hy151
                 by_cases c127 : 0 ≤ ((rd_T38 y151 x9_2).f1)
                 rotate_left
                 ·rw [if_neg c127] at H
                  exact absurd H (by simp)
                 rw [if_pos c127] at H
                 have c127b0 : decide (0 ≤ ((rd_T38 y151 x9_2).f1)) = true := decide_eq_true c127
                 clear c127
                 by_cases c128 : ((rd_T38 y151 x9_2).f1) < (x6_3.length : Int)
                 rotate_left
                 ·rw [if_neg c128] at H
                  exact absurd H (by simp)
                 rw [if_pos c128] at H
                 have c128b0 : decide (((rd_T38 y151 x9_2).f1) < (x6_3.length : Int)) = true := decide_eq_true c128
                 clear c128
                 obtain ⟨y153, hy153⟩ : ∃ y_ : List Int, y_ = (x6_3.set (((rd_T38 y151 x9_2).f1) : Int).toNat x9_2) := ⟨_, rfl⟩
                 replace H : ((some (y151.set (x13_5 : Int).toNat (⟨(rd_T38 y151 x13_5).f0, (-1), (rd_T38 y151 x13_5).f2⟩ : S38) : List (S38))).bind fun y154 => (ratlineref18_Assign.l1 k5 l0 (y154.set (x13_5 : Int).toNat (⟨(rd_T38 y154 x13_5).f0, (rd_T38 y154 x13_5).f1, x8_2⟩ : S38)) y153 (wrap64 (x8_2 + 1)) (wrap64 (x9_2 + 1)))) = some r := by first | (rw [hy153]; with_reducible exact H) | (have H2_ := (Option.bind_some _ _).symm.trans H; rw [hy153]; with_reducible exact H2_) | (have H2_ := (Option.bind_some _ _).symm.trans H; with_reducible exact H2_) | with_reducible exact H | (rw [hy153]; exact H) | exact H
                 have Ny153 := Aside0.mk hy153
                 clear hy153
                 obtain ⟨y154, hy154⟩ : ∃ y_ : List (S38), y_ = (y151.set (x13_5 : Int).toNat (⟨(rd_T38 y151 x13_5).f0, (-1), (rd_T38 y151 x13_5).f2⟩ : S38)) := ⟨_, rfl⟩
                 replace H : (ratlineref18_Assign.l1 k5 l0 (y154.set (x13_5 : Int).toNat (⟨(rd_T38 y154 x13_5).f0, (rd_T38 y154 x13_5).f1, x8_2⟩ : S38)) y153 (wrap64 (x8_2 + 1)) (wrap64 (x9_2 + 1))) = some r := by first | (rw [hy154]; with_reducible exact H) | (have H2_ := (Option.bind_some _ _).symm.trans H; rw [hy154]; with_reducible exact H2_) | (have H2_ := (Option.bind_some _ _).symm.trans H; with_reducible exact H2_) | with_reducible exact H | (rw [hy154]; exact H) | exact H
                 have Ny154 := Aside0.mk hy154
                 clear hy154
                 obtain ⟨y155, hy155⟩ : ∃ y_ : List (S38), y_ = (y154.set (x13_5 : Int).toNat (⟨(rd_T38 y154 x13_5).f0, (rd_T38 y154 x13_5).f1, x8_2⟩ : S38)) := ⟨_, rfl⟩
                 replace H : (ratlineref18_Assign.l1 k5 l0 y155 y153 (wrap64 (x8_2 + 1)) (wrap64 (x9_2 + 1))) = some r := by first | (rw [hy155]; with_reducible exact H) | (have H2_ := (Option.bind_some _ _).symm.trans H; rw [hy155]; with_reducible exact H2_) | (have H2_ := (Option.bind_some _ _).symm.trans H; with_reducible exact H2_) | with_reducible exact H | (rw [hy155]; exact H) | exact H
                 have Ny155 := Aside0.mk hy155
                 clear hy155
                 have H' := Aside0.mk H
                 clear H
                 have p150 : 0 ≤ (x13_5 : Int) := of_decide_eq_true (by first | (with_reducible assumption) | assumption)
                 have q150 : x13_5 < (y133.length : Int) := of_decide_eq_true (by first | (with_reducible assumption) | assumption)
                 obtain ⟨ad150, e150, hx150_0, hx150_1, hx150_2⟩ := at_T38 (Kd.R_reads' HO_5.out).2.2 x13_5 p150 q150
                 obtain rfl : (⟨go23, 0, none⟩ : Addr) = ad150 := (by injection e150)
                 (first | simp only [add_plain] at hx150_0 | simp only [add_at] at hx150_0 | simp only [Addr.add, Nat.zero_add] at hx150_0 | skip)
                 (first | simp only [add_plain] at hx150_1 | simp only [add_at] at hx150_1 | simp only [Addr.add, Nat.zero_add] at hx150_1 | skip)
                 (first | simp only [add_plain] at hx150_2 | simp only [add_at] at hx150_2 | simp only [Addr.add, Nat.zero_add] at hx150_2 | skip)
                 replace p150 := eq_true p150
                 replace q150 := eq_true q150
                 have p126 : 0 ≤ (x9_2 : Int) := of_decide_eq_true (by first | (with_reducible assumption) | assumption)
                 have q126 : (x9_2 : Int) < ((y133.length : Int) : Int) := of_decide_eq_true (by first | (with_reducible assumption) | assumption)
                 obtain ⟨ce126, hcl126, hM126, hcc126, hfr126⟩ := Kd.R_elem HO_5.out z38 (x9_2 : Int) p126 q126
                 obtain rfl := k38_openM hM126
                 have hx126_0 : wr.cell? ⟨go23, (x9_2 : Int).toNat * 3, none⟩ = some (.int .i64 ((rd_T38 y133 x9_2).f0)) := hcc126 0 _ rfl
                 have hx126_1 : wr.cell? ⟨go23, (x9_2 : Int).toNat * 3 + 1, none⟩ = some (.int .i64 ((rd_T38 y133 x9_2).f1)) := hcc126 1 _ rfl
                 have hx126_2 : wr.cell? ⟨go23, (x9_2 : Int).toNat * 3 + 2, none⟩ = some (.int .i64 ((rd_T38 y133 x9_2).f2)) := hcc126 2 _ rfl
                 have hf126_0 : wr.frozen? ⟨go23, (x9_2 : Int).toNat * 3, none⟩ = false := hfr126 0
                 have hf126_1 : wr.frozen? ⟨go23, (x9_2 : Int).toNat * 3 + 1, none⟩ = false := hfr126 1
                 have hf126_2 : wr.frozen? ⟨go23, (x9_2 : Int).toNat * 3 + 2, none⟩ = false := hfr126 2
                 clear hcl126 hcc126 hfr126 hM126
                 replace p126 := eq_true p126
                 replace q126 := eq_true q126
                 have HX132 := Aside0.mk (show Kd.R k38 38 wr w.heap.size (fun _ => True) (.slice (some ⟨go23, 0, none⟩) y133.length co23) y133 from (by (with_reducible repeat (first | apply Kd.R_alloc | apply Kd.R_drewN | apply Kd.R_drew)); exact HO_5.out))
                 obtain ⟨ce132, hcl132, hM132, hcc132, hfr132⟩ := Kd.R_elem HX132.out z38 (x9_2 : Int) (of_decide_eq_true ‹_›) (by have h_ : (x9_2 : Int) < ((y133.length : Int) : Int) := of_decide_eq_true (by first | (with_reducible assumption) | assumption); first | exact h_ | (have e_ := (Kd.R_reads' HO_5.out).1; omega) | simpa using h_)
                 obtain rfl := k38_openM hM132
                 have HP132 := Kd.R_seg HX132.out (x9_2 : Int) (of_decide_eq_true ‹_›) (by have h_ : (x9_2 : Int) < ((y133.length : Int) : Int) := of_decide_eq_true (by first | (with_reducible assumption) | assumption); first | exact h_ | (have e_ := (Kd.R_reads' HO_5.out).1; omega) | simpa using h_) (seg := [.int .i64 ((rd_T38 y133 x13_5).f1)]) (j := 1) hcl132 hcc132 (show 2 ≤ 3 from by decide) (x' := (⟨(rd_T38 y133 x9_2).f0, (rd_T38 y133 x13_5).f1, (rd_T38 y133 x9_2).f2⟩ : S38)) (k38_mkM _ _ _ (⟨(rd_T38 y133 x9_2).f0, (rd_T38 y133 x13_5).f1, (rd_T38 y133 x9_2).f2⟩ : S38) ) (fun _ hk => hk)
                 have hx132_1 := hcc132 1 _ rfl
                 (try simp only [show (k38).sz = 3 from rfl, Nat.mul_one, Nat.add_zero] at hx132_1)
                 have hf132_1 := hfr132 1
                 (try simp only [show (k38).sz = 3 from rfl, Nat.mul_one, Nat.add_zero] at hf132_1)
                 clear hcl132 hcc132 hfr132 hM132
                 go_wp2_with (first | ((with_reducible refine gate_store (t := 3) (p := 158) rfl ?_); refine store_event (t := 3) (p := 158) (v := ?vo_w133) (w1 := (wr.setCell ⟨go23, (x9_2 : Int).toNat * 3 + 1, none⟩ (.int .i64 ((rd_T38 y133 x13_5).f1)))) ?hg ?ho ?hn ?hr ?_; (case ho => rfl); (case hg => rfl); (case hn => rfl); (case hr => first | (go_simp; done) | (go_simp; rfl)); intro w133 hw; have hg : wr.grownBy w133 (some go23) := (by rw [hw]; exact HP132.2); have hp_ : Kd.R k38 38 w133 w.heap.size (fun _ => True) (.slice (some ⟨go23, 0, none⟩) y133.length co23) y151 := (by rw [hw, Ny151.out]; exact HP132.1); clear HP132; have n0_ := Aside0.mk (hp_); have n1_ := Aside0.mk (Kd.R_over' (v := (.slice (some ⟨go23, 0, none⟩) y133.length co23)) (by (with_reducible repeat (first | apply Kd.R_alloc | apply Kd.R_drewN | apply Kd.R_drew)); exact HO_6.out) (Kd.R_typed HO_5.out) (by decide) hg); have n2_ := Aside0.mk ((by rw [hw]; exact below_set (HB.out) GB23.out : Below w.heap.size w w133)); clear HO_5; clear HO_6; clear HB; have HO_5 := n0_; have HO_6 := n1_; have HB := n2_; clear n0_ n1_ n2_; clear hg hw hp_; have p152 : 0 ≤ (x9_2 : Int) := of_decide_eq_true (by first | (with_reducible assumption) | assumption); have q152 : x9_2 < (y151.length : Int) := (by have h_ : (x9_2 : Int) < ((y133.length : Int) : Int) := of_decide_eq_true (by first | (with_reducible assumption) | assumption); first | (have e_ := (Kd.R_reads' HO_5.out).1; omega) | simpa only [Ny151.out, List.length_set] using h_); have ql152 : ((x9_2 : Int) < ((y133.length : Int) : Int)) = True := eq_true (of_decide_eq_true ‹_›); obtain ⟨ad152, e152, hx152_0, hx152_1, hx152_2⟩ := at_T38 (Kd.R_reads' HO_5.out).2.2 x9_2 p152 q152; obtain rfl : (⟨go23, 0, none⟩ : Addr) = ad152 := (by injection e152); (first | simp only [add_plain] at hx152_0 | simp only [add_at] at hx152_0 | simp only [Addr.add, Nat.zero_add] at hx152_0 | skip); (first | simp only [add_plain] at hx152_1 | simp only [add_at] at hx152_1 | simp only [Addr.add, Nat.zero_add] at hx152_1 | skip); (first | simp only [add_plain] at hx152_2 | simp only [add_at] at hx152_2 | simp only [Addr.add, Nat.zero_add] at hx152_2 | skip); replace p152 := eq_true p152; replace q152 := eq_true q152; have p129 : 0 ≤ (((rd_T38 y151 x9_2).f1) : Int) := of_decide_eq_true (by first | (with_reducible assumption) | assumption); have q129 : (((rd_T38 y151 x9_2).f1) : Int) < ((x6_3.length : Int) : Int) := of_decide_eq_true (by first | (with_reducible assumption) | assumption); obtain ⟨go129, co129, eo129, gb129, gl129, cl129, HG129⟩ := Kd.R_form HO_6.out (by omega); (first | cases eo129 | (injection eo129 with ea_ en_ ec_; (first | subst ea_ | (injection ea_ with ea_; subst ea_)); subst ec_; clear en_)); have GB129 := Aside0.mk gb129; have GG129 := Aside0.mk HG129; clear gb129 gl129 HG129; obtain ⟨hx129_0, hf129_0⟩ := Kd.R_celln 0 HO_6.out (((rd_T38 y151 x9_2).f1) : Int) p129 q129; replace p129 := eq_true p129; replace q129 := eq_true q129; obtain ⟨hy134_, hz134_⟩ := Kd.R_celln 0 HO_6.out (((rd_T38 y151 x9_2).f1) : Int) (of_decide_eq_true ‹_›) (of_decide_eq_true ‹_›); have HP134 := Kd.R_putg HO_6.out (((rd_T38 y151 x9_2).f1) : Int) x9_2) | ((with_reducible refine gate_store (t := 3) (p := 166) rfl ?_); refine store_event (t := 3) (p := 166) (v := ?vo_w135) (w1 := (w133.setCell ⟨go129, (((rd_T38 y151 x9_2).f1) : Int).toNat, none⟩ (.int .i64 x9_2))) ?hg ?ho ?hn ?hr ?_; (case ho => rfl); (case hg => rfl); (case hn => rfl); (case hr => first | (go_simp; done) | (go_simp; rfl)); intro w135 hw; have hg : w133.grownBy w135 (some go129) := (by rw [hw]; exact HP134.2); have hp_ : Kd.R (Kd.int .i64) 3 w135 w.heap.size (fun _ => True) (.slice (some ⟨go129, 0, none⟩) x6_3.length co19) y153 := (by rw [hw, Ny153.out]; exact HP134.1); clear HP134; have n0_ := Aside0.mk (Kd.R_over' (v := (.slice (some ⟨go129, 0, none⟩) x6_3.length co19)) (by (with_reducible repeat (first | apply Kd.R_alloc | apply Kd.R_drewN | apply Kd.R_drew)); exact HO_5.out) (Kd.R_typed HO_6.out) (by decide) hg); have n1_ := Aside0.mk (hp_); have n2_ := Aside0.mk ((by rw [hw]; exact below_set (HB.out) GB129.out : Below w.heap.size w w135)); clear HO_5; clear HO_6; clear HB; have HO_5 := n0_; have HO_6 := n1_; have HB := n2_; clear n0_ n1_ n2_; clear hg hw hp_; have p130 : 0 ≤ (x13_5 : Int) := of_decide_eq_true (by first | (with_reducible assumption) | assumption); have q130 : (x13_5 : Int) < ((y133.length : Int) : Int) := of_decide_eq_true (by first | (with_reducible assumption) | assumption); obtain ⟨ce130, hcl130, hM130, hcc130, hfr130⟩ := Kd.R_elem HO_5.out z38 (x13_5 : Int) p130 q130; obtain rfl := k38_openM hM130; have hx130_0 : w135.cell? ⟨go23, (x13_5 : Int).toNat * 3, none⟩ = some (.int .i64 ((rd_T38 y151 x13_5).f0)) := hcc130 0 _ rfl; have hx130_1 : w135.cell? ⟨go23, (x13_5 : Int).toNat * 3 + 1, none⟩ = some (.int .i64 ((rd_T38 y151 x13_5).f1)) := hcc130 1 _ rfl; have hx130_2 : w135.cell? ⟨go23, (x13_5 : Int).toNat * 3 + 2, none⟩ = some (.int .i64 ((rd_T38 y151 x13_5).f2)) := hcc130 2 _ rfl; have hf130_0 : w135.frozen? ⟨go23, (x13_5 : Int).toNat * 3, none⟩ = false := hfr130 0; have hf130_1 : w135.frozen? ⟨go23, (x13_5 : Int).toNat * 3 + 1, none⟩ = false := hfr130 1; have hf130_2 : w135.frozen? ⟨go23, (x13_5 : Int).toNat * 3 + 2, none⟩ = false := hfr130 2; clear hcl130 hcc130 hfr130 hM130; replace p130 := eq_true p130; replace q130 := eq_true q130; have HX136 := Aside0.mk (show Kd.R k38 38 w135 w.heap.size (fun _ => True) (.slice (some ⟨go23, 0, none⟩) y133.length co23) y151 from (by (with_reducible repeat (first | apply Kd.R_alloc | apply Kd.R_drewN | apply Kd.R_drew)); exact HO_5.out)); obtain ⟨ce136, hcl136, hM136, hcc136, hfr136⟩ := Kd.R_elem HX136.out z38 (x13_5 : Int) (of_decide_eq_true ‹_›) (by have h_ : (x13_5 : Int) < ((y133.length : Int) : Int) := of_decide_eq_true (by first | (with_reducible assumption) | assumption); first | exact h_ | (have e_ := (Kd.R_reads' HO_5.out).1; omega) | simpa using h_); obtain rfl := k38_openM hM136; have HP136 := Kd.R_seg HX136.out (x13_5 : Int) (of_decide_eq_true ‹_›) (by have h_ : (x13_5 : Int) < ((y133.length : Int) : Int) := of_decide_eq_true (by first | (with_reducible assumption) | assumption); first | exact h_ | (have e_ := (Kd.R_reads' HO_5.out).1; omega) | simpa using h_) (seg := [.int .i64 (-1)]) (j := 1) hcl136 hcc136 (show 2 ≤ 3 from by decide) (x' := (⟨(rd_T38 y151 x13_5).f0, (-1), (rd_T38 y151 x13_5).f2⟩ : S38)) (k38_mkM _ _ _ (⟨(rd_T38 y151 x13_5).f0, (-1), (rd_T38 y151 x13_5).f2⟩ : S38) ) (fun _ hk => hk); have hx136_1 := hcc136 1 _ rfl; (try simp only [show (k38).sz = 3 from rfl, Nat.mul_one, Nat.add_zero] at hx136_1); have hf136_1 := hfr136 1; (try simp only [show (k38).sz = 3 from rfl, Nat.mul_one, Nat.add_zero] at hf136_1); clear hcl136 hcc136 hfr136 hM136) | ((with_reducible refine gate_store (t := 3) (p := 170) rfl ?_); refine store_event (t := 3) (p := 170) (v := ?vo_w137) (w1 := (w135.setCell ⟨go23, (x13_5 : Int).toNat * 3 + 1, none⟩ (.int .i64 (-1)))) ?hg ?ho ?hn ?hr ?_; (case ho => rfl); (case hg => rfl); (case hn => rfl); (case hr => first | (go_simp; done) | (go_simp; rfl)); intro w137 hw; have hg : w135.grownBy w137 (some go23) := (by rw [hw]; exact HP136.2); have hp_ : Kd.R k38 38 w137 w.heap.size (fun _ => True) (.slice (some ⟨go23, 0, none⟩) y133.length co23) y154 := (by rw [hw, Ny154.out]; exact HP136.1); clear HP136; have n0_ := Aside0.mk (hp_); have n1_ := Aside0.mk (Kd.R_over' (v := (.slice (some ⟨go23, 0, none⟩) y133.length co23)) (by (with_reducible repeat (first | apply Kd.R_alloc | apply Kd.R_drewN | apply Kd.R_drew)); exact HO_6.out) (Kd.R_typed HO_5.out) (by decide) hg); have n2_ := Aside0.mk ((by rw [hw]; exact below_set (HB.out) GB23.out : Below w.heap.size w w137)); clear HO_5; clear HO_6; clear HB; have HO_5 := n0_; have HO_6 := n1_; have HB := n2_; clear n0_ n1_ n2_; clear hg hw hp_; have p131 : 0 ≤ (x13_5 : Int) := of_decide_eq_true (by first | (with_reducible assumption) | assumption); have q131 : (x13_5 : Int) < ((y133.length : Int) : Int) := of_decide_eq_true (by first | (with_reducible assumption) | assumption); obtain ⟨ce131, hcl131, hM131, hcc131, hfr131⟩ := Kd.R_elem HO_5.out z38 (x13_5 : Int) p131 q131; obtain rfl := k38_openM hM131; have hx131_0 : w137.cell? ⟨go23, (x13_5 : Int).toNat * 3, none⟩ = some (.int .i64 ((rd_T38 y154 x13_5).f0)) := hcc131 0 _ rfl; have hx131_1 : w137.cell? ⟨go23, (x13_5 : Int).toNat * 3 + 1, none⟩ = some (.int .i64 ((rd_T38 y154 x13_5).f1)) := hcc131 1 _ rfl; have hx131_2 : w137.cell? ⟨go23, (x13_5 : Int).toNat * 3 + 2, none⟩ = some (.int .i64 ((rd_T38 y154 x13_5).f2)) := hcc131 2 _ rfl; have hf131_0 : w137.frozen? ⟨go23, (x13_5 : Int).toNat * 3, none⟩ = false := hfr131 0; have hf131_1 : w137.frozen? ⟨go23, (x13_5 : Int).toNat * 3 + 1, none⟩ = false := hfr131 1; have hf131_2 : w137.frozen? ⟨go23, (x13_5 : Int).toNat * 3 + 2, none⟩ = false := hfr131 2; clear hcl131 hcc131 hfr131 hM131; replace p131 := eq_true p131; replace q131 := eq_true q131; have HX138 := Aside0.mk (show Kd.R k38 38 w137 w.heap.size (fun _ => True) (.slice (some ⟨go23, 0, none⟩) y133.length co23) y154 from (by (with_reducible repeat (first | apply Kd.R_alloc | apply Kd.R_drewN | apply Kd.R_drew)); exact HO_5.out)); obtain ⟨ce138, hcl138, hM138, hcc138, hfr138⟩ := Kd.R_elem HX138.out z38 (x13_5 : Int) (of_decide_eq_true ‹_›) (by have h_ : (x13_5 : Int) < ((y133.length : Int) : Int) := of_decide_eq_true (by first | (with_reducible assumption) | assumption); first | exact h_ | (have e_ := (Kd.R_reads' HO_5.out).1; omega) | simpa using h_); obtain rfl := k38_openM hM138; have HP138 := Kd.R_seg HX138.out (x13_5 : Int) (of_decide_eq_true ‹_›) (by have h_ : (x13_5 : Int) < ((y133.length : Int) : Int) := of_decide_eq_true (by first | (with_reducible assumption) | assumption); first | exact h_ | (have e_ := (Kd.R_reads' HO_5.out).1; omega) | simpa using h_) (seg := [.int .i64 x8_2]) (j := 2) hcl138 hcc138 (show 3 ≤ 3 from by decide) (x' := (⟨(rd_T38 y154 x13_5).f0, (rd_T38 y154 x13_5).f1, x8_2⟩ : S38)) (k38_mkM _ _ _ (⟨(rd_T38 y154 x13_5).f0, (rd_T38 y154 x13_5).f1, x8_2⟩ : S38) ) (fun _ hk => hk); have hx138_2 := hcc138 2 _ rfl; (try simp only [show (k38).sz = 3 from rfl, Nat.mul_one, Nat.add_zero] at hx138_2); have hf138_2 := hfr138 2; (try simp only [show (k38).sz = 3 from rfl, Nat.mul_one, Nat.add_zero] at hf138_2); clear hcl138 hcc138 hfr138 hM138) | ((with_reducible refine gate_store (t := 3) (p := 175) rfl ?_); refine store_event (t := 3) (p := 175) (v := ?vo_w139) (w1 := (w137.setCell ⟨go23, (x13_5 : Int).toNat * 3 + 2, none⟩ (.int .i64 x8_2))) ?hg ?ho ?hn ?hr ?_; (case ho => rfl); (case hg => rfl); (case hn => rfl); (case hr => first | (go_simp; done) | (go_simp; rfl)); intro w139 hw; have hg : w137.grownBy w139 (some go23) := (by rw [hw]; exact HP138.2); have hp_ : Kd.R k38 38 w139 w.heap.size (fun _ => True) (.slice (some ⟨go23, 0, none⟩) y133.length co23) y155 := (by rw [hw, Ny155.out]; exact HP138.1); clear HP138; have n0_ := Aside0.mk (hp_); have n1_ := Aside0.mk (Kd.R_over' (v := (.slice (some ⟨go23, 0, none⟩) y133.length co23)) (by (with_reducible repeat (first | apply Kd.R_alloc | apply Kd.R_drewN | apply Kd.R_drew)); exact HO_6.out) (Kd.R_typed HO_5.out) (by decide) hg); have n2_ := Aside0.mk ((by rw [hw]; exact below_set (HB.out) GB23.out : Below w.heap.size w w139)); clear HO_5; clear HO_6; clear HB; have HO_5 := n0_; have HO_6 := n1_; have HB := n2_; clear n0_ n1_ n2_; clear hg hw hp_))
                 (try simp only [← hl6_2, ← hl5_3, ← hl6_3])
                 go_roundg k5
                 case measure => have := HK1.out; have := HK2.out; have := HK3.out; have := HK4.out; have := HK5.out; omega
                 case rel => exact ⟨(y155), (y153), (wrap64 (x8_2 + 1)), (wrap64 (x9_2 + 1)), (by first | rfl | (simp; done) | (simp [*]; done)), (by first | rfl | (simp; done) | (simp [*]; done)), H', ⟨by have := HK1.out; have := HK2.out; have := HK3.out; have := HK4.out; have := HK5.out; omega⟩, ⟨by (try simp only [hl6_2]); (try simp only [hl5_3]); (try simp only [hl6_3]); (with_reducible repeat (first | apply Kd.R_alloc | apply Kd.R_drewN | apply Kd.R_drew)); exact HO_5.out⟩, ⟨by (try simp only [hl6_2]); (try simp only [hl5_3]); (try simp only [hl6_3]); (with_reducible repeat (first | apply Kd.R_alloc | apply Kd.R_drewN | apply Kd.R_drew)); exact HO_6.out⟩, ⟨by repeat (first | (with_reducible first | exact HB.out | apply below_alloc | apply pw_below_drewN | apply below_drew1) | exact HB.out)⟩⟩
end Go.Proofs.Ytidhllheipopbaa.XCol
