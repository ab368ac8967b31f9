-- written by gprint.py: the printer run with given contracts
import Derived.Test.YtmmndmfphcbieaaDoorXLexx0
import Derived.Test.YtmmndmfphcbieaaDoorXLexx1
import Derived.Test.YtmmndmfphcbieaaDoorXLexx4
import Derived.Test.YtmmndmfphcbieaaDoorXLexx5
namespace Go.Proofs.YtmmndmfphcbieaaDoor.XLex
open Go.RowKit Go.Proofs.YtmmndmfphcbieaaDoorW.PrintWords Go.Proofs.YtmmndmfphcbieaaDoorW.PrintLast Go.Proofs.YtmmndmfphcbieaaDoorW.PrintMore
attribute [local go_sem] max2_int min2_int max_two min_two max_three min_three max_four min_four   -- for this text's walks alone
set_option linter.unusedVariables false
set_option linter.unusedSimpArgs false

/-! ### ratlinelaw4_LexTokens: function 3 -/
mutual
def ratlinelaw4_LexTokens.j0 : Nat → List (S31) → Bool → List (S32) → Int → Int → Option (Bool)
  | 0, _, _, _, _, _ => none
  | k + 1, x3, x33, x210000, x210001, x210002 => if x33 = true then (some false) else (ratlinelaw4_LexTokens.l0 k x3 0 x210000 x210001 x210002)
def ratlinelaw4_LexTokens.l0 : Nat → List (S31) → Int → List (S32) → Int → Int → Option (Bool)
  | 0, _, _, _, _, _ => none
  | k + 1, x3, x7, x210000, x210001, x210002 => if x7 < (x3.length : Int) then (if 0 ≤ x7 then (if x7 < (x210000.length : Int) then (if ((rd_T31 x3 x7).f0) = ((rd_T32 x210000 x7).f0) then (if ((rd_T31 x3 x7).f1).toList = ((rd_T32 x210000 x7).f1).toList then (if ((rd_T31 x3 x7).f2) = ((rd_T32 x210000 x7).f2) then (if ((rd_T31 x3 x7).f3) = ((rd_T32 x210000 x7).f3) then (ratlinelaw4_LexTokens.l0 k x3 (wrap64 (x7 + 1)) x210000 x210001 x210002) else (some false)) else (some false)) else (some false)) else (some false)) else (none)) else (none)) else ((ratlinelaw4_awake.f k).bind fun t218 => (some t218))
end
def ratlinelaw4_LexTokens.f (k : Nat) (a0 : ByteArray) : Option (Bool) := (lex_Tokens.f k a0).bind fun bt199 => ((ratlineref4_Tokens.f k a0).bind fun bt204 => (if bt199.2.1 = bt204.2.1 then (if bt199.2.2 = bt204.2.2 then (ratlinelaw4_LexTokens.j0 k bt199.1 ((bt199.1.length : Int) != (bt204.1.length : Int)) bt204.1 bt204.2.1 bt204.2.2) else (ratlinelaw4_LexTokens.j0 k bt199.1 true bt204.1 bt204.2.1 bt204.2.2)) else (ratlinelaw4_LexTokens.j0 k bt199.1 true bt204.1 bt204.2.1 bt204.2.2)))
theorem ratlinelaw4_LexTokens.mono_l : ∀ k, (∀ y0 y1 y2 y3 y4, LeO (ratlinelaw4_LexTokens.j0 k y0 y1 y2 y3 y4) (ratlinelaw4_LexTokens.j0 (k + 1) y0 y1 y2 y3 y4)) ∧ (∀ y0 y1 y2 y3 y4, LeO (ratlinelaw4_LexTokens.l0 k y0 y1 y2 y3 y4) (ratlinelaw4_LexTokens.l0 (k + 1) y0 y1 y2 y3 y4))
  | 0 => ⟨fun _ _ _ _ _ r h => by simp [ratlinelaw4_LexTokens.j0] at h, fun _ _ _ _ _ r h => by simp [ratlinelaw4_LexTokens.l0] at h⟩
  | k + 1 => by
    obtain ⟨ih0, ih1⟩ := ratlinelaw4_LexTokens.mono_l k
    refine ⟨?_, ?_⟩
    · intro y0 y1 y2 y3 y4
      unfold ratlinelaw4_LexTokens.j0
      repeat' first
      | (with_reducible exact ih0 _ _ _ _ _)
      | (with_reducible exact ih1 _ _ _ _ _)
      | (with_reducible exact lex_Tokens.mono _ _)
      | (with_reducible exact ratlinelaw4_awake.mono _)
      | (with_reducible exact ratlineref4_Tokens.mono _ _)
      | (with_reducible exact LeO.refl _)
      | (with_reducible exact LeO.none _)
      | (with_reducible refine LeO.ite ?_ ?_)
      | (with_reducible refine LeO.bind ?_ (fun _ => ?_))
      | exact ih0 _ _ _ _ _
      | exact ih1 _ _ _ _ _
      | exact lex_Tokens.mono _ _
      | exact ratlinelaw4_awake.mono _
      | exact ratlineref4_Tokens.mono _ _
      | exact LeO.none _
      | refine LeO.ite ?_ ?_
      | refine LeO.bind ?_ (fun _ => ?_)
    · intro y0 y1 y2 y3 y4
      unfold ratlinelaw4_LexTokens.l0
      repeat' first
      | (with_reducible exact ih0 _ _ _ _ _)
      | (with_reducible exact ih1 _ _ _ _ _)
      | (with_reducible exact lex_Tokens.mono _ _)
      | (with_reducible exact ratlinelaw4_awake.mono _)
      | (with_reducible exact ratlineref4_Tokens.mono _ _)
      | (with_reducible exact LeO.refl _)
      | (with_reducible exact LeO.none _)
      | (with_reducible refine LeO.ite ?_ ?_)
      | (with_reducible refine LeO.bind ?_ (fun _ => ?_))
      | exact ih0 _ _ _ _ _
      | exact ih1 _ _ _ _ _
      | exact lex_Tokens.mono _ _
      | exact ratlinelaw4_awake.mono _
      | exact ratlineref4_Tokens.mono _ _
      | exact LeO.none _
      | refine LeO.ite ?_ ?_
      | refine LeO.bind ?_ (fun _ => ?_)
theorem ratlinelaw4_LexTokens.mono : ∀ a0 k, LeO (ratlinelaw4_LexTokens.f k a0) (ratlinelaw4_LexTokens.f (k + 1) a0) := by
  intro a0 k
  obtain ⟨ih0, ih1⟩ := ratlinelaw4_LexTokens.mono_l k
  unfold ratlinelaw4_LexTokens.f
  repeat' first
      | (with_reducible exact ih0 _ _ _ _ _)
      | (with_reducible exact ih1 _ _ _ _ _)
      | (with_reducible exact lex_Tokens.mono _ _)
      | (with_reducible exact ratlinelaw4_awake.mono _)
      | (with_reducible exact ratlineref4_Tokens.mono _ _)
      | (with_reducible exact LeO.refl _)
      | (with_reducible exact LeO.none _)
      | (with_reducible refine LeO.ite ?_ ?_)
      | (with_reducible refine LeO.bind ?_ (fun _ => ?_))
      | exact ih0 _ _ _ _ _
      | exact ih1 _ _ _ _ _
      | exact lex_Tokens.mono _ _
      | exact ratlinelaw4_awake.mono _
      | exact ratlineref4_Tokens.mono _ _
      | exact LeO.none _
      | refine LeO.ite ?_ ?_
      | refine LeO.bind ?_ (fun _ => ?_)
set_option maxHeartbeats 8000000 in
set_option maxRecDepth 100000 in
theorem ratlinelaw4_LexTokens.calls (k : Nat) (a0 : ByteArray) (r : Bool) (w : World) (h : ratlinelaw4_LexTokens.f k a0 = some r) (hL : Laid w) :
    Calls Tryd.prog 3 #[.string a0] w fun e w' => e = .returned (.bool r) ∧ Below w.heap.size w w' := by
  have hu28 := Tryd.underlying28
  have HB := Aside0.mk (Below.refl w.heap.size w)
  have H : ((lex_Tokens.f k a0).bind fun bt199 => ((ratlineref4_Tokens.f k a0).bind fun bt204 => (if bt199.2.1 = bt204.2.1 then (if bt199.2.2 = bt204.2.2 then (ratlinelaw4_LexTokens.j0 k bt199.1 ((bt199.1.length : Int) != (bt204.1.length : Int)) bt204.1 bt204.2.1 bt204.2.2) else (ratlinelaw4_LexTokens.j0 k bt199.1 true bt204.1 bt204.2.1 bt204.2.2)) else (ratlinelaw4_LexTokens.j0 k bt199.1 true bt204.1 bt204.2.1 bt204.2.2)))) = some r := h
  clear h
  replace H := Option.bind_eq_some_iff.mp H
  obtain ⟨⟨t199, t200, t201⟩, A20, H⟩ := H
  replace H : ((ratlineref4_Tokens.f k a0).bind fun bt204 => (if t200 = bt204.2.1 then (if t201 = bt204.2.2 then (ratlinelaw4_LexTokens.j0 k t199 ((t199.length : Int) != (bt204.1.length : Int)) bt204.1 bt204.2.1 bt204.2.2) else (ratlinelaw4_LexTokens.j0 k t199 true bt204.1 bt204.2.1 bt204.2.2)) else (ratlinelaw4_LexTokens.j0 k t199 true bt204.1 bt204.2.1 bt204.2.2))) = some r := H
  have A2 := Aside0.mk A20
  clear A20
  replace H := Option.bind_eq_some_iff.mp H
  obtain ⟨⟨t204, t207, t208⟩, A30, H⟩ := H
  replace H : (if t200 = t207 then (if t201 = t208 then (ratlinelaw4_LexTokens.j0 k t199 ((t199.length : Int) != (t204.length : Int)) t204 t207 t208) else (ratlinelaw4_LexTokens.j0 k t199 true t204 t207 t208)) else (ratlinelaw4_LexTokens.j0 k t199 true t204 t207 t208)) = some r := H
  have A3 := Aside0.mk A30
  clear A30
  have HC4 := Aside0.mk H
  clear H
  go_enter Tryd.func3, Tryd.ntmps3
  go_upto_region 3 with (first | (go_at_call 8; (with_reducible refine (lex_Tokens.calls k a0 t199 t200 t201 _ A2.out (by refine Laid.below ?_ hL; repeat (first | (with_reducible first | exact HB.out | apply below_alloc | apply pw_below_drewN | apply below_drew1 | refine below_set ?_ GE209.out) | exact HB.out))).mono ?_); rintro e w5 ⟨v202, rfl, ho0, hb⟩; have n0_ := Aside0.mk (Kd.R_lower ho0 (below_size (by repeat (first | (with_reducible first | exact HB.out | apply below_alloc | apply pw_below_drewN | apply below_drew1) | exact HB.out)))); have n1_ := Aside0.mk (below_step (by repeat (first | (with_reducible first | exact HB.out | apply below_alloc | apply pw_below_drewN | apply below_drew1) | exact HB.out)) hb); clear HB; have HO203 := n0_; have HB := n1_; clear n0_ n1_; (try clear hb); (try clear hb2); (try clear hk); (try clear hi); (try clear ho0)) | (go_at_call 9; (with_reducible refine (ratlineref4_Tokens.calls k a0 t204 t207 t208 _ A3.out).mono ?_); rintro e w6 ⟨v205, rfl, ho0, hb⟩; have n0_ := Aside0.mk (Kd.R_below (by (with_reducible repeat (first | apply Kd.R_alloc | apply Kd.R_drewN | apply Kd.R_drew)); exact HO203.out) hb); have n1_ := Aside0.mk (Kd.R_lower ho0 (below_size (by repeat (first | (with_reducible first | exact HB.out | apply below_alloc | apply pw_below_drewN | apply below_drew1) | exact HB.out)))); have n2_ := Aside0.mk (below_step (by repeat (first | (with_reducible first | exact HB.out | apply below_alloc | apply pw_below_drewN | apply below_drew1) | exact HB.out)) hb); clear HO203; clear HB; have HO203 := n0_; have HO206 := n1_; have HB := n2_; clear n0_ n1_ n2_; (try clear hb); (try clear hb2); (try clear hk); (try clear hi); (try clear ho0)) | ((with_reducible refine gate_dst (N := 6) rfl ?_); (try (refine gate_guard (by rfl) ?_; dsimp only)); refine box_event ?hg (N := 6) ?hd (cs := #[.slice none 0 0, .int .i64 0, .int .i64 0]) (t := 28) ?hr ?_; (case hd => rfl); (case hg => rfl); (case hr => first | (go_simp; done) | (go_simp; rfl)); intro gb209 hg w7 hbox hb; have n0_ := Aside0.mk (Kd.R_below (by (with_reducible repeat (first | apply Kd.R_alloc | apply Kd.R_drewN | apply Kd.R_drew)); exact HO203.out) hb); have n1_ := Aside0.mk (Kd.R_below (by (with_reducible repeat (first | apply Kd.R_alloc | apply Kd.R_drewN | apply Kd.R_drew)); exact HO206.out) hb); have n2_ := Aside0.mk (below_step (by repeat (first | (with_reducible first | exact HB.out | apply below_alloc | apply pw_below_drewN | apply below_drew1) | exact HB.out)) hb); have n3_ := Aside0.mk (hbox); have n4_ := Aside0.mk ((by rw [hg]; exact (below_size (by repeat (first | (with_reducible first | exact HB.out | apply below_alloc | apply pw_below_drewN | apply below_drew1) | exact HB.out))) : w.heap.size ≤ gb209)); have n5_ := Aside0.mk ((by rw [hg]; exact (below_size (by repeat (first | (with_reducible first | exact HB.out | apply below_alloc | apply pw_below_drewN | apply below_drew1) | exact HB.out))) : w.heap.size ≤ gb209)); clear HO203; clear HO206; clear HB; have HO203 := n0_; have HO206 := n1_; have HB := n2_; have BK209 := n3_; have GW209 := n4_; have GE209 := n5_; clear n0_ n1_ n2_ n3_ n4_ n5_; clear hb hbox hg; obtain ⟨Ao8, co8, eo8⟩ := Kd.R_slice HO206.out; subst eo8; have hcz9_0 : w7.cell? ⟨gb209, 0, none⟩ = some (.slice none 0 0) := (blk_cell BK209.out 0).trans rfl; have hcz9_1 : w7.cell? ⟨gb209, 1, none⟩ = some (.int .i64 0) := (blk_cell BK209.out 1).trans rfl; have hcz9_2 : w7.cell? ⟨gb209, 2, none⟩ = some (.int .i64 0) := (blk_cell BK209.out 2).trans rfl; have hfz9_0 := blk_frozen BK209.out 0; have hfz9_1 := blk_frozen BK209.out 1; have hfz9_2 := blk_frozen BK209.out 2))
  repeat (go_quiet (first | (go_at_call 8; (with_reducible refine (lex_Tokens.calls k a0 t199 t200 t201 _ A2.out (by refine Laid.below ?_ hL; repeat (first | (with_reducible first | exact HB.out | apply below_alloc | apply pw_below_drewN | apply below_drew1 | refine below_set ?_ GE209.out) | exact HB.out))).mono ?_); rintro e w5 ⟨v202, rfl, ho0, hb⟩; have n0_ := Aside0.mk (Kd.R_lower ho0 (below_size (by repeat (first | (with_reducible first | exact HB.out | apply below_alloc | apply pw_below_drewN | apply below_drew1) | exact HB.out)))); have n1_ := Aside0.mk (below_step (by repeat (first | (with_reducible first | exact HB.out | apply below_alloc | apply pw_below_drewN | apply below_drew1) | exact HB.out)) hb); clear HB; have HO203 := n0_; have HB := n1_; clear n0_ n1_; (try clear hb); (try clear hb2); (try clear hk); (try clear hi); (try clear ho0)) | (go_at_call 9; (with_reducible refine (ratlineref4_Tokens.calls k a0 t204 t207 t208 _ A3.out).mono ?_); rintro e w6 ⟨v205, rfl, ho0, hb⟩; have n0_ := Aside0.mk (Kd.R_below (by (with_reducible repeat (first | apply Kd.R_alloc | apply Kd.R_drewN | apply Kd.R_drew)); exact HO203.out) hb); have n1_ := Aside0.mk (Kd.R_lower ho0 (below_size (by repeat (first | (with_reducible first | exact HB.out | apply below_alloc | apply pw_below_drewN | apply below_drew1) | exact HB.out)))); have n2_ := Aside0.mk (below_step (by repeat (first | (with_reducible first | exact HB.out | apply below_alloc | apply pw_below_drewN | apply below_drew1) | exact HB.out)) hb); clear HO203; clear HB; have HO203 := n0_; have HO206 := n1_; have HB := n2_; clear n0_ n1_ n2_; (try clear hb); (try clear hb2); (try clear hk); (try clear hi); (try clear ho0)) | ((with_reducible refine gate_dst (N := 6) rfl ?_); (try (refine gate_guard (by rfl) ?_; dsimp only)); refine box_event ?hg (N := 6) ?hd (cs := #[.slice none 0 0, .int .i64 0, .int .i64 0]) (t := 28) ?hr ?_; (case hd => rfl); (case hg => rfl); (case hr => first | (go_simp; done) | (go_simp; rfl)); intro gb209 hg w7 hbox hb; have n0_ := Aside0.mk (Kd.R_below (by (with_reducible repeat (first | apply Kd.R_alloc | apply Kd.R_drewN | apply Kd.R_drew)); exact HO203.out) hb); have n1_ := Aside0.mk (Kd.R_below (by (with_reducible repeat (first | apply Kd.R_alloc | apply Kd.R_drewN | apply Kd.R_drew)); exact HO206.out) hb); have n2_ := Aside0.mk (below_step (by repeat (first | (with_reducible first | exact HB.out | apply below_alloc | apply pw_below_drewN | apply below_drew1) | exact HB.out)) hb); have n3_ := Aside0.mk (hbox); have n4_ := Aside0.mk ((by rw [hg]; exact (below_size (by repeat (first | (with_reducible first | exact HB.out | apply below_alloc | apply pw_below_drewN | apply below_drew1) | exact HB.out))) : w.heap.size ≤ gb209)); have n5_ := Aside0.mk ((by rw [hg]; exact (below_size (by repeat (first | (with_reducible first | exact HB.out | apply below_alloc | apply pw_below_drewN | apply below_drew1) | exact HB.out))) : w.heap.size ≤ gb209)); clear HO203; clear HO206; clear HB; have HO203 := n0_; have HO206 := n1_; have HB := n2_; have BK209 := n3_; have GW209 := n4_; have GE209 := n5_; clear n0_ n1_ n2_ n3_ n4_ n5_; clear hb hbox hg; obtain ⟨Ao8, co8, eo8⟩ := Kd.R_slice HO206.out; subst eo8; have hcz9_0 : w7.cell? ⟨gb209, 0, none⟩ = some (.slice none 0 0) := (blk_cell BK209.out 0).trans rfl; have hcz9_1 : w7.cell? ⟨gb209, 1, none⟩ = some (.int .i64 0) := (blk_cell BK209.out 1).trans rfl; have hcz9_2 : w7.cell? ⟨gb209, 2, none⟩ = some (.int .i64 0) := (blk_cell BK209.out 2).trans rfl; have hfz9_0 := blk_frozen BK209.out 0; have hfz9_1 := blk_frozen BK209.out 1; have hfz9_2 := blk_frozen BK209.out 2)); go_upto_region 3 with (first | (go_at_call 8; (with_reducible refine (lex_Tokens.calls k a0 t199 t200 t201 _ A2.out (by refine Laid.below ?_ hL; repeat (first | (with_reducible first | exact HB.out | apply below_alloc | apply pw_below_drewN | apply below_drew1 | refine below_set ?_ GE209.out) | exact HB.out))).mono ?_); rintro e w5 ⟨v202, rfl, ho0, hb⟩; have n0_ := Aside0.mk (Kd.R_lower ho0 (below_size (by repeat (first | (with_reducible first | exact HB.out | apply below_alloc | apply pw_below_drewN | apply below_drew1) | exact HB.out)))); have n1_ := Aside0.mk (below_step (by repeat (first | (with_reducible first | exact HB.out | apply below_alloc | apply pw_below_drewN | apply below_drew1) | exact HB.out)) hb); clear HB; have HO203 := n0_; have HB := n1_; clear n0_ n1_; (try clear hb); (try clear hb2); (try clear hk); (try clear hi); (try clear ho0)) | (go_at_call 9; (with_reducible refine (ratlineref4_Tokens.calls k a0 t204 t207 t208 _ A3.out).mono ?_); rintro e w6 ⟨v205, rfl, ho0, hb⟩; have n0_ := Aside0.mk (Kd.R_below (by (with_reducible repeat (first | apply Kd.R_alloc | apply Kd.R_drewN | apply Kd.R_drew)); exact HO203.out) hb); have n1_ := Aside0.mk (Kd.R_lower ho0 (below_size (by repeat (first | (with_reducible first | exact HB.out | apply below_alloc | apply pw_below_drewN | apply below_drew1) | exact HB.out)))); have n2_ := Aside0.mk (below_step (by repeat (first | (with_reducible first | exact HB.out | apply below_alloc | apply pw_below_drewN | apply below_drew1) | exact HB.out)) hb); clear HO203; clear HB; have HO203 := n0_; have HO206 := n1_; have HB := n2_; clear n0_ n1_ n2_; (try clear hb); (try clear hb2); (try clear hk); (try clear hi); (try clear ho0)) | ((with_reducible refine gate_dst (N := 6) rfl ?_); (try (refine gate_guard (by rfl) ?_; dsimp only)); refine box_event ?hg (N := 6) ?hd (cs := #[.slice none 0 0, .int .i64 0, .int .i64 0]) (t := 28) ?hr ?_; (case hd => rfl); (case hg => rfl); (case hr => first | (go_simp; done) | (go_simp; rfl)); intro gb209 hg w7 hbox hb; have n0_ := Aside0.mk (Kd.R_below (by (with_reducible repeat (first | apply Kd.R_alloc | apply Kd.R_drewN | apply Kd.R_drew)); exact HO203.out) hb); have n1_ := Aside0.mk (Kd.R_below (by (with_reducible repeat (first | apply Kd.R_alloc | apply Kd.R_drewN | apply Kd.R_drew)); exact HO206.out) hb); have n2_ := Aside0.mk (below_step (by repeat (first | (with_reducible first | exact HB.out | apply below_alloc | apply pw_below_drewN | apply below_drew1) | exact HB.out)) hb); have n3_ := Aside0.mk (hbox); have n4_ := Aside0.mk ((by rw [hg]; exact (below_size (by repeat (first | (with_reducible first | exact HB.out | apply below_alloc | apply pw_below_drewN | apply below_drew1) | exact HB.out))) : w.heap.size ≤ gb209)); have n5_ := Aside0.mk ((by rw [hg]; exact (below_size (by repeat (first | (with_reducible first | exact HB.out | apply below_alloc | apply pw_below_drewN | apply below_drew1) | exact HB.out))) : w.heap.size ≤ gb209)); clear HO203; clear HO206; clear HB; have HO203 := n0_; have HO206 := n1_; have HB := n2_; have BK209 := n3_; have GW209 := n4_; have GE209 := n5_; clear n0_ n1_ n2_ n3_ n4_ n5_; clear hb hbox hg; obtain ⟨Ao8, co8, eo8⟩ := Kd.R_slice HO206.out; subst eo8; have hcz9_0 : w7.cell? ⟨gb209, 0, none⟩ = some (.slice none 0 0) := (blk_cell BK209.out 0).trans rfl; have hcz9_1 : w7.cell? ⟨gb209, 1, none⟩ = some (.int .i64 0) := (blk_cell BK209.out 1).trans rfl; have hcz9_2 : w7.cell? ⟨gb209, 2, none⟩ = some (.int .i64 0) := (blk_cell BK209.out 2).trans rfl; have hfz9_0 := blk_frozen BK209.out 0; have hfz9_1 := blk_frozen BK209.out 1; have hfz9_2 := blk_frozen BK209.out 2)))
  (try simp only [Act.put, List.setIfInBounds_toArray, List.set_cons_zero, List.set_cons_succ])
  go_cut [33] (fun v33 wc => ∃ (kq : Nat) (x33_3 : Bool), v33 = .bool x33_3 ∧ Aside0 (ratlinelaw4_LexTokens.j0 kq t199 x33_3 t204 t207 t208 = some r) ∧ Aside0 (kq ≤ k) ∧ Aside0 (Kd.R k31 31 wc w.heap.size (fun _ => True) v202 t199) ∧ Aside0 (Kd.R k32 32 wc w.heap.size (fun _ => True) (.slice Ao8 t204.length co8) t204) ∧ Aside0 (wc.heap[gb209]? = some (.cells #[(.slice Ao8 t204.length co8), .int .i64 t207, .int .i64 t208] 28 (0, 0))) ∧ Aside0 (Below w.heap.size w wc))
  case first =>
    have H := HC4.out
    clear HC4
    by_cases c10 : t200 = t207
    · rw [if_pos c10] at H
      have c10b0 : (t200 == t207) = true := beq_iff_eq.mpr c10
      have c10b1 : (t200 != t207) = false := bne_eq_false_iff_eq.mpr c10
      clear c10
      (first | rw [c10b0] | (simp only [i64_w, i32_w]; rw [c10b0]) | skip)
      by_cases c11 : t201 = t208
      · rw [if_pos c11] at H
        have c11b0 : (t201 == t208) = true := beq_iff_eq.mpr c11
        have c11b1 : (t201 != t208) = false := bne_eq_false_iff_eq.mpr c11
        clear c11
        have H' := Aside0.mk H
        clear H
        have hcz12_0 : w7.cell? ⟨gb209, 0, none⟩ = some (.slice none 0 0) := (blk_cell BK209.out 0).trans rfl
        have hcz12_1 : w7.cell? ⟨gb209, 1, none⟩ = some (.int .i64 0) := (blk_cell BK209.out 1).trans rfl
        have hcz12_2 : w7.cell? ⟨gb209, 2, none⟩ = some (.int .i64 0) := (blk_cell BK209.out 2).trans rfl
        have hfz12_0 := blk_frozen BK209.out 0
        have hfz12_1 := blk_frozen BK209.out 1
        have hfz12_2 := blk_frozen BK209.out 2
        obtain ⟨Ao13, co13, eo13⟩ := Kd.R_slice HO203.out
        subst eo13
        go_wp2
        repeat (go_quiet (fail); try go_wp2)
        go_meet
        case rel => exact ⟨_, (((t199.length : Int) != (t204.length : Int))), (by first | rfl | (simp; done) | (simp [*]; done)), H', ⟨by first | omega | exact Nat.le_refl _⟩, ⟨by (with_reducible repeat (first | apply Kd.R_alloc | apply Kd.R_drewN | apply Kd.R_drew)); exact Kd.R_mono (Kd.R_far (p := ⟨gb209, 2, none⟩) (Kd.R_far (p := ⟨gb209, 1, none⟩) (Kd.R_far (p := ⟨gb209, 0, none⟩) (Kd.R_types HO203.out BK209.out (by decide)) (fun _ hk => hk.2) (.slice Ao8 t204.length co8)) (fun _ hk => hk.2) (.int .i64 t207)) (fun _ hk => hk.2) (.int .i64 t208)) (fun _ hk => trivial)⟩, ⟨by (with_reducible repeat (first | apply Kd.R_alloc | apply Kd.R_drewN | apply Kd.R_drew)); exact Kd.R_mono (Kd.R_far (p := ⟨gb209, 2, none⟩) (Kd.R_far (p := ⟨gb209, 1, none⟩) (Kd.R_far (p := ⟨gb209, 0, none⟩) (Kd.R_types HO206.out BK209.out (by decide)) (fun _ hk => hk.2) (.slice Ao8 t204.length co8)) (fun _ hk => hk.2) (.int .i64 t207)) (fun _ hk => hk.2) (.int .i64 t208)) (fun _ hk => trivial)⟩, ⟨by (with_reducible repeat (first | refine blk_drewN ?_ _ | refine blk_drew ?_ | refine blk_alloc ?_ _)); refine blk_put (cs := #[.slice Ao8 t204.length co8, .int .i64 t207, .int .i64 0]) ?_ 2 _ rfl; (with_reducible repeat (first | refine blk_drewN ?_ _ | refine blk_drew ?_ | refine blk_alloc ?_ _)); refine blk_put (cs := #[.slice Ao8 t204.length co8, .int .i64 0, .int .i64 0]) ?_ 1 _ rfl; (with_reducible repeat (first | refine blk_drewN ?_ _ | refine blk_drew ?_ | refine blk_alloc ?_ _)); refine blk_put (cs := #[.slice none 0 0, .int .i64 0, .int .i64 0]) ?_ 0 _ rfl; (with_reducible repeat (first | refine blk_drewN ?_ _ | refine blk_drew ?_ | refine blk_alloc ?_ _)); exact BK209.out⟩, ⟨by repeat (first | (with_reducible first | exact HB.out | apply below_alloc | apply pw_below_drewN | apply below_drew1 | refine below_set ?_ GE209.out) | exact HB.out)⟩⟩
      · rw [if_neg c11] at H
        have c11b0 : (t201 == t208) = false := beq_eq_false_iff_ne.mpr c11
        have c11b1 : (t201 != t208) = true := bne_iff_ne.mpr c11
        have H' := Aside0.mk H
        clear H
        have hcz14_0 : w7.cell? ⟨gb209, 0, none⟩ = some (.slice none 0 0) := (blk_cell BK209.out 0).trans rfl
        have hcz14_1 : w7.cell? ⟨gb209, 1, none⟩ = some (.int .i64 0) := (blk_cell BK209.out 1).trans rfl
        have hcz14_2 : w7.cell? ⟨gb209, 2, none⟩ = some (.int .i64 0) := (blk_cell BK209.out 2).trans rfl
        have hfz14_0 := blk_frozen BK209.out 0
        have hfz14_1 := blk_frozen BK209.out 1
        have hfz14_2 := blk_frozen BK209.out 2
        go_wp2
        repeat (go_quiet (fail); try go_wp2)
        go_meet
        case rel => exact ⟨_, (true), (by first | rfl | (simp; done) | (simp [*]; done)), H', ⟨by first | omega | exact Nat.le_refl _⟩, ⟨by (with_reducible repeat (first | apply Kd.R_alloc | apply Kd.R_drewN | apply Kd.R_drew)); exact Kd.R_mono (Kd.R_far (p := ⟨gb209, 2, none⟩) (Kd.R_far (p := ⟨gb209, 1, none⟩) (Kd.R_far (p := ⟨gb209, 0, none⟩) (Kd.R_types HO203.out BK209.out (by decide)) (fun _ hk => hk.2) (.slice Ao8 t204.length co8)) (fun _ hk => hk.2) (.int .i64 t207)) (fun _ hk => hk.2) (.int .i64 t208)) (fun _ hk => trivial)⟩, ⟨by (with_reducible repeat (first | apply Kd.R_alloc | apply Kd.R_drewN | apply Kd.R_drew)); exact Kd.R_mono (Kd.R_far (p := ⟨gb209, 2, none⟩) (Kd.R_far (p := ⟨gb209, 1, none⟩) (Kd.R_far (p := ⟨gb209, 0, none⟩) (Kd.R_types HO206.out BK209.out (by decide)) (fun _ hk => hk.2) (.slice Ao8 t204.length co8)) (fun _ hk => hk.2) (.int .i64 t207)) (fun _ hk => hk.2) (.int .i64 t208)) (fun _ hk => trivial)⟩, ⟨by (with_reducible repeat (first | refine blk_drewN ?_ _ | refine blk_drew ?_ | refine blk_alloc ?_ _)); refine blk_put (cs := #[.slice Ao8 t204.length co8, .int .i64 t207, .int .i64 0]) ?_ 2 _ rfl; (with_reducible repeat (first | refine blk_drewN ?_ _ | refine blk_drew ?_ | refine blk_alloc ?_ _)); refine blk_put (cs := #[.slice Ao8 t204.length co8, .int .i64 0, .int .i64 0]) ?_ 1 _ rfl; (with_reducible repeat (first | refine blk_drewN ?_ _ | refine blk_drew ?_ | refine blk_alloc ?_ _)); refine blk_put (cs := #[.slice none 0 0, .int .i64 0, .int .i64 0]) ?_ 0 _ rfl; (with_reducible repeat (first | refine blk_drewN ?_ _ | refine blk_drew ?_ | refine blk_alloc ?_ _)); exact BK209.out⟩, ⟨by repeat (first | (with_reducible first | exact HB.out | apply below_alloc | apply pw_below_drewN | apply below_drew1 | refine below_set ?_ GE209.out) | exact HB.out)⟩⟩
    · rw [if_neg c10] at H
      have c10b0 : (t200 == t207) = false := beq_eq_false_iff_ne.mpr c10
      have c10b1 : (t200 != t207) = true := bne_iff_ne.mpr c10
      (first | rw [c10b0] | (simp only [i64_w, i32_w]; rw [c10b0]) | skip)
      have H' := Aside0.mk H
      clear H
      have hcz15_0 : w7.cell? ⟨gb209, 0, none⟩ = some (.slice none 0 0) := (blk_cell BK209.out 0).trans rfl
      have hcz15_1 : w7.cell? ⟨gb209, 1, none⟩ = some (.int .i64 0) := (blk_cell BK209.out 1).trans rfl
      have hcz15_2 : w7.cell? ⟨gb209, 2, none⟩ = some (.int .i64 0) := (blk_cell BK209.out 2).trans rfl
      have hfz15_0 := blk_frozen BK209.out 0
      have hfz15_1 := blk_frozen BK209.out 1
      have hfz15_2 := blk_frozen BK209.out 2
      go_wp2
      repeat (go_quiet (fail); try go_wp2)
      go_meet
      case rel => exact ⟨_, (true), (by first | rfl | (simp; done) | (simp [*]; done)), H', ⟨by first | omega | exact Nat.le_refl _⟩, ⟨by (with_reducible repeat (first | apply Kd.R_alloc | apply Kd.R_drewN | apply Kd.R_drew)); exact Kd.R_mono (Kd.R_far (p := ⟨gb209, 2, none⟩) (Kd.R_far (p := ⟨gb209, 1, none⟩) (Kd.R_far (p := ⟨gb209, 0, none⟩) (Kd.R_types HO203.out BK209.out (by decide)) (fun _ hk => hk.2) (.slice Ao8 t204.length co8)) (fun _ hk => hk.2) (.int .i64 t207)) (fun _ hk => hk.2) (.int .i64 t208)) (fun _ hk => trivial)⟩, ⟨by (with_reducible repeat (first | apply Kd.R_alloc | apply Kd.R_drewN | apply Kd.R_drew)); exact Kd.R_mono (Kd.R_far (p := ⟨gb209, 2, none⟩) (Kd.R_far (p := ⟨gb209, 1, none⟩) (Kd.R_far (p := ⟨gb209, 0, none⟩) (Kd.R_types HO206.out BK209.out (by decide)) (fun _ hk => hk.2) (.slice Ao8 t204.length co8)) (fun _ hk => hk.2) (.int .i64 t207)) (fun _ hk => hk.2) (.int .i64 t208)) (fun _ hk => trivial)⟩, ⟨by (with_reducible repeat (first | refine blk_drewN ?_ _ | refine blk_drew ?_ | refine blk_alloc ?_ _)); refine blk_put (cs := #[.slice Ao8 t204.length co8, .int .i64 t207, .int .i64 0]) ?_ 2 _ rfl; (with_reducible repeat (first | refine blk_drewN ?_ _ | refine blk_drew ?_ | refine blk_alloc ?_ _)); refine blk_put (cs := #[.slice Ao8 t204.length co8, .int .i64 0, .int .i64 0]) ?_ 1 _ rfl; (with_reducible repeat (first | refine blk_drewN ?_ _ | refine blk_drew ?_ | refine blk_alloc ?_ _)); refine blk_put (cs := #[.slice none 0 0, .int .i64 0, .int .i64 0]) ?_ 0 _ rfl; (with_reducible repeat (first | refine blk_drewN ?_ _ | refine blk_drew ?_ | refine blk_alloc ?_ _)); exact BK209.out⟩, ⟨by repeat (first | (with_reducible first | exact HB.out | apply below_alloc | apply pw_below_drewN | apply below_drew1 | refine below_set ?_ GE209.out) | exact HB.out)⟩⟩
  case rest =>
    clear HC4
    try clear c1
    try clear p2
    try clear c3
    try clear c10
    try clear c10b0
    try clear c10b1
    try clear c11
    try clear c11b0
    try clear c11b1
    try clear hcz12_0
    try clear hcz12_1
    try clear hcz12_2
    try clear hcz14_0
    try clear hcz14_1
    try clear hcz14_2
    try clear hcz15_0
    try clear hcz15_1
    try clear hcz15_2
    try clear hcz9_0
    try clear hcz9_1
    try clear hcz9_2
    try clear hfz12_0
    try clear hfz12_1
    try clear hfz12_2
    try clear hfz14_0
    try clear hfz14_1
    try clear hfz14_2
    try clear hfz15_0
    try clear hfz15_1
    try clear hfz15_2
    try clear hfz9_0
    try clear hfz9_1
    try clear hfz9_2
    obtain ⟨kq, x33_3, rfl, HA, HJ3, HO_3, HO_210000, BK209, HB⟩ := hcut
    cases kq with
    | zero => exact absurd HA.out (by simp [ratlinelaw4_LexTokens.j0])
    | succ kj3 =>
      have H := HA.out
      clear HA
      simp only [ratlinelaw4_LexTokens.j0] at H
      by_cases c16 : x33_3 = true
      · subst c16
        have H1 : (some false) = some r := by rw [if_pos rfl] at H; exact H
        clear H
        have H := H1
        clear H1
        obtain rfl := Option.some.inj H
        go_wp2
        repeat (go_quiet (fail); try go_wp2)
        go_ret
        exact ⟨by first | rfl | (simp [errW_none, errW_some] <;> rfl) | (simp [*, errW_none, errW_some] <;> rfl), by repeat (first | (with_reducible first | exact HB.out | apply below_alloc | apply pw_below_drewN | apply below_drew1 | refine below_set ?_ GE209.out) | exact HB.out)⟩
      · replace c16 := Bool.eq_false_iff.mpr c16
        subst c16
        have H1 : (ratlinelaw4_LexTokens.l0 kj3 t199 0 t204 t207 t208) = some r := by rw [if_neg (show ¬ (false = true) by decide)] at H; exact H
        clear H
        have H := H1
        clear H1
        have H' := Aside0.mk H
        clear H
        go_wp2
        repeat (go_quiet (fail); try go_wp2)
        go_loopg [7] kj3 (fun kq v7 w' => ∃ (x7_2 : Int), v7 = .int .i64 x7_2 ∧ Aside0 (ratlinelaw4_LexTokens.l0 kq t199 x7_2 t204 t207 t208 = some r) ∧ Aside0 (kq ≤ kj3) ∧ Aside0 (Kd.R k31 31 w' w.heap.size (fun _ => True) v202 t199) ∧ Aside0 (Kd.R k32 32 w' w.heap.size (fun _ => True) (.slice Ao8 t204.length co8) t204) ∧ Aside0 (w'.heap[gb209]? = some (.cells #[(.slice Ao8 t204.length co8), .int .i64 t207, .int .i64 t208] 28 (0, 0))) ∧ Aside0 (Below w.heap.size w w'))
        case atStart => exact ⟨(0), (by first | rfl | (simp; done) | (simp [*]; done)), H', ⟨Nat.le_refl _⟩, ⟨by (with_reducible repeat (first | apply Kd.R_alloc | apply Kd.R_drewN | apply Kd.R_drew)); exact HO_3.out⟩, ⟨by (with_reducible repeat (first | apply Kd.R_alloc | apply Kd.R_drewN | apply Kd.R_drew)); exact HO_210000.out⟩, ⟨by (with_reducible repeat (first | refine blk_drewN ?_ _ | refine blk_drew ?_ | refine blk_alloc ?_ _)); exact BK209.out⟩, ⟨by repeat (first | (with_reducible first | exact HB.out | apply below_alloc | apply pw_below_drewN | apply below_drew1 | refine below_set ?_ GE209.out) | exact HB.out)⟩⟩
        case round =>
          clear H'
          try clear c1
          try clear p2
          try clear c3
          try clear c10
          try clear c10b0
          try clear c10b1
          try clear c11
          try clear c11b0
          try clear c11b1
          try clear c16
          try clear hcz12_0
          try clear hcz12_1
          try clear hcz12_2
          try clear hcz14_0
          try clear hcz14_1
          try clear hcz14_2
          try clear hcz15_0
          try clear hcz15_1
          try clear hcz15_2
          try clear hcz9_0
          try clear hcz9_1
          try clear hcz9_2
          try clear hfz12_0
          try clear hfz12_1
          try clear hfz12_2
          try clear hfz14_0
          try clear hfz14_1
          try clear hfz14_2
          try clear hfz15_0
          try clear hfz15_1
          try clear hfz15_2
          try clear hfz9_0
          try clear hfz9_1
          try clear hfz9_2
          try clear p2
          obtain ⟨x7_2, rfl, HA, HK2, HO_3, HO_210000, BK209, HB⟩ := hrel
          cases gk with
          | zero => exact absurd HA.out (by simp [ratlinelaw4_LexTokens.l0])
          | succ k2 =>
            have H := HA.out
            clear HA
            simp only [ratlinelaw4_LexTokens.l0] at H
            by_cases c17 : x7_2 < (t199.length : Int)
            · rw [if_pos c17] at H
              have c17b0 : decide (x7_2 < (t199.length : Int)) = true := decide_eq_true c17
              clear c17
              by_cases c18 : 0 ≤ x7_2
              · rw [if_pos c18] at H
                have c18b0 : decide (0 ≤ x7_2) = true := decide_eq_true c18
                clear c18
                by_cases c19 : x7_2 < (t204.length : Int)
                · rw [if_pos c19] at H
                  have c19b0 : decide (x7_2 < (t204.length : Int)) = true := decide_eq_true c19
                  clear c19
                  by_cases c20 : ((rd_T31 t199 x7_2).f0) = ((rd_T32 t204 x7_2).f0)
                  · rw [if_pos c20] at H
                    have c20b0 : (((rd_T31 t199 x7_2).f0) == ((rd_T32 t204 x7_2).f0)) = true := beq_iff_eq.mpr c20
                    have c20b1 : (((rd_T31 t199 x7_2).f0) != ((rd_T32 t204 x7_2).f0)) = false := bne_eq_false_iff_eq.mpr c20
                    clear c20
                    by_cases c21 : ((rd_T31 t199 x7_2).f1).toList = ((rd_T32 t204 x7_2).f1).toList
                    · rw [if_pos c21] at H
                      have c21b0 : (((rd_T31 t199 x7_2).f1).toList == ((rd_T32 t204 x7_2).f1).toList) = true := beq_iff_eq.mpr c21
                      have c21b1 : (((rd_T31 t199 x7_2).f1).toList != ((rd_T32 t204 x7_2).f1).toList) = false := bne_eq_false_iff_eq.mpr c21
                      clear c21
                      by_cases c22 : ((rd_T31 t199 x7_2).f2) = ((rd_T32 t204 x7_2).f2)
                      · rw [if_pos c22] at H
                        have c22b0 : (((rd_T31 t199 x7_2).f2) == ((rd_T32 t204 x7_2).f2)) = true := beq_iff_eq.mpr c22
                        have c22b1 : (((rd_T31 t199 x7_2).f2) != ((rd_T32 t204 x7_2).f2)) = false := bne_eq_false_iff_eq.mpr c22
                        clear c22
                        by_cases c23 : ((rd_T31 t199 x7_2).f3) = ((rd_T32 t204 x7_2).f3)
                        · rw [if_pos c23] at H
                          have c23b0 : (((rd_T31 t199 x7_2).f3) == ((rd_T32 t204 x7_2).f3)) = true := beq_iff_eq.mpr c23
                          have c23b1 : (((rd_T31 t199 x7_2).f3) != ((rd_T32 t204 x7_2).f3)) = false := bne_eq_false_iff_eq.mpr c23
                          clear c23
                          have H' := Aside0.mk H
                          clear H
                          obtain ⟨Ao24, co24, eo24⟩ := Kd.R_slice HO_3.out
                          subst eo24
                          have p210 : 0 ≤ (x7_2 : Int) := of_decide_eq_true (by first | (with_reducible assumption) | assumption)
                          have q210 : x7_2 < (t199.length : Int) := of_decide_eq_true (by first | (with_reducible assumption) | assumption)
                          obtain ⟨ad210, e210, hx210_0, hx210_1, hx210_2, hx210_3⟩ := at_T31 (Kd.R_reads' HO_3.out).2.2 x7_2 p210 q210
                          cases e210
                          replace p210 := eq_true p210
                          replace q210 := eq_true q210
                          have hcz25_0 : wr.cell? ⟨gb209, 0, none⟩ = some (.slice Ao8 t204.length co8) := (blk_cell BK209.out 0).trans rfl
                          have hcz25_1 : wr.cell? ⟨gb209, 1, none⟩ = some (.int .i64 t207) := (blk_cell BK209.out 1).trans rfl
                          have hcz25_2 : wr.cell? ⟨gb209, 2, none⟩ = some (.int .i64 t208) := (blk_cell BK209.out 2).trans rfl
                          have hfz25_0 := blk_frozen BK209.out 0
                          have hfz25_1 := blk_frozen BK209.out 1
                          have hfz25_2 := blk_frozen BK209.out 2
                          have p211 : 0 ≤ (x7_2 : Int) := of_decide_eq_true (by first | (with_reducible assumption) | assumption)
                          have q211 : x7_2 < (t204.length : Int) := of_decide_eq_true (by first | (with_reducible assumption) | assumption)
                          obtain ⟨ad211, e211, hx211_0, hx211_1, hx211_2, hx211_3⟩ := at_T32 (Kd.R_reads' HO_210000.out).2.2 x7_2 p211 q211
                          cases e211
                          replace p211 := eq_true p211
                          replace q211 := eq_true q211
                          have p212 : 0 ≤ (x7_2 : Int) := of_decide_eq_true (by first | (with_reducible assumption) | assumption)
                          have q212 : x7_2 < (t199.length : Int) := of_decide_eq_true (by first | (with_reducible assumption) | assumption)
                          obtain ⟨ad212, e212, hx212_0, hx212_1, hx212_2, hx212_3⟩ := at_T31 (Kd.R_reads' HO_3.out).2.2 x7_2 p212 q212
                          obtain rfl : ad210 = ad212 := (by injection e212)
                          replace p212 := eq_true p212
                          replace q212 := eq_true q212
                          have p213 : 0 ≤ (x7_2 : Int) := of_decide_eq_true (by first | (with_reducible assumption) | assumption)
                          have q213 : x7_2 < (t204.length : Int) := of_decide_eq_true (by first | (with_reducible assumption) | assumption)
                          obtain ⟨ad213, e213, hx213_0, hx213_1, hx213_2, hx213_3⟩ := at_T32 (Kd.R_reads' HO_210000.out).2.2 x7_2 p213 q213
                          obtain rfl : ad211 = ad213 := (by injection e213)
                          replace p213 := eq_true p213
                          replace q213 := eq_true q213
                          have p214 : 0 ≤ (x7_2 : Int) := of_decide_eq_true (by first | (with_reducible assumption) | assumption)
                          have q214 : x7_2 < (t199.length : Int) := of_decide_eq_true (by first | (with_reducible assumption) | assumption)
                          obtain ⟨ad214, e214, hx214_0, hx214_1, hx214_2, hx214_3⟩ := at_T31 (Kd.R_reads' HO_3.out).2.2 x7_2 p214 q214
                          obtain rfl : ad210 = ad214 := (by injection e214)
                          replace p214 := eq_true p214
                          replace q214 := eq_true q214
                          have p215 : 0 ≤ (x7_2 : Int) := of_decide_eq_true (by first | (with_reducible assumption) | assumption)
                          have q215 : x7_2 < (t204.length : Int) := of_decide_eq_true (by first | (with_reducible assumption) | assumption)
                          obtain ⟨ad215, e215, hx215_0, hx215_1, hx215_2, hx215_3⟩ := at_T32 (Kd.R_reads' HO_210000.out).2.2 x7_2 p215 q215
                          obtain rfl : ad211 = ad215 := (by injection e215)
                          replace p215 := eq_true p215
                          replace q215 := eq_true q215
                          have p216 : 0 ≤ (x7_2 : Int) := of_decide_eq_true (by first | (with_reducible assumption) | assumption)
                          have q216 : x7_2 < (t199.length : Int) := of_decide_eq_true (by first | (with_reducible assumption) | assumption)
                          obtain ⟨ad216, e216, hx216_0, hx216_1, hx216_2, hx216_3⟩ := at_T31 (Kd.R_reads' HO_3.out).2.2 x7_2 p216 q216
                          obtain rfl : ad210 = ad216 := (by injection e216)
                          replace p216 := eq_true p216
                          replace q216 := eq_true q216
                          have p217 : 0 ≤ (x7_2 : Int) := of_decide_eq_true (by first | (with_reducible assumption) | assumption)
                          have q217 : x7_2 < (t204.length : Int) := of_decide_eq_true (by first | (with_reducible assumption) | assumption)
                          obtain ⟨ad217, e217, hx217_0, hx217_1, hx217_2, hx217_3⟩ := at_T32 (Kd.R_reads' HO_210000.out).2.2 x7_2 p217 q217
                          obtain rfl : ad211 = ad217 := (by injection e217)
                          replace p217 := eq_true p217
                          replace q217 := eq_true q217
                          go_wp2
                          repeat (go_quiet (fail); try go_wp2)
                          go_roundg k2
                          case measure => have := HJ3.out; have := HK2.out; omega
                          case rel => exact ⟨(wrap64 (x7_2 + 1)), (by first | rfl | (simp; done) | (simp [*]; done)), H', ⟨by have := HJ3.out; have := HK2.out; omega⟩, ⟨by (with_reducible repeat (first | apply Kd.R_alloc | apply Kd.R_drewN | apply Kd.R_drew)); exact HO_3.out⟩, ⟨by (with_reducible repeat (first | apply Kd.R_alloc | apply Kd.R_drewN | apply Kd.R_drew)); exact HO_210000.out⟩, ⟨by (with_reducible repeat (first | refine blk_drewN ?_ _ | refine blk_drew ?_ | refine blk_alloc ?_ _)); exact BK209.out⟩, ⟨by repeat (first | (with_reducible first | exact HB.out | apply below_alloc | apply pw_below_drewN | apply below_drew1 | refine below_set ?_ GE209.out) | exact HB.out)⟩⟩
                        · rw [if_neg c23] at H
                          have c23b0 : (((rd_T31 t199 x7_2).f3) == ((rd_T32 t204 x7_2).f3)) = false := beq_eq_false_iff_ne.mpr c23
                          have c23b1 : (((rd_T31 t199 x7_2).f3) != ((rd_T32 t204 x7_2).f3)) = true := bne_iff_ne.mpr c23
                          obtain rfl := Option.some.inj H
                          obtain ⟨Ao26, co26, eo26⟩ := Kd.R_slice HO_3.out
                          subst eo26
                          have p210 : 0 ≤ (x7_2 : Int) := of_decide_eq_true (by first | (with_reducible assumption) | assumption)
                          have q210 : x7_2 < (t199.length : Int) := of_decide_eq_true (by first | (with_reducible assumption) | assumption)
                          obtain ⟨ad210, e210, hx210_0, hx210_1, hx210_2, hx210_3⟩ := at_T31 (Kd.R_reads' HO_3.out).2.2 x7_2 p210 q210
                          cases e210
                          replace p210 := eq_true p210
                          replace q210 := eq_true q210
                          have hcz27_0 : wr.cell? ⟨gb209, 0, none⟩ = some (.slice Ao8 t204.length co8) := (blk_cell BK209.out 0).trans rfl
                          have hcz27_1 : wr.cell? ⟨gb209, 1, none⟩ = some (.int .i64 t207) := (blk_cell BK209.out 1).trans rfl
                          have hcz27_2 : wr.cell? ⟨gb209, 2, none⟩ = some (.int .i64 t208) := (blk_cell BK209.out 2).trans rfl
                          have hfz27_0 := blk_frozen BK209.out 0
                          have hfz27_1 := blk_frozen BK209.out 1
                          have hfz27_2 := blk_frozen BK209.out 2
                          have p211 : 0 ≤ (x7_2 : Int) := of_decide_eq_true (by first | (with_reducible assumption) | assumption)
                          have q211 : x7_2 < (t204.length : Int) := of_decide_eq_true (by first | (with_reducible assumption) | assumption)
                          obtain ⟨ad211, e211, hx211_0, hx211_1, hx211_2, hx211_3⟩ := at_T32 (Kd.R_reads' HO_210000.out).2.2 x7_2 p211 q211
                          cases e211
                          replace p211 := eq_true p211
                          replace q211 := eq_true q211
                          have p212 : 0 ≤ (x7_2 : Int) := of_decide_eq_true (by first | (with_reducible assumption) | assumption)
                          have q212 : x7_2 < (t199.length : Int) := of_decide_eq_true (by first | (with_reducible assumption) | assumption)
                          obtain ⟨ad212, e212, hx212_0, hx212_1, hx212_2, hx212_3⟩ := at_T31 (Kd.R_reads' HO_3.out).2.2 x7_2 p212 q212
                          obtain rfl : ad210 = ad212 := (by injection e212)
                          replace p212 := eq_true p212
                          replace q212 := eq_true q212
                          have p213 : 0 ≤ (x7_2 : Int) := of_decide_eq_true (by first | (with_reducible assumption) | assumption)
                          have q213 : x7_2 < (t204.length : Int) := of_decide_eq_true (by first | (with_reducible assumption) | assumption)
                          obtain ⟨ad213, e213, hx213_0, hx213_1, hx213_2, hx213_3⟩ := at_T32 (Kd.R_reads' HO_210000.out).2.2 x7_2 p213 q213
                          obtain rfl : ad211 = ad213 := (by injection e213)
                          replace p213 := eq_true p213
                          replace q213 := eq_true q213
                          have p214 : 0 ≤ (x7_2 : Int) := of_decide_eq_true (by first | (with_reducible assumption) | assumption)
                          have q214 : x7_2 < (t199.length : Int) := of_decide_eq_true (by first | (with_reducible assumption) | assumption)
                          obtain ⟨ad214, e214, hx214_0, hx214_1, hx214_2, hx214_3⟩ := at_T31 (Kd.R_reads' HO_3.out).2.2 x7_2 p214 q214
                          obtain rfl : ad210 = ad214 := (by injection e214)
                          replace p214 := eq_true p214
                          replace q214 := eq_true q214
                          have p215 : 0 ≤ (x7_2 : Int) := of_decide_eq_true (by first | (with_reducible assumption) | assumption)
                          have q215 : x7_2 < (t204.length : Int) := of_decide_eq_true (by first | (with_reducible assumption) | assumption)
                          obtain ⟨ad215, e215, hx215_0, hx215_1, hx215_2, hx215_3⟩ := at_T32 (Kd.R_reads' HO_210000.out).2.2 x7_2 p215 q215
                          obtain rfl : ad211 = ad215 := (by injection e215)
                          replace p215 := eq_true p215
                          replace q215 := eq_true q215
                          have p216 : 0 ≤ (x7_2 : Int) := of_decide_eq_true (by first | (with_reducible assumption) | assumption)
                          have q216 : x7_2 < (t199.length : Int) := of_decide_eq_true (by first | (with_reducible assumption) | assumption)
                          obtain ⟨ad216, e216, hx216_0, hx216_1, hx216_2, hx216_3⟩ := at_T31 (Kd.R_reads' HO_3.out).2.2 x7_2 p216 q216
                          obtain rfl : ad210 = ad216 := (by injection e216)
                          replace p216 := eq_true p216
                          replace q216 := eq_true q216
                          have p217 : 0 ≤ (x7_2 : Int) := of_decide_eq_true (by first | (with_reducible assumption) | assumption)
                          have q217 : x7_2 < (t204.length : Int) := of_decide_eq_true (by first | (with_reducible assumption) | assumption)
                          obtain ⟨ad217, e217, hx217_0, hx217_1, hx217_2, hx217_3⟩ := at_T32 (Kd.R_reads' HO_210000.out).2.2 x7_2 p217 q217
                          obtain rfl : ad211 = ad217 := (by injection e217)
                          replace p217 := eq_true p217
                          replace q217 := eq_true q217
                          go_wp2
                          repeat (go_quiet (fail); try go_wp2)
                          go_ret
                          exact ⟨by first | rfl | (simp [errW_none, errW_some] <;> rfl) | (simp [*, errW_none, errW_some] <;> rfl), by repeat (first | (with_reducible first | exact HB.out | apply below_alloc | apply pw_below_drewN | apply below_drew1 | refine below_set ?_ GE209.out) | exact HB.out)⟩
                      · rw [if_neg c22] at H
                        have c22b0 : (((rd_T31 t199 x7_2).f2) == ((rd_T32 t204 x7_2).f2)) = false := beq_eq_false_iff_ne.mpr c22
                        have c22b1 : (((rd_T31 t199 x7_2).f2) != ((rd_T32 t204 x7_2).f2)) = true := bne_iff_ne.mpr c22
                        obtain rfl := Option.some.inj H
                        obtain ⟨Ao28, co28, eo28⟩ := Kd.R_slice HO_3.out
                        subst eo28
                        have p210 : 0 ≤ (x7_2 : Int) := of_decide_eq_true (by first | (with_reducible assumption) | assumption)
                        have q210 : x7_2 < (t199.length : Int) := of_decide_eq_true (by first | (with_reducible assumption) | assumption)
                        obtain ⟨ad210, e210, hx210_0, hx210_1, hx210_2, hx210_3⟩ := at_T31 (Kd.R_reads' HO_3.out).2.2 x7_2 p210 q210
                        cases e210
                        replace p210 := eq_true p210
                        replace q210 := eq_true q210
                        have hcz29_0 : wr.cell? ⟨gb209, 0, none⟩ = some (.slice Ao8 t204.length co8) := (blk_cell BK209.out 0).trans rfl
                        have hcz29_1 : wr.cell? ⟨gb209, 1, none⟩ = some (.int .i64 t207) := (blk_cell BK209.out 1).trans rfl
                        have hcz29_2 : wr.cell? ⟨gb209, 2, none⟩ = some (.int .i64 t208) := (blk_cell BK209.out 2).trans rfl
                        have hfz29_0 := blk_frozen BK209.out 0
                        have hfz29_1 := blk_frozen BK209.out 1
                        have hfz29_2 := blk_frozen BK209.out 2
                        have p211 : 0 ≤ (x7_2 : Int) := of_decide_eq_true (by first | (with_reducible assumption) | assumption)
                        have q211 : x7_2 < (t204.length : Int) := of_decide_eq_true (by first | (with_reducible assumption) | assumption)
                        obtain ⟨ad211, e211, hx211_0, hx211_1, hx211_2, hx211_3⟩ := at_T32 (Kd.R_reads' HO_210000.out).2.2 x7_2 p211 q211
                        cases e211
                        replace p211 := eq_true p211
                        replace q211 := eq_true q211
                        have p212 : 0 ≤ (x7_2 : Int) := of_decide_eq_true (by first | (with_reducible assumption) | assumption)
                        have q212 : x7_2 < (t199.length : Int) := of_decide_eq_true (by first | (with_reducible assumption) | assumption)
                        obtain ⟨ad212, e212, hx212_0, hx212_1, hx212_2, hx212_3⟩ := at_T31 (Kd.R_reads' HO_3.out).2.2 x7_2 p212 q212
                        obtain rfl : ad210 = ad212 := (by injection e212)
                        replace p212 := eq_true p212
                        replace q212 := eq_true q212
                        have p213 : 0 ≤ (x7_2 : Int) := of_decide_eq_true (by first | (with_reducible assumption) | assumption)
                        have q213 : x7_2 < (t204.length : Int) := of_decide_eq_true (by first | (with_reducible assumption) | assumption)
                        obtain ⟨ad213, e213, hx213_0, hx213_1, hx213_2, hx213_3⟩ := at_T32 (Kd.R_reads' HO_210000.out).2.2 x7_2 p213 q213
                        obtain rfl : ad211 = ad213 := (by injection e213)
                        replace p213 := eq_true p213
                        replace q213 := eq_true q213
                        have p214 : 0 ≤ (x7_2 : Int) := of_decide_eq_true (by first | (with_reducible assumption) | assumption)
                        have q214 : x7_2 < (t199.length : Int) := of_decide_eq_true (by first | (with_reducible assumption) | assumption)
                        obtain ⟨ad214, e214, hx214_0, hx214_1, hx214_2, hx214_3⟩ := at_T31 (Kd.R_reads' HO_3.out).2.2 x7_2 p214 q214
                        obtain rfl : ad210 = ad214 := (by injection e214)
                        replace p214 := eq_true p214
                        replace q214 := eq_true q214
                        have p215 : 0 ≤ (x7_2 : Int) := of_decide_eq_true (by first | (with_reducible assumption) | assumption)
                        have q215 : x7_2 < (t204.length : Int) := of_decide_eq_true (by first | (with_reducible assumption) | assumption)
                        obtain ⟨ad215, e215, hx215_0, hx215_1, hx215_2, hx215_3⟩ := at_T32 (Kd.R_reads' HO_210000.out).2.2 x7_2 p215 q215
                        obtain rfl : ad211 = ad215 := (by injection e215)
                        replace p215 := eq_true p215
                        replace q215 := eq_true q215
                        go_wp2
                        repeat (go_quiet (fail); try go_wp2)
                        go_ret
                        exact ⟨by first | rfl | (simp [errW_none, errW_some] <;> rfl) | (simp [*, errW_none, errW_some] <;> rfl), by repeat (first | (with_reducible first | exact HB.out | apply below_alloc | apply pw_below_drewN | apply below_drew1 | refine below_set ?_ GE209.out) | exact HB.out)⟩
                    · rw [if_neg c21] at H
                      have c21b0 : (((rd_T31 t199 x7_2).f1).toList == ((rd_T32 t204 x7_2).f1).toList) = false := beq_eq_false_iff_ne.mpr c21
                      have c21b1 : (((rd_T31 t199 x7_2).f1).toList != ((rd_T32 t204 x7_2).f1).toList) = true := bne_iff_ne.mpr c21
                      obtain rfl := Option.some.inj H
                      obtain ⟨Ao30, co30, eo30⟩ := Kd.R_slice HO_3.out
                      subst eo30
                      have p210 : 0 ≤ (x7_2 : Int) := of_decide_eq_true (by first | (with_reducible assumption) | assumption)
                      have q210 : x7_2 < (t199.length : Int) := of_decide_eq_true (by first | (with_reducible assumption) | assumption)
                      obtain ⟨ad210, e210, hx210_0, hx210_1, hx210_2, hx210_3⟩ := at_T31 (Kd.R_reads' HO_3.out).2.2 x7_2 p210 q210
                      cases e210
                      replace p210 := eq_true p210
                      replace q210 := eq_true q210
                      have hcz31_0 : wr.cell? ⟨gb209, 0, none⟩ = some (.slice Ao8 t204.length co8) := (blk_cell BK209.out 0).trans rfl
                      have hcz31_1 : wr.cell? ⟨gb209, 1, none⟩ = some (.int .i64 t207) := (blk_cell BK209.out 1).trans rfl
                      have hcz31_2 : wr.cell? ⟨gb209, 2, none⟩ = some (.int .i64 t208) := (blk_cell BK209.out 2).trans rfl
                      have hfz31_0 := blk_frozen BK209.out 0
                      have hfz31_1 := blk_frozen BK209.out 1
                      have hfz31_2 := blk_frozen BK209.out 2
                      have p211 : 0 ≤ (x7_2 : Int) := of_decide_eq_true (by first | (with_reducible assumption) | assumption)
                      have q211 : x7_2 < (t204.length : Int) := of_decide_eq_true (by first | (with_reducible assumption) | assumption)
                      obtain ⟨ad211, e211, hx211_0, hx211_1, hx211_2, hx211_3⟩ := at_T32 (Kd.R_reads' HO_210000.out).2.2 x7_2 p211 q211
                      cases e211
                      replace p211 := eq_true p211
                      replace q211 := eq_true q211
                      have p212 : 0 ≤ (x7_2 : Int) := of_decide_eq_true (by first | (with_reducible assumption) | assumption)
                      have q212 : x7_2 < (t199.length : Int) := of_decide_eq_true (by first | (with_reducible assumption) | assumption)
                      obtain ⟨ad212, e212, hx212_0, hx212_1, hx212_2, hx212_3⟩ := at_T31 (Kd.R_reads' HO_3.out).2.2 x7_2 p212 q212
                      obtain rfl : ad210 = ad212 := (by injection e212)
                      replace p212 := eq_true p212
                      replace q212 := eq_true q212
                      have p213 : 0 ≤ (x7_2 : Int) := of_decide_eq_true (by first | (with_reducible assumption) | assumption)
                      have q213 : x7_2 < (t204.length : Int) := of_decide_eq_true (by first | (with_reducible assumption) | assumption)
                      obtain ⟨ad213, e213, hx213_0, hx213_1, hx213_2, hx213_3⟩ := at_T32 (Kd.R_reads' HO_210000.out).2.2 x7_2 p213 q213
                      obtain rfl : ad211 = ad213 := (by injection e213)
                      replace p213 := eq_true p213
                      replace q213 := eq_true q213
                      go_wp2
                      repeat (go_quiet (fail); try go_wp2)
                      go_ret
                      exact ⟨by first | rfl | (simp [errW_none, errW_some] <;> rfl) | (simp [*, errW_none, errW_some] <;> rfl), by repeat (first | (with_reducible first | exact HB.out | apply below_alloc | apply pw_below_drewN | apply below_drew1 | refine below_set ?_ GE209.out) | exact HB.out)⟩
                  · rw [if_neg c20] at H
                    have c20b0 : (((rd_T31 t199 x7_2).f0) == ((rd_T32 t204 x7_2).f0)) = false := beq_eq_false_iff_ne.mpr c20
                    have c20b1 : (((rd_T31 t199 x7_2).f0) != ((rd_T32 t204 x7_2).f0)) = true := bne_iff_ne.mpr c20
                    obtain rfl := Option.some.inj H
                    obtain ⟨Ao32, co32, eo32⟩ := Kd.R_slice HO_3.out
                    subst eo32
                    have p210 : 0 ≤ (x7_2 : Int) := of_decide_eq_true (by first | (with_reducible assumption) | assumption)
                    have q210 : x7_2 < (t199.length : Int) := of_decide_eq_true (by first | (with_reducible assumption) | assumption)
                    obtain ⟨ad210, e210, hx210_0, hx210_1, hx210_2, hx210_3⟩ := at_T31 (Kd.R_reads' HO_3.out).2.2 x7_2 p210 q210
                    cases e210
                    replace p210 := eq_true p210
                    replace q210 := eq_true q210
                    have hcz33_0 : wr.cell? ⟨gb209, 0, none⟩ = some (.slice Ao8 t204.length co8) := (blk_cell BK209.out 0).trans rfl
                    have hcz33_1 : wr.cell? ⟨gb209, 1, none⟩ = some (.int .i64 t207) := (blk_cell BK209.out 1).trans rfl
                    have hcz33_2 : wr.cell? ⟨gb209, 2, none⟩ = some (.int .i64 t208) := (blk_cell BK209.out 2).trans rfl
                    have hfz33_0 := blk_frozen BK209.out 0
                    have hfz33_1 := blk_frozen BK209.out 1
                    have hfz33_2 := blk_frozen BK209.out 2
                    have p211 : 0 ≤ (x7_2 : Int) := of_decide_eq_true (by first | (with_reducible assumption) | assumption)
                    have q211 : x7_2 < (t204.length : Int) := of_decide_eq_true (by first | (with_reducible assumption) | assumption)
                    obtain ⟨ad211, e211, hx211_0, hx211_1, hx211_2, hx211_3⟩ := at_T32 (Kd.R_reads' HO_210000.out).2.2 x7_2 p211 q211
                    cases e211
                    replace p211 := eq_true p211
                    replace q211 := eq_true q211
                    go_wp2
                    repeat (go_quiet (fail); try go_wp2)
                    go_ret
                    exact ⟨by first | rfl | (simp [errW_none, errW_some] <;> rfl) | (simp [*, errW_none, errW_some] <;> rfl), by repeat (first | (with_reducible first | exact HB.out | apply below_alloc | apply pw_below_drewN | apply below_drew1 | refine below_set ?_ GE209.out) | exact HB.out)⟩
                · rw [if_neg c19] at H
                  exact absurd H (by simp)
              · rw [if_neg c18] at H
                exact absurd H (by simp)
            · rw [if_neg c17] at H
              have c17b0 : decide (x7_2 < (t199.length : Int)) = false := decide_eq_false c17
              clear c17
              replace H := Option.bind_eq_some_iff.mp H
              obtain ⟨t218, A340, H⟩ := H
              replace H : (some t218) = some r := H
              have A34 := Aside0.mk A340
              clear A340
              obtain rfl := Option.some.inj H
              obtain ⟨Ao35, co35, eo35⟩ := Kd.R_slice HO_3.out
              subst eo35
              go_wp2_with (first | (go_at_call 10; (with_reducible refine (ratlinelaw4_awake.calls k2  t218 _ A34.out (by refine Laid.below ?_ hL; repeat (first | (with_reducible first | exact HB.out | apply below_alloc | apply pw_below_drewN | apply below_drew1 | refine below_set ?_ GE209.out) | exact HB.out))).mono ?_); rintro e w36 ⟨rfl, hb⟩; have n0_ := Aside0.mk (Kd.R_below (by (with_reducible repeat (first | apply Kd.R_alloc | apply Kd.R_drewN | apply Kd.R_drew)); exact HO_3.out) hb); have n1_ := Aside0.mk (Kd.R_below (by (with_reducible repeat (first | apply Kd.R_alloc | apply Kd.R_drewN | apply Kd.R_drew)); exact HO_210000.out) hb); have n2_ := Aside0.mk (blk_below (g := gb209) (o := .cells #[.slice Ao8 t204.length co8, .int .i64 t207, .int .i64 t208] 28 (0, 0)) (by (with_reducible repeat (first | refine blk_drewN ?_ _ | refine blk_drew ?_ | refine blk_alloc ?_ _)); exact BK209.out) hb); have n3_ := Aside0.mk (below_step (by repeat (first | (with_reducible first | exact HB.out | apply below_alloc | apply pw_below_drewN | apply below_drew1 | refine below_set ?_ GE209.out) | exact HB.out)) hb); clear HO_3; clear HO_210000; clear BK209; clear HB; have HO_3 := n0_; have HO_210000 := n1_; have BK209 := n2_; have HB := n3_; clear n0_ n1_ n2_ n3_; (try clear hb); (try clear hb2); (try clear hk); (try clear hi)))
              repeat (go_quiet (first | (go_at_call 10; (with_reducible refine (ratlinelaw4_awake.calls k2  t218 _ A34.out (by refine Laid.below ?_ hL; repeat (first | (with_reducible first | exact HB.out | apply below_alloc | apply pw_below_drewN | apply below_drew1 | refine below_set ?_ GE209.out) | exact HB.out))).mono ?_); rintro e w36 ⟨rfl, hb⟩; have n0_ := Aside0.mk (Kd.R_below (by (with_reducible repeat (first | apply Kd.R_alloc | apply Kd.R_drewN | apply Kd.R_drew)); exact HO_3.out) hb); have n1_ := Aside0.mk (Kd.R_below (by (with_reducible repeat (first | apply Kd.R_alloc | apply Kd.R_drewN | apply Kd.R_drew)); exact HO_210000.out) hb); have n2_ := Aside0.mk (blk_below (g := gb209) (o := .cells #[.slice Ao8 t204.length co8, .int .i64 t207, .int .i64 t208] 28 (0, 0)) (by (with_reducible repeat (first | refine blk_drewN ?_ _ | refine blk_drew ?_ | refine blk_alloc ?_ _)); exact BK209.out) hb); have n3_ := Aside0.mk (below_step (by repeat (first | (with_reducible first | exact HB.out | apply below_alloc | apply pw_below_drewN | apply below_drew1 | refine below_set ?_ GE209.out) | exact HB.out)) hb); clear HO_3; clear HO_210000; clear BK209; clear HB; have HO_3 := n0_; have HO_210000 := n1_; have BK209 := n2_; have HB := n3_; clear n0_ n1_ n2_ n3_; (try clear hb); (try clear hb2); (try clear hk); (try clear hi))); try go_wp2_with (first | (go_at_call 10; (with_reducible refine (ratlinelaw4_awake.calls k2  t218 _ A34.out (by refine Laid.below ?_ hL; repeat (first | (with_reducible first | exact HB.out | apply below_alloc | apply pw_below_drewN | apply below_drew1 | refine below_set ?_ GE209.out) | exact HB.out))).mono ?_); rintro e w36 ⟨rfl, hb⟩; have n0_ := Aside0.mk (Kd.R_below (by (with_reducible repeat (first | apply Kd.R_alloc | apply Kd.R_drewN | apply Kd.R_drew)); exact HO_3.out) hb); have n1_ := Aside0.mk (Kd.R_below (by (with_reducible repeat (first | apply Kd.R_alloc | apply Kd.R_drewN | apply Kd.R_drew)); exact HO_210000.out) hb); have n2_ := Aside0.mk (blk_below (g := gb209) (o := .cells #[.slice Ao8 t204.length co8, .int .i64 t207, .int .i64 t208] 28 (0, 0)) (by (with_reducible repeat (first | refine blk_drewN ?_ _ | refine blk_drew ?_ | refine blk_alloc ?_ _)); exact BK209.out) hb); have n3_ := Aside0.mk (below_step (by repeat (first | (with_reducible first | exact HB.out | apply below_alloc | apply pw_below_drewN | apply below_drew1 | refine below_set ?_ GE209.out) | exact HB.out)) hb); clear HO_3; clear HO_210000; clear BK209; clear HB; have HO_3 := n0_; have HO_210000 := n1_; have BK209 := n2_; have HB := n3_; clear n0_ n1_ n2_ n3_; (try clear hb); (try clear hb2); (try clear hk); (try clear hi))))
              go_ret
              exact ⟨by first | rfl | (simp [errW_none, errW_some] <;> rfl) | (simp [*, errW_none, errW_some] <;> rfl), by repeat (first | (with_reducible first | exact HB.out | apply below_alloc | apply pw_below_drewN | apply below_drew1 | refine below_set ?_ GE209.out) | exact HB.out)⟩

/-- THE ONE PURE STATEMENT of ratlinelaw4_LexTokens: yours. -/
def ratlinelaw4_LexTokens.Pure : Prop := ∀ (a0 : ByteArray), a0.size ≤ 140737488351232 → ∃ k, ratlinelaw4_LexTokens.f k a0 = some true
theorem ratlinelaw4_LexTokens.walk (P : ratlinelaw4_LexTokens.Pure) (a0 : ByteArray) (w : World) (w0 : a0.size ≤ 140737488351232) (hL : Laid w) :
    Calls Tryd.prog 3 #[.string a0] w fun e w' => e = .returned (.bool true) ∧ Below w.heap.size w w' := by
  obtain ⟨k, h⟩ := P a0 w0
  refine (ratlinelaw4_LexTokens.calls k a0 true w h hL).mono ?_
  rintro e w' ⟨rfl, hd⟩
  exact ⟨rfl, hd⟩

end Go.Proofs.YtmmndmfphcbieaaDoor.XLex
