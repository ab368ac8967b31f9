/- The pure part of ColorAssigns. -/
import Derived.Test.YtidhllheipopbaaColS
import Derived.Test.YtidhllheipopbaaXColx3
import Derived.Test.YtidhllheipopbaaXColLColorAssigns
namespace Go.Proofs.Ytidhllheipopbaa.XCol
open Go.RowKit Go.Proofs.YtidhllheipopbaaW.PrintWords Go.Proofs.YtidhllheipopbaaW.PrintLast Go.Proofs.YtidhllheipopbaaW.PrintMore
theorem rows_l0 (l0 : List S46) (h80 : l0.length ≤ 80) : ∀ (d j : Nat) (a : List S24) (at_ : Int), l0.length = j + d → a.length = j →
    ∃ b : List S24, b.length = l0.length ∧ Ev (fun k => ratlinelaw18_rows.l0 k l0 a (a.map to47) at_ j) (b, b.map to47) := by
  intro d
  induction d with
  | zero =>
    intro j a at_ hj ha
    refine ⟨a, by omega, Ev.step (f := fun _ => some _) (fun k => ?_) (Ev.now _)⟩
    simp only [ratlinelaw18_rows.l0]
    rw [if_neg (by omega)]
  | succ d ih =>
    intro j a at_ hj ha
    obtain ⟨b, hb, he⟩ := ih (j + 1) (a ++ [⟨(j : Int), wrap64 (at_ + (Go.bits .and .i64 ((rd_T46 l0 (j : Int)).f1) 7)), wrap64 ((wrap64 (at_ + (Go.bits .and .i64 ((rd_T46 l0 (j : Int)).f1) 7))) + (Go.bits .and .i64 ((rd_T46 l0 (j : Int)).f2) 31))⟩]) (wrap64 (at_ + (Go.bits .and .i64 ((rd_T46 l0 (j : Int)).f1) 7))) (by omega) (by rw [List.length_append]; simp only [List.length_cons, List.length_nil]; omega)
    refine ⟨b, hb, Ev.step (fun k => ?_) he⟩
    simp only [ratlinelaw18_rows.l0]
    rw [if_pos (by omega), if_pos (by omega), if_pos (by omega), if_pos (by rw [List.length_map]; omega), List.map_append, wrap_id (x := (j : Int) + 1) (by omega) (by omega)]
    rfl
theorem rows_ev (l0 : List S46) (h80 : l0.length ≤ 80) : ∃ b : List S24, b.length = l0.length ∧ Ev (fun k => ratlinelaw18_rows.f k l0) (b, b.map to47) := by
  obtain ⟨b, h1, h2⟩ := rows_l0 l0 h80 l0.length 0 [] 0 (by omega) rfl
  exact ⟨b, h1, Ev.congr (fun k => rfl) h2⟩
theorem fold_slots (sl : Int) : ∀ (out : List S29) (a : Int), a ≤ sl → (∀ v ∈ out.map S29.f2, v < sl) → a ≤ out.foldl (fun a p => mx a (p.f2 + 1)) a ∧ out.foldl (fun a p => mx a (p.f2 + 1)) a ≤ sl ∧ ∀ v ∈ out.map S29.f2, v + 1 ≤ out.foldl (fun a p => mx a (p.f2 + 1)) a
  | [], a, ha, _ => ⟨Int.le_refl _, ha, fun v h => by simp at h⟩
  | p :: r, a, ha, h => by
    have hp := h p.f2 (by simp)
    have hm : a ≤ mx a (p.f2 + 1) ∧ p.f2 + 1 ≤ mx a (p.f2 + 1) ∧ mx a (p.f2 + 1) ≤ sl := by unfold mx; split <;> omega
    obtain ⟨h1, h2, h3⟩ := fold_slots sl r (mx a (p.f2 + 1)) hm.2.2 (fun v hv => h v (by rw [List.map_cons]; exact List.mem_cons_of_mem _ hv))
    rw [List.foldl_cons]
    refine ⟨Int.le_trans hm.1 h1, h2, ?_⟩
    intro v hv
    rw [List.map_cons] at hv
    rcases List.mem_cons.1 hv with rfl | hv
    · exact Int.le_trans hm.2.1 h1
    · exact h3 v hv
theorem slots_count (l : List S24) (N : Nat) : (assignL l N).foldl (fun a p => mx a (p.f2 + 1)) 0 = (cnt ((assignL l N).map S29.f2) : Int) := by
  obtain ⟨sl, h1, h2, h3, h4, h5⟩ := assign_slots l N
  obtain ⟨f1, f2, f3⟩ := fold_slots sl (assignL l N) 0 h5 (fun v hv => (h3 v hv).2)
  rw [h2]
  rcases h4 with h4 | h4
  · omega
  · have := f3 _ h4; omega
theorem cmp_l0 (out : List S29) (ho : out.length ≤ 80) (hs : Ev (fun k => color_Slots.f k out) ((cnt (out.map S29.f2) : Nat) : Int)) : ∀ (d j : Nat), out.length = j + d →
    Ev (fun k => ratlinelaw18_ColorAssigns.l0 k out (out.map to38) ((cnt ((out.map S29.f2).take j) : Nat) : Int) j) true := by
  intro d
  have h3 : Ev (fun k => (ratlinelaw18_awake.f k).bind fun t170 => (some t170)) true := awake_ev.bind (f := fun _ t => some t) (Ev.now _)
  induction d with
  | zero =>
    intro j hj
    rw [List.take_of_length_le (by rw [List.length_map]; omega)]
    have : Ev (fun k => (color_Slots.f k out).bind fun t169 => (if t169 = ((cnt (out.map S29.f2) : Nat) : Int) then ((ratlinelaw18_awake.f k).bind fun t170 => (some t170)) else (some false))) true :=
      hs.bind (f := fun k t169 => (if t169 = ((cnt (out.map S29.f2) : Nat) : Int) then ((ratlinelaw18_awake.f k).bind fun t170 => (some t170)) else (some false))) (Ev.congr (fun k => if_pos rfl) h3)
    refine Ev.step (fun k => ?_) this
    simp only [ratlinelaw18_ColorAssigns.l0]
    rw [if_neg (by omega)]
  | succ d ih =>
    intro j hj
    have hlt : j < out.length := by omega
    have hcl := cnt_le ((out.map S29.f2).take j)
    rw [List.length_take, List.length_map] at hcl
    have hj1 : ((j : Int)) < (out.length : Int) := Int.ofNat_lt.2 hlt
    have hml : (j : Int) < ((out.map to38).length : Int) := by rw [List.length_map]; exact hj1
    have hc : cnt ((out.map S29.f2).take (j + 1)) = cnt ((out.map S29.f2).take j) + (if 0 ≤ (rd_T29 out (j : Int)).f2 then 1 else 0) := by
      rw [List.take_succ_eq_append_getElem (by rw [List.length_map]; exact hlt), cnt_snoc, rd29_get hlt, List.getElem_map]
    have hw1 := wS1 j (by omega)
    have := ih (j + 1) (by omega)
    rw [hc] at this
    generalize cnt ((out.map S29.f2).take j) = c at *
    have hst : Ev (fun k => ratlinelaw18_ColorAssigns.j1 k out (out.map to38) (c : Int) j false) true := by
      by_cases h0 : (rd_T29 out (j : Int)).f2 ≥ 0
      · rw [if_pos h0] at this
        have hwc := wS1 c (by omega)
        refine Ev.step (fun k => ?_) this
        simp only [ratlinelaw18_ColorAssigns.j1]
        rw [if_neg (by decide), if_pos (Int.natCast_nonneg j), if_pos hml, rd38, if_pos (c := (to38 (rd_T29 out (j : Int))).f2 ≥ 0) h0, hw1, hwc]
      · rw [if_neg h0] at this
        refine Ev.step (fun k => ?_) this
        simp only [ratlinelaw18_ColorAssigns.j1]
        rw [if_neg (by decide), if_pos (Int.natCast_nonneg j), if_pos hml, rd38, if_neg (c := (to38 (rd_T29 out (j : Int))).f2 ≥ 0) h0, hw1]
        rfl
    refine Ev.step (fun k => ?_) hst
    simp only [ratlinelaw18_ColorAssigns.l0]
    rw [if_pos hj1, if_pos (Int.natCast_nonneg j), if_pos hml, rd38, if_pos (c := (rd_T29 out (j : Int)).f0 = (to38 (rd_T29 out (j : Int))).f0) rfl, if_pos (c := (rd_T29 out (j : Int)).f1 = (to38 (rd_T29 out (j : Int))).f1) rfl]
    rw [show ((rd_T29 out (j : Int)).f2 != (to38 (rd_T29 out (j : Int))).f2) = false from bne_self_eq_false _]
theorem assigns_pure (l0 : List S46) (a1 : Int) : ∃ k, ratlinelaw18_ColorAssigns.f k l0 a1 = some true := by
  refine Ev.rounds (g := fun k => ratlinelaw18_ColorAssigns.f k l0 a1) ?_
  have h3 : Ev (fun k => (ratlinelaw18_awake.f k).bind fun t156 => (some t156)) true := awake_ev.bind (f := fun _ t => some t) (Ev.now _)
  unfold ratlinelaw18_ColorAssigns.f
  by_cases h80 : (l0.length : Int) > 80
  · exact Ev.congr (fun k => if_pos h80) h3
  · refine Ev.congr (fun k => if_neg h80) ?_
    obtain ⟨b, hb, hrows⟩ := rows_ev l0 (by omega)
    have hn : bits .and .i64 a1 15 = a1 % 16 := and15 a1
    have hnn : (if a1 % 16 < 1 then 1 else a1 % 16) = (((if a1 % 16 < 1 then 1 else a1 % 16).toNat : Nat) : Int) := by split <;> omega
    have hN16 : (if a1 % 16 < 1 then 1 else a1 % 16).toNat ≤ 16 := by split <;> omega
    have hA : color_Assign.f b (a1 % 16) = some (assignL b (if a1 % 16 < 1 then 1 else a1 % 16).toNat) := by
      rw [color_Assign.f_eq, if_pos ⟨by omega, by omega⟩]
    have hR := ref_assign_ev b (by omega) (a1 % 16) _ hnn hN16
    generalize (if a1 % 16 < 1 then 1 else a1 % 16).toNat = N at *
    obtain ⟨sl, hlen, hc, hbd, _, _⟩ := assign_slots b N
    have hcl := cnt_le ((assignL b N).map S29.f2)
    rw [List.length_map] at hcl
    have hS := slots_ev (assignL b N) (by omega) (fun p hp => by
      have := hbd p.f2 (List.mem_map.2 ⟨p, hp, rfl⟩)
      omega)
    rw [slots_count] at hS
    have hl := cmp_l0 (assignL b N) (by omega) hS (assignL b N).length 0 (by omega)
    refine hrows.bind (f := fun k bt157 => _) ?_
    rw [hn]
    refine Ev.congr (fun k => by rw [hA, Option.bind_some]) ?_
    refine hR.bind (f := fun k t166 => if ((assignL b N).length : Int) = (t166.length : Int) then (ratlinelaw18_ColorAssigns.l0 k (assignL b N) t166 0 0) else (some false)) ?_
    refine Ev.congr (fun k => ?_) hl
    rw [if_pos (by rw [List.length_map])]
    rfl
end Go.Proofs.Ytidhllheipopbaa.XCol
