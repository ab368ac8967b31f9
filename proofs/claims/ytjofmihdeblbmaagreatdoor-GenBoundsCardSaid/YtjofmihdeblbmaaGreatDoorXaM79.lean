/- XA: plain: GenTicks, GenBounds: all their programs, evaluated. -/
import Derived.Test.YtjofmihdeblbmaaGreatDoorXaM78
namespace Go.Proofs.YtjofmihdeblbmaaGreatDoor.Xa
open Go Go.RowKit
set_option linter.unusedVariables false
set_option linter.unusedSimpArgs false
set_option maxRecDepth 100000
set_option maxHeartbeats 2000000
theorem gtb0 : ((List.range 8).all fun l => (List.range 8).all fun c => gtB 0 l c) = true := by decide +kernel
theorem gtb1 : ((List.range 8).all fun l => (List.range 8).all fun c => gtB 1 l c) = true := by decide +kernel
theorem gtb2 : ((List.range 8).all fun l => (List.range 8).all fun c => gtB 2 l c) = true := by decide +kernel
theorem gtb3 : ((List.range 8).all fun l => (List.range 8).all fun c => gtB 3 l c) = true := by decide +kernel
theorem gtb4 : ((List.range 8).all fun l => (List.range 8).all fun c => gtB 4 l c) = true := by decide +kernel
theorem gtb5 : ((List.range 8).all fun l => (List.range 8).all fun c => gtB 5 l c) = true := by decide +kernel
theorem gtb6 : ((List.range 8).all fun l => (List.range 8).all fun c => gtB 6 l c) = true := by decide +kernel
theorem gtb7 : ((List.range 8).all fun l => (List.range 8).all fun c => gtB 7 l c) = true := by decide +kernel
theorem gtvF : ((List.range 8).all fun o => vOk (cF o)) = true := by decide +kernel
theorem gtv0 : ((List.range 8).all fun c => vOk (cM 0 c)) = true := by decide +kernel
theorem gtv1 : ((List.range 8).all fun c => vOk (cM 1 c)) = true := by decide +kernel
theorem gtv2 : ((List.range 8).all fun c => vOk (cM 2 c)) = true := by decide +kernel
theorem gtv3 : ((List.range 8).all fun c => vOk (cM 3 c)) = true := by decide +kernel
theorem gtv4 : ((List.range 8).all fun c => vOk (cM 4 c)) = true := by decide +kernel
theorem gtv5 : ((List.range 8).all fun c => vOk (cM 5 c)) = true := by decide +kernel
theorem gtv6 : ((List.range 8).all fun c => vOk (cM 6 c)) = true := by decide +kernel
theorem gtv7 : ((List.range 8).all fun c => vOk (cM 7 c)) = true := by decide +kernel
theorem range8 {p : Nat → Bool} (h : (List.range 8).all p = true) {o : Nat} (ho : o ≤ 7) : p o = true := List.all_eq_true.1 h o (List.mem_range.2 (by omega))
theorem gtB_all (o l c : Nat) (ho : o ≤ 7) (hl : l ≤ 7) (hc : c ≤ 7) : gtB o l c = true := by
  have : o = 0 ∨ o = 1 ∨ o = 2 ∨ o = 3 ∨ o = 4 ∨ o = 5 ∨ o = 6 ∨ o = 7 := by omega
  rcases this with rfl | rfl | rfl | rfl | rfl | rfl | rfl | rfl
  · exact range8 (range8 gtb0 hl) hc
  · exact range8 (range8 gtb1 hl) hc
  · exact range8 (range8 gtb2 hl) hc
  · exact range8 (range8 gtb3 hl) hc
  · exact range8 (range8 gtb4 hl) hc
  · exact range8 (range8 gtb5 hl) hc
  · exact range8 (range8 gtb6 hl) hc
  · exact range8 (range8 gtb7 hl) hc
theorem vM_all (l c : Nat) (hl : l ≤ 7) (hc : c ≤ 7) : vOk (cM l c) = true := by
  have : l = 0 ∨ l = 1 ∨ l = 2 ∨ l = 3 ∨ l = 4 ∨ l = 5 ∨ l = 6 ∨ l = 7 := by omega
  rcases this with rfl | rfl | rfl | rfl | rfl | rfl | rfl | rfl
  · exact range8 gtv0 hc
  · exact range8 gtv1 hc
  · exact range8 gtv2 hc
  · exact range8 gtv3 hc
  · exact range8 gtv4 hc
  · exact range8 gtv5 hc
  · exact range8 gtv6 hc
  · exact range8 gtv7 hc
end Go.Proofs.YtjofmihdeblbmaaGreatDoor.Xa
namespace Go.Proofs.YtjofmihdeblbmaaGreatDoor.Xa
open Go Go.RowKit
set_option linter.unusedVariables false
set_option linter.unusedSimpArgs false
set_option maxRecDepth 100000
set_option maxHeartbeats 2000000
theorem nest_a : ((List.range 12).all fun d => nestOk d) = true := by decide +kernel
theorem nest_b : ((List.range 4).all fun d => nestOk (12 + d)) = true := by decide +kernel
theorem nest_c : ((List.range 4).all fun d => nestOk (16 + d)) = true := by decide +kernel
theorem nest_d : ((List.range 4).all fun d => nestOk (20 + d)) = true := by decide +kernel
theorem nest_all (d : Nat) (hd : d ≤ 23) : nestOk d = true := by
  rcases Nat.lt_or_ge d 12 with h | h
  · exact List.all_eq_true.1 nest_a d (List.mem_range.2 h)
  rcases Nat.lt_or_ge d 16 with h2 | h2
  · have := List.all_eq_true.1 nest_b (d - 12) (List.mem_range.2 (by omega))
    rwa [show 12 + (d - 12) = d by omega] at this
  rcases Nat.lt_or_ge d 20 with h3 | h3
  · have := List.all_eq_true.1 nest_c (d - 16) (List.mem_range.2 (by omega))
    rwa [show 16 + (d - 16) = d by omega] at this
  · have := List.all_eq_true.1 nest_d (d - 20) (List.mem_range.2 (by omega))
    rwa [show 20 + (d - 20) = d by omega] at this
end Go.Proofs.YtjofmihdeblbmaaGreatDoor.Xa
namespace Go.Proofs.YtjofmihdeblbmaaGreatDoor.Xa
open Go Go.RowKit
set_option linter.unusedVariables false
set_option linter.unusedSimpArgs false
set_option maxRecDepth 100000
set_option maxHeartbeats 2000000
/-- what gen.Source makes of the text of GenTicks -/
theorem tick_src (b : ByteArray) (o l c : Nat) (ho : o ≤ 7) (hl : l ≤ 7) (hc : c ≤ 7) (hb : b.data.toList = flatW (tickW o l c) ++ [125]) (hs : b.size ≤ 4000) :
    ∃ sr r, srcT 1000000 b = some sr ∧ genR 1000000 sr = some r ∧ r.e = 0 ∧ r.fns.length = 2 ∧ r.main = 1 ∧ ticksOf (r.fns.flatMap (·.code)) 0 = some ((2 * o + l + c : Nat) : Int) ∧ ∀ F ∈ r.fns, F.code.length ≤ 1000 := by
  have hp := tick_prog b o l c ho hl hc hb hs
  have hl2 : (tickL o l c).map FT.fn = [tickF o, tickM l c] := by
    simp [tickL, FT.fn, tickF, tickM, tickB]
  rw [hl2] at hp
  have hg := gtB_all o l c ho hl hc
  unfold gtB at hg
  split at hg
  case h_2 => cases hg
  rename_i rs e hck
  simp only [Bool.and_eq_true] at hg
  obtain ⟨he, hg⟩ := hg
  have he' : e = 0 := by simpa using he
  subst he'
  split at hg
  case h_2 => cases hg
  rename_i r0 r1
  simp only [Bool.and_eq_true] at hg
  obtain ⟨⟨l0, l1⟩, hg⟩ := hg
  have l0' : r0.locals = 0 := by simpa using l0
  have l1' : r1.locals = 0 := by simpa using l1
  split at hg
  case h_2 => cases hg
  rename_i s0 hs0
  split at hg
  case h_2 => cases hg
  rename_i s1 hs1
  simp only [Bool.and_eq_true] at hg
  obtain ⟨⟨⟨⟨k0, k1⟩, c0⟩, c1⟩, ht⟩ := hg
  have ht' : ticksOf (s0.code ++ s1.code) 0 = some ((2 * o + l + c : Nat) : Int) := by
    split at ht
    · rename_i n hn
      rw [hn]
      simpa using ht
    · cases ht
  have hsrc : srcT 1000000 b = some ⟨[tickF o, tickM l c], [r0, r1], 0, 0⟩ := by
    unfold srcT
    rw [hp]
    simp only
    rw [if_pos (by simp [tickF, tickM])]
    unfold srcR
    simp only [beq_self_eq_true, if_true]
    rw [show (1000000 : Nat) = FU from rfl, hck]
    simp
  have sok : ∀ s : GS, sOk s = true → s.big = false ∧ ltB 1000 (s.code.length : Nat) = false ∧ ltB 4095 s.ticks = false ∧ s.code.all tickIn = true := by
    intro s h
    simp only [sOk, Bool.and_eq_true, Bool.not_eq_true'] at h
    exact ⟨h.1.1.1, h.1.1.2, h.1.2, h.2⟩
  obtain ⟨a1, a2, a3, a4⟩ := sok s0 k0
  obtain ⟨b1, b2, b3, b4⟩ := sok s1 k1
  have isc : ∀ (s : GS) (c : List Ins × Nat), isC s c = true → s.code.map normI = c.1 ∧ s.consts.length = c.2 := by
    intro s c h
    simp only [isC, Bool.and_eq_true] at h
    exact ⟨eqI_eq h.1, by simpa using h.2⟩
  obtain ⟨m0, n0⟩ := isc s0 _ c0
  obtain ⟨m1, n1⟩ := isc s1 _ c1
  have v0 : (virtP 1000000 [0, 0] s0.consts.length 0 0 s0.code).isSome = true := by
    rw [← norm_virt _ _ _ _ _ _ a4, m0, n0]
    exact range8 gtvF ho
  have v1 : (virtP 1000000 [0, 0] s1.consts.length 0 0 s1.code).isSome = true := by
    rw [← norm_virt _ _ _ _ _ _ b4, m1, n1]
    exact vM_all l c hl hc
  have hf : gFns 1000000 0 [tickF o, tickM l c] [r0, r1] [] = some (some [⟨⟨#[102]⟩, 0, 0, s0.consts, s0.code⟩, ⟨mainB, 0, 0, s1.consts, s1.code⟩]) := by
    rw [gFns, show gFn 1000000 0 (tickF o) r0 = some s0 from hs0]
    simp only [a1, a2, a3, Bool.or_false, Bool.false_eq_true, if_false]
    rw [gFns, show gFn 1000000 s0.ticks (tickM l c) r1 = some s1 from hs1]
    simp only [b1, b2, b3, Bool.or_false, Bool.false_eq_true, if_false]
    rw [gFns, l0', l1']
    rfl
  refine ⟨_, ⟨0, 0, [⟨⟨#[102]⟩, 0, 0, s0.consts, s0.code⟩, ⟨mainB, 0, 0, s1.consts, s1.code⟩], 1⟩, hsrc, ?_, rfl, rfl, rfl, ?_, ?_⟩
  · unfold genR progG
    simp only [beq_self_eq_true, if_true]
    rw [hf]
    simp only [List.map_cons, List.map_nil, List.all_cons, List.all_nil, virtS, v0, v1, Bool.and_true, if_true]
    have e1 : mainIx [tickF o, tickM l c] 0 0 = 1 := by
      have x1 : eqB ⟨#[102]⟩ mainB = false := by decide +kernel
      have x2 : eqB mainB mainB = true := by decide +kernel
      simp [mainIx, tickF, tickM, x1, x2]
    rw [e1]
  · simpa using ht'
  · intro F hF
    simp only [List.mem_cons, List.not_mem_nil, or_false] at hF
    rcases hF with rfl | rfl
    · have := a2; unfold ltB at this; simp at this; simp only; omega
    · have := b2; unfold ltB at this; simp at this; simp only; omega
/-- what gen.Source makes of the text of GenBounds, its first half -/
theorem bound_src (b : ByteArray) (n : Nat) (hn : n ≤ 600) (hb : b.data.toList = flatP (p_bound n)) (hs : b.size ≤ 4000) :
    ∃ sr r, srcT 1000000 b = some sr ∧ genR 1000000 sr = some r ∧ (if 1000 < 4 * n + 2 then r.e = 5 ∧ r.fns = [] else r.e = 0 ∧ ∃ F, r.fns = [F] ∧ F.code.length = 4 * n + 2) := by
  have hp := bound_prog b n hn hb hs
  have hl2 : (boundL n).map FT.fn = [boundF n] := rfl
  rw [hl2] at hp
  have hsrc : srcT 1000000 b = some ⟨[boundF n], [⟨0, [], [], 0⟩], 0, 0⟩ := by
    unfold srcT
    rw [hp]
    simp only
    rw [if_pos (by simp [boundF, FT.fn])]
    unfold srcR
    simp only [beq_self_eq_true, if_true, bound_chk n hn]
  have hg := bound_gen n hn
  have hl := bound_len n
  by_cases hbig : 1000 < 4 * n + 2
  · have e1 : ltB 1000 ((boundC n).length : Nat) = true := by unfold ltB; simp; omega
    refine ⟨_, ⟨0, 5, [], 0⟩, hsrc, ?_, by rw [if_pos hbig]; exact ⟨rfl, rfl⟩⟩
    unfold genR progG
    simp only [beq_self_eq_true, if_true, gFns, hg, e1, Bool.or_true, Bool.true_or]
  · have e1 : ltB 1000 ((boundC n).length : Nat) = false := by unfold ltB; simp; omega
    have e2 : ltB 4095 0 = false := rfl
    refine ⟨_, ⟨0, 0, [⟨mainB, 0, 0, csN n ++ [(0, 0)], boundC n⟩], mainIx [boundF n] 0 0⟩, hsrc, ?_, by rw [if_neg hbig]; exact ⟨rfl, _, rfl, hl⟩⟩
    have hv := bound_virt n (by omega)
    have hf : gFns 1000000 0 [boundF n] [⟨0, [], [], 0⟩] [] = some (some [⟨mainB, 0, 0, csN n ++ [(0, 0)], boundC n⟩]) := by
      rw [gFns, hg]
      simp only [e1, e2, Bool.or_false, Bool.false_eq_true, if_false]
      rw [gFns]
      rfl
    unfold genR progG
    simp only [beq_self_eq_true, if_true, hf, List.map_cons, List.map_nil, List.all_cons, List.all_nil, virtS, hv, Bool.and_true]
end Go.Proofs.YtjofmihdeblbmaaGreatDoor.Xa
