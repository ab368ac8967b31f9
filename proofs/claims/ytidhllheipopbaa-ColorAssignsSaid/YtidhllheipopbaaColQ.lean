/- color.Assign's plain function: slots are given one by one; more registers than intervals change nothing. -/
import Derived.Test.YtidhllheipopbaaColF
namespace Go.Proofs.Ytidhllheipopbaa.XCol
open Go.RowKit Go.Maps
def slotsOf (out : List S29) (i : Nat) : List Int := (out.take i).map S29.f2
theorem cnt_snoc : ∀ (l : List Int) (x : Int), cnt (l ++ [x]) = cnt l + (if 0 ≤ x then 1 else 0)
  | [], x => by simp only [List.nil_append, cnt]; omega
  | a :: r, x => by rw [List.cons_append, cnt, cnt, cnt_snoc r x]; omega
/-- the slots that have been given when i have got their places -/
structure Sl (out : List S29) (held : List Int) (i : Nat) (sl : Int) : Prop where
  cnt_ : (cnt (slotsOf out i) : Int) = sl
  lt : ∀ v ∈ slotsOf out i, -1 ≤ v ∧ v < sl
  top : sl = 0 ∨ sl - 1 ∈ slotsOf out i
  free : ∀ (p : Nat) (k : Int), held[p]? = some k → 0 ≤ k → (rd_T29 out k).f2 = -1
theorem slots_snoc {out : List S29} {i : Nat} (hi : i < out.length) (x : S29) : slotsOf (out.set i x) (i + 1) = slotsOf out i ++ [x.f2] := by
  unfold slotsOf
  rw [List.take_succ_eq_append_getElem (by rw [List.length_set]; exact hi), List.getElem_set_self, List.take_set_of_le (Nat.le_refl i), List.map_append]
  rfl
theorem slots_set {out : List S29} {i v : Nat} (hv : v < i) (x : S29) : slotsOf (out.set v x) i = (slotsOf out i).set v x.f2 := by
  unfold slotsOf
  rw [List.take_set, List.map_set]
theorem step_inv {l : List S24} {i : Nat} {out : List S29} {held : List Int} {sl : Int} {N : Nat} (hi : i < out.length) (hN : held.length = N) (h : Inv out held i) (hs : Sl out held i sl) (h0 : 0 ≤ sl) :
    Inv (stepA l i out held sl).1 (stepA l i out held sl).2.1 (i + 1) ∧ Sl (stepA l i out held sl).1 (stepA l i out held sl).2.1 (i + 1) (stepA l i out held sl).2.2 ∧ (stepA l i out held sl).1.length = out.length ∧ (stepA l i out held sl).2.1.length = N ∧ 0 ≤ (stepA l i out held sl).2.2 := by
  have e : stepA l i out held sl = stepB l i out (expire (endsB l i) held) sl := rfl
  rw [e]
  have hE : Inv (out.set i ⟨(rd_T24 l i).f0, -1, -1⟩) (expire (endsB l i) held) i := h.expired _ _
  have hlen : (expire (endsB l i) held).length = N := (expire_len _ _).trans hN
  have hle : ∀ (p : Nat) (k : Int), (expire (endsB l i) held)[p]? = some k → -1 ≤ k ∧ k < i := hE.le
  have hfree : ∀ (p : Nat) (k : Int), (expire (endsB l i) held)[p]? = some k → 0 ≤ k → (rd_T29 out k).f2 = -1 := by
    intro p k hp hk
    rcases expire_get hp with rfl | hp
    · omega
    · exact hs.free p k hp hk
  generalize expire (endsB l i) held = E at *
  by_cases hp : 0 ≤ freeFrom 0 E
  · obtain ⟨q, kq, hq1, hq2, hq⟩ := freeFrom_pos E 0 hp
    rw [Nat.zero_add] at hq
    have hqN : q < E.length := (List.getElem?_eq_some_iff.1 hq1).1
    have e2 : stepB l i out E sl = (out.set i ⟨(rd_T24 l i).f0, (q : Int), -1⟩, E.set q i, sl) := by
      unfold stepB
      rw [hq, if_pos (by omega), Int.toNat_natCast]
    rw [e2]
    refine ⟨?_, ⟨?_, ?_, ?_, ?_⟩, by rw [List.length_set], by rw [List.length_set]; exact hlen, h0⟩
    · have := hE.taken (by rw [List.length_set]; exact hi) hqN (rd_T24 l i).f0 (-1)
      rw [List.set_set] at this
      exact this
    · rw [slots_snoc hi, cnt_snoc, if_neg (show ¬ (0 : Int) ≤ -1 by decide)]; exact hs.cnt_
    · intro v hv
      rw [slots_snoc hi, List.mem_append, List.mem_singleton] at hv
      rcases hv with hv | hv
      · exact hs.lt v hv
      · simp only at hv ⊢; omega
    · rcases hs.top with h1 | h1
      · left; exact h1
      · right; rw [slots_snoc hi]; exact List.mem_append_left _ h1
    · intro p k hpk hk
      by_cases eq : q = p
      · subst eq
        rw [List.getElem?_set_self hqN] at hpk
        simp only [Option.some.injEq] at hpk
        subst hpk
        rw [rd29_set _ hi]
      · rw [List.getElem?_set_ne eq] at hpk
        have := hle p k hpk
        rw [rd29_ne _ k hk (by omega)]
        exact hfree p k hpk hk
  · by_cases hw : worstI l E i = i
    · have e2 : stepB l i out E sl = (out.set i ⟨(rd_T24 l i).f0, -1, sl⟩, E, sl + 1) := by
        unfold stepB
        rw [if_neg hp, if_pos hw]
      rw [e2]
      refine ⟨?_, ⟨?_, ?_, ?_, ?_⟩, by rw [List.length_set], hlen, by simp only; omega⟩
      · have := hE.passed (⟨(rd_T24 l i).f0, -1, sl⟩ : S29)
        rw [List.set_set] at this
        exact this
      · rw [slots_snoc hi, cnt_snoc, if_pos h0]; have := hs.cnt_; simp only; omega
      · intro v hv
        rw [slots_snoc hi, List.mem_append, List.mem_singleton] at hv
        rcases hv with hv | hv
        · have := hs.lt v hv; simp only; omega
        · simp only at hv ⊢; omega
      · right; rw [slots_snoc hi]; simp
      · intro p k hpk hk
        have := hle p k hpk
        rw [rd29_ne _ k hk (by omega)]
        exact hfree p k hpk hk
    · have hall := freeFrom_neg E 0 (by omega)
      have hmem : worstI l E i ∈ E := by
        rcases worst_mem l E (i : Int) with h1 | h1
        · exact absurd h1 hw
        · exact h1
      obtain ⟨p, hp1, hp2⟩ := List.getElem_of_mem hmem
      have hpe : E[p]? = some (worstI l E i) := by rw [← hp2]; exact List.getElem?_eq_getElem hp1
      have hv0 := hall _ hmem
      have hvi := (hle p _ hpe).2
      obtain ⟨v, hv⟩ : ∃ v : Nat, worstI l E i = (v : Int) := ⟨(worstI l E i).toNat, by omega⟩
      have hvE : E[p]? = some (v : Int) := by rw [hpe, hv]
      have hph := hE.at_ p v hvE (by omega)
      rw [rd29_ne _ (v : Int) (by omega) (by omega)] at hph
      have hf2 := hfree p v hvE (by omega)
      have e2 : stepB l i out E sl = ((out.set i ⟨(rd_T24 l i).f0, (p : Int), -1⟩).set v ⟨(rd_T29 out (v : Int)).f0, -1, sl⟩, E.set p i, sl + 1) := by
        unfold stepB
        rw [if_neg hp, if_neg hw, hv, hph, Int.toNat_natCast, Int.toNat_natCast]
      rw [e2]
      have hss : slotsOf ((out.set i ⟨(rd_T24 l i).f0, (p : Int), -1⟩).set v ⟨(rd_T29 out (v : Int)).f0, -1, sl⟩) (i + 1) = (slotsOf out i ++ [-1]).set v sl := by
        rw [slots_set (by omega), slots_snoc hi]
      have hvs : (slotsOf out i ++ [-1])[v]? = some (-1) := by
        rw [List.getElem?_append_left (by unfold slotsOf; rw [List.length_map, List.length_take]; omega)]
        unfold slotsOf
        rw [List.getElem?_map, List.getElem?_take_of_lt (by omega), List.getElem?_eq_getElem (by omega)]
        have : rd_T29 out (v : Int) = out[v] := by
          unfold rd_T29
          rw [Int.toNat_natCast, List.getD_eq_getElem?_getD, List.getElem?_eq_getElem (by omega)]
          rfl
        rw [this] at hf2
        simp only [Option.map_some, hf2]
      have hvl : v < (slotsOf out i ++ [-1]).length := (List.getElem?_eq_some_iff.1 hvs).1
      refine ⟨?_, ⟨?_, ?_, ?_, ?_⟩, by rw [List.length_set, List.length_set], by rw [List.length_set]; exact hlen, by simp only; omega⟩
      · have := hE.given (v := v) (by rw [List.length_set]; exact hi) hvE (rd_T24 l i).f0 (-1) (⟨(rd_T29 out (v : Int)).f0, -1, sl⟩ : S29)
        rw [List.set_set] at this
        exact this
      · rw [hss]
        have c1 := cnt_set (slotsOf out i ++ [-1]) v sl (-1) hvs
        rw [cnt_snoc, if_neg (by decide), if_pos h0] at c1
        have := hs.cnt_
        simp only
        omega
      · intro x hx
        rw [hss] at hx
        rcases List.mem_or_eq_of_mem_set hx with hx | hx
        · rw [List.mem_append, List.mem_singleton] at hx
          rcases hx with hx | hx
          · have := hs.lt x hx; simp only; omega
          · simp only; omega
        · simp only; omega
      · right
        rw [hss]
        have : sl + 1 - 1 = sl := by omega
        simp only [this]
        exact List.mem_set hvl sl
      · intro p' k hpk hk
        by_cases eq : p = p'
        · subst eq
          rw [List.getElem?_set_self hp1] at hpk
          simp only [Option.some.injEq] at hpk
          subst hpk
          rw [rd29_ne _ (i : Int) (by omega) (by omega), rd29_set _ hi]
        · rw [List.getElem?_set_ne eq] at hpk
          have hk2 := hle p' k hpk
          have hkv : k ≠ (v : Int) := by
            rintro rfl
            have h1 := hE.at_ p' v hpk hk
            have h2 := hE.at_ p v hvE hk
            omega
          rw [rd29_ne _ k hk hkv, rd29_ne _ k hk (by omega)]
          exact hfree p' k hpk hk
theorem run_inv {l : List S24} {N : Nat} : ∀ (d i : Nat) (out : List S29) (held : List Int) (sl : Int), out.length = i + d → held.length = N → Inv out held i → Sl out held i sl → 0 ≤ sl →
    ∃ (sl' : Int), (runA l d i out held sl).length = out.length ∧ (cnt (slotsOf (runA l d i out held sl) out.length) : Int) = sl' ∧ (∀ v ∈ slotsOf (runA l d i out held sl) out.length, -1 ≤ v ∧ v < sl') ∧ (sl' = 0 ∨ sl' - 1 ∈ slotsOf (runA l d i out held sl) out.length) ∧ 0 ≤ sl' := by
  intro d
  induction d with
  | zero =>
    intro i out held sl ho hN h hs h0
    obtain rfl : i = out.length := by omega
    exact ⟨sl, rfl, hs.cnt_, hs.lt, hs.top, h0⟩
  | succ d ih =>
    intro i out held sl ho hN h hs h0
    obtain ⟨h1, h2, h3, h4, h5⟩ := step_inv (l := l) (by omega) hN h hs h0
    have := ih (i + 1) _ _ _ (by omega) h4 h1 h2 h5
    rw [h3] at this
    exact this
theorem assign_slots (l : List S24) (N : Nat) : ∃ (sl : Int), (assignL l N).length = l.length ∧ (cnt ((assignL l N).map S29.f2) : Int) = sl ∧ (∀ v ∈ (assignL l N).map S29.f2, -1 ≤ v ∧ v < sl) ∧ (sl = 0 ∨ sl - 1 ∈ (assignL l N).map S29.f2) ∧ 0 ≤ sl := by
  have := run_inv (l := l) (N := N) l.length 0 (List.replicate l.length z29) (List.replicate N (-1)) 0 (by simp) (by simp)
    ⟨fun p k h => by rw [List.getElem?_replicate] at h; split at h <;> simp at h; omega, fun p k h h0 => by rw [List.getElem?_replicate] at h; split at h <;> simp at h; omega⟩
    ⟨by simp [slotsOf, cnt], by simp [slotsOf], .inl rfl, fun p k h h0 => by rw [List.getElem?_replicate] at h; split at h <;> simp at h; omega⟩ (by omega)
  obtain ⟨sl, h1, h2, h3, h4, h5⟩ := this
  have hl : (assignL l N).length = l.length := by unfold assignL; rw [h1]; simp
  have e : slotsOf (runA l l.length 0 (List.replicate l.length z29) (List.replicate N (-1)) 0) (List.replicate l.length z29).length = (assignL l N).map S29.f2 := by
    unfold slotsOf
    rw [List.take_of_length_le (by rw [h1]; exact Nat.le_refl _)]
    rfl
  rw [e] at h2 h3 h4
  exact ⟨sl, hl, h2, h3, h4, h5⟩
/-! more registers than intervals -/
theorem freeFrom_append : ∀ (a b : List Int) (i : Nat), 0 ≤ freeFrom i a → freeFrom i (a ++ b) = freeFrom i a
  | [], b, i, h => by rw [freeFrom] at h; omega
  | k :: r, b, i, h => by
    rw [List.cons_append]
    rw [freeFrom] at h ⊢
    rw [freeFrom]
    split
    · rfl
    · rename_i hk
      rw [if_neg hk] at h
      exact freeFrom_append r b (i + 1) h
theorem expire_append (e : Int → Bool) (a : List Int) (n : Nat) : expire e (a ++ List.replicate n (-1)) = expire e a ++ List.replicate n (-1) := by
  unfold expire
  rw [List.map_append, List.map_replicate]
  congr 1
theorem expire_cnt (e : Int → Bool) : ∀ a : List Int, cnt (expire e a) ≤ cnt a
  | [] => Nat.le_refl _
  | k :: r => by
    have := expire_cnt e r
    unfold expire at this ⊢
    rw [List.map_cons, cnt, cnt]
    split <;> split <;> omega
theorem free_room : ∀ (a : List Int) (i : Nat), cnt a < a.length → 0 ≤ freeFrom i a
  | [], i, h => by simp [cnt] at h
  | k :: r, i, h => by
    rw [freeFrom]
    split
    · omega
    · rename_i hk
      rw [cnt, if_pos (by omega), List.length_cons] at h
      exact free_room r (i + 1) (by omega)
theorem run_more {l : List S24} {n M : Nat} : ∀ (d i : Nat) (out : List S29) (held : List Int) (sl : Int), held.length = M → cnt held ≤ i → i + d < M →
    runA l d i out (held ++ List.replicate n (-1)) sl = runA l d i out held sl := by
  intro d
  induction d with
  | zero => intro i out held sl _ _ _; rfl
  | succ d ih =>
    intro i out held sl hM hc hd
    have e1 : ∀ h, stepA l i out h sl = stepB l i out (expire (endsB l i) h) sl := fun _ => rfl
    have hc2 := expire_cnt (endsB l i) held
    have hl2 := expire_len (endsB l i) held
    rw [runA, runA, e1, e1, expire_append]
    generalize expire (endsB l i) held = E at *
    have hf := free_room E 0 (by omega)
    obtain ⟨q, kq, hq1, hq2, hq⟩ := freeFrom_pos E 0 hf
    rw [Nat.zero_add] at hq
    have hqE : q < E.length := (List.getElem?_eq_some_iff.1 hq1).1
    have s1 : stepB l i out E sl = (out.set i ⟨(rd_T24 l i).f0, (q : Int), -1⟩, E.set q i, sl) := by
      unfold stepB
      rw [hq, if_pos (by omega), Int.toNat_natCast]
    have s2 : stepB l i out (E ++ List.replicate n (-1)) sl = (out.set i ⟨(rd_T24 l i).f0, (q : Int), -1⟩, E.set q i ++ List.replicate n (-1), sl) := by
      unfold stepB
      rw [freeFrom_append E _ 0 hf, hq, if_pos (by omega), Int.toNat_natCast, List.set_append_left _ _ hqE]
    rw [s1, s2]
    have c := cnt_set E q i kq hq1
    rw [if_neg (by omega), if_pos (by omega)] at c
    exact ih (i + 1) _ _ _ (by rw [List.length_set]; omega) (by omega) (by omega)
theorem assign_more (l : List S24) (N : Nat) (h : l.length + 1 ≤ N) : assignL l N = assignL l (l.length + 1) := by
  unfold assignL
  have e : List.replicate N (-1 : Int) = List.replicate (l.length + 1) (-1) ++ List.replicate (N - (l.length + 1)) (-1) := by
    rw [List.replicate_append_replicate, Nat.add_sub_cancel' h]
  rw [e]
  refine run_more (M := l.length + 1) l.length 0 _ _ 0 (by simp) ?_ (by omega)
  rw [show cnt (List.replicate (l.length + 1) (-1 : Int)) = 0 from (Rep.made (H := Unit) (l.length + 1)).size_.symm]
  exact Nat.le_refl _
end Go.Proofs.Ytidhllheipopbaa.XCol
