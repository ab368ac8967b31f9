/- color.Assign's plain steps: what stays true. -/
import Derived.Test.YtidhllheipopbaaColE
namespace Go.Proofs.Ytidhllheipopbaa.XCol
open Go.RowKit Go.Maps
theorem rd29_set {out : List S29} {i : Nat} (x : S29) (h : i < out.length) : rd_T29 (out.set i x) (i : Int) = x := by
  unfold rd_T29
  rw [Int.toNat_natCast, List.getD_eq_getElem?_getD, List.getElem?_set_self h]
  rfl
theorem rd29_ne {out : List S29} {i : Nat} (x : S29) (k : Int) (h0 : 0 ≤ k) (h : k ≠ (i : Int)) : rd_T29 (out.set i x) k = rd_T29 out k := by
  unfold rd_T29
  rw [List.getD_eq_getElem?_getD, List.getD_eq_getElem?_getD, List.getElem?_set_ne (by omega)]
theorem freeFrom_neg : ∀ (l : List Int) (i : Nat), freeFrom i l < 0 → ∀ k ∈ l, 0 ≤ k
  | [], _, _, k, h => by cases h
  | a :: r, i, e, k, h => by
    rw [freeFrom] at e
    split at e
    · omega
    · rcases List.mem_cons.1 h with rfl | h
      · omega
      · exact freeFrom_neg r (i + 1) e k h
theorem freeFrom_pos : ∀ (l : List Int) (i : Nat), 0 ≤ freeFrom i l → ∃ j k, l[j]? = some k ∧ k < 0 ∧ freeFrom i l = ((i + j : Nat) : Int)
  | [], i, e => by rw [freeFrom] at e; omega
  | a :: r, i, e => by
    rw [freeFrom] at e ⊢
    split at e
    · rename_i h
      rw [if_pos h]
      exact ⟨0, a, rfl, h, rfl⟩
    · rename_i h
      rw [if_neg h]
      obtain ⟨j, k, h1, h2, h3⟩ := freeFrom_pos r (i + 1) e
      exact ⟨j + 1, k, h1, h2, by rw [h3]; omega⟩
theorem expire_len (e : Int → Bool) (held : List Int) : (expire e held).length = held.length := by unfold expire; rw [List.length_map]
theorem expire_get {e : Int → Bool} {held : List Int} {p : Nat} {k : Int} (h : (expire e held)[p]? = some k) : k = -1 ∨ held[p]? = some k := by
  unfold expire at h
  rw [List.getElem?_map] at h
  cases h0 : held[p]? with
  | none => rw [h0] at h; cases h
  | some k0 =>
    rw [h0] at h
    simp only [Option.map_some, Option.some.injEq] at h
    split at h
    · left; exact h.symm
    · right; rw [h]
theorem Inv.expired {out : List S29} {held : List Int} {i : Nat} (h : Inv out held i) (e : Int → Bool) (x : S29) : Inv (out.set i x) (expire e held) i where
  le := by
    intro p k hp
    rcases expire_get hp with rfl | hp
    · omega
    · exact h.le p k hp
  at_ := by
    intro p k hp h0
    rcases expire_get hp with rfl | hp
    · omega
    · have := h.le p k hp
      rw [rd29_ne x k h0 (by omega)]
      exact h.at_ p k hp h0
theorem Inv.taken {out : List S29} {held : List Int} {i q : Nat} (h : Inv out held i) (hi : i < out.length) (hq : q < held.length) (a b : Int) : Inv (out.set i ⟨a, q, b⟩) (held.set q i) (i + 1) where
  le := by
    intro p k hp
    by_cases e : q = p
    · subst e
      rw [List.getElem?_set_self hq] at hp
      simp only [Option.some.injEq] at hp
      omega
    · rw [List.getElem?_set_ne e] at hp
      have := h.le p k hp
      omega
  at_ := by
    intro p k hp h0
    by_cases e : q = p
    · subst e
      rw [List.getElem?_set_self hq] at hp
      simp only [Option.some.injEq] at hp
      subst hp
      rw [rd29_set _ hi]
    · rw [List.getElem?_set_ne e] at hp
      have := h.le p k hp
      rw [rd29_ne _ k h0 (by omega)]
      exact h.at_ p k hp h0
theorem Inv.passed {out : List S29} {held : List Int} {i : Nat} (h : Inv out held i) (x : S29) : Inv (out.set i x) held (i + 1) where
  le := by
    intro p k hp
    have := h.le p k hp
    omega
  at_ := by
    intro p k hp h0
    have := h.le p k hp
    rw [rd29_ne x k h0 (by omega)]
    exact h.at_ p k hp h0
theorem Inv.given {out : List S29} {held : List Int} {i v q : Nat} (h : Inv out held i) (hi : i < out.length) (hv : held[q]? = some (v : Int)) (a b : Int) (x : S29) :
    Inv ((out.set i ⟨a, q, b⟩).set v x) (held.set q i) (i + 1) where
  le := by
    intro p k hp
    by_cases e : q = p
    · subst e
      rw [List.getElem?_set_self (List.getElem?_eq_some_iff.1 hv).1] at hp
      simp only [Option.some.injEq] at hp
      omega
    · rw [List.getElem?_set_ne e] at hp
      have := h.le p k hp
      omega
  at_ := by
    intro p k hp h0
    have hvi := h.le q v hv
    by_cases e : q = p
    · subst e
      rw [List.getElem?_set_self (List.getElem?_eq_some_iff.1 hv).1] at hp
      simp only [Option.some.injEq] at hp
      subst hp
      rw [rd29_ne x _ (by omega) (by omega), rd29_set _ hi]
    · rw [List.getElem?_set_ne e] at hp
      have hk := h.le p k hp
      have hkv : k ≠ (v : Int) := by
        rintro rfl
        have h1 := h.at_ p v hp h0
        have h2 := h.at_ q v hv h0
        omega
      rw [rd29_ne x k h0 hkv, rd29_ne _ k h0 (by omega)]
      exact h.at_ p k hp h0
theorem worst_mem (l : List S24) : ∀ (held : List Int) (v : Int), worstI l held v = v ∨ worstI l held v ∈ held
  | [], v => .inl rfl
  | k :: r, v => by
    have e : worstI l (k :: r) v = worstI l r (if 0 < aheadI (rd_T24 l k) (rd_T24 l v) then k else v) := rfl
    rw [e]
    split
    · rcases worst_mem l r k with h | h
      · right; rw [h]; exact List.mem_cons_self
      · right; exact List.mem_cons_of_mem _ h
    · rcases worst_mem l r v with h | h
      · left; exact h
      · right; exact List.mem_cons_of_mem _ h
end Go.Proofs.Ytidhllheipopbaa.XCol
