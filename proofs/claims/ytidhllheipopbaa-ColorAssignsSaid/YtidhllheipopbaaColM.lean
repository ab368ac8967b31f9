/- A map from registers to intervals, as a list: -1: the register is free. -/
import Derived.Maps.RangeWalk
import Derived.Maps.OwnOps
import Derived.Maps.OwnSet
import Derived.Maps.Views
namespace Go.Proofs.Ytidhllheipopbaa.XCol
open Go.Maps
variable {H : Type}
def KL (i : Nat) : Lit := .int .i64 (i : Int)
theorem KL_inj {i j : Nat} (h : KL i = KL j) : i = j := by
  unfold KL at h
  injection h with _ h
  exact Int.ofNat.inj h
/-- how many registers hold something -/
def cnt : List Int → Nat
  | [] => 0
  | k :: r => (if 0 ≤ k then 1 else 0) + cnt r
theorem cnt_le : ∀ l : List Int, cnt l ≤ l.length
  | [] => Nat.le_refl _
  | k :: r => by
    have := cnt_le r
    rw [cnt, List.length_cons]
    split <;> omega
theorem cnt_full : ∀ l : List Int, cnt l = l.length → ∀ k ∈ l, 0 ≤ k
  | [], _, k, h => by cases h
  | a :: r, e, k, h => by
    have := cnt_le r
    rw [cnt, List.length_cons] at e
    by_cases ha : 0 ≤ a
    · rw [if_pos ha] at e
      rcases List.mem_cons.1 h with rfl | h
      · exact ha
      · exact cnt_full r (by omega) k h
    · rw [if_neg ha] at e
      omega
theorem cnt_all : ∀ l : List Int, (∀ k ∈ l, 0 ≤ k) → cnt l = l.length
  | [], _ => rfl
  | a :: r, h => by
    rw [cnt, List.length_cons, if_pos (h a List.mem_cons_self), cnt_all r (fun x hx => h x (List.mem_cons_of_mem _ hx))]
    omega
theorem cnt_set : ∀ (l : List Int) (i : Nat) (x k : Int), l[i]? = some k → cnt (l.set i x) + (if 0 ≤ k then 1 else 0) = cnt l + (if 0 ≤ x then 1 else 0)
  | [], i, x, k, h => by simp at h
  | a :: r, 0, x, k, h => by
    simp only [List.getElem?_cons_zero, Option.some.injEq] at h
    subst h
    rw [List.set_cons_zero, cnt, cnt]
    omega
  | a :: r, i + 1, x, k, h => by
    rw [List.getElem?_cons_succ] at h
    have := cnt_set r i x k h
    rw [List.set_cons_succ, cnt, cnt]
    omega
/-- the map reads as the list -/
structure Rep (D : DataW H) (held : List Int) : Prop where
  tidy : Tidy D
  at_ : ∀ (i : Nat) (k : Int), held[i]? = some k → 0 ≤ k → ∀ z, D.atKey (KL i) z = .lit (.int .i64 k)
  no : ∀ kl, has D kl = true → ∃ (i : Nat) (k : Int), held[i]? = some k ∧ 0 ≤ k ∧ kl = KL i
  size_ : Maps.size D = cnt held
theorem Rep.made (n : Nat) : Rep (.map [] : DataW H) (List.replicate n (-1)) where
  tidy := tidy_empty
  at_ := by
    intro i k h hk
    rw [List.getElem?_replicate] at h
    split at h
    · simp only [Option.some.injEq] at h; omega
    · simp at h
  no := by intro kl h; simp [has] at h
  size_ := by
    show 0 = _
    induction n with
    | zero => rfl
    | succ n ih => rw [List.replicate_succ, cnt, ← ih]; rfl
theorem Rep.hasK {D : DataW H} {held : List Int} (h : Rep D held) {i : Nat} {k : Int} (hi : held[i]? = some k) : has D (KL i) = decide (0 ≤ k) := by
  by_cases hk : 0 ≤ k
  · rw [decide_eq_true hk]
    exact has_true_of_atKey (fun z => h.at_ i k hi hk z)
  · rw [decide_eq_false hk]
    cases hh : has D (KL i) with
    | false => rfl
    | true =>
      obtain ⟨j, k', h1, h2, h3⟩ := h.no _ hh
      obtain rfl := KL_inj h3
      rw [hi] at h1
      simp only [Option.some.injEq] at h1
      omega
theorem Rep.put {D : DataW H} {held : List Int} (h : Rep D held) {i : Nat} {k0 : Int} (hi : held[i]? = some k0) {k : Int} (hk : 0 ≤ k) : Rep (D.put (KL i) (.lit (.int .i64 k))) (held.set i k) where
  tidy := h.tidy.put (show WideAt.IsKeyLit (KL i) from trivial) _
  at_ := by
    intro j k' hj hk' z
    by_cases e : i = j
    · subst e
      rw [List.getElem?_set_self' , hi] at hj
      simp at hj
      subst hj
      exact atKey_put_same h.tidy.isMap (show WideAt.IsKeyLit (KL i) from trivial) _ z
    · rw [List.getElem?_set_ne e] at hj
      rw [atKey_put_other (fun e' => e (KL_inj e').symm)]
      exact h.at_ j k' hj hk' z
  no := by
    intro kl hh
    by_cases e : kl = KL i
    · exact ⟨i, k, by rw [List.getElem?_set_self', hi]; rfl, hk, e⟩
    · rw [has_put_other e] at hh
      obtain ⟨j, k', h1, h2, h3⟩ := h.no kl hh
      refine ⟨j, k', ?_, h2, h3⟩
      rw [List.getElem?_set_ne (fun e' => e (by rw [h3, e']))]
      exact h1
  size_ := by
    have c := cnt_set held i k k0 hi
    rw [if_pos hk] at c
    rw [size_put h.tidy, h.hasK hi, h.size_]
    by_cases hk0 : 0 ≤ k0
    · rw [if_pos hk0] at c; rw [if_pos (by simpa using hk0)]; omega
    · rw [if_neg hk0] at c; rw [if_neg (by simpa using hk0)]; omega
theorem Rep.del {D : DataW H} {held : List Int} (h : Rep D held) {i : Nat} {k0 : Int} (hi : held[i]? = some k0) (hk0 : 0 ≤ k0) : Rep (D.del (KL i)) (held.set i (-1)) where
  tidy := h.tidy.del _
  at_ := by
    intro j k' hj hk' z
    by_cases e : i = j
    · subst e
      rw [List.getElem?_set_self', hi] at hj
      simp at hj
      omega
    · rw [List.getElem?_set_ne e] at hj
      rw [atKey_del_other (fun e' => e (KL_inj e').symm)]
      exact h.at_ j k' hj hk' z
  no := by
    intro kl hh
    by_cases e : kl = KL i
    · subst e
      rw [has_del_same] at hh
      cases hh
    · rw [has_del_other e] at hh
      obtain ⟨j, k', h1, h2, h3⟩ := h.no kl hh
      refine ⟨j, k', ?_, h2, h3⟩
      rw [List.getElem?_set_ne (fun e' => e (by rw [h3, e']))]
      exact h1
  size_ := by
    have c := cnt_set held i (-1) k0 hi
    rw [if_pos hk0, if_neg (by decide)] at c
    have s := size_del (k := KL i) h.tidy
    rw [h.hasK hi, decide_eq_true hk0, if_pos rfl, h.size_] at s
    omega
/-- what has come of the list while the map is ranged over: whoever has ended is struck, if he has come -/
structure Part (ended : Int → Bool) (held0 : List Int) (left : Lit → Bool) (held : List Int) : Prop where
  len : held.length = held0.length
  each : ∀ (i : Nat) (k0 : Int), held0[i]? = some k0 → held[i]? = some k0 ∨ (held[i]? = some (-1) ∧ 0 ≤ k0 ∧ ended k0 = true)
  gone : ∀ (i : Nat) (k0 : Int), held0[i]? = some k0 → 0 ≤ k0 → ended k0 = true → left (KL i) = false → held[i]? = some (-1)
def expire (ended : Int → Bool) (held : List Int) : List Int := held.map (fun k => if 0 ≤ k ∧ ended k = true then -1 else k)
theorem Part.start {D : DataW H} {held : List Int} (h : Rep D held) (ended : Int → Bool) : Part ended held (has D) held where
  len := rfl
  each := fun i k0 h => .inl h
  gone := by
    intro i k0 hi hk0 _ hl
    rw [h.hasK hi, decide_eq_true hk0] at hl
    cases hl
theorem Part.done {ended : Int → Bool} {held0 held : List Int} {left : Lit → Bool} (h : Part ended held0 left held) (hl : ∀ kl, left kl = false) : held = expire ended held0 := by
  apply List.ext_getElem?
  intro i
  unfold expire
  rw [List.getElem?_map]
  cases h0 : held0[i]? with
  | none =>
    rw [List.getElem?_eq_none_iff] at h0
    rw [List.getElem?_eq_none (by rw [h.len]; exact h0)]
    rfl
  | some k0 =>
    simp only [Option.map_some]
    by_cases hc : 0 ≤ k0 ∧ ended k0 = true
    · rw [if_pos hc]; exact h.gone i k0 h0 hc.1 hc.2 (hl _)
    · rw [if_neg hc]
      rcases h.each i k0 h0 with h1 | ⟨_, h2, h3⟩
      · exact h1
      · exact absurd ⟨h2, h3⟩ hc
/-- the entry that has come -/
theorem Part.came {ended : Int → Bool} {held0 held : List Int} {left : Lit → Bool} (h : Part ended held0 left held) {D : DataW H} (hr : Rep D held) {x c : Int} (hat : ∀ z, D.atKey (.int .i64 x) z = .lit (.int .i64 c)) :
    ∃ i : Nat, x = (i : Int) ∧ held[i]? = some c ∧ held0[i]? = some c ∧ 0 ≤ c := by
  obtain ⟨i, k, h1, h2, h3⟩ := hr.no _ (has_true_of_atKey hat)
  have e : x = (i : Int) := by unfold KL at h3; injection h3
  subst e
  have h4 := (hr.at_ i k h1 h2 .nil).symm.trans (hat .nil)
  obtain rfl : k = c := by injection h4 with h4; injection h4
  refine ⟨i, rfl, h1, ?_, h2⟩
  have hi : i < held0.length := by rw [← h.len]; exact (List.getElem?_eq_some_iff.1 h1).1
  have h0 := List.getElem?_eq_getElem hi
  rcases h.each i _ h0 with h5 | ⟨h5, _, _⟩
  · rw [h1] at h5; rw [h0, ← h5]
  · rw [h1] at h5; simp only [Option.some.injEq] at h5; omega
theorem Part.struck {ended : Int → Bool} {held0 held : List Int} {left : Lit → Bool} (h : Part ended held0 left held) {i : Nat} {c : Int} (h0 : held0[i]? = some c) (h1 : 0 ≤ c) (h2 : ended c = true) :
    Part ended held0 (fun z => left z && !z.sameKey (KL i)) (held.set i (-1)) where
  len := by rw [List.length_set]; exact h.len
  each := by
    intro j k0 hj
    by_cases e : i = j
    · subst e
      rw [h0] at hj
      obtain rfl := Option.some.inj hj
      right
      have hi : i < held.length := by rw [h.len]; exact (List.getElem?_eq_some_iff.1 h0).1
      exact ⟨by rw [List.getElem?_set_self hi], h1, h2⟩
    · rw [List.getElem?_set_ne e]; exact h.each j k0 hj
  gone := by
    intro j k0 hj hk he hl
    by_cases e : i = j
    · subst e
      have hi : i < held.length := by rw [h.len]; exact (List.getElem?_eq_some_iff.1 h0).1
      rw [List.getElem?_set_self hi]
    · rw [List.getElem?_set_ne e]
      refine h.gone j k0 hj hk he ?_
      rw [sameKey_ne (fun e' => e (KL_inj e').symm)] at hl
      simpa using hl
theorem Part.stays {ended : Int → Bool} {held0 held : List Int} {left : Lit → Bool} (h : Part ended held0 left held) {i : Nat} {c : Int} (h0 : held0[i]? = some c) (h2 : ended c = false) :
    Part ended held0 (fun z => left z && !z.sameKey (KL i)) held where
  len := h.len
  each := h.each
  gone := by
    intro j k0 hj hk he hl
    by_cases e : i = j
    · subst e
      rw [h0] at hj
      obtain rfl := Option.some.inj hj
      rw [h2] at he
      cases he
    · refine h.gone j k0 hj hk he ?_
      rw [sameKey_ne (fun e' => e (KL_inj e').symm)] at hl
      simpa using hl
end Go.Proofs.Ytidhllheipopbaa.XCol
