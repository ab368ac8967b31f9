/- The pure statement of ColorFew. -/
import Derived.Test.YtidhllheipopbaaColGiven
import Derived.Test.YtidhllheipopbaaXColx1
import Derived.Test.YtidhllheipopbaaXColLColorFew
import Derived.Laws.BitsLemmas
namespace Go.Proofs.Ytidhllheipopbaa.XCol
open Go.RowKit Go.Proofs.YtidhllheipopbaaW.PrintWords Go.Proofs.YtidhllheipopbaaW.PrintLast Go.Proofs.YtidhllheipopbaaW.PrintMore
theorem wrap_id {x : Int} (h0 : -9223372036854775808 ≤ x) (h1 : x ≤ 9223372036854775807) : wrap64 x = x := by unfold wrap64; omega
theorem and15 (n : Int) : bits .and .i64 n 15 = n % 16 := by
  have h7 : (BitVec.ofInt 64 15).toNat = 2 ^ 4 - 1 := by decide
  have key : (BitVec.ofInt 64 n &&& BitVec.ofInt 64 15).toNat = (n % ((2 ^ 64 : Nat) : Int)).toNat % 2 ^ 4 := by
    rw [BitVec.toNat_and, BitVec.toNat_ofInt, h7, Nat.and_two_pow_sub_one_eq_mod]
  show IntKind.i64.wrap ((BitVec.ofInt 64 n &&& BitVec.ofInt 64 15).toNat : Nat) = n % 16
  rw [key, IntKind.wrap_i64]
  omega
theorem rd24_get {l : List S24} {j : Nat} (h : j < l.length) : rd_T24 l (j : Int) = l[j] := by
  unfold rd_T24
  rw [Int.toNat_natCast, List.getD_eq_getElem?_getD, List.getElem?_eq_getElem h]
  rfl
theorem rd29_get {l : List S29} {j : Nat} (h : j < l.length) : rd_T29 l (j : Int) = l[j] := by
  unfold rd_T29
  rw [Int.toNat_natCast, List.getD_eq_getElem?_getD, List.getElem?_eq_getElem h]
  rfl
/-! Slots -/
theorem slots_l0 (out : List S29) (ho : out.length ≤ 1000000) (hb : ∀ p ∈ out, -1 ≤ p.f2 ∧ p.f2 ≤ 1000000) : ∀ (d j : Nat) (a : Int), out.length = j + d →
    Ev (fun k => color_Slots.l0 k a out (out.length : Int) j) ((out.drop j).foldl (fun a p => mx a (p.f2 + 1)) a) := by
  intro d
  induction d with
  | zero =>
    intro j a hj
    rw [List.drop_of_length_le (by omega)]
    refine Ev.step (f := fun _ => some _) (fun k => ?_) (Ev.now _)
    simp only [color_Slots.l0]
    rw [if_neg (by omega)]
    rfl
  | succ d ih =>
    intro j a hj
    have hlt : j < out.length := by omega
    have hp := hb out[j] (List.getElem_mem hlt)
    rw [List.drop_eq_getElem_cons hlt, List.foldl_cons]
    refine Ev.step (fun k => ?_) (ih (j + 1) _ (by omega))
    simp only [color_Slots.l0]
    rw [if_pos (Int.ofNat_lt.2 hlt), if_pos (Int.natCast_nonneg j), if_pos (Int.ofNat_lt.2 hlt), rd29_get hlt, wrap_id (x := out[j].f2 + 1) (by omega) (by omega), wrap_id (x := (j : Int) + 1) (by omega) (by omega)]
    rfl
theorem slots_ev (out : List S29) (ho : out.length ≤ 1000000) (hb : ∀ p ∈ out, -1 ≤ p.f2 ∧ p.f2 ≤ 1000000) : Ev (fun k => color_Slots.f k out) (out.foldl (fun a p => mx a (p.f2 + 1)) 0) := by
  have := slots_l0 out ho hb out.length 0 0 (by omega)
  rw [List.drop_zero] at this
  exact Ev.congr (fun k => rfl) this
theorem slots_none (out : List S29) (h : ∀ p ∈ out, p.f2 = -1) : out.foldl (fun a p => mx a (p.f2 + 1)) 0 = 0 := by
  induction out with
  | nil => rfl
  | cons p r ih =>
    rw [List.foldl_cons, h p List.mem_cons_self, show mx 0 (-1 + 1) = 0 from by unfold mx; rfl]
    exact ih (fun x hx => h x (List.mem_cons_of_mem _ hx))
theorem awake_assign : assignL [⟨0, 1, 9⟩, ⟨1, 2, 3⟩] 1 = [⟨0, -1, 0⟩, ⟨1, 0, -1⟩] := by kernel_rfl
theorem awake_ev : Ev (fun k => ratlinelaw18_awake.f k) true := by
  have hA : color_Assign.f [⟨0, 1, 9⟩, ⟨1, 2, 3⟩] 1 = some [⟨0, -1, 0⟩, ⟨1, 0, -1⟩] := by
    rw [color_Assign.f_eq, if_pos ⟨by decide, by decide⟩]
    exact congrArg some awake_assign
  have hS := slots_ev [⟨0, -1, 0⟩, ⟨1, 0, -1⟩] (by decide) (by intro p hp; simp at hp; rcases hp with rfl | rfl <;> decide)
  rw [show ([⟨0, -1, 0⟩, ⟨1, 0, -1⟩] : List S29).foldl (fun a p => mx a (p.f2 + 1)) 0 = 1 from rfl] at hS
  unfold ratlinelaw18_awake.f
  rw [hA]
  have h3 : Ev (fun k => (color_Slots.f k [⟨0, -1, 0⟩, ⟨1, 0, -1⟩]).bind fun t115 => (if t115 = 1 then ((color_Overlap.f 0 0 2 0 2 3).bind fun t116 => (some t116)) else (some false))) true := hS.bind (f := fun _ t115 => (if t115 = 1 then ((color_Overlap.f 0 0 2 0 2 3).bind fun t116 => (some t116)) else (some false))) (Ev.congr (fun k => rfl) (Ev.now true))
  refine Ev.congr (fun k => ?_) h3
  rfl
/-! Assign, of rows that stand apart -/
/-- each interval stands in its row: N to a row -/
def Blk (N : Nat) (l : List S24) : Prop := ∀ (j : Nat) (x : S24), l[j]? = some x → ((10 * (j / N) : Nat) : Int) ≤ x.f1 ∧ x.f1 ≤ ((10 * (j / N) + 2 : Nat) : Int) ∧ ((10 * (j / N) + 5 : Nat) : Int) ≤ x.f2 ∧ x.f2 ≤ ((10 * (j / N) + 8 : Nat) : Int)
/-- who holds what, when i have been given theirs -/
structure Hd (N i : Nat) (held : List Int) : Prop where
  len : held.length = N
  here : ∀ t, t < i % N → held[t]? = some (((i / N) * N + t : Nat) : Int)
  gone : ∀ (t : Nat) (k : Int), i % N ≤ t → held[t]? = some k → k = -1 ∨ ∃ m : Nat, k = (m : Int) ∧ m / N < i / N ∧ m < i
theorem hd_expire {N i : Nat} {l : List S24} {held : List Int} (hN : 0 < N) (hB : Blk N l) (hi : i < l.length) (h : Hd N i held) :
    (expire (endsB l i) held).length = N ∧ (∀ t, t < i % N → (expire (endsB l i) held)[t]? = some (((i / N) * N + t : Nat) : Int)) ∧ (∀ t k, i % N ≤ t → (expire (endsB l i) held)[t]? = some k → k = -1) := by
  have hx := hB i l[i] (List.getElem?_eq_getElem hi)
  have hiN := Nat.div_add_mod i N
  refine ⟨by rw [expire_len]; exact h.len, ?_, ?_⟩
  · intro t ht
    have h1 := h.here t ht
    unfold expire
    rw [List.getElem?_map, h1]
    simp only [Option.map_some]
    have hlt : (i / N) * N + t < i := by rw [Nat.mul_comm]; omega
    have hdiv : ((i / N) * N + t) / N = i / N := by
      rw [Nat.mul_comm, Nat.mul_add_div hN, Nat.div_eq_of_lt (Nat.lt_trans ht (Nat.mod_lt _ hN)), Nat.add_zero]
    have hk := hB ((i / N) * N + t) l[(i / N) * N + t] (List.getElem?_eq_getElem (by omega))
    rw [hdiv] at hk
    rw [if_neg]
    rintro ⟨_, h2⟩
    unfold endsB at h2
    rw [rd24_get (by omega), rd24_get hi] at h2
    simp only [decide_eq_true_eq] at h2
    omega
  · intro t k ht hk
    unfold expire at hk
    rw [List.getElem?_map] at hk
    cases h0 : held[t]? with
    | none => rw [h0] at hk; cases hk
    | some k0 =>
      rw [h0] at hk
      simp only [Option.map_some, Option.some.injEq] at hk
      rcases h.gone t k0 ht h0 with rfl | ⟨m, rfl, hm, hmi⟩
      · rw [if_neg (by omega)] at hk; exact hk.symm
      · have hkb := hB m l[m] (List.getElem?_eq_getElem (by omega))
        rw [if_pos] at hk
        · exact hk.symm
        · refine ⟨by omega, ?_⟩
          unfold endsB
          rw [rd24_get (by omega), rd24_get hi]
          simp only [decide_eq_true_eq]
          have : m / N + 1 ≤ i / N := hm
          omega
theorem free_at : ∀ (held : List Int) (i p : Nat), p < held.length → (∀ t k, t < p → held[t]? = some k → 0 ≤ k) → (∀ k, held[p]? = some k → k < 0) → freeFrom i held = ((i + p : Nat) : Int)
  | [], _, p, h, _, _ => by simp at h
  | k :: r, i, 0, _, _, h2 => by
    rw [freeFrom, if_pos (h2 k rfl)]; rfl
  | k :: r, i, p + 1, h, h1, h2 => by
    have h0 := h1 0 k (by omega) rfl
    rw [freeFrom, if_neg (by omega), free_at r (i + 1) p (by simpa using h) (fun t x ht hx => h1 (t + 1) x (by omega) hx) (fun x hx => h2 x hx)]
    omega
theorem next_div {N i : Nat} (hN : 0 < N) : (i % N + 1 < N ∧ (i + 1) % N = i % N + 1 ∧ (i + 1) / N = i / N) ∨ (i % N + 1 = N ∧ (i + 1) % N = 0 ∧ (i + 1) / N = i / N + 1) := by
  have h := Nat.div_add_mod i N
  have hp : i % N < N := Nat.mod_lt _ hN
  generalize hq : i / N = q at *
  generalize hr : i % N = p at *
  subst h
  by_cases e : p + 1 < N
  · left
    refine ⟨e, ?_, ?_⟩
    · rw [Nat.add_assoc, Nat.mul_add_mod, Nat.mod_eq_of_lt e]
    · rw [Nat.add_assoc, Nat.mul_add_div hN, Nat.div_eq_of_lt e, Nat.add_zero]
  · right
    have e2 : p + 1 = N := by omega
    refine ⟨e2, ?_, ?_⟩
    · rw [Nat.add_assoc, e2, Nat.mul_add_mod, Nat.mod_self]
    · rw [Nat.add_assoc, e2, Nat.mul_add_div hN, Nat.div_self hN]
theorem step_few {N i : Nat} {l : List S24} {held : List Int} (hN : 0 < N) (hB : Blk N l) (hi : i < l.length) (h : Hd N i held) (out : List S29) (sl : Int) :
    (stepA l i out held sl).1 = out.set i ⟨(rd_T24 l i).f0, ((i % N : Nat) : Int), -1⟩ ∧ Hd N (i + 1) (stepA l i out held sl).2.1 := by
  obtain ⟨h1, h2, h3⟩ := hd_expire hN hB hi h
  have hp : i % N < N := Nat.mod_lt _ hN
  have hdm := Nat.div_add_mod i N
  have hf : freeFrom 0 (expire (endsB l i) held) = ((i % N : Nat) : Int) := by
    rw [free_at _ 0 (i % N) (by rw [h1]; exact hp) (fun t k ht hk => by rw [h2 t ht] at hk; simp only [Option.some.injEq] at hk; omega) (fun k hk => by have := h3 _ k (Nat.le_refl _) hk; omega), Nat.zero_add]
  have e : stepA l i out held sl = stepB l i out (expire (endsB l i) held) sl := rfl
  rw [e]
  generalize expire (endsB l i) held = E at *
  have e2 : stepB l i out E sl = (out.set i ⟨(rd_T24 l i).f0, ((i % N : Nat) : Int), -1⟩, E.set (i % N) i, sl) := by
    unfold stepB
    rw [hf, if_pos (by omega), Int.toNat_natCast]
  rw [e2]
  refine ⟨rfl, ?_, ?_, ?_⟩
  · rw [List.length_set]; exact h1
  · intro t ht
    rcases next_div (i := i) hN with ⟨a1, a2, a3⟩ | ⟨a1, a2, a3⟩
    · rw [a3]
      rw [a2] at ht
      by_cases et : i % N = t
      · subst et
        rw [List.getElem?_set_self (by rw [h1]; exact hp)]
        rw [Nat.mul_comm]
        rw [hdm]
      · rw [List.getElem?_set_ne et]
        exact h2 t (by omega)
    · omega
  · intro t k ht hk
    rcases next_div (i := i) hN with ⟨a1, a2, a3⟩ | ⟨a1, a2, a3⟩
    · rw [a2] at ht
      rw [List.getElem?_set_ne (by omega)] at hk
      left
      exact h3 t k (by omega) hk
    · right
      rw [a3]
      have htN : t < N := by
        have := (List.getElem?_eq_some_iff.1 hk).1
        rw [List.length_set, h1] at this
        exact this
      by_cases et : i % N = t
      · subst et
        rw [List.getElem?_set_self (by rw [h1]; exact hp)] at hk
        simp only [Option.some.injEq] at hk
        exact ⟨i, hk.symm, by omega, by omega⟩
      · rw [List.getElem?_set_ne et, h2 t (by omega)] at hk
        simp only [Option.some.injEq] at hk
        have hlt : (i / N) * N + t < i := by rw [Nat.mul_comm]; omega
        refine ⟨(i / N) * N + t, hk.symm, ?_, by omega⟩
        have hdiv : ((i / N) * N + t) / N = i / N := by
          rw [Nat.mul_comm, Nat.mul_add_div hN, Nat.div_eq_of_lt htN, Nat.add_zero]
        rw [hdiv]
        omega
theorem run_few {N : Nat} {l : List S24} (hN : 0 < N) (hB : Blk N l) : ∀ (d i : Nat) (out : List S29) (held : List Int) (sl : Int), l.length = i + d → out.length = l.length → Hd N i held →
    (∀ (j : Nat), j < i → out[j]? = some ⟨(rd_T24 l j).f0, ((j % N : Nat) : Int), -1⟩) →
    (runA l d i out held sl).length = l.length ∧ ∀ (j : Nat), j < l.length → (runA l d i out held sl)[j]? = some ⟨(rd_T24 l j).f0, ((j % N : Nat) : Int), -1⟩ := by
  intro d
  induction d with
  | zero =>
    intro i out held sl hi ho hh hj
    rw [runA]
    exact ⟨ho, fun j h => hj j (by omega)⟩
  | succ d ih =>
    intro i out held sl hi ho hh hj
    obtain ⟨h1, h2⟩ := step_few hN hB (by omega) hh out sl
    rw [runA]
    refine ih (i + 1) _ _ _ (by omega) (by rw [h1, List.length_set]; exact ho) h2 ?_
    intro j hji
    rw [h1]
    by_cases e : i = j
    · subst e
      rw [List.getElem?_set_self (by omega)]
    · rw [List.getElem?_set_ne e]
      exact hj j (by omega)
theorem assign_few {N : Nat} {l : List S24} (hN : 0 < N) (hB : Blk N l) : (assignL l N).length = l.length ∧ ∀ (j : Nat), j < l.length → (assignL l N)[j]? = some ⟨(rd_T24 l j).f0, ((j % N : Nat) : Int), -1⟩ := by
  unfold assignL
  refine run_few hN hB l.length 0 _ _ 0 (by omega) (by simp) ?_ (fun j h => by omega)
  refine ⟨by simp, fun t h => ?_, fun t k _ hk => ?_⟩
  · rw [Nat.zero_mod] at h; omega
  · rw [List.getElem?_replicate] at hk
    split at hk
    · simp only [Option.some.injEq] at hk; exact .inl hk.symm
    · cases hk
/-! the law's own loops -/
theorem wS (kk : Nat) (hk : kk < 16) : wrap64 ((kk : Int) + 1) = ((kk + 1 : Nat) : Int) := by rw [wrap_id (by omega) (by omega)]; rfl
theorem w3 (i kk : Nat) (hi : i < 16) (hk : kk < 16) : wrap64 ((wrap64 (10 * (i : Int))) + (Int.tmod (kk : Int) 3)) = ((10 * i + kk % 3 : Nat) : Int) := by
  rw [Int.tmod_eq_emod_of_nonneg (by omega), wrap_id (x := 10 * (i : Int)) (by omega) (by omega), wrap_id (by omega) (by omega)]
  omega
theorem w4 (i kk : Nat) (hi : i < 16) (hk : kk < 16) : wrap64 ((wrap64 ((wrap64 (10 * (i : Int))) + 5)) + (Int.tmod (kk : Int) 4)) = ((10 * i + 5 + kk % 4 : Nat) : Int) := by
  rw [Int.tmod_eq_emod_of_nonneg (by omega), wrap_id (x := 10 * (i : Int)) (by omega) (by omega), wrap_id (x := 10 * (i : Int) + 5) (by omega) (by omega), wrap_id (by omega) (by omega)]
  omega
theorem Blk.snoc {N i kk : Nat} {l : List S24} (h : Blk N l) (hl : l.length = i * N + kk) (hk : kk < N) (a : Int) : Blk N (l ++ [⟨a, ((10 * i + kk % 3 : Nat) : Int), ((10 * i + 5 + kk % 4 : Nat) : Int)⟩]) := by
  intro j x hx
  by_cases hj : j < l.length
  · rw [List.getElem?_append_left hj] at hx
    exact h j x hx
  · rw [List.getElem?_append_right (by omega)] at hx
    have hj0 : j - l.length = 0 := by
      have := (List.getElem?_eq_some_iff.1 hx).1
      simp at this
      omega
    rw [hj0] at hx
    simp only [List.getElem?_cons_zero, Option.some.injEq] at hx
    subst hx
    have hjn : j = i * N + kk := by omega
    have hd : j / N = i := by rw [hjn, Nat.mul_comm, Nat.mul_add_div (by omega), Nat.div_eq_of_lt hk, Nat.add_zero]
    rw [hd]
    simp only
    omega
theorem Blk.swap {N m : Nat} {l : List S24} (h : Blk N l) (hm : m + 1 < l.length) (hgt : (rd_T24 l (m : Int)).f1 > (rd_T24 l ((m + 1 : Nat) : Int)).f1) (x y : S24) (hx : x = rd_T24 l ((m + 1 : Nat) : Int)) (hy : y = rd_T24 l (m : Int)) : Blk N ((l.set m x).set (m + 1) y) := by
  rw [rd24_get (by omega)] at hgt hy
  rw [rd24_get hm] at hgt hx
  have h0 := h m l[m] (List.getElem?_eq_getElem (by omega))
  have h1 := h (m + 1) l[m + 1] (List.getElem?_eq_getElem hm)
  have hle : m / N ≤ (m + 1) / N := Nat.div_le_div_right (Nat.le_succ m)
  have he : m / N = (m + 1) / N := by omega
  intro j z hz
  by_cases e1 : m + 1 = j
  · subst e1
    rw [List.getElem?_set_self (by rw [List.length_set]; exact hm)] at hz
    simp only [Option.some.injEq] at hz
    subst hz
    rw [hy, ← he]
    exact h0
  · rw [List.getElem?_set_ne e1] at hz
    by_cases e2 : m = j
    · subst e2
      rw [List.getElem?_set_self (by omega)] at hz
      simp only [Option.some.injEq] at hz
      subst hz
      rw [hx, he]
      exact h1
    · rw [List.getElem?_set_ne e2] at hz
      exact h j z hz
section
variable (N : Nat) (hN : 0 < N) (hN1 : N ≤ 16)
include hN hN1
theorem l5_run (out : List S29) (l : List S24) (ho : out.length = l.length) (hNl : N ≤ l.length) (hout : ∀ (j : Nat), j < l.length → out[j]? = some ⟨(rd_T24 l j).f0, ((j % N : Nat) : Int), -1⟩) : ∀ (d j : Nat), N = j + d → Ev (fun k => ratlinelaw18_ColorFew.l5 k (N : Int) out j) true := by
  intro d
  have h3 : Ev (fun k => (ratlinelaw18_awake.f k).bind fun t136 => (some t136)) true := awake_ev.bind (f := fun _ t => some t) (Ev.now _)
  induction d with
  | zero =>
    intro j hj
    refine Ev.step (fun k => ?_) h3
    simp only [ratlinelaw18_ColorFew.l5]
    rw [if_neg (by omega)]
  | succ d ih =>
    intro j hj
    have hjo : j < out.length := by omega
    have hg : out[j] = ⟨(rd_T24 l j).f0, ((j % N : Nat) : Int), -1⟩ := by
      have := hout j (by omega)
      rw [List.getElem?_eq_getElem hjo] at this
      exact Option.some.inj this
    refine Ev.step (fun k => ?_) (ih (j + 1) (by omega))
    simp only [ratlinelaw18_ColorFew.l5]
    rw [if_pos (by omega), if_pos (by omega), if_pos (by omega), rd29_get hjo, hg, if_pos (by show ((j % N : Nat) : Int) = (j : Int); rw [Nat.mod_eq_of_lt (by omega)]), wrap_id (by omega) (by omega)]
    rfl
theorem l4_run (out : List S29) (l : List S24) (hl : l.length ≤ 256) (ho : out.length = l.length) (hNl : N ≤ l.length) (hout : ∀ (j : Nat), j < l.length → out[j]? = some ⟨(rd_T24 l j).f0, ((j % N : Nat) : Int), -1⟩) : ∀ (d j : Nat), l.length = j + d → Ev (fun k => ratlinelaw18_ColorFew.l4 k (N : Int) l out j) true := by
  intro d
  induction d with
  | zero =>
    intro j hj
    refine Ev.step (fun k => ?_) (l5_run N hN hN1 out l ho hNl hout N 0 (by omega))
    simp only [ratlinelaw18_ColorFew.l4]
    rw [if_neg (by omega)]
    rfl
  | succ d ih =>
    intro j hj
    have hjo : j < out.length := by omega
    have hg : out[j] = ⟨(rd_T24 l j).f0, ((j % N : Nat) : Int), -1⟩ := by
      have := hout j (by omega)
      rw [List.getElem?_eq_getElem hjo] at this
      exact Option.some.inj this
    have hmod : j % N < N := Nat.mod_lt _ hN
    refine Ev.step (fun k => ?_) (ih (j + 1) (by omega))
    simp only [ratlinelaw18_ColorFew.l4]
    rw [if_pos (by omega), if_pos (by omega), rd29_get hjo, hg]
    refine (if_neg (show ¬ ((j % N : Nat) : Int) < 0 by omega)).trans ((if_neg (show ¬ ((j % N : Nat) : Int) ≥ (N : Int) by omega)).trans ((if_pos rfl).trans ((if_pos (by omega)).trans ((if_pos rfl).trans ?_))))
    rw [wrap_id (by omega) (by omega)]
    rfl
theorem l2_run (L : Nat) (hL : L ≤ 256) (hNL : N ≤ L) : ∀ (d x8 : Nat) (l : List S24), L = x8 + d → l.length = L → Blk N l → Ev (fun k => ratlinelaw18_ColorFew.l2 k (N : Int) l x8) true := by
  intro d
  induction d with
  | zero =>
    intro x8 l hx hl hB
    obtain ⟨ha, hb⟩ := assign_few hN hB
    have hA : color_Assign.f l (N : Int) = some (assignL l N) := by
      rw [color_Assign.f_eq, if_pos ⟨by omega, by omega⟩, if_neg (by omega), Int.toNat_natCast]
    have hf2 : ∀ p ∈ assignL l N, p.f2 = -1 := by
      intro p hp
      obtain ⟨j, hj1, hj2⟩ := List.getElem_of_mem hp
      have := hb j (by omega)
      rw [List.getElem?_eq_getElem hj1, hj2] at this
      rw [Option.some.inj this]
    have hS := slots_ev (assignL l N) (by omega) (fun p hp => by rw [hf2 p hp]; decide)
    rw [slots_none _ hf2] at hS
    have h4 := l4_run N hN hN1 (assignL l N) l (by omega) ha (by omega) hb l.length 0 (by omega)
    have hj : Ev (fun k => ratlinelaw18_ColorFew.j4 k (N : Int) l (assignL l N) false) true := by
      refine Ev.step (fun k => ?_) h4
      simp only [ratlinelaw18_ColorFew.j4]
      rw [if_neg (by decide)]
      rfl
    have hj2 : Ev (fun k => (color_Slots.f k (assignL l N)).bind fun t129 => (ratlinelaw18_ColorFew.j4 k (N : Int) l (assignL l N) (t129 != 0))) true := hS.bind (f := fun k t129 => ratlinelaw18_ColorFew.j4 k (N : Int) l (assignL l N) (t129 != 0)) hj
    refine Ev.step (fun k => ?_) hj2
    simp only [ratlinelaw18_ColorFew.l2]
    rw [if_neg (by omega), hA, Option.bind_some, if_pos (by rw [ha])]
  | succ d ih =>
    intro x8 l hx hl hB
    have l3_run : ∀ (x9 : Nat) (l : List S24), x9 < L → l.length = L → Blk N l → Ev (fun k => ratlinelaw18_ColorFew.l3 k (N : Int) l x8 x9) true := by
      intro x9
      induction x9 with
      | zero =>
        intro l h9 hl hB
        refine Ev.step (fun k => ?_) (ih (x8 + 1) l (by omega) hl hB)
        simp only [ratlinelaw18_ColorFew.l3]
        rw [if_neg (by omega), wrap_id (by omega) (by omega)]
        rfl
      | succ m ih9 =>
        intro l h9 hl hB
        have hw : wrap64 (((m + 1 : Nat) : Int) - 1) = (m : Int) := by rw [wrap_id (by omega) (by omega)]; omega
        by_cases hgt : (rd_T24 l (m : Int)).f1 > (rd_T24 l ((m + 1 : Nat) : Int)).f1
        · refine Ev.step (fun k => ?_) (ih9 ((l.set m ⟨(rd_T24 l ((m + 1 : Nat) : Int)).f0, (rd_T24 l ((m + 1 : Nat) : Int)).f1, (rd_T24 l ((m + 1 : Nat) : Int)).f2⟩).set (m + 1) ⟨(rd_T24 l (m : Int)).f0, (rd_T24 l (m : Int)).f1, (rd_T24 l (m : Int)).f2⟩) (by omega) (by rw [List.length_set, List.length_set]; exact hl) (hB.swap (by omega) hgt _ _ rfl rfl))
          simp only [ratlinelaw18_ColorFew.l3]
          rw [if_pos (by omega), hw, if_pos (by omega), if_pos (by omega), if_pos (by omega), if_pos (by omega), if_pos hgt, Int.toNat_natCast, Int.toNat_natCast]
        · refine Ev.step (fun k => ?_) (ih9 l (by omega) hl hB)
          simp only [ratlinelaw18_ColorFew.l3]
          rw [if_pos (by omega), hw, if_pos (by omega), if_pos (by omega), if_pos (by omega), if_pos (by omega), if_neg hgt]
    refine Ev.step (fun k => ?_) (l3_run (L - 1) l (by omega) hl hB)
    simp only [ratlinelaw18_ColorFew.l2]
    rw [if_pos (by omega), wrap_id (by omega) (by omega)]
    congr 1
    omega
theorem l0_run (R : Nat) (hR : 0 < R) (hR1 : R ≤ 16) : ∀ (d i : Nat) (l : List S24), R = i + d → l.length = i * N → Blk N l → Ev (fun k => ratlinelaw18_ColorFew.l0 k (R : Int) (N : Int) l i) true := by
  intro d
  induction d with
  | zero =>
    intro i l hi hl hB
    have h1 : R * N ≤ 16 * 16 := Nat.mul_le_mul hR1 hN1
    have h2 : 1 * N ≤ R * N := Nat.mul_le_mul_right N hR
    obtain rfl : i = R := by omega
    refine Ev.step (fun k => ?_) (l2_run N hN hN1 (i * N) (by omega) (by omega) (i * N) 0 l (by omega) hl hB)
    simp only [ratlinelaw18_ColorFew.l0]
    rw [if_neg (by omega)]
    rfl
  | succ d ih =>
    intro i l hi hl hB
    have l1_run : ∀ (e kk : Nat) (l : List S24), N = kk + e → l.length = i * N + kk → Blk N l → Ev (fun k => ratlinelaw18_ColorFew.l1 k (R : Int) (N : Int) l i kk) true := by
      intro e
      induction e with
      | zero =>
        intro kk l hk hl hB
        obtain rfl : kk = N := by omega
        refine Ev.step (fun k => ?_) (ih (i + 1) l (by omega) (by rw [Nat.add_mul]; omega) hB)
        simp only [ratlinelaw18_ColorFew.l1]
        rw [if_neg (by omega), wrap_id (by omega) (by omega)]
        rfl
      | succ e ih9 =>
        intro kk l hk hl hB
        have hiN : i * N ≤ 16 * 16 := Nat.mul_le_mul (by omega) hN1
        have hi16 : i < 16 := by omega
        have hk16 : kk < 16 := by omega
        have := ih9 (kk + 1) (l ++ [⟨wrap64 ((wrap64 ((i : Int) * (N : Int))) + (kk : Int)), ((10 * i + kk % 3 : Nat) : Int), ((10 * i + 5 + kk % 4 : Nat) : Int)⟩]) (by omega) (by rw [List.length_append]; simp only [List.length_cons, List.length_nil]; omega) (hB.snoc hl (by omega) _)
        refine Ev.step (fun k => ?_) this
        simp only [ratlinelaw18_ColorFew.l1]
        have hlen : l.length < 5864062014805 := by omega
        have hkN : (kk : Int) < (N : Int) := by omega
        rw [if_pos hkN, if_pos hlen, w3 i kk hi16 hk16, w4 i kk hi16 hk16, wS kk hk16]
    refine Ev.step (fun k => ?_) (l1_run N 0 l (by omega) (by omega) hB)
    simp only [ratlinelaw18_ColorFew.l0]
    rw [if_pos (by omega)]
    rfl
end
theorem few_pure : ratlinelaw18_ColorFew.Pure := by
  intro a0 a1 _ _
  refine Ev.rounds (g := fun k => ratlinelaw18_ColorFew.f k a0 a1) ?_
  have h0 : wrap64 ((Go.bits .and .i64 a0 15) + 1) = (((a0 % 16).toNat + 1 : Nat) : Int) := by rw [and15, wrap_id (by omega) (by omega)]; omega
  have h1 : wrap64 ((Go.bits .and .i64 a1 15) + 1) = (((a1 % 16).toNat + 1 : Nat) : Int) := by rw [and15, wrap_id (by omega) (by omega)]; omega
  have := l0_run ((a1 % 16).toNat + 1) (by omega) (by omega) ((a0 % 16).toNat + 1) (by omega) (by omega) ((a0 % 16).toNat + 1) 0 [] (by omega) (by simp) (fun j x h => by simp at h)
  refine Ev.congr (fun k => ?_) this
  unfold ratlinelaw18_ColorFew.f
  rw [h0, h1]
  rfl
end Go.Proofs.Ytidhllheipopbaa.XCol
