/- color.Assign's plain function: what overlaps stands apart; slots are given where too many overlap, and there alone. -/
import Derived.Test.YtidhllheipopbaaColQ
namespace Go.Proofs.Ytidhllheipopbaa.XCol
open Go.RowKit Go.Maps
theorem nodup_le {α : Type} [DecidableEq α] : ∀ (a b : List α), a.Nodup → (∀ x ∈ a, x ∈ b) → a.length ≤ b.length
  | [], b, _, _ => Nat.zero_le _
  | x :: r, b, hn, h => by
    rw [List.nodup_cons] at hn
    have hx := h x List.mem_cons_self
    have := nodup_le r (b.erase x) hn.2 (fun y hy => (List.mem_erase_of_ne (by rintro rfl; exact hn.1 hy)).2 (h y (List.mem_cons_of_mem _ hy)))
    rw [List.length_erase_of_mem hx] at this
    have := List.length_pos_of_mem hx
    rw [List.length_cons]
    omega
/-- does k stand at m's start -/
def atB (l : List S24) (m k : Nat) : Bool := decide ((rd_T24 l k).f1 ≤ (rd_T24 l m).f1) && decide ((rd_T24 l m).f1 ≤ (rd_T24 l k).f2)
/-- how many of the first n stand at m's start -/
def cover (l : List S24) (m n : Nat) : Nat := ((List.range n).filter (atB l m)).length
theorem cover_succ (l : List S24) (m n : Nat) : cover l m (n + 1) = cover l m n + (if atB l m n = true then 1 else 0) := by
  unfold cover
  rw [List.range_succ, List.filter_append, List.length_append]
  by_cases h : atB l m n = true
  · rw [if_pos h, List.filter_cons_of_pos h]; rfl
  · rw [if_neg h, List.filter_cons_of_neg h]; rfl
theorem cover_le (l : List S24) (m n : Nat) : cover l m n ≤ n := by
  have := List.length_filter_le (atB l m) (List.range n)
  unfold cover
  rwa [List.length_range] at this
/-- starts rise, and none ends ahead of its start -/
structure Rise (l : List S24) : Prop where
  up : ∀ j k : Nat, j ≤ k → k < l.length → (rd_T24 l j).f1 ≤ (rd_T24 l k).f1
  ends : ∀ k : Nat, k < l.length → (rd_T24 l k).f1 ≤ (rd_T24 l k).f2
/-- what holds of the first i places -/
structure Ap (l : List S24) (N : Nat) (P : Nat → S29) (held : List Int) (i : Nat) (sl : Int) : Prop where
  base : ∀ j, j < i → (P j).f0 = (rd_T24 l j).f0 ∧ ((0 ≤ (P j).f1 ∧ (P j).f1 < N ∧ (P j).f2 = -1) ∨ ((P j).f1 = -1 ∧ 0 ≤ (P j).f2 ∧ (P j).f2 < sl))
  regs : ∀ j k, j < k → k < i → 0 ≤ (P j).f1 → (P j).f1 = (P k).f1 → (rd_T24 l j).f2 < (rd_T24 l k).f1
  slots : ∀ j k, j < k → k < i → 0 ≤ (P j).f2 → (P j).f2 ≠ (P k).f2
  held_ : ∀ j, j < i → 0 ≤ (P j).f1 → held[(P j).f1.toNat]? = some (j : Int) ∨ ∀ m, i ≤ m → m < l.length → (rd_T24 l j).f2 < (rd_T24 l m).f1
  spill : 0 < sl → ∃ m, m < l.length ∧ N < cover l m l.length
theorem expire_keep {e : Int → Bool} {held : List Int} {p : Nat} {k : Int} (h : held[p]? = some k) (he : e k = false) : (expire e held)[p]? = some k := by
  unfold expire
  rw [List.getElem?_map, h, Option.map_some, if_neg (by rw [he]; simp)]
theorem expire_live {e : Int → Bool} {held : List Int} {p : Nat} {k : Int} (h : (expire e held)[p]? = some k) (h0 : 0 ≤ k) : e k = false := by
  unfold expire at h
  rw [List.getElem?_map] at h
  cases h1 : held[p]? with
  | none => rw [h1] at h; cases h
  | some k0 =>
    rw [h1] at h
    simp only [Option.map_some, Option.some.injEq] at h
    split at h
    · omega
    · rename_i hn
      subst h
      cases he : e k0 with
      | false => rfl
      | true => exact absurd ⟨h0, he⟩ hn
variable {l : List S24} {N : Nat} {P P' : Nat → S29} {held : List Int} {i : Nat} {sl : Int}
theorem Ap.expired (hR : Rise l) (h : Ap l N P held i sl) (hi : i < l.length) : Ap l N P (expire (endsB l i) held) i sl where
  base := h.base
  regs := h.regs
  slots := h.slots
  spill := h.spill
  held_ := by
    intro j hj h0
    rcases h.held_ j hj h0 with h1 | h1
    · cases he : endsB l i j with
      | false => exact .inl (expire_keep h1 he)
      | true =>
        right
        intro m hm hm2
        have := hR.up i m hm hm2
        unfold endsB at he
        have := of_decide_eq_true he
        omega
    · exact .inr h1
/-- a free register is taken -/
theorem Ap.taken (h : Ap l N P held i sl) (hi : i < l.length) {q : Nat} {kq : Int} (hq : held[q]? = some kq) (hk : kq < 0) (hN : held.length = N)
    (hP : P' i = ⟨(rd_T24 l i).f0, (q : Int), -1⟩) (hne : ∀ j, j < i → P' j = P j) : Ap l N P' (held.set q i) (i + 1) sl := by
  have hql : q < held.length := (List.getElem?_eq_some_iff.1 hq).1
  have hold : ∀ j, j < i → (P j).f1 = q → ∀ m, i ≤ m → m < l.length → (rd_T24 l j).f2 < (rd_T24 l m).f1 := by
    intro j hj e
    rcases h.held_ j hj (by omega) with h1 | h1
    · rw [e, Int.toNat_natCast, hq] at h1
      simp only [Option.some.injEq] at h1
      omega
    · exact h1
  refine ⟨?_, ?_, ?_, ?_, h.spill⟩
  · intro j hj
    by_cases e : j = i
    · subst e; rw [hP]; exact ⟨rfl, .inl ⟨by simp only; omega, by simp only; omega, rfl⟩⟩
    · rw [hne j (by omega)]; exact h.base j (by omega)
  · intro j k hjk hki h0 he
    rw [hne j (by omega)] at h0 he
    by_cases e : k = i
    · subst e
      rw [hP] at he
      exact hold j (by omega) he k (Nat.le_refl _) hi
    · rw [hne k (by omega)] at he
      exact h.regs j k hjk (by omega) h0 he
  · intro j k hjk hki h0 he
    rw [hne j (by omega)] at h0 he
    by_cases e : k = i
    · subst e; rw [hP] at he; simp only at he; omega
    · rw [hne k (by omega)] at he
      exact h.slots j k hjk (by omega) h0 he
  · intro j hj h0
    by_cases e : j = i
    · subst e; rw [hP]; left; simp only [Int.toNat_natCast]; rw [List.getElem?_set_self hql]
    · rw [hne j (by omega)] at h0 ⊢
      by_cases e2 : (P j).f1 = q
      · right; intro m hm hm2; exact hold j (by omega) e2 m (by omega) hm2
      · rcases h.held_ j (by omega) h0 with h1 | h1
        · left; rw [List.getElem?_set_ne (by omega)]; exact h1
        · right; intro m hm hm2; exact h1 m (by omega) hm2
/-- it gets a slot itself -/
theorem Ap.passed (h : Ap l N P held i sl) (hi : i < l.length) (h0 : 0 ≤ sl) (hsp : ∃ m, m < l.length ∧ N < cover l m l.length)
    (hP : P' i = ⟨(rd_T24 l i).f0, -1, sl⟩) (hne : ∀ j, j < i → P' j = P j) : Ap l N P' held (i + 1) (sl + 1) := by
  refine ⟨?_, ?_, ?_, ?_, fun _ => hsp⟩
  · intro j hj
    by_cases e : j = i
    · subst e; rw [hP]; exact ⟨rfl, .inr ⟨rfl, h0, by simp only; omega⟩⟩
    · rw [hne j (by omega)]
      have := h.base j (by omega)
      exact ⟨this.1, this.2.imp id fun h2 => ⟨h2.1, h2.2.1, by omega⟩⟩
  · intro j k hjk hki h0' he
    rw [hne j (by omega)] at h0' he
    by_cases e : k = i
    · subst e; rw [hP] at he; simp only at he; omega
    · rw [hne k (by omega)] at he
      exact h.regs j k hjk (by omega) h0' he
  · intro j k hjk hki h0' he
    rw [hne j (by omega)] at h0' he
    by_cases e : k = i
    · subst e; rw [hP] at he; simp only at he
      have := (h.base j (by omega)).2
      omega
    · rw [hne k (by omega)] at he
      exact h.slots j k hjk (by omega) h0' he
  · intro j hj h0'
    by_cases e : j = i
    · subst e; rw [hP] at h0'; simp only at h0'; omega
    · rw [hne j (by omega)] at h0' ⊢
      exact (h.held_ j (by omega) h0').imp id fun h1 m hm hm2 => h1 m (by omega) hm2
/-- another one's register is taken, which gets a slot -/
theorem Ap.given (h : Ap l N P held i sl) (hi : i < l.length) (h0 : 0 ≤ sl) (hsp : ∃ m, m < l.length ∧ N < cover l m l.length) {p v : Nat} (hv : held[p]? = some (v : Int)) (hvi : v < i) (hN : held.length = N)
    (hP : P' i = ⟨(rd_T24 l i).f0, (p : Int), -1⟩) (hPv : P' v = ⟨(P v).f0, -1, sl⟩) (hne : ∀ j, j < i → j ≠ v → P' j = P j) : Ap l N P' (held.set p i) (i + 1) (sl + 1) := by
  have hpl : p < held.length := (List.getElem?_eq_some_iff.1 hv).1
  have hold : ∀ j, j < i → j ≠ v → (P j).f1 = p → ∀ m, i ≤ m → m < l.length → (rd_T24 l j).f2 < (rd_T24 l m).f1 := by
    intro j hj hjv e
    rcases h.held_ j hj (by omega) with h1 | h1
    · rw [e, Int.toNat_natCast, hv] at h1
      simp only [Option.some.injEq] at h1
      omega
    · exact h1
  refine ⟨?_, ?_, ?_, ?_, fun _ => hsp⟩
  · intro j hj
    by_cases e : j = i
    · subst e; rw [hP]; exact ⟨rfl, .inl ⟨by simp only; omega, by simp only; omega, rfl⟩⟩
    · by_cases e2 : j = v
      · subst e2; rw [hPv]; exact ⟨(h.base j hvi).1, .inr ⟨rfl, h0, by simp only; omega⟩⟩
      · rw [hne j (by omega) e2]
        have := h.base j (by omega)
        exact ⟨this.1, this.2.imp id fun h2 => ⟨h2.1, h2.2.1, by omega⟩⟩
  · intro j k hjk hki h0' he
    by_cases ev : j = v
    · subst ev; rw [hPv] at h0'; simp only at h0'; omega
    · rw [hne j (by omega) ev] at h0' he
      by_cases e : k = i
      · subst e
        rw [hP] at he
        exact hold j (by omega) ev he k (Nat.le_refl _) hi
      · by_cases e2 : k = v
        · subst e2; rw [hPv] at he; simp only at he; omega
        · rw [hne k (by omega) e2] at he
          exact h.regs j k hjk (by omega) h0' he
  · intro j k hjk hki h0' he
    by_cases e : k = i
    · subst e; rw [hP] at he; simp only at he; omega
    · by_cases ej : j = v
      · subst ej
        rw [hPv, hne k (by omega) (by omega)] at he
        simp only at he
        have := (h.base k (by omega)).2
        omega
      · rw [hne j (by omega) ej] at h0' he
        by_cases e2 : k = v
        · subst e2; rw [hPv] at he; simp only at he
          have := (h.base j (by omega)).2
          omega
        · rw [hne k (by omega) e2] at he
          exact h.slots j k hjk (by omega) h0' he
  · intro j hj h0'
    by_cases e : j = i
    · subst e; rw [hP]; left; simp only [Int.toNat_natCast]; rw [List.getElem?_set_self hpl]
    · by_cases ej : j = v
      · subst ej; rw [hPv] at h0'; simp only at h0'; omega
      · rw [hne j (by omega) ej] at h0' ⊢
        by_cases e2 : (P j).f1 = p
        · right; intro m hm hm2; exact hold j (by omega) ej e2 m (by omega) hm2
        · rcases h.held_ j (by omega) h0' with h1 | h1
          · left; rw [List.getElem?_set_ne (by omega)]; exact h1
          · right; intro m hm hm2; exact h1 m (by omega) hm2
/-- all registers are held at i's start: so many stand there -/
theorem full_cover (hR : Rise l) (hi : i < l.length) {out : List S29} (hI : Inv out held i) (hN : held.length = N) (hall : ∀ k ∈ held, 0 ≤ k) (hlive : ∀ k ∈ held, endsB l i k = false) : N < cover l i l.length := by
  have hle : ∀ k ∈ held, 0 ≤ k ∧ k < i := by
    intro k hk
    obtain ⟨p, hp1, hp2⟩ := List.getElem_of_mem hk
    exact ⟨hall k hk, (hI.le p k (by rw [← hp2]; exact List.getElem?_eq_getElem hp1)).2⟩
  have hnd : ((held.map Int.toNat) ++ [i]).Nodup := by
    rw [List.nodup_append]
    refine ⟨?_, by simp, ?_⟩
    · rw [List.nodup_iff_pairwise_ne, List.pairwise_iff_getElem]
      intro a b ha hb hab e
      rw [List.length_map] at ha hb
      rw [List.getElem_map, List.getElem_map] at e
      have h1 := hle _ (List.getElem_mem ha)
      have h2 := hle _ (List.getElem_mem hb)
      have e' : held[a] = held[b] := by omega
      have g1 := hI.at_ a _ (List.getElem?_eq_getElem ha) h1.1
      have g2 := hI.at_ b _ (List.getElem?_eq_getElem hb) h2.1
      rw [e', g2] at g1
      omega
    · intro x hx y hy
      obtain ⟨k, hk, rfl⟩ := List.mem_map.1 hx
      have := hle k hk
      rw [List.mem_singleton] at hy
      omega
  have := nodup_le _ ((List.range l.length).filter (atB l i)) hnd (by
    intro x hx
    rw [List.mem_append, List.mem_singleton] at hx
    rw [List.mem_filter, List.mem_range]
    unfold atB
    rcases hx with hx | rfl
    · obtain ⟨k, hk, rfl⟩ := List.mem_map.1 hx
      have h1 := hle k hk
      have h2 := hlive k hk
      unfold endsB at h2
      have h3 := of_decide_eq_false h2
      have h4 := hR.up k.toNat i (by omega) hi
      have e : ((k.toNat : Nat) : Int) = k := by omega
      rw [e] at h4 ⊢
      exact ⟨by omega, by rw [Bool.and_eq_true]; exact ⟨decide_eq_true h4, decide_eq_true (by omega)⟩⟩
    · have := hR.ends x hi
      exact ⟨hi, by rw [Bool.and_eq_true]; exact ⟨decide_eq_true (Int.le_refl _), decide_eq_true this⟩⟩)
  rw [List.length_append, List.length_map, List.length_singleton, hN] at this
  exact this
theorem step_apart (hR : Rise l) {out : List S29} (hl : out.length = l.length) (hi : i < l.length) (hN : held.length = N) (hI : Inv out held i) (h0 : 0 ≤ sl) (h : Ap l N (fun j => rd_T29 out j) held i sl) :
    Ap l N (fun j => rd_T29 (stepA l i out held sl).1 j) (stepA l i out held sl).2.1 (i + 1) (stepA l i out held sl).2.2 := by
  have e : stepA l i out held sl = stepB l i out (expire (endsB l i) held) sl := rfl
  rw [e]
  have hi' : i < out.length := by omega
  have hE : Ap l N (fun j => rd_T29 out j) (expire (endsB l i) held) i sl := h.expired hR hi
  have hlen : (expire (endsB l i) held).length = N := (expire_len _ _).trans hN
  have hIE : Inv (out.set i ⟨(rd_T24 l i).f0, -1, -1⟩) (expire (endsB l i) held) i := hI.expired _ _
  have hlive : ∀ k ∈ expire (endsB l i) held, 0 ≤ k → endsB l i k = false := by
    intro k hk hk0
    obtain ⟨p, hp1, hp2⟩ := List.getElem_of_mem hk
    exact expire_live (p := p) (by rw [← hp2]; exact List.getElem?_eq_getElem hp1) hk0
  generalize expire (endsB l i) held = E at *
  by_cases hp : 0 ≤ freeFrom 0 E
  · obtain ⟨q, kq, hq1, hq2, hq⟩ := freeFrom_pos E 0 hp
    rw [Nat.zero_add] at hq
    have e2 : stepB l i out E sl = (out.set i ⟨(rd_T24 l i).f0, (q : Int), -1⟩, E.set q i, sl) := by
      unfold stepB
      rw [hq, if_pos (by omega), Int.toNat_natCast]
    rw [e2]
    exact hE.taken hi hq1 hq2 hlen (rd29_set _ hi') (fun j hj => rd29_ne _ _ (by omega) (by omega))
  · have hall := freeFrom_neg E 0 (by omega)
    have hsp : ∃ m, m < l.length ∧ N < cover l m l.length := ⟨i, hi, full_cover hR hi hIE hlen hall (fun k hk => hlive k hk (hall k hk))⟩
    by_cases hw : worstI l E i = i
    · have e2 : stepB l i out E sl = (out.set i ⟨(rd_T24 l i).f0, -1, sl⟩, E, sl + 1) := by
        unfold stepB
        rw [if_neg hp, if_pos hw]
      rw [e2]
      exact hE.passed hi h0 hsp (rd29_set _ hi') (fun j hj => rd29_ne _ _ (by omega) (by omega))
    · have hmem : worstI l E i ∈ E := by
        rcases worst_mem l E (i : Int) with h1 | h1
        · exact absurd h1 hw
        · exact h1
      obtain ⟨p, hp1, hp2⟩ := List.getElem_of_mem hmem
      have hpe : E[p]? = some (worstI l E i) := by rw [← hp2]; exact List.getElem?_eq_getElem hp1
      have hv0 := hall _ hmem
      have hvi := (hIE.le p _ hpe).2
      obtain ⟨v, hv⟩ : ∃ v : Nat, worstI l E i = (v : Int) := ⟨(worstI l E i).toNat, by omega⟩
      have hvE : E[p]? = some (v : Int) := by rw [hpe, hv]
      have hph := hIE.at_ p v hvE (by omega)
      rw [rd29_ne _ (v : Int) (by omega) (by omega)] at hph
      have e2 : stepB l i out E sl = ((out.set i ⟨(rd_T24 l i).f0, (p : Int), -1⟩).set v ⟨(rd_T29 out (v : Int)).f0, -1, sl⟩, E.set p i, sl + 1) := by
        unfold stepB
        rw [if_neg hp, if_neg hw, hv, hph, Int.toNat_natCast, Int.toNat_natCast]
      rw [e2]
      exact hE.given hi h0 hsp hvE (by omega) hlen (by show rd_T29 _ (i : Int) = _; rw [rd29_ne _ _ (by omega) (by omega), rd29_set _ hi']) (rd29_set _ (by rw [List.length_set]; omega))
        (fun j hj hjv => by show rd_T29 _ (j : Int) = _; rw [rd29_ne _ _ (by omega) (by omega), rd29_ne _ _ (by omega) (by omega)])
theorem run_apart (hR : Rise l) : ∀ (d i : Nat) (out : List S29) (held : List Int) (sl : Int), out.length = l.length → out.length = i + d → held.length = N → Inv out held i → Sl out held i sl → 0 ≤ sl → Ap l N (fun j => rd_T29 out j) held i sl →
    ∃ (held' : List Int) (sl' : Int), 0 ≤ sl' ∧ Sl (runA l d i out held sl) held' l.length sl' ∧ (runA l d i out held sl).length = l.length ∧ Ap l N (fun j => rd_T29 (runA l d i out held sl) j) held' l.length sl' := by
  intro d
  induction d with
  | zero =>
    intro i out held sl hl ho hN hI hS h0 h
    obtain rfl : i = l.length := by omega
    exact ⟨held, sl, h0, hS, hl, h⟩
  | succ d ih =>
    intro i out held sl hl ho hN hI hS h0 h
    obtain ⟨h1, h2, h3, h4, h5⟩ := step_inv (l := l) (by omega) hN hI hS h0
    exact ih (i + 1) _ _ _ (by omega) (by omega) h4 h1 h2 h5 (step_apart hR hl (by omega) hN hI h0 h)
theorem assign_apart (hR : Rise l) : (assignL l N).length = l.length ∧
    (∀ j : Nat, j < l.length → (rd_T29 (assignL l N) j).f0 = (rd_T24 l j).f0 ∧ ((0 ≤ (rd_T29 (assignL l N) j).f1 ∧ (rd_T29 (assignL l N) j).f1 < N ∧ (rd_T29 (assignL l N) j).f2 = -1) ∨ ((rd_T29 (assignL l N) j).f1 = -1 ∧ 0 ≤ (rd_T29 (assignL l N) j).f2 ∧ (rd_T29 (assignL l N) j).f2 < 1000000000 + l.length))) ∧
    (∀ j k : Nat, j < k → k < l.length → 0 ≤ (rd_T29 (assignL l N) j).f1 → (rd_T29 (assignL l N) j).f1 = (rd_T29 (assignL l N) k).f1 → (rd_T24 l j).f2 < (rd_T24 l k).f1) ∧
    (∀ j k : Nat, j < k → k < l.length → 0 ≤ (rd_T29 (assignL l N) j).f2 → (rd_T29 (assignL l N) j).f2 ≠ (rd_T29 (assignL l N) k).f2) ∧
    ((∃ j : Nat, j < l.length ∧ 0 ≤ (rd_T29 (assignL l N) j).f2) → ∃ m, m < l.length ∧ N < cover l m l.length) ∧
    ((∀ j : Nat, j < l.length → (rd_T29 (assignL l N) j).f2 < 0) → ∀ m, m < l.length → cover l m l.length ≤ N) := by
  obtain ⟨held', sl', h0, hS, hlen, h⟩ := run_apart (N := N) hR l.length 0 (List.replicate l.length z29) (List.replicate N (-1)) 0 (by simp) (by simp) (by simp)
    ⟨fun p k h => by rw [List.getElem?_replicate] at h; split at h <;> simp at h; omega, fun p k h h0 => by rw [List.getElem?_replicate] at h; split at h <;> simp at h; omega⟩
    ⟨by simp [slotsOf, cnt], by simp [slotsOf], .inl rfl, fun p k h h0 => by rw [List.getElem?_replicate] at h; split at h <;> simp at h; omega⟩ (by omega)
    ⟨fun j hj => absurd hj (Nat.not_lt_zero _), fun j k _ hk => absurd hk (Nat.not_lt_zero _), fun j k _ hk => absurd hk (Nat.not_lt_zero _), fun j hj => absurd hj (Nat.not_lt_zero _), fun h => absurd h (Int.lt_irrefl _)⟩
  change (assignL l N).length = l.length at hlen
  change Ap l N (fun j => rd_T29 (assignL l N) j) held' l.length sl' at h
  change Sl (assignL l N) held' l.length sl' at hS
  have hsl : sl' ≤ l.length := by
    have h1 := hS.cnt_
    have h2 := cnt_le (slotsOf (assignL l N) l.length)
    have h3 : (slotsOf (assignL l N) l.length).length ≤ l.length := by
      unfold slotsOf
      rw [List.length_map, List.length_take]
      omega
    omega
  refine ⟨hlen, ?_, h.regs, h.slots, ?_, ?_⟩
  · intro j hj
    have := h.base j hj
    exact ⟨this.1, this.2.imp id fun g => ⟨g.1, g.2.1, by have := g.2.2; omega⟩⟩
  · rintro ⟨j, hj, hj0⟩
    refine h.spill ?_
    have := (h.base j hj).2
    omega
  · intro hno m hm
    have hreg : ∀ j, j < l.length → 0 ≤ (rd_T29 (assignL l N) j).f1 ∧ (rd_T29 (assignL l N) j).f1 < N := by
      intro j hj
      have h1 := (h.base j hj).2
      have h2 := hno j hj
      omega
    have hmem : ∀ x ∈ (List.range l.length).filter (atB l m), x < l.length ∧ (rd_T24 l x).f1 ≤ (rd_T24 l m).f1 ∧ (rd_T24 l m).f1 ≤ (rd_T24 l x).f2 := by
      intro x hx
      rw [List.mem_filter, List.mem_range] at hx
      have := hx.2
      unfold atB at this
      rw [Bool.and_eq_true] at this
      exact ⟨hx.1, of_decide_eq_true this.1, of_decide_eq_true this.2⟩
    have hnd : (((List.range l.length).filter (atB l m)).map fun j => (rd_T29 (assignL l N) (j : Nat)).f1.toNat).Nodup := by
      have hrn : ((List.range l.length).filter (atB l m)).Pairwise (· < ·) := List.pairwise_lt_range.filter _
      rw [List.nodup_iff_pairwise_ne, List.pairwise_map]
      refine List.Pairwise.imp_of_mem ?_ hrn
      intro a b ha hb hab e
      obtain ⟨a1, a2, a3⟩ := hmem a ha
      obtain ⟨b1, b2, b3⟩ := hmem b hb
      have g1 := hreg a a1
      have g2 := hreg b b1
      have := h.regs a b hab b1 g1.1 (by show (rd_T29 _ (a : Int)).f1 = (rd_T29 _ (b : Int)).f1; omega)
      omega
    have := nodup_le _ (List.range N) hnd (by
      intro x hx
      obtain ⟨j, hj, rfl⟩ := List.mem_map.1 hx
      have := hreg j (hmem j hj).1
      rw [List.mem_range]
      omega)
    rw [List.length_map, List.length_range] at this
    exact this
end Go.Proofs.Ytidhllheipopbaa.XCol
