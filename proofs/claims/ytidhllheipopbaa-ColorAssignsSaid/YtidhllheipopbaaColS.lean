/- The reference's Assign tells the plain function's places. -/
import Derived.Test.YtidhllheipopbaaColQ
import Derived.Test.YtidhllheipopbaaColPA
import Derived.Test.YtidhllheipopbaaXColx4d
namespace Go.Proofs.Ytidhllheipopbaa.XCol
open Go.RowKit Go.Proofs.YtidhllheipopbaaW.PrintWords Go.Proofs.YtidhllheipopbaaW.PrintLast Go.Proofs.YtidhllheipopbaaW.PrintMore
def to47 (x : S24) : S47 := ⟨x.f0, x.f1, x.f2⟩
def to38 (x : S29) : S38 := ⟨x.f0, x.f1, x.f2⟩
theorem rd47 (l : List S24) (k : Int) : rd_T47 (l.map to47) k = to47 (rd_T24 l k) := by
  unfold rd_T47 rd_T24
  rw [List.getD_eq_getElem?_getD, List.getD_eq_getElem?_getD, List.getElem?_map]
  cases l[k.toNat]? <;> rfl
theorem rd38 (l : List S29) (k : Int) : rd_T38 (l.map to38) k = to38 (rd_T29 l k) := by
  unfold rd_T38 rd_T29
  rw [List.getD_eq_getElem?_getD, List.getD_eq_getElem?_getD, List.getElem?_map]
  cases l[k.toNat]? <;> rfl
theorem set38 (l : List S29) (n : Nat) (x : S29) : (l.map to38).set n (to38 x) = (l.set n x).map to38 := by rw [List.map_set]
theorem rd_at {l : List Int} {p : Nat} {k : Int} (h : l[p]? = some k) : rd l (p : Int) = k := by
  have : rd l (p : Int) = l.getD p 0 := by unfold rd; simp
  rw [this, List.getD_eq_getElem?_getD, h]
  rfl
theorem wS1 (p : Nat) (h : p ≤ 1000000) : wrap64 ((p : Int) + 1) = ((p + 1 : Nat) : Int) := by rw [wrap_id (by omega) (by omega)]; omega
theorem ahead_iff (x y : S24) : 0 < aheadI x y ↔ (x.f2 > y.f2 ∨ (x.f2 = y.f2 ∧ x.f0 > y.f0)) := by
  unfold aheadI or2 cmp3
  by_cases h1 : x.f2 < y.f2
  · rw [if_pos h1, if_neg (by decide)]; omega
  · rw [if_neg h1]
    by_cases h2 : y.f2 < x.f2
    · rw [if_pos h2, if_neg (by decide)]; omega
    · rw [if_neg h2, if_pos rfl]
      by_cases h3 : x.f0 < y.f0
      · rw [if_pos h3]; omega
      · rw [if_neg h3]
        by_cases h4 : y.f0 < x.f0
        · rw [if_pos h4]; omega
        · rw [if_neg h4]; omega
section
variable (l : List S24) (i : Nat) (out : List S29) (sl : Int)
/-- the worst -/
theorem l4_ref {r : List S38} (hi : i < l.length) (held : List Int) (hM : held.length ≤ 1000) (hh : ∀ (p : Nat) (k : Int), held[p]? = some k → 0 ≤ k ∧ k < i) (V : Int)
    (hend : Ev (fun k => ratlineref18_Assign.l4 k (l.map to47) (out.map to38) held sl i V (held.length : Int)) r) : ∀ (d p : Nat) (v : Int), held.length = p + d → 0 ≤ v → v ≤ i → worstI l (held.drop p) v = V →
    Ev (fun k => ratlineref18_Assign.l4 k (l.map to47) (out.map to38) held sl i v p) r := by
  intro d
  induction d with
  | zero =>
    intro p v hp h0 h1 hw
    rw [List.drop_of_length_le (by omega)] at hw
    have e : worstI l [] v = v := rfl
    rw [e] at hw
    subst hw
    obtain rfl : p = held.length := by omega
    exact hend
  | succ d ih =>
    intro p v hp h0 h1 hw
    have hlt : p < held.length := by omega
    have hk := List.getElem?_eq_getElem hlt
    obtain ⟨k, hkk⟩ : ∃ k, held[p] = k := ⟨_, rfl⟩
    rw [hkk] at hk
    have hb := hh p k hk
    have q1 : (p : Int) < (held.length : Int) := Int.ofNat_lt.2 hlt
    have q3 : k < (l.length : Int) := by omega
    have q5 : v < (l.length : Int) := by omega
    have hw1 : wrap64 ((p : Int) + 1) = ((p + 1 : Nat) : Int) := wS1 p (by omega)
    rw [List.drop_eq_getElem_cons hlt, hkk] at hw
    have e : worstI l (k :: held.drop (p + 1)) v = worstI l (held.drop (p + 1)) (if 0 < aheadI (rd_T24 l k) (rd_T24 l v) then k else v) := rfl
    rw [e] at hw
    have hr : rd held (p : Int) = k := rd_at hk
    have hst : ∀ q, ratlineref18_Assign.l4 (q + 1) (l.map to47) (out.map to38) held sl i v p = ratlineref18_Assign.l4 q (l.map to47) (out.map to38) held sl i (if 0 < aheadI (rd_T24 l k) (rd_T24 l v) then k else v) ((p + 1 : Nat) : Int) := by
      intro q
      simp only [ratlineref18_Assign.l4, List.length_map]
      rw [if_pos q1, if_pos (Int.natCast_nonneg p), hr, if_pos hb.1, if_pos q3, if_pos h0, if_pos q5, rd47, rd47, hw1]
      by_cases h2 : (rd_T24 l k).f2 > (rd_T24 l v).f2
      · rw [if_pos (c := (to47 (rd_T24 l k)).f2 > (to47 (rd_T24 l v)).f2) h2, if_pos ((ahead_iff _ _).2 (.inl h2))]
      · rw [if_neg (c := (to47 (rd_T24 l k)).f2 > (to47 (rd_T24 l v)).f2) h2]
        by_cases h3 : (rd_T24 l k).f2 = (rd_T24 l v).f2
        · rw [if_pos (c := (to47 (rd_T24 l k)).f2 = (to47 (rd_T24 l v)).f2) h3]
          by_cases h4 : (rd_T24 l k).f0 > (rd_T24 l v).f0
          · rw [if_pos (c := (to47 (rd_T24 l k)).f0 > (to47 (rd_T24 l v)).f0) h4, if_pos ((ahead_iff _ _).2 (.inr ⟨h3, h4⟩))]
          · rw [if_neg (c := (to47 (rd_T24 l k)).f0 > (to47 (rd_T24 l v)).f0) h4, if_neg (fun h => by rcases (ahead_iff _ _).1 h with h | h; exact h2 h; exact h4 h.2)]
        · rw [if_neg (c := (to47 (rd_T24 l k)).f2 = (to47 (rd_T24 l v)).f2) h3, if_neg (fun h => by rcases (ahead_iff _ _).1 h with h | h; exact h2 h; exact h3 h.1)]
    have q6 : 0 ≤ (if 0 < aheadI (rd_T24 l k) (rd_T24 l v) then k else v) ∧ (if 0 < aheadI (rd_T24 l k) (rd_T24 l v) then k else v) ≤ i := by
      clear hst hw e hr hw1
      split
      · exact ⟨hb.1, Int.le_of_lt hb.2⟩
      · exact ⟨h0, h1⟩
    exact Ev.step hst (ih (p + 1) _ (by clear hst hw e hr hw1; omega) q6.1 q6.2 hw)
/-- the least free register, from above -/
theorem l3_ref {r : List S38} (held : List Int) (hM : held.length ≤ 1000) 
    (hend : Ev (fun k => ratlineref18_Assign.l3 k (l.map to47) (out.map to38) held sl i (freeFrom 0 held) (-1)) r) : ∀ (p : Nat), p ≤ held.length →
    Ev (fun k => ratlineref18_Assign.l3 k (l.map to47) (out.map to38) held sl i (freeFrom p (held.drop p)) ((p : Int) - 1)) r := by
  intro p
  induction p with
  | zero =>
    intro _
    rw [List.drop_zero]
    exact hend
  | succ p ih =>
    intro hp
    have hlt : p < held.length := by omega
    have hk := List.getElem?_eq_getElem hlt
    have hr : rd held (p : Int) = held[p] := rd_at hk
    have e : freeFrom p (held.drop p) = if held[p] < 0 then (p : Int) else freeFrom (p + 1) (held.drop (p + 1)) := by
      rw [List.drop_eq_getElem_cons hlt, freeFrom]
    have := ih (by omega)
    rw [e] at this
    have hw1 : wrap64 ((p : Int) - 1) = (p : Int) - 1 := wrap_id (by omega) (by omega)
    refine Ev.step (fun q => ?_) this
    rw [show (((p + 1 : Nat) : Int) - 1) = (p : Int) by omega]
    simp only [ratlineref18_Assign.l3]
    rw [if_pos (show (p : Int) ≥ 0 by omega), if_pos (by omega), if_pos (by omega), hr, hw1]
    by_cases hn : held[p] < 0
    · rw [if_pos hn, if_pos hn]
    · rw [if_neg hn, if_neg hn]
/-- those that have ended -/
theorem l2_ref {r : List S38} (hi : i < l.length) (held : List Int) (hM : held.length ≤ 1000) (hh : ∀ (p : Nat) (k : Int), held[p]? = some k → -1 ≤ k ∧ k < i)
    (hend : Ev (fun k => ratlineref18_Assign.l3 k (l.map to47) (out.map to38) (expire (endsB l i) held) sl i (-1) ((held.length : Int) - 1)) r) : ∀ (d p : Nat), held.length = p + d →
    Ev (fun k => ratlineref18_Assign.l2 k (l.map to47) (out.map to38) ((expire (endsB l i) held).take p ++ held.drop p) sl i (-1) p) r := by
  intro d
  induction d with
  | zero =>
    intro p hp
    have e : (expire (endsB l i) held).take p ++ held.drop p = expire (endsB l i) held := by
      rw [List.drop_of_length_le (by omega), List.append_nil, List.take_of_length_le (by rw [expire_len]; omega)]
    rw [e]
    have hw1 : wrap64 ((held.length : Int) - 1) = (held.length : Int) - 1 := wrap_id (by omega) (by omega)
    refine Ev.step (fun q => ?_) hend
    simp only [ratlineref18_Assign.l2]
    rw [if_neg (by rw [expire_len]; omega), expire_len, hw1]
  | succ d ih =>
    intro p hp
    have hlt : p < held.length := by omega
    have hk := List.getElem?_eq_getElem hlt
    have hb := hh p _ hk
    have hpl : ((expire (endsB l i) held).take p).length = p := by rw [List.length_take, expire_len]; omega
    have hlen : ((expire (endsB l i) held).take p ++ held.drop p).length = held.length := by rw [List.length_append, hpl, List.length_drop]; omega
    have hg : ((expire (endsB l i) held).take p ++ held.drop p)[p]? = some held[p] := by
      rw [List.getElem?_append_right (by omega), hpl, Nat.sub_self, List.getElem?_drop, Nat.add_zero, hk]
    have hr : rd ((expire (endsB l i) held).take p ++ held.drop p) (p : Int) = held[p] := rd_at hg
    have hE : (expire (endsB l i) held)[p]? = some (if 0 ≤ held[p] ∧ endsB l i held[p] = true then -1 else held[p]) := by
      unfold expire
      rw [List.getElem?_map, hk]
      rfl
    have hnext : (expire (endsB l i) held).take (p + 1) ++ held.drop (p + 1) = ((expire (endsB l i) held).take p ++ held.drop p).set p (if 0 ≤ held[p] ∧ endsB l i held[p] = true then -1 else held[p]) := by
      have h1 : (expire (endsB l i) held).take (p + 1) = (expire (endsB l i) held).take p ++ [if 0 ≤ held[p] ∧ endsB l i held[p] = true then -1 else held[p]] := by
        rw [List.take_add_one, hE]; rfl
      rw [h1, List.set_append_right _ _ (by omega), hpl, Nat.sub_self, List.drop_eq_getElem_cons hlt, List.set_cons_zero, List.append_assoc]
      rfl
    have := ih (p + 1) (by omega)
    rw [hnext] at this
    have hw1 : wrap64 ((p : Int) + 1) = ((p + 1 : Nat) : Int) := wS1 p (by omega)
    refine Ev.step (fun q => ?_) this
    simp only [ratlineref18_Assign.l2, List.length_map]
    rw [hlen, if_pos (by omega), if_pos (by omega), hr, hw1, rd47, rd47]
    have hself : ((expire (endsB l i) held).take p ++ held.drop p).set p held[p] = (expire (endsB l i) held).take p ++ held.drop p := by
      apply List.ext_getElem?
      intro j
      by_cases ej : p = j
      · subst ej
        rw [List.getElem?_set_self (by rw [hlen]; exact hlt), hg]
      · rw [List.getElem?_set_ne ej]
    by_cases h0 : held[p] ≥ 0
    · rw [if_pos h0, if_pos (by omega), if_pos (by omega), if_pos (by omega), if_pos (by omega)]
      by_cases he : (rd_T24 l held[p]).f2 < (rd_T24 l (i : Int)).f1
      · rw [if_pos (c := (to47 (rd_T24 l held[p])).f2 < (to47 (rd_T24 l (i : Int))).f1) he, Int.toNat_natCast, if_pos ⟨h0, by unfold endsB; exact decide_eq_true he⟩]
      · rw [if_neg (c := (to47 (rd_T24 l held[p])).f2 < (to47 (rd_T24 l (i : Int))).f1) he, if_neg (fun h => he (by have := h.2; unfold endsB at this; exact of_decide_eq_true this)), hself]
    · rw [if_neg h0, if_neg (fun h => h0 h.1), hself]
/-- one interval after the other -/
theorem l1_ref (hl : l.length ≤ 80) (M : Nat) (hM : M ≤ 1000) : ∀ (d i : Nat) (out : List S29) (held : List Int) (sl : Int), l.length = i + d → out.length = l.length → held.length = M → Inv out held i → 0 ≤ sl → sl ≤ i →
    Ev (fun k => ratlineref18_Assign.l1 k (l.map to47) (out.map to38) held sl i) ((runA l d i out held sl).map to38) := by
  intro d
  induction d with
  | zero =>
    intro i out held sl hi ho hMl hI h0 h1
    refine Ev.step (f := fun _ => some _) (fun k => ?_) (Ev.now _)
    simp only [ratlineref18_Assign.l1, List.length_map]
    rw [if_neg (by omega)]
    rfl
  | succ d ih =>
    intro i out held sl hi ho hMl hI h0 h1
    have hio : i < out.length := by omega
    have hil : i < l.length := by omega
    have hE : Inv (out.set i ⟨(rd_T24 l i).f0, -1, -1⟩) (expire (endsB l i) held) i := hI.expired _ _
    have hlen : (expire (endsB l i) held).length = M := (expire_len _ _).trans hMl
    have e : stepA l i out held sl = stepB l i out (expire (endsB l i) held) sl := rfl
    have hnx : runA l (d + 1) i out held sl = runA l d (i + 1) (stepB l i out (expire (endsB l i) held) sl).1 (stepB l i out (expire (endsB l i) held) sl).2.1 (stepB l i out (expire (endsB l i) held) sl).2.2 := rfl
    rw [hnx]
    have wi : wrap64 ((i : Int) + 1) = ((i + 1 : Nat) : Int) := wS1 i (by omega)
    have wsl : wrap64 (sl + 1) = sl + 1 := wrap_id (by omega) (by omega)
    have hfin : Ev (fun k => ratlineref18_Assign.l3 k (l.map to47) ((out.set i ⟨(rd_T24 l i).f0, -1, -1⟩).map to38) (expire (endsB l i) held) sl i (freeFrom 0 (expire (endsB l i) held)) (-1))
        ((runA l d (i + 1) (stepB l i out (expire (endsB l i) held) sl).1 (stepB l i out (expire (endsB l i) held) sl).2.1 (stepB l i out (expire (endsB l i) held) sl).2.2).map to38) := by
      have hle := hE.le
      have hat := hE.at_
      generalize expire (endsB l i) held = E at *
      by_cases hp : 0 ≤ freeFrom 0 E
      · obtain ⟨q, kq, hq1, hq2, hq⟩ := freeFrom_pos E 0 hp
        rw [Nat.zero_add] at hq
        have hqN : q < E.length := (List.getElem?_eq_some_iff.1 hq1).1
        have hT := hE.taken (by rw [List.length_set]; exact hio) hqN (rd_T24 l i).f0 (-1)
        rw [List.set_set] at hT
        have := ih (i + 1) (out.set i ⟨(rd_T24 l i).f0, (q : Int), -1⟩) (E.set q i) sl (by omega) (by rw [List.length_set]; exact ho) (by rw [List.length_set]; exact hlen) hT h0 (by omega)
        have e2 : stepB l i out E sl = (out.set i ⟨(rd_T24 l i).f0, (q : Int), -1⟩, E.set q i, sl) := by
          unfold stepB
          rw [hq, if_pos (by omega), Int.toNat_natCast]
        rw [e2]
        refine Ev.step (fun k => ?_) this
        have n1 : ¬ ((-1 : Int) ≥ 0) := by decide
        have n2 : (q : Int) ≥ 0 := Int.natCast_nonneg q
        have n3 : (i : Int) < (out.length : Int) := Int.ofNat_lt.2 hio
        have n4 : (q : Int) < (E.length : Int) := Int.ofNat_lt.2 hqN
        simp only [ratlineref18_Assign.l3, List.length_map, List.length_set]
        rw [hq, if_neg n1, if_pos n2, if_pos (Int.natCast_nonneg i), if_pos n3, if_pos n2, if_pos n4, wi, rd38, rd29_set _ hio, Int.toNat_natCast, Int.toNat_natCast]
        rw [show (⟨(to38 ⟨(rd_T24 l (i : Int)).f0, -1, -1⟩).f0, (q : Int), (to38 ⟨(rd_T24 l (i : Int)).f0, -1, -1⟩).f2⟩ : S38) = to38 ⟨(rd_T24 l (i : Int)).f0, (q : Int), -1⟩ from rfl, set38, List.set_set]
      · have hall := freeFrom_neg E 0 (by omega)
        have hh : ∀ (p : Nat) (k : Int), E[p]? = some k → 0 ≤ k ∧ k < i := fun p k hk => ⟨hall k (List.mem_of_getElem? hk), (hle p k hk).2⟩
        have n1 : ¬ ((-1 : Int) ≥ 0) := by decide
        have n2 : ¬ (freeFrom 0 E ≥ 0) := hp
        have n3 : (i : Int) < (out.length : Int) := Int.ofNat_lt.2 hio
        have to4 : Ev (fun k => ratlineref18_Assign.l4 k (l.map to47) ((out.set i ⟨(rd_T24 l i).f0, -1, -1⟩).map to38) E sl i i ((0 : Nat) : Int))
            ((runA l d (i + 1) (stepB l i out E sl).1 (stepB l i out E sl).2.1 (stepB l i out E sl).2.2).map to38) := by
          refine l4_ref l i _ sl hil E (by omega) hh (worstI l E i) ?_ E.length 0 (i : Int) (by omega) (Int.natCast_nonneg i) (Int.le_refl _) (by rw [List.drop_zero])
          by_cases hw : worstI l E i = i
          · have e2 : stepB l i out E sl = (out.set i ⟨(rd_T24 l i).f0, -1, sl⟩, E, sl + 1) := by
              unfold stepB
              rw [if_neg hp, if_pos hw]
            have hT := hE.passed (⟨(rd_T24 l i).f0, -1, sl⟩ : S29)
            rw [List.set_set] at hT
            have := ih (i + 1) (out.set i ⟨(rd_T24 l i).f0, -1, sl⟩) E (sl + 1) (by omega) (by rw [List.length_set]; exact ho) hlen hT (by omega) (by omega)
            rw [e2, hw]
            refine Ev.step (fun k => ?_) this
            simp only [ratlineref18_Assign.l4, List.length_map, List.length_set]
            rw [if_neg (Int.lt_irrefl _), if_pos trivial, if_pos (Int.natCast_nonneg i), if_pos n3, wi, wsl, rd38, rd29_set _ hio, Int.toNat_natCast]
            rw [show (⟨(to38 ⟨(rd_T24 l (i : Int)).f0, -1, -1⟩).f0, (to38 ⟨(rd_T24 l (i : Int)).f0, -1, -1⟩).f1, sl⟩ : S38) = to38 ⟨(rd_T24 l (i : Int)).f0, -1, sl⟩ from rfl, set38, List.set_set]
          · have hmem : worstI l E i ∈ E := by
              rcases worst_mem l E (i : Int) with h1 | h1
              · exact absurd h1 hw
              · exact h1
            obtain ⟨p, hp1, hp2⟩ := List.getElem_of_mem hmem
            have hpe : E[p]? = some (worstI l E i) := by rw [← hp2]; exact List.getElem?_eq_getElem hp1
            have hv0 := (hh p _ hpe).1
            have hvi := (hh p _ hpe).2
            obtain ⟨v, hv⟩ : ∃ v : Nat, worstI l E i = (v : Int) := ⟨(worstI l E i).toNat, by omega⟩
            rw [hv] at hpe hv0 hvi
            have hph := hat p v hpe hv0
            have hph2 := hph
            rw [rd29_ne _ (v : Int) (by omega) (by omega)] at hph2
            have e2 : stepB l i out E sl = ((out.set i ⟨(rd_T24 l i).f0, (p : Int), -1⟩).set v ⟨(rd_T29 out (v : Int)).f0, -1, sl⟩, E.set p i, sl + 1) := by
              unfold stepB
              rw [if_neg hp, if_neg hw, hv, hph2, Int.toNat_natCast, Int.toNat_natCast]
            have hT := hE.given (v := v) (by rw [List.length_set]; exact hio) hpe (rd_T24 l i).f0 (-1) (⟨(rd_T29 out (v : Int)).f0, -1, sl⟩ : S29)
            rw [List.set_set] at hT
            have := ih (i + 1) _ (E.set p i) (sl + 1) (by omega) (by rw [List.length_set, List.length_set]; exact ho) (by rw [List.length_set]; exact hlen) hT (by omega) (by omega)
            have n4 : (v : Int) < (out.length : Int) := by omega
            have n5 : (p : Int) < (E.length : Int) := Int.ofNat_lt.2 hp1
            have hne : ¬ ((v : Int) = (i : Int)) := by omega
            have hvo : v < (out.set i (⟨(rd_T24 l i).f0, (p : Int), -1⟩ : S29)).length := by rw [List.length_set]; omega
            rw [e2, hv]
            refine Ev.step (fun k => ?_) this
            simp only [ratlineref18_Assign.l4, List.length_map, List.length_set]
            rw [if_neg (Int.lt_irrefl _), if_neg hne, if_pos (Int.natCast_nonneg v), if_pos n4, if_pos (Int.natCast_nonneg i), if_pos n3, Option.bind_some, rd38, rd38, rd29_set _ hio, Int.toNat_natCast]
            rw [show (⟨(to38 ⟨(rd_T24 l (i : Int)).f0, -1, -1⟩).f0, (to38 (rd_T29 (out.set i ⟨(rd_T24 l (i : Int)).f0, -1, -1⟩) (v : Int))).f1, (to38 ⟨(rd_T24 l (i : Int)).f0, -1, -1⟩).f2⟩ : S38) = to38 ⟨(rd_T24 l (i : Int)).f0, (rd_T29 (out.set i ⟨(rd_T24 l (i : Int)).f0, -1, -1⟩) (v : Int)).f1, -1⟩ from rfl, hph, set38, List.set_set, rd38, rd29_set _ hio]
            rw [show (to38 ⟨(rd_T24 l (i : Int)).f0, (p : Int), -1⟩).f1 = (p : Int) from rfl, if_pos (Int.natCast_nonneg p), if_pos n5, Option.bind_some, rd38, rd29_ne _ (v : Int) (Int.natCast_nonneg v) hne, Int.toNat_natCast, Int.toNat_natCast]
            rw [show (⟨(to38 (rd_T29 out (v : Int))).f0, -1, (to38 (rd_T29 out (v : Int))).f2⟩ : S38) = to38 ⟨(rd_T29 out (v : Int)).f0, -1, (rd_T29 out (v : Int)).f2⟩ from rfl, set38, rd38, rd29_set _ hvo]
            rw [show (⟨(to38 ⟨(rd_T29 out (v : Int)).f0, -1, (rd_T29 out (v : Int)).f2⟩).f0, (to38 ⟨(rd_T29 out (v : Int)).f0, -1, (rd_T29 out (v : Int)).f2⟩).f1, sl⟩ : S38) = to38 ⟨(rd_T29 out (v : Int)).f0, -1, sl⟩ from rfl, set38, List.set_set, wi, wsl]
        refine Ev.step (fun k => ?_) to4
        simp only [ratlineref18_Assign.l3, List.length_map, List.length_set]
        rw [if_neg n1, if_neg n2]
        rfl
    have h3 := l3_ref l i (out.set i ⟨(rd_T24 l i).f0, -1, -1⟩) sl (expire (endsB l i) held) (by omega) hfin (expire (endsB l i) held).length (Nat.le_refl _)
    rw [List.drop_length, expire_len] at h3
    have h2 := l2_ref l i (out.set i ⟨(rd_T24 l i).f0, -1, -1⟩) sl hil held (by omega) hI.le h3 held.length 0 (by omega)
    rw [List.take_zero, List.nil_append, List.drop_zero] at h2
    refine Ev.step (fun k => ?_) h2
    simp only [ratlineref18_Assign.l1, List.length_map]
    rw [if_pos (Int.ofNat_lt.2 hil), if_pos (Int.natCast_nonneg i), if_pos (Int.ofNat_lt.2 hio), rd47, Int.toNat_natCast]
    rw [show (⟨(to47 (rd_T24 l (i : Int))).f0, -1, -1⟩ : S38) = to38 ⟨(rd_T24 l (i : Int)).f0, -1, -1⟩ from rfl, set38]
    rfl
theorem l0_ref (hl : l.length ≤ 80) (M : Nat) (hM : M ≤ 1000) (out : List S29) {r : List S38} (hend : Ev (fun k => ratlineref18_Assign.l1 k (l.map to47) (out.map to38) (List.replicate M (-1)) 0 ((0 : Nat) : Int)) r) : ∀ (d j : Nat), M = j + d →
    Ev (fun k => ratlineref18_Assign.l0 k (l.map to47) (out.map to38) (List.replicate j (-1) ++ List.replicate d 0) j) r := by
  intro d
  induction d with
  | zero =>
    intro j hj
    obtain rfl : M = j := by omega
    rw [List.replicate_zero, List.append_nil]
    refine Ev.step (fun k => ?_) hend
    simp only [ratlineref18_Assign.l0, List.length_replicate]
    rw [if_neg (Int.lt_irrefl _)]
    rfl
  | succ d ih =>
    intro j hj
    have h1 : (List.replicate j (-1 : Int) ++ List.replicate (d + 1) 0).length = M := by rw [List.length_append, List.length_replicate, List.length_replicate]; omega
    have h2 : (List.replicate j (-1 : Int) ++ List.replicate (d + 1) 0).set j (-1) = List.replicate (j + 1) (-1) ++ List.replicate d 0 := by
      rw [List.set_append_right _ _ (by rw [List.length_replicate]; exact Nat.le_refl _), List.length_replicate, Nat.sub_self, List.replicate_succ, List.set_cons_zero, List.replicate_succ', List.append_assoc]
      rfl
    have := ih (j + 1) (by omega)
    rw [← h2] at this
    refine Ev.step (fun k => ?_) this
    simp only [ratlineref18_Assign.l0]
    rw [h1, if_pos (Int.ofNat_lt.2 (by omega)), if_pos (Int.natCast_nonneg j), Int.toNat_natCast, wS1 j (by omega)]
end
theorem ref_assign_ev (l : List S24) (hl : l.length ≤ 80) (n : Int) (N : Nat) (hn : (if n < 1 then 1 else n) = (N : Int)) (hN : N ≤ 16) :
    Ev (fun k => ratlineref18_Assign.f k (l.map to47) n) ((assignL l N).map to38) := by
  have hmx : mx n 1 = (N : Int) := by rw [← hn]; unfold mx; rfl
  have hw : wrap64 ((l.length : Int) + 1) = ((l.length + 1 : Nat) : Int) := wS1 _ (by omega)
  obtain ⟨M, hM1, hM2, hM3⟩ : ∃ M : Nat, mn (N : Int) ((l.length + 1 : Nat) : Int) = (M : Int) ∧ M ≤ 16 ∧ assignL l N = assignL l M := by
    by_cases h : l.length + 1 ≤ N
    · refine ⟨l.length + 1, ?_, by omega, assign_more l N h⟩
      unfold mn
      split <;> omega
    · refine ⟨N, ?_, by omega, rfl⟩
      unfold mn
      split <;> omega
  have h1 := l1_ref l hl M (by omega) l.length 0 (List.replicate l.length z29) (List.replicate M (-1)) 0 (by omega) (by simp) (by simp)
    ⟨fun p k h => by rw [List.getElem?_replicate] at h; split at h <;> simp at h; omega, fun p k h h0 => by rw [List.getElem?_replicate] at h; split at h <;> simp at h; omega⟩ (Int.le_refl _) (Int.le_refl _)
  have h0 := l0_ref l hl M (by omega) (List.replicate l.length z29) h1 M 0 (by omega)
  rw [List.replicate_zero, List.nil_append, List.map_replicate] at h0
  rw [hM3]
  refine Ev.congr (fun k => ?_) h0
  unfold ratlineref18_Assign.f
  rw [List.length_map, hmx, hw, hM1, if_pos (Int.natCast_nonneg _), Int.toNat_natCast, if_pos (by omega), if_pos (Int.natCast_nonneg _), Int.toNat_natCast, if_pos (by omega)]
  rfl
end Go.Proofs.Ytidhllheipopbaa.XCol
