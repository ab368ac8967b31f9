/- XA, joined: XaL. -/
import Derived.Test.YtjofmihdeblbmaaGreatDoorXaM15
/- XA, part L: a region that draws its order: every order comes to what the walked one comes to. -/
namespace Go.Proofs.YtjofmihdeblbmaaGreatDoor.Xa
open Go Go.RowKit
set_option linter.unusedVariables false
set_option linter.unusedSimpArgs false
section
variable {E : Env} {ops : Array Oper} {B : List Nat}
def Hyp (ops : Array Oper) (listed : Array Bool) (i : Nat) : Prop := ∀ o, ops[i]? = some o → ∀ k ∈ preds o, listed.getD k false = true
def DC (ops : Array Oper) (listed : Array Bool) : Prop := ∀ i, listed.getD i false = true → Hyp ops listed i
def Good (ops : Array Oper) (acc : List Nat) : Prop := ∀ i k, (acc.getD i 0).testBit k = true → ∀ listed, DC ops listed → Hyp ops listed i → listed.getD k false = true
theorem mask_bit (acc : List Nat) (x : Nat) : ∀ (l : List Nat) (m0 : Nat), (l.foldl (fun m k => m ||| 2 ^ k ||| acc.getD k 0) m0).testBit x = true → m0.testBit x = true ∨ ∃ k ∈ l, x = k ∨ (acc.getD k 0).testBit x = true
  | [], m0, h => .inl h
  | k :: l, m0, h => by
    rw [List.foldl_cons] at h
    rcases mask_bit acc x l _ h with h1 | ⟨q, h1, h2⟩
    · simp only [Nat.testBit_or, Nat.testBit_two_pow, Bool.or_eq_true, decide_eq_true_eq] at h1
      rcases h1 with (h1 | h1) | h1
      · exact .inl h1
      · exact .inr ⟨k, by simp, .inl h1.symm⟩
      · exact .inr ⟨k, by simp, .inr h1⟩
    · exact .inr ⟨q, by simp [h1], h2⟩
theorem good_step {acc : List Nat} (hg : Good ops acc) (i : Nat) : Good ops (cloStep ops acc i) := by
  unfold cloStep
  split
  · rename_i o ho
    intro j k hb listed hd hh
    by_cases hij : i = j
    · subst hij
      by_cases hlt : i < acc.length
      · have e : (acc.set i ((preds o).foldl (fun m k => m ||| 2 ^ k ||| acc.getD k 0) 0)).getD i 0 = (preds o).foldl (fun m k => m ||| 2 ^ k ||| acc.getD k 0) 0 := by
          simp [hlt]
        rw [e] at hb
        rcases mask_bit acc k _ _ hb with h1 | ⟨q, h1, rfl | h2⟩
        · simp at h1
        · exact hh o ho k h1
        · have h3 := hh o ho q h1
          exact hg q k h2 listed hd (hd q h3)
      · have e : (acc.set i ((preds o).foldl (fun m k => m ||| 2 ^ k ||| acc.getD k 0) 0)).getD i 0 = 0 := by
          rw [List.set_eq_of_length_le (by omega)]
          simp [List.getElem?_eq_none (show acc.length ≤ i by omega)]
        rw [e] at hb
        simp at hb
    · have e : (acc.set i ((preds o).foldl (fun m k => m ||| 2 ^ k ||| acc.getD k 0) 0)).getD j 0 = acc.getD j 0 := by
        simp [List.getElem?_set_ne hij]
      rw [e] at hb
      exact hg j k hb listed hd hh
  · exact hg
theorem good_clo (L : List Nat) : Good ops (clo ops L) := by
  unfold clo
  have h0 : Good ops (List.replicate ops.size 0) := by
    intro i k hb
    have : (List.replicate ops.size 0).getD i 0 = 0 := by
      by_cases hi : i < ops.size
      · simp [hi]
      · simp [hi]
    rw [this] at hb
    simp at hb
  generalize List.replicate ops.size 0 = acc at h0
  induction L generalizing acc with
  | nil => exact h0
  | cons i L ih => exact ih _ (good_step h0 i)

/-- what the checks say -/
def PairR (ops : Array Oper) (X : List XOp) (B : List Nat) (i k : Nat) : Prop := (B.getD k 0).testBit i = true ∨ ∃ x y, X[i]? = some x ∧ X[k]? = some y ∧ mayPass ops x y = true
theorem pairs_of {X : List XOp} : ∀ {L : List Nat}, pairsOk ops X B L = true → L.Pairwise (PairR ops X B)
  | [], _ => .nil
  | i :: r, h => by
    simp only [pairsOk, Bool.and_eq_true, List.all_eq_true] at h
    refine .cons (fun k hk => ?_) (pairs_of h.2)
    have := h.1 k hk
    rcases Bool.or_eq_true_iff.1 this with h1 | h1
    · exact .inl h1
    · split at h1
      · rename_i x y hx hy
        exact .inr ⟨x, y, hx, hy, h1⟩
      · cases h1
def LinR (ops : Array Oper) (i k : Nat) : Prop := i ≠ k ∧ ∀ o, ops[i]? = some o → k ∉ preds o
theorem linear_of : ∀ {L seen : List Nat}, linearOk ops seen L = true → L.Pairwise (LinR ops) ∧ (∀ i ∈ L, i ∉ seen ∧ ∃ o, ops[i]? = some o ∧ i ∉ preds o ∧ ∀ k ∈ preds o, k ∈ seen ∨ k ∈ L)
  | [], seen, _ => ⟨.nil, by simp⟩
  | i :: r, seen, h => by
    simp only [linearOk, Bool.and_eq_true] at h
    obtain ⟨⟨h1, h2⟩, h3⟩ := h
    obtain ⟨p1, p2⟩ := linear_of h3
    have hs : i ∉ seen := by simpa using h2
    split at h1
    · rename_i o ho
      simp only [List.all_eq_true] at h1
      have hp : ∀ k ∈ preds o, k ∈ seen := fun k hk => by simpa using h1 k hk
      refine ⟨.cons (fun k hk => ⟨?_, fun o' ho' hmem => ?_⟩) p1, ?_⟩
      · rintro rfl
        exact (p2 i hk).1 (by simp)
      · rw [ho] at ho'
        obtain rfl := Option.some.inj ho'
        exact (p2 k hk).1 (List.mem_cons_of_mem _ (hp k hmem))
      · intro j hj
        rcases List.mem_cons.1 hj with rfl | hj
        · exact ⟨hs, o, ho, fun hm => hs (hp _ hm), fun k hk => .inl (hp k hk)⟩
        · obtain ⟨q1, o', q2, q3, q4⟩ := p2 j hj
          refine ⟨fun hm => q1 (List.mem_cons_of_mem _ hm), o', q2, q3, fun k hk => ?_⟩
          rcases q4 k hk with h5 | h5
          · rcases List.mem_cons.1 h5 with rfl | h5
            · exact .inr (by simp)
            · exact .inl h5
          · exact .inr (List.mem_cons_of_mem _ h5)
    · cases h1

theorem getD_tt {listed : Array Bool} {i : Nat} (h : listed.getD i false = true) : listed.getD i true = true := by
  by_cases hi : i < listed.size
  · simp [hi] at h ⊢; exact h
  · simp [hi]
theorem getD_ff {listed : Array Bool} {i : Nat} (hi : i < listed.size) (h : listed.getD i false ≠ true) : listed.getD i true = false := by
  simp [hi] at h ⊢; exact h
theorem getD_set_self {listed : Array Bool} {i : Nat} : (listed.setIfInBounds i true).getD i true = true := by
  by_cases hi : i < listed.size
  · simp [hi]
  · simp [hi]
theorem getD_set_false {listed : Array Bool} {i j : Nat} (h : (listed.setIfInBounds i true).getD j false = true) : j = i ∨ listed.getD j false = true := by
  by_cases hij : i = j
  · exact .inl hij.symm
  · rw [getD_set_ne false hij] at h; exact .inr h
def item (ops : Array Oper) (i : Nat) : Nat × XOp := (i, (annot [] ops.toList).getD i ⟨default, .norm⟩)
theorem item_eq {i : Nat} {x : XOp} (h : (annot [] ops.toList)[i]? = some x) : item ops i = (i, x) := by
  unfold item
  rw [List.getD_eq_getElem?_getD, h]; rfl
theorem annot_get {i : Nat} {o : Oper} (h : ops[i]? = some o) : ∃ x, (annot [] ops.toList)[i]? = some x ∧ x.o = o := by
  have h1 : ((annot [] ops.toList).map (fun x => x.o))[i]? = some o := by rw [annot_o]; simpa using h
  rw [List.getElem?_map] at h1
  cases hq : (annot [] ops.toList)[i]? with
  | none => rw [hq] at h1; cases h1
  | some x => rw [hq] at h1; exact ⟨x, rfl, Option.some.inj h1⟩

theorem any_of_xd (hgood : Good ops B) {Q : Exit → Act → World → Prop} {K : List V → H → Prop} {L : List Nat} (hL : ∀ i ∈ L, i < ops.size) (hlin : ∀ i ∈ L, ∃ o, ops[i]? = some o ∧ i ∉ preds o ∧ ∀ k ∈ preds o, k ∈ L) :
    ∀ (fuel : Nat) (R : List Nat) (listed : Array Bool) {κ : Kp} {h : H} {w : World} {fr : List V} {a : Act} {d : Option Debt}, R.length ≤ fuel → listed.size = ops.size → (∀ i, i ∈ R ↔ i ∈ L ∧ listed.getD i true = false) → (∀ i, i < ops.size → i ∈ L) →
      R.Pairwise (PairR ops (annot [] ops.toList) B) → R.Pairwise (LinR ops) → DC ops listed → xd E ops B (R.map (item ops)) fr h [] d K → E.I κ.w0 → RelD E.P κ h w d → FR κ fr a →
      (∀ κ' fr' h' w' a', κ.le κ' → FR κ' fr' a' → Rel E.P κ' h' w' → K fr' h' → Q .normal a' w') → wpAny E.P .any ops Q fuel listed a w := by
  intro fuel
  induction fuel with
  | zero =>
    intro R listed κ h w fr a d hf hsz hR hall hp hl hd hx hI Rl F hk
    have hR0 : R = [] := List.eq_nil_of_length_eq_zero (by omega)
    subst hR0
    obtain ⟨rfl, hx⟩ := hx
    have hr : Region.ready .any ops listed = [] := by
      cases hq : Region.ready .any ops listed with
      | nil => rfl
      | cons j r =>
        have hj : j ∈ Region.ready .any ops listed := by rw [hq]; simp
        obtain ⟨h1, o, ho, _⟩ := mem_ready.1 hj
        exact absurd ((hR j).2 ⟨hall j (Array.getElem?_eq_some_iff.1 ho).1, h1⟩) (by simp)
    exact wpAny_done hr (hk κ fr h w a (.refl κ) F Rl hx) 0
  | succ fuel ih =>
    intro R listed κ h w fr a d hf hsz hR hall hp hl hd hx hI Rl F hk
    cases R with
    | nil =>
      obtain ⟨rfl, hx⟩ := hx
      have hr : Region.ready .any ops listed = [] := by
        cases hq : Region.ready .any ops listed with
        | nil => rfl
        | cons j r =>
          have hj : j ∈ Region.ready .any ops listed := by rw [hq]; simp
          obtain ⟨h1, o, ho, _⟩ := mem_ready.1 hj
          exact absurd ((hR j).2 ⟨hall j (Array.getElem?_eq_some_iff.1 ho).1, h1⟩) (by simp)
      exact wpAny_done hr (hk κ fr h w a (.refl κ) F Rl hx) _
    | cons r0 R0 =>
      -- the first that is left is ready
      have hready0 : r0 ∈ Region.ready .any ops listed := by
        have hr0 := (hR r0).1 (by simp)
        obtain ⟨o, ho, hself, hpr⟩ := hlin r0 hr0.1
        refine mem_ready.2 ⟨hr0.2, o, ho, fun e he hb => ?_⟩
        have hmem : e.on ∈ preds o := List.mem_map.2 ⟨e, List.mem_filter.2 ⟨by simpa using he, hb⟩, rfl⟩
        refine Classical.byContradiction fun hne => ?_
        have hlt : e.on < listed.size := by rw [hsz]; exact hL _ (hpr _ hmem)
        have hin := (hR e.on).2 ⟨hpr _ hmem, getD_ff hlt hne⟩
        rcases List.mem_cons.1 hin with h1 | h1
        · rw [h1] at hmem; exact hself hmem
        · exact ((List.pairwise_cons.1 hl).1 e.on h1).2 o ho hmem
      refine ⟨fun h0 => (by rw [h0] at hready0; cases hready0), fun i hi => ?_⟩
      obtain ⟨hun, o, ho, hpre⟩ := mem_ready.1 hi
      have hhyp : Hyp ops listed i := fun o' ho' k hk => by
        rw [ho] at ho'
        obtain rfl := Option.some.inj ho'
        obtain ⟨e, he, rfl⟩ := List.mem_map.1 hk
        obtain ⟨he1, he2⟩ := List.mem_filter.1 he
        exact hpre e (by simpa using he1) he2
      have hiR : i ∈ r0 :: R0 := (hR i).2 ⟨hall i (Array.getElem?_eq_some_iff.1 ho).1, hun⟩
      obtain ⟨A, C, hAC⟩ := List.append_of_mem hiR
      rw [hAC] at hx hp hl hR hf
      clear hAC hready0
      have hpA := (List.pairwise_append.1 hp).2.2
      have hlA := (List.pairwise_append.1 hl).2.2
      obtain ⟨x, hxi, hxo⟩ := annot_get ho
      subst hxo
      have hAmap : ∀ y ∈ A.map (item ops), mayPass ops y.2 x = true ∧ (B.getD i 0).testBit y.1 = false := by
        intro y hy
        obtain ⟨q, hq, rfl⟩ := List.mem_map.1 hy
        have hxu := ((hR q).1 (by simp [hq])).2
        have hnb : (B.getD i 0).testBit q = false := by
          cases hb : (B.getD i 0).testBit q with
          | false => rfl
          | true =>
            have := getD_tt (hgood i q hb listed hd hhyp)
            rw [this] at hxu; cases hxu
        rcases hpA q hq i (by simp) with h1 | ⟨ox, oy, h1, h2, h3⟩
        · rw [h1] at hnb; cases hnb
        · rw [hxi] at h2
          obtain rfl := Option.some.inj h2
          rw [item_eq h1]
          exact ⟨h3, hnb⟩
      rw [List.map_append, List.map_cons, item_eq hxi] at hx
      have hnotin : i ∉ A ∧ i ∉ C := by
        refine ⟨fun hm => (hlA i hm i (by simp)).1 rfl, fun hm => ((List.pairwise_cons.1 (List.pairwise_append.1 hl).2.1).1 i hm).1 rfl⟩
      -- what comes behind
      have next : ∀ {κ' : Kp} {h' : H} {w' : World} {v : V} {c : Value} {d' : Option Debt}, κ.le κ' → VRel κ' v c → RelD E.P κ' h' w' d' → xd E ops B ((A ++ C).map (item ops)) (put fr x.o.dst v) h' [] d' K →
          wpAny E.P .any ops Q fuel (listed.setIfInBounds i true) (a.put x.o.dst c) w' := by
        intro κ' h' w' v c d' g1 g2 g3 g4
        refine ih (A ++ C) (listed.setIfInBounds i true) ?_ (by simpa using hsz) ?_ hall ?_ ?_ ?_ g4 (by rw [g1.w0]; exact hI) g3 ((F.mono g1).put g2 x.o.dst) (fun κ'' fr' h' w' a' q1 q2 q3 q4 => hk κ'' fr' h' w' a' (g1.trans q1) q2 q3 q4)
        · simp at hf ⊢; omega
        · intro j
          by_cases hji : j = i
          · subst hji
            constructor
            · intro hm
              rcases List.mem_append.1 hm with hm | hm
              · exact absurd hm hnotin.1
              · exact absurd hm hnotin.2
            · rintro ⟨_, hm⟩
              rw [getD_set_self] at hm; cases hm
          · rw [getD_set_ne true (Ne.symm hji)]
            rw [← hR j]
            simp [hji]
        · exact hp.sublist (List.Sublist.append_left (List.sublist_cons_self _ _) _)
        · exact hl.sublist (List.Sublist.append_left (List.sublist_cons_self _ _) _)
        · intro j hj o' ho' k hk'
          rcases getD_set_false hj with rfl | hj
          · exact getD_set_true (hhyp o' ho' k hk')
          · exact getD_set_true (hd j hj o' ho' k hk')
      unfold wpOp
      rw [ho]
      dsimp only
      have h2 := xd_front (k := (i, x)) (A.map (item ops)) hAmap hx
      dsimp only at h2
      rw [← List.map_append] at h2
      cases hw : xwant ops x.o fr with
      | none => rw [hw] at h2; exact h2.elim
      | some b =>
        rw [hw] at h2
        rw [xwant_ok F hw]
        cases b with
        | true =>
          rw [if_pos rfl]
          refine .inl (xstep_ok h2 hI Rl F ?_)
          rintro κ' v c h' w' d' g1 g2 g3 ⟨_, g4⟩
          exact next g1 g2 g3 g4
        | false =>
          rw [if_neg (by decide)]
          exact next (.refl κ) undef_rel Rl h2

/-- A region that draws. -/
theorem XW.draw (hm : E.P.follows .mixedOrders = true) {id : Nat} {L : List Nat} {Q : XE → List V → H → Prop} {fr : List V} {h : H} (hs : drawOk ops L = true) (hx : xd E ops (clo ops L) (L.map (item ops)) fr h [] none (Q .normal)) : XW E (.region id ops true) Q fr h := by
  intro κ w a hI R F
  simp only [drawOk, Bool.and_eq_true, List.all_eq_true] at hs
  obtain ⟨⟨⟨⟨hlin, hpair⟩, hall⟩, hlt⟩, hsel⟩ := hs
  obtain ⟨p1, p2⟩ := linear_of hlin
  have hL : ∀ i ∈ L, i < ops.size := fun i hi => by simpa using hlt i hi
  have hall' : ∀ i, i < ops.size → i ∈ L := fun i hi => by simpa using hall i (List.mem_range.2 hi)
  have hnd : L.Nodup := p1.imp fun h => h.1
  have hlen : L.length ≤ ops.size := by
    have := List.Nodup.length_le_of_subset hnd (l₂ := List.range ops.size) (fun i hi => List.mem_range.2 (hL i hi))
    simpa using this
  refine wp_region_any hm (any_of_xd (K := Q .normal) (d := none) (good_clo L) hL (fun i hi => ?_) ops.size L (Array.replicate ops.size false) hlen (by simp) ?_ hall' (pairs_of hpair) p1 ?_ hx hI (R.under (below_drew w)) F ?_)
  · obtain ⟨_, o, h1, h2, h3⟩ := p2 i hi
    exact ⟨o, h1, h2, fun k hk => (h3 k hk).resolve_left (by simp)⟩
  · intro i
    constructor
    · intro hi
      have := hL i hi
      exact ⟨hi, by simp [this]⟩
    · exact fun h => h.1
  · intro i hi
    by_cases hi' : i < ops.size
    · simp [hi'] at hi
    · simp [hi'] at hi
  · intro κ' fr' h' w' a' h1 h2 h3 h4
    exact ⟨κ', fr', h', h1, h2, h3, h4⟩
end
end Go.Proofs.YtjofmihdeblbmaaGreatDoor.Xa
