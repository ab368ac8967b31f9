/- The pure part of ColorApart. -/
import Derived.Test.YtidhllheipopbaaColT
import Derived.Test.YtidhllheipopbaaColPA
import Derived.Test.YtidhllheipopbaaXColx3
import Derived.Test.YtidhllheipopbaaXColLColorApart
namespace Go.Proofs.Ytidhllheipopbaa.XCol
open Go.RowKit Go.Proofs.YtidhllheipopbaaW.PrintWords Go.Proofs.YtidhllheipopbaaW.PrintLast Go.Proofs.YtidhllheipopbaaW.PrintMore
theorem and7 (n : Int) : bits .and .i64 n 7 = n % 8 := by
  have h7 : (BitVec.ofInt 64 7).toNat = 2 ^ 3 - 1 := by decide
  have key : (BitVec.ofInt 64 n &&& BitVec.ofInt 64 7).toNat = (n % ((2 ^ 64 : Nat) : Int)).toNat % 2 ^ 3 := by
    rw [BitVec.toNat_and, BitVec.toNat_ofInt, h7, Nat.and_two_pow_sub_one_eq_mod]
  show IntKind.i64.wrap ((BitVec.ofInt 64 n &&& BitVec.ofInt 64 7).toNat : Nat) = n % 8
  rw [key, IntKind.wrap_i64]
  omega
theorem and31 (n : Int) : bits .and .i64 n 31 = n % 32 := by
  have h7 : (BitVec.ofInt 64 31).toNat = 2 ^ 5 - 1 := by decide
  have key : (BitVec.ofInt 64 n &&& BitVec.ofInt 64 31).toNat = (n % ((2 ^ 64 : Nat) : Int)).toNat % 2 ^ 5 := by
    rw [BitVec.toNat_and, BitVec.toNat_ofInt, h7, Nat.and_two_pow_sub_one_eq_mod]
  show IntKind.i64.wrap ((BitVec.ofInt 64 n &&& BitVec.ofInt 64 31).toNat : Nat) = n % 32
  rw [key, IntKind.wrap_i64]
  omega
def un47 (x : S24) : S47 := ⟨x.f0, x.f1, x.f2⟩
theorem rd24_snoc_lt (a : List S24) (x : S24) (q : Nat) (h : q < a.length) : rd_T24 (a ++ [x]) q = rd_T24 a q := by
  rw [rd24_get (by rw [List.length_append]; omega), rd24_get h, List.getElem_append_left h]
theorem rd24_snoc_eq (a : List S24) (x : S24) (q : Nat) (h : q = a.length) : rd_T24 (a ++ [x]) q = x := by
  subst h
  rw [rd24_get (by rw [List.length_append, List.length_singleton]; omega), List.getElem_concat_length rfl]
theorem Rise.snoc {a : List S24} (h : Rise a) (x : S24) (hx : ∀ q, q < a.length → (rd_T24 a q).f1 ≤ x.f1) (hx2 : x.f1 ≤ x.f2) : Rise (a ++ [x]) where
  up := by
    intro j k hjk hk
    rw [List.length_append, List.length_singleton] at hk
    by_cases e : k = a.length
    · rw [rd24_snoc_eq a x k e]
      by_cases e2 : j = a.length
      · rw [rd24_snoc_eq a x j e2]; exact Int.le_refl _
      · rw [rd24_snoc_lt a x j (by omega)]; exact hx j (by omega)
    · rw [rd24_snoc_lt a x k (by omega), rd24_snoc_lt a x j (by omega)]
      exact h.up j k hjk (by omega)
  ends := by
    intro k hk
    rw [List.length_append, List.length_singleton] at hk
    by_cases e : k = a.length
    · rw [rd24_snoc_eq a x k e]; exact hx2
    · rw [rd24_snoc_lt a x k (by omega)]; exact h.ends k (by omega)
theorem rise_l0 (l0 : List S46) (h60 : l0.length ≤ 60) : ∀ (d j : Nat) (a : List S24) (at_ : Int), l0.length = j + d → a.length = j → Rise a → (∀ q, q < a.length → (rd_T24 a q).f1 ≤ at_) → 0 ≤ at_ → at_ ≤ 7 * j →
    ∃ b : List S24, b.length = l0.length ∧ Rise b ∧ Ev (fun k => ratlinelaw18_rows.l0 k l0 a (a.map un47) at_ j) (b, b.map un47) := by
  intro d
  induction d with
  | zero =>
    intro j a at_ hj ha hR hat h0 h7
    refine ⟨a, by omega, hR, Ev.step (f := fun _ => some _) (fun k => ?_) (Ev.now _)⟩
    simp only [ratlinelaw18_rows.l0]
    rw [if_neg (by omega)]
  | succ d ih =>
    intro j a at_ hj ha hR hat h0 h7
    have e7 := and7 ((rd_T46 l0 (j : Int)).f1)
    have e31 := and31 ((rd_T46 l0 (j : Int)).f2)
    have w1 : wrap64 (at_ + (Go.bits .and .i64 ((rd_T46 l0 (j : Int)).f1) 7)) = at_ + (rd_T46 l0 (j : Int)).f1 % 8 := by rw [e7]; exact wrap_id (by omega) (by omega)
    have w2 : wrap64 ((wrap64 (at_ + (Go.bits .and .i64 ((rd_T46 l0 (j : Int)).f1) 7))) + (Go.bits .and .i64 ((rd_T46 l0 (j : Int)).f2) 31)) = at_ + (rd_T46 l0 (j : Int)).f1 % 8 + (rd_T46 l0 (j : Int)).f2 % 32 := by rw [w1, e31]; exact wrap_id (by omega) (by omega)
    obtain ⟨b, hb, hRb, he⟩ := ih (j + 1) (a ++ [⟨(j : Int), wrap64 (at_ + (Go.bits .and .i64 ((rd_T46 l0 (j : Int)).f1) 7)), wrap64 ((wrap64 (at_ + (Go.bits .and .i64 ((rd_T46 l0 (j : Int)).f1) 7))) + (Go.bits .and .i64 ((rd_T46 l0 (j : Int)).f2) 31))⟩]) (wrap64 (at_ + (Go.bits .and .i64 ((rd_T46 l0 (j : Int)).f1) 7))) (by omega) (by rw [List.length_append]; simp only [List.length_cons, List.length_nil]; omega)
      (hR.snoc _ (fun q hq => by have := hat q hq; simp only [w1]; omega) (by show wrap64 _ ≤ wrap64 _; omega))
      (by
        intro q hq
        rw [List.length_append, List.length_singleton] at hq
        by_cases e : q = a.length
        · rw [rd24_snoc_eq a _ q e]; exact Int.le_refl _
        · rw [rd24_snoc_lt a _ q (by omega), w1]; have := hat q (by omega); omega)
      (by rw [w1]; omega) (by rw [w1]; omega)
    refine ⟨b, hb, hRb, Ev.step (fun k => ?_) he⟩
    simp only [ratlinelaw18_rows.l0]
    rw [if_pos (by omega), if_pos (by omega), if_pos (by omega), if_pos (by rw [List.length_map]; omega), List.map_append, wrap_id (x := (j : Int) + 1) (by omega) (by omega)]
    rfl
theorem rise_ev (l0 : List S46) (h60 : l0.length ≤ 60) : ∃ b : List S24, b.length = l0.length ∧ Rise b ∧ Ev (fun k => ratlinelaw18_rows.f k l0) (b, b.map un47) := by
  obtain ⟨b, h1, h2, h3⟩ := rise_l0 l0 h60 l0.length 0 [] 0 (by omega) rfl ⟨fun j k _ hk => absurd hk (Nat.not_lt_zero _), fun k hk => absurd hk (Nat.not_lt_zero _)⟩ (fun q hq => absurd hq (Nat.not_lt_zero _)) (by omega) (by omega)
  exact ⟨b, h1, h2, Ev.congr (fun k => rfl) h3⟩
/-- what the law asks of the places -/
structure Ok (a : List S24) (out : List S29) (N : Nat) : Prop where
  rise : Rise a
  len : out.length = a.length
  l60 : a.length ≤ 60
  base : ∀ j : Nat, j < a.length → (rd_T29 out j).f0 = (rd_T24 a j).f0 ∧ ((0 ≤ (rd_T29 out j).f1 ∧ (rd_T29 out j).f1 < N ∧ (rd_T29 out j).f2 = -1) ∨ ((rd_T29 out j).f1 = -1 ∧ 0 ≤ (rd_T29 out j).f2))
  regs : ∀ j k : Nat, j < k → k < a.length → 0 ≤ (rd_T29 out j).f1 → (rd_T29 out j).f1 = (rd_T29 out k).f1 → (rd_T24 a j).f2 < (rd_T24 a k).f1
  slots : ∀ j k : Nat, j < k → k < a.length → 0 ≤ (rd_T29 out j).f2 → (rd_T29 out j).f2 ≠ (rd_T29 out k).f2
  more : (∃ j : Nat, j < a.length ∧ 0 ≤ (rd_T29 out j).f2) → ∃ m, m < a.length ∧ N < cover a m a.length
  few : (∀ j : Nat, j < a.length → (rd_T29 out j).f2 < 0) → ∀ m, m < a.length → cover a m a.length ≤ N
variable {a : List S24} {out : List S29} {N : Nat}
theorem Ok.apart (h : Ok a out N) {i k : Nat} (hi : i < a.length) (hk : k < a.length) (hne : k ≠ i) (ho : (rd_T24 a i).f1 ≤ (rd_T24 a k).f2 ∧ (rd_T24 a k).f1 ≤ (rd_T24 a i).f2) :
    (0 ≤ (rd_T29 out i).f1 → (rd_T29 out i).f1 ≠ (rd_T29 out k).f1) ∧ (0 ≤ (rd_T29 out i).f2 → (rd_T29 out i).f2 ≠ (rd_T29 out k).f2) := by
  rcases Nat.lt_or_ge i k with hik | hik
  · exact ⟨fun h0 e => by have := h.regs i k hik hk h0 e; omega, h.slots i k hik hk⟩
  · exact ⟨fun h0 e => by have := h.regs k i (by omega) hi (by omega) e.symm; omega, fun h0 e => h.slots k i (by omega) hi (by omega) e.symm⟩
theorem apart_j5 (h : Ok a out N) {i k0 : Nat} (hi : i < a.length) (hk : k0 < a.length) (sp most : Int)
    (hl : Ev (fun k => ratlinelaw18_ColorApart.l1 k (N : Int) a out sp most i ((cover a i (k0 + 1) : Nat) : Int) ((k0 + 1 : Nat) : Int)) true) :
    Ev (fun k => ratlinelaw18_ColorApart.j5 k (N : Int) a out sp most i ((cover a i k0 : Nat) : Int) (k0 : Int) false) true := by
  have hc := cover_succ a i k0
  have hcl := cover_le a i k0
  have h60 := h.l60
  have wk : wrap64 ((k0 : Int) + 1) = ((k0 + 1 : Nat) : Int) := by rw [wrap_id (by omega) (by omega)]; omega
  have wc : wrap64 (((cover a i k0 : Nat) : Int) + 1) = ((cover a i k0 + 1 : Nat) : Int) := by rw [wrap_id (by omega) (by omega)]; omega
  refine Ev.step (fun k => ?_) hl
  simp only [ratlinelaw18_ColorApart.j5]
  rw [if_neg (by decide), if_pos (by omega), if_pos (by omega), if_pos (by omega), if_pos (by omega), wk, wc]
  by_cases c1 : (rd_T24 a (k0 : Int)).f1 ≤ (rd_T24 a (i : Int)).f1
  · rw [if_pos c1]
    by_cases c2 : (rd_T24 a (k0 : Int)).f2 ≥ (rd_T24 a (i : Int)).f1
    · have e : atB a i k0 = true := by unfold atB; rw [decide_eq_true c1, decide_eq_true (show (rd_T24 a (i : Int)).f1 ≤ (rd_T24 a (k0 : Int)).f2 from c2)]; rfl
      rw [if_pos e] at hc
      rw [if_pos c2, hc]
    · have e : ¬ atB a i k0 = true := by unfold atB; rw [decide_eq_false (show ¬ (rd_T24 a (i : Int)).f1 ≤ (rd_T24 a (k0 : Int)).f2 from c2)]; simp
      rw [if_neg e] at hc
      rw [if_neg c2, hc]
      rfl
  · have e : ¬ atB a i k0 = true := by unfold atB; rw [decide_eq_false c1]; simp
    rw [if_neg e] at hc
    rw [if_neg c1, hc]
    rfl
theorem apart_j4 (h : Ok a out N) {i k0 : Nat} (hi : i < a.length) (hk : k0 < a.length) (sp most : Int)
    (hl : Ev (fun k => ratlinelaw18_ColorApart.l1 k (N : Int) a out sp most i ((cover a i (k0 + 1) : Nat) : Int) ((k0 + 1 : Nat) : Int)) true) :
    Ev (fun k => ratlinelaw18_ColorApart.j4 k (N : Int) a out sp most i ((cover a i k0 : Nat) : Int) (k0 : Int) (decide ((rd_T24 a (i : Int)).f1 ≤ (rd_T24 a (k0 : Int)).f2 ∧ (rd_T24 a (k0 : Int)).f1 ≤ (rd_T24 a (i : Int)).f2))) true := by
  have h5 := apart_j5 h hi hk sp most hl
  have hlen := h.len
  have hov : color_Overlap.f ((rd_T24 a (i : Int)).f0) ((rd_T24 a (i : Int)).f1) ((rd_T24 a (i : Int)).f2) ((rd_T24 a (k0 : Int)).f0) ((rd_T24 a (k0 : Int)).f1) ((rd_T24 a (k0 : Int)).f2) = some (decide ((rd_T24 a (i : Int)).f1 ≤ (rd_T24 a (k0 : Int)).f2 ∧ (rd_T24 a (k0 : Int)).f1 ≤ (rd_T24 a (i : Int)).f2)) := by
    unfold color_Overlap.f
    rw [if_pos (h.rise.ends i hi), if_pos (h.rise.ends k0 hk)]
    by_cases c : (rd_T24 a (i : Int)).f1 ≤ (rd_T24 a (k0 : Int)).f2
    · rw [if_pos c]; simp [c]
    · rw [if_neg c]; simp [c]
  refine Ev.step (fun k => ?_) h5
  simp only [ratlinelaw18_ColorApart.j4]
  rw [if_pos (by omega), if_pos (by omega), if_pos (by omega), if_pos (by omega), hov, Option.bind_some, if_neg (by simp)]
  by_cases c1 : (k0 : Int) = (i : Int)
  · rw [if_pos c1]
  · rw [if_neg c1]
    by_cases c2 : (rd_T24 a (i : Int)).f1 ≤ (rd_T24 a (k0 : Int)).f2 ∧ (rd_T24 a (k0 : Int)).f1 ≤ (rd_T24 a (i : Int)).f2
    · obtain ⟨g1, g2⟩ := h.apart hi hk (by omega) c2
      rw [if_pos (decide_eq_true c2), if_pos (by omega)]
      rcases (h.base i hi).2 with ⟨b1, b2, b3⟩ | ⟨b1, b2⟩
      · rw [if_pos b1, if_pos (by omega), if_neg (g1 b1), if_neg (by omega)]
      · rw [if_neg (by omega), if_pos b2, if_pos (by omega), beq_eq_false_iff_ne.2 (g2 b2)]
    · rw [if_neg (by rw [decide_eq_false c2]; decide)]
theorem apart_l1 (h : Ok a out N) {i : Nat} (hi : i < a.length) (sp most : Int)
    (hl : Ev (fun k => ratlinelaw18_ColorApart.l0 k (N : Int) a out sp (mx most ((cover a i a.length : Nat) : Int)) ((i + 1 : Nat) : Int)) true) : ∀ (d k0 : Nat), a.length = k0 + d →
    Ev (fun k => ratlinelaw18_ColorApart.l1 k (N : Int) a out sp most i ((cover a i k0 : Nat) : Int) (k0 : Int)) true := by
  have h60 := h.l60
  have hlen := h.len
  intro d
  induction d with
  | zero =>
    intro k0 hk0
    obtain rfl : k0 = a.length := by omega
    have wk : wrap64 ((i : Int) + 1) = ((i + 1 : Nat) : Int) := by rw [wrap_id (by omega) (by omega)]; omega
    refine Ev.step (fun k => ?_) hl
    simp only [ratlinelaw18_ColorApart.l1]
    rw [if_neg (by omega), wk]
  | succ d ih =>
    intro k0 hk0
    refine Ev.step (fun k => ?_) (apart_j4 h hi (show k0 < a.length by omega) sp most (ih (k0 + 1) (by omega)))
    simp only [ratlinelaw18_ColorApart.l1]
    rw [if_pos (by omega), if_pos (by omega), if_pos (by omega), if_pos (by omega), if_pos (by omega)]
    by_cases c : (rd_T24 a (i : Int)).f1 ≤ (rd_T24 a (k0 : Int)).f2
    · rw [if_pos c]; simp [c]
    · rw [if_neg c]; simp [c]
theorem apart_l0 (h : Ok a out N) : ∀ (d i : Nat) (sp most : Int), a.length = i + d → 0 ≤ sp → sp ≤ i → (sp = 0 → ∀ j : Nat, j < i → (rd_T29 out j).f2 < 0) → (0 < sp → ∃ j : Nat, j < i ∧ 0 ≤ (rd_T29 out j).f2) →
    0 ≤ most → (most = 0 ∨ ∃ m, m < i ∧ most = ((cover a m a.length : Nat) : Int)) → (∀ m, m < i → ((cover a m a.length : Nat) : Int) ≤ most) →
    Ev (fun k => ratlinelaw18_ColorApart.l0 k (N : Int) a out sp most (i : Int)) true := by
  have h60 := h.l60
  have hlen := h.len
  have h3 : Ev (fun k => (ratlinelaw18_awake.f k).bind fun t => (some t)) true := awake_ev.bind (f := fun _ t => some t) (Ev.now _)
  intro d
  induction d with
  | zero =>
    intro i sp most hd s0 s1 s2 s3 m0 m1 m2
    obtain rfl : i = a.length := by omega
    refine Ev.step (fun k => ?_) h3
    simp only [ratlinelaw18_ColorApart.l0]
    rw [if_neg (by omega)]
    by_cases c : sp = 0
    · have := h.few (s2 c)
      rw [if_pos c, if_pos (by
        rcases m1 with m1 | ⟨m, hm, e⟩
        · omega
        · have := this m hm; omega)]
    · obtain ⟨m, hm, hc⟩ := h.more (s3 (by omega))
      have := m2 m hm
      rw [if_neg c, if_pos (by omega), if_neg (by omega), if_pos (by omega)]
  | succ d ih =>
    intro i sp most hd s0 s1 s2 s3 m0 m1 m2
    have hi : i < a.length := by omega
    have hb := h.base i hi
    have hmx : most ≤ mx most ((cover a i a.length : Nat) : Int) ∧ ((cover a i a.length : Nat) : Int) ≤ mx most ((cover a i a.length : Nat) : Int) ∧ (mx most ((cover a i a.length : Nat) : Int) = most ∨ mx most ((cover a i a.length : Nat) : Int) = ((cover a i a.length : Nat) : Int)) := by
      unfold mx; split <;> omega
    have next : ∀ sp' : Int, 0 ≤ sp' → sp' ≤ (i + 1 : Nat) → (sp' = 0 → ∀ j : Nat, j < i + 1 → (rd_T29 out j).f2 < 0) → (0 < sp' → ∃ j : Nat, j < i + 1 ∧ 0 ≤ (rd_T29 out j).f2) →
        Ev (fun k => ratlinelaw18_ColorApart.l1 k (N : Int) a out sp' most i 0 0) true := by
      intro sp' p0 p1 p2 p3
      have := apart_l1 h hi sp' most (ih (i + 1) sp' (mx most ((cover a i a.length : Nat) : Int)) (by omega) p0 p1 p2 p3 (by omega)
        (by
          rcases hmx.2.2 with e | e
          · rcases m1 with m1 | ⟨m, hm, e2⟩
            · left; omega
            · right; exact ⟨m, by omega, by omega⟩
          · right; exact ⟨i, by omega, e⟩)
        (by
          intro m hm
          by_cases e : m = i
          · subst e; exact hmx.2.1
          · have := m2 m (by omega); omega)) a.length 0 (by omega)
      exact this
    have wk : wrap64 (sp + 1) = sp + 1 := wrap_id (by omega) (by omega)
    have hj2 : ∀ sp' : Int, Ev (fun k => ratlinelaw18_ColorApart.l1 k (N : Int) a out sp' most i 0 0) true → Ev (fun k => ratlinelaw18_ColorApart.j2 k (N : Int) a out sp' most i) true := by
      intro sp' hh
      refine Ev.step (fun k => ?_) hh
      simp only [ratlinelaw18_ColorApart.j2]
    have hj1 : Ev (fun k => ratlinelaw18_ColorApart.j1 k (N : Int) a out sp most i false) true := by
      by_cases c : (rd_T29 out (i : Int)).f2 ≥ 0
      · refine Ev.step (fun k => ?_) (hj2 (sp + 1) (next (sp + 1) (by omega) (by omega) (fun e => by omega) (fun _ => ⟨i, by omega, c⟩)))
        simp only [ratlinelaw18_ColorApart.j1]
        rw [if_neg (by decide), if_pos (by omega), if_pos (by omega), if_pos c, wk]
      · refine Ev.step (fun k => ?_) (hj2 sp (next sp s0 (by omega)
          (fun e j hj => by
            by_cases e2 : j = i
            · subst e2; omega
            · exact s2 e j (by omega))
          (fun e => by
            obtain ⟨j, hj, hj2⟩ := s3 e
            exact ⟨j, by omega, hj2⟩)))
        simp only [ratlinelaw18_ColorApart.j1]
        rw [if_neg (by decide), if_pos (by omega), if_pos (by omega), if_neg c]
    refine Ev.step (fun k => ?_) hj1
    simp only [ratlinelaw18_ColorApart.l0]
    have hx : ((decide ((rd_T29 out (i : Int)).f1 ≥ 0)) == (decide ((rd_T29 out (i : Int)).f2 ≥ 0))) = false := by
      rcases hb.2 with ⟨b1, b2, b3⟩ | ⟨b1, b2⟩
      · rw [decide_eq_true b1, decide_eq_false (by omega)]; rfl
      · rw [decide_eq_true b2, decide_eq_false (by omega)]; rfl
    have hn : decide ((rd_T29 out (i : Int)).f1 ≥ (N : Int)) = false := by
      rcases hb.2 with ⟨b1, b2, b3⟩ | ⟨b1, b2⟩
      · exact decide_eq_false (by omega)
      · exact decide_eq_false (by omega)
    rw [if_pos (by omega), if_pos (by omega), if_pos (by omega), if_pos hb.1, hx, if_neg (by decide), hn]
theorem apart_pure (l0 : List S46) (a1 : Int) : ∃ k, ratlinelaw18_ColorApart.f k l0 a1 = some true := by
  refine Ev.rounds (g := fun k => ratlinelaw18_ColorApart.f k l0 a1) ?_
  have h3 : Ev (fun k => (ratlinelaw18_awake.f k).bind fun t => (some t)) true := awake_ev.bind (f := fun _ t => some t) (Ev.now _)
  unfold ratlinelaw18_ColorApart.f
  by_cases h60 : (l0.length : Int) > 60
  · exact Ev.congr (fun k => if_pos h60) h3
  · refine Ev.congr (fun k => if_neg h60) ?_
    obtain ⟨b, hb, hR, hrows⟩ := rise_ev l0 (by omega)
    have hn : wrap64 (bits .and .i64 a1 15 + 1) = (((a1 % 16 + 1).toNat : Nat) : Int) := by rw [and15 a1, wrap_id (by omega) (by omega)]; omega
    have hN : (a1 % 16 + 1).toNat ≤ 16 ∧ 1 ≤ (a1 % 16 + 1).toNat := by omega
    generalize (a1 % 16 + 1).toNat = N at *
    have hA : color_Assign.f b (N : Int) = some (assignL b N) := by
      rw [color_Assign.f_eq, if_pos ⟨by omega, by omega⟩, if_neg (by omega), Int.toNat_natCast]
    obtain ⟨g1, g2, g3, g4, g5, g6⟩ := assign_apart (N := N) hR
    have hO : Ok b (assignL b N) N := ⟨hR, g1, by omega, fun j hj => ⟨(g2 j hj).1, (g2 j hj).2.imp id fun x => ⟨x.1, x.2.1⟩⟩, g3, g4, g5, g6⟩
    have hl := apart_l0 hO b.length 0 0 0 (by omega) (by omega) (by omega) (fun _ j hj => absurd hj (Nat.not_lt_zero _)) (fun h => by omega) (by omega) (.inl rfl) (fun m hm => absurd hm (Nat.not_lt_zero _))
    refine hrows.bind (f := fun k bt => _) ?_
    rw [hn]
    refine Ev.congr (fun k => by rw [hA, Option.bind_some]) ?_
    refine Ev.congr (fun k => ?_) hl
    rw [if_pos (by rw [g1])]
    rfl
end Go.Proofs.Ytidhllheipopbaa.XCol
