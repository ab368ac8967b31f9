/- Whole numbers as words: sums, products and quotients of small ones are exact. -/
import Derived.Test.YthgoihblpeeogaaFltLaws
namespace Go.Proofs.Ythgoihblpeeogaa
open Ieee
/-- the word of a whole number -/
def fw (n : Int) : Nat := Ieee.double.nearest (decide (n < 0)) n.natAbs 0
theorem floatOfInt_fw (n : Int) : floatOfInt .f64 n = fw n := rfl
theorem fw_zero : fw 0 = 0 := by decide +kernel
theorem read_word (s : Bool) (r : Nat) (h : r < infB) : Ieee.double.read (Ieee.double.word s r) =
    if r < 2 ^ 52 then .number s r (-1074) else .number s (2 ^ 52 + r % 2 ^ 52) (-1074 + ((r / 2 ^ 52 - 1 : Nat) : Int)) := by
  have h1 : Ieee.double.word s r % 2 ^ 63 = r := by
    unfold Format.word infB at *; rw [dbl_sw]; cases s <;> simp <;> omega
  have h2 : minusB (Ieee.double.word s r) = s := by
    unfold Format.word minusB infB at *; rw [dbl_sw]
    cases s
    · exact decide_eq_false (by simp only [Bool.false_eq_true, if_false]; omega)
    · exact decide_eq_true (by simp only [if_true]; omega)
  rw [read_eq, h1, h2]
  by_cases e : r < 2 ^ 52
  · rw [if_pos e, if_pos e]
  · rw [if_neg e, if_neg e, if_pos h]
theorem rung_fw (L u : Nat) (h : L ≤ 52) (hb : u < 9007199254740992) : min ((L + 1022) * 4503599627370496 + u) 9218868437227405312 = (L + 1022) * 4503599627370496 + u := by omega
theorem fw_rung (m L : Nat) (h1 : 2 ^ L ≤ m) (h2 : m < 2 ^ (L + 1)) (hL : L ≤ 52) (s : Bool) :
    Ieee.double.nearest s m 0 = Ieee.double.word s ((L + 1022) * 4503599627370496 + m * 2 ^ (52 - L)) := by
  have hm : m ≠ 0 := by have := Nat.two_pow_pos L; omega
  have hl : m.log2 = L := log2_is m L h1 h2
  unfold Format.nearest
  rw [if_neg hm, hl]
  have hfb : (Ieee.double.fractionBits : Int) = 52 := rfl
  simp only [dbl_least, dbl_bin, dbl_inf, hfb]
  have e : max ((0 : Int) + (L : Int) - 52) (-1074) = (L : Int) - 52 := by omega
  rw [e]
  have e1 : ((0 : Int) - ((L : Int) - 52)).toNat = 52 - L := by omega
  have e2 : ((L : Int) - 52 - 0).toNat = 0 := by omega
  have e3 : ((L : Int) - 52 - -1074).toNat = L + 1022 := by omega
  rw [e1, e2, e3, cut_exact s (m <<< (52 - L)) 0 (.inr rfl) _ (by rw [Nat.pow_zero, Nat.mul_one]), Nat.shiftLeft_eq]
  have hb : m * 2 ^ (52 - L) < 2 ^ 53 := by
    have : m * 2 ^ (52 - L) < 2 ^ (L + 1) * 2 ^ (52 - L) := Nat.mul_lt_mul_of_pos_right h2 (Nat.two_pow_pos _)
    rw [← Nat.pow_add, show L + 1 + (52 - L) = 53 by omega] at this; exact this
  exact congrArg _ (rung_fw L _ hL hb)
theorem read_fw (n : Int) (h : n.natAbs < 2 ^ 53) : ∃ k : Nat, Ieee.double.read (fw n) = .number (decide (n < 0)) (n.natAbs * 2 ^ k) (-(k : Int)) := by
  by_cases h0 : n = 0
  · subst h0
    obtain ⟨k, hk⟩ : ∃ k : Nat, k = 1074 := ⟨_, rfl⟩
    exact ⟨k, by rw [fw_zero, read_zero, Int.natAbs_zero, Nat.zero_mul, hk]; rfl⟩
  have hm : n.natAbs ≠ 0 := by omega
  have h1 := (Nat.log2_eq_iff hm).1 rfl
  have hL : n.natAbs.log2 ≤ 52 := by
    have : n.natAbs.log2 < 53 := (Nat.log2_lt hm).2 h
    omega
  unfold fw
  rw [fw_rung _ _ h1.1 h1.2 hL]
  generalize n.natAbs.log2 = L at *
  generalize n.natAbs = m at *
  have hb : m * 2 ^ (52 - L) < 2 ^ 53 := by
    have : m * 2 ^ (52 - L) < 2 ^ (L + 1) * 2 ^ (52 - L) := Nat.mul_lt_mul_of_pos_right h1.2 (Nat.two_pow_pos _)
    rw [← Nat.pow_add, show L + 1 + (52 - L) = 53 by omega] at this; exact this
  have ha : 2 ^ 52 ≤ m * 2 ^ (52 - L) := by
    have : 2 ^ L * 2 ^ (52 - L) ≤ m * 2 ^ (52 - L) := Nat.mul_le_mul_right _ h1.1
    rw [← Nat.pow_add, show L + (52 - L) = 52 by omega] at this; exact this
  refine ⟨52 - L, ?_⟩
  generalize hu : m * 2 ^ (52 - L) = u at *
  rw [read_word _ _ (by unfold infB; omega), if_neg (by omega)]
  have e1 : 2 ^ 52 + ((L + 1022) * 4503599627370496 + u) % 2 ^ 52 = u := by omega
  have e2 : ((L + 1022) * 4503599627370496 + u) / 2 ^ 52 - 1 = L + 1022 := by omega
  rw [e1, e2]
  have e3 : (-1074 : Int) + ((L + 1022 : Nat) : Int) = -((52 - L : Nat) : Int) := by omega
  rw [e3]
theorem fin_of_read {x m : Nat} {s : Bool} {p : Int} (h : Ieee.double.read x = .number s m p) : fin x = true := by
  rcases three x with f | ⟨f, g⟩ | f
  · exact f
  · rw [read_inf x f g] at h; cases h
  · rw [read_nan x f] at h; cases h
theorem fin_fw (n : Int) (h : n.natAbs < 2 ^ 53) : fin (fw n) = true := by
  obtain ⟨k, hk⟩ := read_fw n h
  exact fin_of_read hk
theorem not_nought_fw (n : Int) (h : n.natAbs < 2 ^ 53) (h0 : n ≠ 0) : nought (fw n) = false := by
  obtain ⟨k, hk⟩ := read_fw n h
  cases e : nought (fw n) with
  | false => rfl
  | true =>
    rw [read_nought _ e] at hk
    have := (Datum.number.inj hk).2.1
    have h2 : 0 < n.natAbs * 2 ^ k := Nat.mul_pos (by omega) (Nat.two_pow_pos k)
    omega
theorem clean_fw (n : Int) (h : n.natAbs < 2 ^ 53) : clean (fw n) := by
  refine ⟨fin_fw n h, ?_⟩
  rw [cl_eq]
  by_cases h0 : n = 0
  · subst h0; rw [fw_zero]; simp
  · rw [not_nought_fw n h h0]; simp
theorem nearest_fw (n : Int) (K : Nat) : Ieee.double.nearest (decide (n < 0)) (n.natAbs * 2 ^ K) (-(K : Int)) = fw n := by
  have := nearest_shift (decide (n < 0)) n.natAbs 0 K
  rw [Int.zero_sub] at this; exact this
theorem signed_int (n : Int) (k j : Nat) : signed (decide (n < 0)) (n.natAbs * 2 ^ k) j = n * (2 ^ (k + j) : Nat) := by
  have e : (n.natAbs * 2 ^ k) <<< j = n.natAbs * 2 ^ (k + j) := by rw [Nat.shiftLeft_eq, Nat.mul_assoc, ← Nat.pow_add]
  unfold signed
  rw [e]
  generalize 2 ^ (k + j) = P
  rw [Int.natCast_mul]
  by_cases h : n < 0
  · rw [decide_eq_true h, if_pos rfl, show (n.natAbs : Int) = -n by omega, Int.neg_mul, Int.neg_neg]
  · rw [decide_eq_false h, if_neg (by decide), show (n.natAbs : Int) = n by omega]
theorem add_fw (a b : Int) (ha : a.natAbs < 2 ^ 53) (hb : b.natAbs < 2 ^ 53) : Oq (floatBits .add .f64 (fw a) (fw b)) (some (fw (a + b))) := by
  obtain ⟨k, hk⟩ := read_fw a ha
  obtain ⟨j, hj⟩ := read_fw b hb
  rw [add_is, hk, hj, sum_num]
  have key : ∀ K : Nat, k ≤ K → j ≤ K → Oq (some (Ieee.double.write (.number (if signed (decide (a < 0)) (a.natAbs * 2 ^ k) (-(k : Int) - -(K : Int)).toNat + signed (decide (b < 0)) (b.natAbs * 2 ^ j) (-(j : Int) - -(K : Int)).toNat = 0 then decide (a < 0) && decide (b < 0) else decide (signed (decide (a < 0)) (a.natAbs * 2 ^ k) (-(k : Int) - -(K : Int)).toNat + signed (decide (b < 0)) (b.natAbs * 2 ^ j) (-(j : Int) - -(K : Int)).toNat < 0)) (signed (decide (a < 0)) (a.natAbs * 2 ^ k) (-(k : Int) - -(K : Int)).toNat + signed (decide (b < 0)) (b.natAbs * 2 ^ j) (-(j : Int) - -(K : Int)).toNat).natAbs (-(K : Int))))) (some (fw (a + b))) := by
    intro K h1 h2
    have e1 : k + (-(k : Int) - -(K : Int)).toNat = K := by omega
    have e2 : j + (-(j : Int) - -(K : Int)).toNat = K := by omega
    rw [signed_int, signed_int, e1, e2, ← Int.add_mul]
    have hp := Nat.two_pow_pos K
    refine .inr ⟨_, _, rfl, rfl, ?_⟩
    rw [write_num]
    by_cases h0 : a + b = 0
    · rw [h0, Int.zero_mul, Int.natAbs_zero, nearest_zero, fw_zero]
      exact .inr ⟨nought_word _, by decide⟩
    · left
      have hP : ((2 ^ K : Nat) : Int) ≠ 0 := by omega
      rw [if_neg (Int.mul_ne_zero h0 hP), Int.natAbs_mul, Int.natAbs_natCast]
      have e3 : decide ((a + b) * ((2 ^ K : Nat) : Int) < 0) = decide (a + b < 0) := by
        apply decide_eq_decide.2
        have hP' : (0 : Int) < ((2 ^ K : Nat) : Int) := by omega
        constructor
        · intro h
          by_cases hh : a + b < 0
          · exact hh
          · have := Int.mul_nonneg (show 0 ≤ a + b by omega) (Int.le_of_lt hP'); omega
        · intro h; exact Int.mul_neg_of_neg_of_pos h hP'
      rw [e3, nearest_fw]
  by_cases h : k ≤ j
  · have e : min (-(k : Int)) (-(j : Int)) = -(j : Int) := by omega
    rw [e]; exact key j h (Nat.le_refl _)
  · have e : min (-(k : Int)) (-(j : Int)) = -(k : Int) := by omega
    rw [e]; exact key k (Nat.le_refl _) (by omega)
theorem ng_fw (b : Int) (hb : b.natAbs < 2 ^ 53) : Wq (ng (fw b)) (fw (-b)) := by
  by_cases h : b = 0
  · subst h; rw [Int.neg_zero, fw_zero]; exact .inr ⟨by decide, by decide⟩
  · left
    unfold fw
    rw [Int.natAbs_neg, ← nearest_not _ _ _ (by omega)]
    congr 1
    rw [Bool.eq_iff_iff]; simp; omega
theorem sub_fw (a b : Int) (ha : a.natAbs < 2 ^ 53) (hb : b.natAbs < 2 ^ 53) : Oq (floatBits .sub .f64 (fw a) (fw b)) (some (fw (a - b))) := by
  have e : floatBits .sub .f64 (fw a) (fw b) = floatBits .add .f64 (fw a) (ng (fw b)) := by rw [sub_is, add_is, read_ng]
  rw [e]
  exact (Wq.add (.refl _) (ng_fw b hb)).trans (by rw [Int.sub_eq_add_neg]; exact add_fw a (-b) ha (by omega))
theorem fmul_fw (a b : Int) (ha : a.natAbs < 2 ^ 53) (hb : b.natAbs < 2 ^ 53) : Wq (fmul (fw a) (fw b)) (fw (a * b)) := by
  obtain ⟨k, hk⟩ := read_fw a ha
  obtain ⟨j, hj⟩ := read_fw b hb
  unfold fmul
  rw [mul_is, hk, hj, product_num, Option.map_some, Option.getD_some, write_num]
  have e : a.natAbs * 2 ^ k * (b.natAbs * 2 ^ j) = (a * b).natAbs * 2 ^ (k + j) := by
    rw [Int.natAbs_mul, Nat.pow_add]; ac_rfl
  have e2 : -(k : Int) + -(j : Int) = -((k + j : Nat) : Int) := by omega
  rw [e, e2]
  by_cases h : a * b = 0
  · rw [h, Int.natAbs_zero, Nat.zero_mul, nearest_zero, fw_zero]; exact .inr ⟨nought_word _, by decide⟩
  · left
    have hs : (decide (a < 0) ^^ decide (b < 0)) = decide (a * b < 0) := by
      have ha0 : a ≠ 0 := fun e => h (by rw [e, Int.zero_mul])
      have hb0 : b ≠ 0 := fun e => h (by rw [e, Int.mul_zero])
      by_cases p : a < 0 <;> by_cases q : b < 0
      · have := Int.mul_pos_of_neg_of_neg p q
        rw [decide_eq_true p, decide_eq_true q, decide_eq_false (by omega)]; rfl
      · have := Int.mul_neg_of_neg_of_pos p (show 0 < b by omega)
        rw [decide_eq_true p, decide_eq_false q, decide_eq_true this]; rfl
      · have := Int.mul_neg_of_pos_of_neg (show 0 < a by omega) q
        rw [decide_eq_false p, decide_eq_true q, decide_eq_true this]; rfl
      · have := Int.mul_pos (show 0 < a by omega) (show 0 < b by omega)
        rw [decide_eq_false p, decide_eq_false q, decide_eq_false (by omega)]; rfl
    rw [hs]; exact nearest_fw (a * b) (k + j)

/-! CplxWholes: what each answer comes to -/
theorem small_mul (a b : Int) (ha : -524288 ≤ a ∧ a ≤ 524288) (hb : -524288 ≤ b ∧ b ≤ 524288) : -274877906944 ≤ a * b ∧ a * b ≤ 274877906944 := by
  have h1 : (a * b).natAbs ≤ 524288 * 524288 := by
    rw [Int.natAbs_mul]; exact Nat.mul_le_mul (by omega) (by omega)
  omega
theorem some_fw (m n : Int) (hm : m.natAbs < 2 ^ 53) (hn : n.natAbs < 2 ^ 53) {o p : Option Nat} (h : Oq o (some (fw m))) (g : Oq p (some (fw n))) :
    reO (o, p) = fw m ∧ imO (o, p) = fw n ∧ erO (o, p) = 0 := by
  rw [reO_eq h g, imO_eq h g, erO_eq h g]
  exact some_cl _ _ (clean_fw m hm) (clean_fw n hn)
theorem sum_fw (a b c d : Int) (ha : a.natAbs < 2 ^ 40) (hb : b.natAbs < 2 ^ 40) (hc : c.natAbs < 2 ^ 40) (hd : d.natAbs < 2 ^ 40) :
    reO (sumO .add (fw a) (fw b) (fw c) (fw d)) = fw (a + c) ∧ imO (sumO .add (fw a) (fw b) (fw c) (fw d)) = fw (b + d) ∧ erO (sumO .add (fw a) (fw b) (fw c) (fw d)) = 0 := by
  unfold sumO
  rw [cre_clean _ _ (clean_fw a (by omega)) (clean_fw b (by omega)), cim_clean _ _ (clean_fw a (by omega)) (clean_fw b (by omega)),
    cre_clean _ _ (clean_fw c (by omega)) (clean_fw d (by omega)), cim_clean _ _ (clean_fw c (by omega)) (clean_fw d (by omega))]
  exact some_fw _ _ (by omega) (by omega) (add_fw a c (by omega) (by omega)) (add_fw b d (by omega) (by omega))
theorem mul_fw (a b c d : Int) (ha : -524288 ≤ a ∧ a ≤ 524288) (hb : -524288 ≤ b ∧ b ≤ 524288) (hc : -524288 ≤ c ∧ c ≤ 524288) (hd : -524288 ≤ d ∧ d ≤ 524288) :
    reO (mulO (fw a) (fw b) (fw c) (fw d)) = fw (a * c - b * d) ∧ imO (mulO (fw a) (fw b) (fw c) (fw d)) = fw (a * d + b * c) ∧ erO (mulO (fw a) (fw b) (fw c) (fw d)) = 0 := by
  have h1 := small_mul a c ha hc
  have h2 := small_mul b d hb hd
  have h3 := small_mul a d ha hd
  have h4 := small_mul b c hb hc
  unfold mulO
  rw [cre_clean _ _ (clean_fw a (by omega)) (clean_fw b (by omega)), cim_clean _ _ (clean_fw a (by omega)) (clean_fw b (by omega)),
    cre_clean _ _ (clean_fw c (by omega)) (clean_fw d (by omega)), cim_clean _ _ (clean_fw c (by omega)) (clean_fw d (by omega))]
  refine some_fw _ _ (by omega) (by omega) ?_ ?_
  · exact (Wq.sub (fmul_fw a c (by omega) (by omega)) (fmul_fw b d (by omega) (by omega))).trans (sub_fw _ _ (by omega) (by omega))
  · exact (Wq.add (fmul_fw a d (by omega) (by omega)) (fmul_fw b c (by omega) (by omega))).trans (add_fw _ _ (by omega) (by omega))
theorem conj_fw (a b : Int) (ha : a.natAbs < 2 ^ 40) (hb : b.natAbs < 2 ^ 40) : conjRe (fw a) (fw b) = fw a ∧ conjIm (fw a) (fw b) = fw (-b) := by
  rw [conjRe_is, conjIm_is, cre_clean _ _ (clean_fw a (by omega)) (clean_fw b (by omega)), cim_clean _ _ (clean_fw a (by omega)) (clean_fw b (by omega))]
  refine ⟨rfl, ?_⟩
  rw [(ng_fw b (by omega)).cl]
  exact (clean_fw (-b) (by omega)).2
theorem square_fw (a b : Int) (ha : -524288 ≤ a ∧ a ≤ 524288) (hb : -524288 ≤ b ∧ b ≤ 524288) :
    reO (mulO (fw a) (fw b) (fw a) (fw (-b))) = fw (a * a + b * b) ∧ imO (mulO (fw a) (fw b) (fw a) (fw (-b))) = fw 0 ∧ erO (mulO (fw a) (fw b) (fw a) (fw (-b))) = 0 := by
  have h := mul_fw a b a (-b) ha hb ha (by omega)
  rw [Int.mul_neg, Int.mul_neg, show a * a - -(b * b) = a * a + b * b by omega, show -(a * b) + b * a = 0 by rw [Int.mul_comm b a]; omega] at h
  exact h
theorem wq_eq_fw {x : Nat} {n : Int} (h : Wq x (fw n)) (h0 : n ≠ 0) (hn : n.natAbs < 2 ^ 53) : x = fw n := by
  rcases h with h | ⟨_, h⟩
  · exact h
  · rw [not_nought_fw n hn h0] at h; cases h
theorem quotient_num (d : Nat) (s t : Bool) (m n : Nat) (i j : Int) (hn : n ≠ 0) : Datum.quotient d (.number s m i) (.number t n j) =
    some (.number (s ^^ t) (2 * ((m <<< (d + n.log2 - m.log2)) / n) + ((m <<< (d + n.log2 - m.log2)) % n != 0).toNat) (i - j - ((d + n.log2 - m.log2 : Nat) : Int) - 1)) := by
  simp only [Datum.quotient]; rw [if_neg hn]
theorem one_word : Ieee.double.nearest false (2 * 2 ^ 54) (-55) = oneB := by decide +kernel
theorem quo_self (n : Int) (hn : n.natAbs < 2 ^ 53) (h0 : n ≠ 0) : floatBits .quo .f64 (fw n) (fw n) = some oneB := by
  obtain ⟨k, hk⟩ := read_fw n hn
  show ((Ieee.double.read (fw n)).quotient 54 (Ieee.double.read (fw n))).map Ieee.double.write = some oneB
  have hp : 0 < n.natAbs * 2 ^ k := Nat.mul_pos (by omega) (Nat.two_pow_pos k)
  rw [hk, quotient_num _ _ _ _ _ _ _ (by omega), Option.map_some, write_num, Bool.xor_self, Nat.add_sub_cancel, Nat.shiftLeft_eq, Nat.mul_div_cancel_left _ hp, Nat.mul_mod_right]
  rw [show -(k : Int) - -(k : Int) - ((54 : Nat) : Int) - 1 = -55 by omega]
  exact congrArg some one_word
theorem quo_nil (n : Int) (hn : n.natAbs < 2 ^ 53) (h0 : n ≠ 0) : ∃ s, floatBits .quo .f64 0 (fw n) = some (Ieee.double.word s 0) := by
  obtain ⟨k, hk⟩ := read_fw n hn
  have hp : 0 < n.natAbs * 2 ^ k := Nat.mul_pos (by omega) (Nat.two_pow_pos k)
  refine ⟨false ^^ decide (n < 0), ?_⟩
  show ((Ieee.double.read 0).quotient 54 (Ieee.double.read (fw n))).map Ieee.double.write = _
  rw [hk, read_zero, quotient_num _ _ _ _ _ _ _ (by omega), Option.map_some, write_num, Nat.zero_shiftLeft, Nat.zero_div, Nat.zero_mod]
  exact congrArg some (nearest_zero _ _)
theorem div_self_fw (c d : Int) (hc : -524288 ≤ c ∧ c ≤ 524288) (hd : -524288 ≤ d ∧ d ≤ 524288) (h0 : c ≠ 0 ∨ d ≠ 0) :
    divRe (fw c) (fw d) (fw c) (fw d) = oneB ∧ divIm (fw c) (fw d) (fw c) (fw d) = 0 ∧ divEr (fw c) (fw d) (fw c) (fw d) = 0 := by
  have e1 := cre_clean _ _ (clean_fw c (by omega)) (clean_fw d (by omega))
  have e2 := cim_clean _ _ (clean_fw c (by omega)) (clean_fw d (by omega))
  have h1 := small_mul c c hc hc
  have h2 := small_mul d d hd hd
  have pos : 0 < c * c + d * d := by
    have p1 : 0 ≤ c * c := by
      rcases Int.le_total 0 c with p | p
      · exact Int.mul_nonneg p p
      · exact Int.mul_nonneg_of_nonpos_of_nonpos p p
    have p2 : 0 ≤ d * d := by
      rcases Int.le_total 0 d with p | p
      · exact Int.mul_nonneg p p
      · exact Int.mul_nonneg_of_nonpos_of_nonpos p p
    have p3 : c * c ≠ 0 ∨ d * d ≠ 0 := by
      rcases h0 with h | h
      · exact .inl (Int.mul_ne_zero h h)
      · exact .inr (Int.mul_ne_zero h h)
    omega
  have hadd : floatBits .add .f64 (fmul (fw c) (fw c)) (fmul (fw d) (fw d)) = some (fw (c * c + d * d)) := by
    rcases (Wq.add (fmul_fw c c (by omega) (by omega)) (fmul_fw d d (by omega) (by omega))).trans (add_fw _ _ (by omega) (by omega)) with ⟨_, h⟩ | ⟨x, y, hx, hy, h⟩
    · cases h
    · cases hy; rw [hx, wq_eq_fw h (by omega) (by omega)]
  have hsum : sumsq (fw c) (fw d) = fw (c * c + d * d) := by unfold sumsq; rw [hadd]; rfl
  have hsub : floatBits .sub .f64 (fmul (fw d) (fw c)) (fmul (fw c) (fw d)) = some 0 := by
    rw [fmul_comm (fw d)]
    refine sub_self' _ ?_
    have := (fmul_fw c d (by omega) (by omega)).fin
    rw [this]; exact fin_fw _ (by have := small_mul c d hc hd; omega)
  have hn : (nought (fw c) && nought (fw d)) = false := by
    rcases h0 with h | h
    · rw [not_nought_fw c (by omega) h]; rfl
    · rw [not_nought_fw d (by omega) h]; simp
  have hf : (nought (fw (c * c + d * d)) || isInfB (fw (c * c + d * d))) = false := by
    rw [not_nought_fw _ (by omega) (by omega), fin_not_inf _ (fin_fw _ (by omega))]; rfl
  have hP : divP (fw c) (fw d) (fw c) (fw d) = (some oneB, floatBits .quo .f64 0 (fw (c * c + d * d))) := by
    unfold divP
    rw [e1, e2, hsum, hadd, hsub]
    show (floatBits .quo .f64 (fw (c * c + d * d)) (fw (c * c + d * d)), _) = _
    rw [quo_self _ (by omega) (by omega)]; rfl
  obtain ⟨s, hq⟩ := quo_nil (c * c + d * d) (by omega) (by omega)
  unfold divRe divIm divEr
  rw [e1, e2, hn, hsum, hf, hP, hq]
  cases s <;> decide
theorem div_none (a b : Nat) : divEr a b 0 0 = 2 := by
  unfold divEr; rw [cre_00, cim_00]; rfl
theorem eq_fw (n : Int) (h : n.natAbs < 2 ^ 53) : (FloatKind.f64.format.order (fw n) (fw n) == some .eq) = true := by
  rw [order_self', fin_not_nan _ (fin_fw n h)]; rfl
theorem mask20 (x : Int) : ∃ A : Int, bits .and .i64 x 1048575 = A + 524288 ∧ -524288 ≤ A ∧ A ≤ 524287 := by
  have e : bits .and .i64 x 1048575 = IntKind.i64.wrap ((BitVec.ofInt 64 x &&& BitVec.ofInt 64 1048575).toNat : Int) := rfl
  have hb : (BitVec.ofInt 64 x &&& BitVec.ofInt 64 1048575).toNat ≤ 1048575 := by
    rw [BitVec.toNat_and]; exact Nat.and_le_right
  rw [e]
  generalize (BitVec.ofInt 64 x &&& BitVec.ofInt 64 1048575).toNat = t at *
  refine ⟨(t : Int) - 524288, ?_, by omega, by omega⟩
  rw [IntKind.wrap_i64]; omega
end Go.Proofs.Ythgoihblpeeogaa
