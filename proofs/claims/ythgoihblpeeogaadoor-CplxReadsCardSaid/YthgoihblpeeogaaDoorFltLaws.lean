/- Laws of rounded sums and products of words: the order does not count; nought and one; signs turned. -/
import Derived.Test.YthgoihblpeeogaaDoorFlt
namespace Go.Proofs.YthgoihblpeeogaaDoor
open Ieee

/-! rounding what is already a word; the scale does not count -/
theorem log2_mul (m j : Nat) (h : m ≠ 0) : (m * 2 ^ j).log2 = m.log2 + j := by
  have h2 : m * 2 ^ j ≠ 0 := Nat.mul_ne_zero h (by have := Nat.two_pow_pos j; omega)
  apply (Nat.log2_eq_iff h2).2
  have h3 := (Nat.log2_eq_iff h).1 rfl
  rw [show m.log2 + j + 1 = (m.log2 + 1) + j by omega, Nat.pow_add, Nat.pow_add]
  exact ⟨Nat.mul_le_mul_right _ h3.1, Nat.mul_lt_mul_of_pos_right h3.2 (Nat.two_pow_pos j)⟩
theorem cut_exact (s : Bool) (n d : Nat) (hn : n ≠ 0 ∨ d = 0) (g : Nat) (hg : n * 2 ^ d = g) : Toward.even.cut s g d = n := by
  subst hg
  unfold Toward.cut
  have hm : min d ((n * 2 ^ d).log2 + 2) = d := by
    rcases hn with hn | hn
    · rw [log2_mul n d hn]; omega
    · omega
  rw [hm]
  simp only [Nat.shiftLeft_eq, Nat.one_mul]
  rw [Nat.mul_div_cancel _ (Nat.two_pow_pos d), Nat.mul_mod_left]
  have := Nat.two_pow_pos d
  have e : (2 ^ d == 2 * 0) = false := by rw [beq_eq_false_iff_ne]; omega
  simp
theorem cut_scale (s : Bool) (m d j : Nat) (hm : m ≠ 0) : Toward.even.cut s (m * 2 ^ j) (d + j) = Toward.even.cut s m d := by
  unfold Toward.cut
  rw [log2_mul m j hm]
  have e : min (d + j) (m.log2 + j + 2) = min d (m.log2 + 2) + j := by omega
  rw [e]
  generalize min d (m.log2 + 2) = u
  have hp := Nat.two_pow_pos j
  simp only [Nat.shiftLeft_eq, Nat.one_mul, Nat.pow_add]
  rw [Nat.mul_div_mul_right _ _ hp, Nat.mul_mod_mul_right]
  have e1 : decide (2 ^ u * 2 ^ j < 2 * (m % 2 ^ u * 2 ^ j)) = decide (2 ^ u < 2 * (m % 2 ^ u)) := by
    rw [← Nat.mul_assoc]
    exact decide_eq_decide.2 ⟨fun h => Nat.lt_of_mul_lt_mul_right h, fun h => Nat.mul_lt_mul_of_pos_right h hp⟩
  have e2 : (2 ^ u * 2 ^ j == 2 * (m % 2 ^ u * 2 ^ j)) = (2 ^ u == 2 * (m % 2 ^ u)) := by
    rw [← Nat.mul_assoc, Bool.eq_iff_iff, beq_iff_eq, beq_iff_eq]
    exact ⟨fun h => Nat.eq_of_mul_eq_mul_right hp h, fun h => congrArg (· * 2 ^ j) h⟩
  rw [e1, e2]
theorem nearest_shift (s : Bool) (m : Nat) (p : Int) (j : Nat) : Ieee.double.nearest s (m * 2 ^ j) (p - j) = Ieee.double.nearest s m p := by
  by_cases hm : m = 0
  · subst hm; rw [Nat.zero_mul]; unfold Format.nearest; rw [if_pos rfl, if_pos rfl]
  have hj : m * 2 ^ j ≠ 0 := Nat.mul_ne_zero hm (by have := Nat.two_pow_pos j; omega)
  unfold Format.nearest
  rw [if_neg hm, if_neg hj, log2_mul m j hm]
  have e : max (p - (j : Int) + ((m.log2 + j : Nat) : Int) - (Ieee.double.fractionBits : Int)) Ieee.double.leastPlace = max (p + (m.log2 : Int) - (Ieee.double.fractionBits : Int)) Ieee.double.leastPlace := by omega
  simp only [e]
  generalize max (p + (m.log2 : Int) - (Ieee.double.fractionBits : Int)) Ieee.double.leastPlace = last
  congr 3
  by_cases h : p ≤ last
  · have e1 : (p - (j : Int) - last).toNat = 0 := by omega
    have e2 : (last - (p - (j : Int))).toNat = (last - p).toNat + j := by omega
    have e3 : (p - last).toNat = 0 := by omega
    rw [e1, e2, e3]
    exact cut_scale s m _ j hm
  · have e3 : (last - p).toNat = 0 := by omega
    rw [e3, cut_exact s (m <<< (p - last).toNat) 0 (.inr rfl) _ (by simp)]
    by_cases h2 : (j : Int) ≤ p - last
    · have e4 : (last - (p - (j : Int))).toNat = 0 := by omega
      rw [e4, cut_exact s _ 0 (.inr rfl) _ (by rw [Nat.pow_zero, Nat.mul_one])]
      rw [Nat.shiftLeft_eq, Nat.shiftLeft_eq, Nat.mul_assoc, ← Nat.pow_add]
      congr 2; omega
    · have e4 : (p - (j : Int) - last).toNat = 0 := by omega
      rw [e4]
      refine cut_exact s _ _ (.inl ?_) _ ?_
      · rw [Nat.shiftLeft_eq]; exact Nat.mul_ne_zero hm (by have := Nat.two_pow_pos (p - last).toNat; omega)
      · rw [Nat.shiftLeft_eq, Nat.shiftLeft_eq, Nat.mul_assoc, ← Nat.pow_add, Nat.pow_zero, Nat.mul_one]
        congr 2; omega
theorem unitsOf_zero (r : Nat) : unitsOf r = 0 ↔ r = 0 := by
  constructor
  · intro h
    by_cases e : r = 0
    · exact e
    · have := unitsOf_pos r e; omega
  · intro h; subst h; rfl
theorem log2_is (n k : Nat) (h1 : 2 ^ k ≤ n) (h2 : n < 2 ^ (k + 1)) : n.log2 = k :=
  (Nat.log2_eq_iff (by have := Nat.two_pow_pos k; omega)).2 ⟨h1, h2⟩
theorem rung_back (r k : Nat) (h1 : ¬ r < 4503599627370496) (h : r < 9218868437227405312) (hk : r / 4503599627370496 - 1 = k) :
    min (k * 4503599627370496 + (4503599627370496 + r % 4503599627370496)) 9218868437227405312 = r := by omega
/-- a finite rung is its own nearest word -/
theorem nearest_units (s : Bool) (r : Nat) (h : r < infB) : Ieee.double.nearest s (unitsOf r) (-1074) = Ieee.double.word s r := by
  by_cases h0 : r = 0
  · subst h0; rfl
  have hu : unitsOf r ≠ 0 := fun e => h0 ((unitsOf_zero r).1 e)
  unfold Format.nearest
  rw [if_neg hu]
  have hfb : (Ieee.double.fractionBits : Int) = 52 := rfl
  simp only [dbl_least, dbl_bin, dbl_inf, hfb]
  by_cases h1 : r < 2 ^ 52
  · have e : unitsOf r = r := by unfold unitsOf; rw [if_pos h1]
    have hl : r.log2 < 52 := (Nat.log2_lt h0).2 h1
    rw [e]
    have e2 : max (-1074 + (r.log2 : Int) - 52) (-1074) = -1074 := by omega
    rw [e2]
    have e3 : ((-1074 : Int) - -1074).toNat = 0 := by omega
    rw [e3, cut_exact s r 0 (.inr rfl) _ (by simp)]
    congr 1
    unfold infB; omega
  · have e : unitsOf r = (2 ^ 52 + r % 2 ^ 52) * 2 ^ (r / 2 ^ 52 - 1) := by unfold unitsOf; rw [if_neg h1]
    have hl0 : (2 ^ 52 + r % 2 ^ 52).log2 = 52 := log2_is _ _ (by omega) (by omega)
    have hl : (unitsOf r).log2 = 52 + (r / 2 ^ 52 - 1) := by
      rw [e, log2_mul _ _ (by omega), hl0]
    rw [hl]
    generalize hk : r / 2 ^ 52 - 1 = k at *
    have e2 : max (-1074 + ((52 + k : Nat) : Int) - 52) (-1074) = -1074 + (k : Int) := by omega
    rw [e2]
    have e3 : ((-1074 : Int) - (-1074 + (k : Int))).toNat = 0 := by omega
    have e4 : ((-1074 + (k : Int)) - (-1074 : Int)).toNat = k := by omega
    rw [e3, e4, e, cut_exact s (2 ^ 52 + r % 2 ^ 52) k (.inl (by omega)) _ (by rw [Nat.shiftLeft_eq, Nat.pow_zero, Nat.mul_one])]
    exact congrArg _ (rung_back r k h1 h hk)
theorem word_self (x : Nat) (h : x < 2 ^ 64) : Ieee.double.word (minusB x) (x % 2 ^ 63) = x := by
  unfold Format.word minusB
  rw [dbl_sw]
  by_cases e : x / 2 ^ 63 % 2 = 1
  · rw [decide_eq_true e]; simp only [if_true]; omega
  · rw [decide_eq_false e]; simp only [Bool.false_eq_true, if_false]; omega
/-- reading a finite word and writing it again -/
theorem write_read (x m k : Nat) (h : x < 2 ^ 64) (hf : fin x = true) (hu : unitsOf (x % 2 ^ 63) = m * 2 ^ k) : Ieee.double.nearest (minusB x) m (-1074 + (k : Int)) = x := by
  rw [← nearest_shift _ m _ k, ← hu, show (-1074 : Int) + (k : Int) - (k : Int) = -1074 by omega,
    nearest_units _ _ (by unfold fin at hf; simpa using hf), word_self x h]

/-! words up to the sign of nought -/
def Wq (x y : Nat) : Prop := x = y ∨ (nought x = true ∧ nought y = true)
def Oq (a b : Option Nat) : Prop := (a = none ∧ b = none) ∨ ∃ x y, a = some x ∧ b = some y ∧ Wq x y
theorem Wq.refl (x : Nat) : Wq x x := .inl rfl
theorem Wq.symm {x y : Nat} (h : Wq x y) : Wq y x := by
  rcases h with h | ⟨h, g⟩
  · exact .inl h.symm
  · exact .inr ⟨g, h⟩
theorem Wq.trans {x y z : Nat} (h : Wq x y) (g : Wq y z) : Wq x z := by
  rcases h with rfl | ⟨h, h'⟩
  · exact g
  · rcases g with rfl | ⟨_, g'⟩
    · exact .inr ⟨h, h'⟩
    · exact .inr ⟨h, g'⟩
theorem Oq.refl (a : Option Nat) : Oq a a := by
  cases a with
  | none => exact .inl ⟨rfl, rfl⟩
  | some x => exact .inr ⟨x, x, rfl, rfl, .refl x⟩
theorem Oq.trans {a b c : Option Nat} (h : Oq a b) (g : Oq b c) : Oq a c := by
  rcases h with ⟨rfl, rfl⟩ | ⟨x, y, rfl, rfl, h⟩
  · exact g
  · rcases g with ⟨h', _⟩ | ⟨x', y', h1, rfl, g⟩
    · cases h'
    · cases h1; exact .inr ⟨x, y', rfl, rfl, h.trans g⟩
theorem nought_iff (x : Nat) : nought x = true ↔ x % 2 ^ 63 = 0 := by unfold nought; exact decide_eq_true_iff
theorem Wq.fin {x y : Nat} (h : Wq x y) : fin x = fin y := by
  rcases h with rfl | ⟨h, g⟩
  · rfl
  · rw [nought_iff] at h g; unfold YthgoihblpeeogaaDoor.fin; rw [h, g]
theorem Wq.cl {x y : Nat} (h : Wq x y) : cl x = cl y := by
  rcases h with rfl | ⟨h, g⟩
  · rfl
  · rw [cl_eq, cl_eq, h, g]; rfl
theorem wq_cl (x : Nat) : Wq (cl x) x := by
  rw [cl_eq]
  by_cases h : nought x = true
  · rw [if_pos h]; exact .inr ⟨rfl, h⟩
  · rw [if_neg h]; exact .refl _
theorem nought_ng (x : Nat) : nought (ng x) = nought x := by unfold nought; rw [ng_mod]
theorem Wq.ng {x y : Nat} (h : Wq x y) : Wq (ng x) (ng y) := by
  rcases h with rfl | ⟨h, g⟩
  · exact .refl _
  · exact .inr ⟨by rw [nought_ng]; exact h, by rw [nought_ng]; exact g⟩
theorem Oq.finO {a b : Option Nat} (h : Oq a b) : finO a = finO b := by
  rcases h with ⟨rfl, rfl⟩ | ⟨x, y, rfl, rfl, h⟩
  · rfl
  · exact h.fin
theorem Oq.cl {a b : Option Nat} (h : Oq a b) : cl (a.getD 0) = cl (b.getD 0) := by
  rcases h with ⟨rfl, rfl⟩ | ⟨x, y, rfl, rfl, h⟩
  · rfl
  · exact h.cl
theorem reO_eq {a b c d : Option Nat} (h : Oq a b) (g : Oq c d) : reO (a, c) = reO (b, d) := by
  unfold reO creO; simp only; rw [h.finO, g.finO, h.cl]
theorem imO_eq {a b c d : Option Nat} (h : Oq a b) (g : Oq c d) : imO (a, c) = imO (b, d) := by
  unfold imO cimO; simp only; rw [h.finO, g.finO, g.cl]
theorem erO_eq {a b c d : Option Nat} (h : Oq a b) (g : Oq c d) : erO (a, c) = erO (b, d) := by
  unfold erO cerO; simp only; rw [h.finO, g.finO]

theorem read_nought (x : Nat) (h : nought x = true) : Ieee.double.read x = .number (minusB x) 0 (-1074) := by
  rw [nought_iff] at h
  rw [read_eq, h]; rfl
/-- data up to the sign of nought -/
def Eq0 (d e : Datum) : Prop := d = e ∨ ∃ s t i, d = .number s 0 i ∧ e = .number t 0 i
theorem Wq.read {x y : Nat} (h : Wq x y) : Eq0 (Ieee.double.read x) (Ieee.double.read y) := by
  rcases h with rfl | ⟨h, g⟩
  · exact .inl rfl
  · exact .inr ⟨_, _, _, read_nought x h, read_nought y g⟩
theorem signed_zero (s : Bool) (k : Nat) : signed s 0 k = 0 := by cases s <;> simp [signed]
def OE (a b : Option Datum) : Prop := (a = none ∧ b = none) ∨ ∃ x y, a = some x ∧ b = some y ∧ Eq0 x y
theorem OE.refl (a : Option Datum) : OE a a := by
  cases a with
  | none => exact .inl ⟨rfl, rfl⟩
  | some x => exact .inr ⟨x, x, rfl, rfl, .inl rfl⟩
theorem OE.of_eq {a b : Option Datum} (h : a = b) : OE a b := h ▸ OE.refl a
theorem sum_total (t1 t2 : Int) (b1 b2 : Bool) (base : Int) (h : t1 = t2) : Eq0 (.number (if t1 = 0 then b1 else decide (t1 < 0)) t1.natAbs base) (.number (if t2 = 0 then b2 else decide (t2 < 0)) t2.natAbs base) := by
  subst h
  by_cases e : t1 = 0
  · subst e; exact .inr ⟨_, _, _, rfl, rfl⟩
  · rw [if_neg e, if_neg e]; exact .inl rfl
theorem sum_num (s t : Bool) (m n : Nat) (i j : Int) : Datum.sum (.number s m i) (.number t n j) =
    some (.number (if signed s m (i - min i j).toNat + signed t n (j - min i j).toNat = 0 then s && t else decide (signed s m (i - min i j).toNat + signed t n (j - min i j).toNat < 0)) (signed s m (i - min i j).toNat + signed t n (j - min i j).toNat).natAbs (min i j)) := rfl
theorem sum_Eq0_left {d d' : Datum} (e : Datum) (h : Eq0 d d') : OE (d.sum e) (d'.sum e) := by
  rcases h with rfl | ⟨s, s', i, rfl, rfl⟩
  · exact .refl _
  · cases e with
    | number t n j =>
      rw [sum_num, sum_num]
      refine .inr ⟨_, _, rfl, rfl, sum_total _ _ _ _ _ ?_⟩
      rw [signed_zero, signed_zero]
    | infinity t => exact .refl _
    | nan t f => exact .refl _
theorem sum_comm (d e : Datum) : d.sum e = e.sum d := by
  cases d <;> cases e <;> try rfl
  · rw [sum_num, sum_num]
    rename_i s m i t n j
    rw [Int.min_comm j i, Int.add_comm (signed t n _), Bool.and_comm t s]
  · rename_i s t
    cases s <;> cases t <;> rfl
theorem OE.trans {a b c : Option Datum} (h : OE a b) (g : OE b c) : OE a c := by
  rcases h with ⟨rfl, rfl⟩ | ⟨x, y, rfl, rfl, h⟩
  · exact g
  · rcases g with ⟨h', _⟩ | ⟨x', y', h1, rfl, g⟩
    · cases h'
    · cases h1
      refine .inr ⟨x, y', rfl, rfl, ?_⟩
      rcases h with rfl | ⟨s, t, i, rfl, rfl⟩
      · exact g
      · rcases g with rfl | ⟨s', t', i', e1, rfl⟩
        · exact .inr ⟨_, _, _, rfl, rfl⟩
        · cases e1; exact .inr ⟨_, _, _, rfl, rfl⟩
theorem sum_Eq0 {d d' e e' : Datum} (h : Eq0 d d') (g : Eq0 e e') : OE (d.sum e) (d'.sum e') := by
  refine (sum_Eq0_left e h).trans ?_
  rw [sum_comm d' e, sum_comm d' e']
  exact sum_Eq0_left d' g
theorem nearest_zero (s : Bool) (p : Int) : Ieee.double.nearest s 0 p = Ieee.double.word s 0 := by unfold Format.nearest; rw [if_pos rfl]
theorem nought_word (s : Bool) : nought (Ieee.double.word s 0) = true := by cases s <;> decide
theorem write_Eq0 {d e : Datum} (h : Eq0 d e) : Wq (Ieee.double.write d) (Ieee.double.write e) := by
  rcases h with rfl | ⟨s, t, i, rfl, rfl⟩
  · exact .refl _
  · refine .inr ⟨?_, ?_⟩ <;> (show nought (Ieee.double.nearest _ 0 _) = true; rw [nearest_zero]; exact nought_word _)
theorem OE.write {a b : Option Datum} (h : OE a b) : Oq (a.map Ieee.double.write) (b.map Ieee.double.write) := by
  rcases h with ⟨rfl, rfl⟩ | ⟨x, y, rfl, rfl, h⟩
  · exact .inl ⟨rfl, rfl⟩
  · exact .inr ⟨_, _, rfl, rfl, write_Eq0 h⟩
theorem add_is (x y : Nat) : floatBits .add .f64 x y = ((Ieee.double.read x).sum (Ieee.double.read y)).map Ieee.double.write := rfl
theorem sub_is (x y : Nat) : floatBits .sub .f64 x y = ((Ieee.double.read x).sum (Ieee.double.read y).opposite).map Ieee.double.write := rfl
theorem mul_is (x y : Nat) : floatBits .mul .f64 x y = ((Ieee.double.read x).product (Ieee.double.read y)).map Ieee.double.write := rfl
theorem add_comm' (x y : Nat) : floatBits .add .f64 x y = floatBits .add .f64 y x := by rw [add_is, add_is, sum_comm]
theorem product_comm (d e : Datum) : d.product e = e.product d := by
  cases d <;> cases e <;> try rfl
  · rename_i s m i t n j
    simp only [Datum.product]; rw [Bool.xor_comm, Nat.mul_comm, Int.add_comm]
  · simp only [Datum.product]; rw [Bool.xor_comm]
theorem mul_comm' (x y : Nat) : floatBits .mul .f64 x y = floatBits .mul .f64 y x := by rw [mul_is, mul_is, product_comm]
theorem fmul_comm (x y : Nat) : fmul x y = fmul y x := by unfold fmul; rw [mul_comm']
theorem Wq.add {x x' y y' : Nat} (h : Wq x x') (g : Wq y y') : Oq (floatBits .add .f64 x y) (floatBits .add .f64 x' y') := by
  rw [add_is, add_is]; exact (sum_Eq0 h.read g.read).write
theorem Eq0.opposite {d e : Datum} (h : Eq0 d e) : Eq0 d.opposite e.opposite := by
  rcases h with rfl | ⟨s, t, i, rfl, rfl⟩
  · exact .inl rfl
  · exact .inr ⟨_, _, _, rfl, rfl⟩
theorem Wq.sub {x x' y y' : Nat} (h : Wq x x') (g : Wq y y') : Oq (floatBits .sub .f64 x y) (floatBits .sub .f64 x' y') := by
  rw [sub_is, sub_is]; exact (sum_Eq0 h.read g.read.opposite).write
theorem product_Eq0_left {d d' : Datum} (e : Datum) (h : Eq0 d d') : OE (d.product e) (d'.product e) := by
  rcases h with rfl | ⟨s, s', i, rfl, rfl⟩
  · exact .refl _
  · cases e with
    | number t n j => exact .inr ⟨_, _, rfl, rfl, .inr ⟨s ^^ t, s' ^^ t, i + j, by simp, by simp⟩⟩
    | infinity t => exact .refl _
    | nan t f => exact .refl _
theorem product_Eq0 {d d' e e' : Datum} (h : Eq0 d d') (g : Eq0 e e') : OE (d.product e) (d'.product e') := by
  refine (product_Eq0_left e h).trans ?_
  rw [product_comm d' e, product_comm d' e']
  exact product_Eq0_left d' g
theorem Wq.mul {x x' y y' : Nat} (h : Wq x x') (g : Wq y y') : Oq (floatBits .mul .f64 x y) (floatBits .mul .f64 x' y') := by
  rw [mul_is, mul_is]; exact (product_Eq0 h.read g.read).write
theorem Oq.getD {a b : Option Nat} (h : Oq a b) : Wq (a.getD 0) (b.getD 0) := by
  rcases h with ⟨rfl, rfl⟩ | ⟨x, y, rfl, rfl, h⟩
  · exact .refl _
  · exact h
theorem Wq.fmul {x x' y y' : Nat} (h : Wq x x') (g : Wq y y') : Wq (fmul x y) (fmul x' y') := (Wq.mul h g).getD

/-! signs turned -/
theorem minus_ng (x : Nat) : minusB (ng x) = !minusB x := by
  have key : ∀ y : Nat, (y / 2 ^ 63 % 2 = 1) ↔ y.testBit 63 = true := by
    intro y; rw [Nat.testBit_eq_decide_div_mod_eq]; simp
  unfold minusB ng
  rw [Bool.eq_iff_iff, decide_eq_true_iff, key, Nat.testBit_xor, Nat.testBit_two_pow, Bool.not_eq_true', decide_eq_false_iff_not, key]
  simp
theorem read_ng (x : Nat) : Ieee.double.read (ng x) = (Ieee.double.read x).opposite := by
  rw [read_eq, read_eq, ng_mod, minus_ng]
  split
  · rfl
  · split
    · rfl
    · split <;> rfl
theorem ng_low (r : Nat) (h : r < 2 ^ 63) : ng r = 2 ^ 63 + r := by
  have h1 : ng r % 2 ^ 63 = r % 2 ^ 63 := ng_mod r
  have h2 : minusB (ng r) = true := by
    rw [minus_ng]
    have : minusB r = false := by unfold minusB; exact decide_eq_false (by omega)
    rw [this]; rfl
  have h3 : ng r < 2 ^ 64 := by
    unfold ng
    exact Nat.xor_lt_two_pow (by omega) (by omega)
  unfold minusB at h2
  have h4 : ng r / 2 ^ 63 % 2 = 1 := by simpa using h2
  omega
theorem word_not (s : Bool) (r : Nat) (h : r < 2 ^ 63) : Ieee.double.word (!s) r = ng (Ieee.double.word s r) := by
  have e := ng_low r h
  unfold Format.word
  rw [dbl_sw]
  cases s
  · simp only [Bool.not_false, Bool.false_eq_true, if_false, if_true]; exact e.symm
  · simp only [Bool.not_true, Bool.false_eq_true, if_false, if_true]; rw [← e, ng_ng]
theorem nearest_not (s : Bool) (m : Nat) (p : Int) (h : m ≠ 0) : Ieee.double.nearest (!s) m p = ng (Ieee.double.nearest s m p) := by
  unfold Format.nearest
  rw [if_neg h, if_neg h]
  have e : ∀ d n, Toward.even.cut (!s) n d = Toward.even.cut s n d := fun _ _ => rfl
  simp only [e]
  refine word_not s _ ?_
  have : Ieee.double.infRung < 2 ^ 63 := by rw [dbl_inf]; decide
  exact Nat.lt_of_le_of_lt (Nat.min_le_right _ _) this
theorem signed_not (s : Bool) (m k : Nat) : signed (!s) m k = -signed s m k := by cases s <;> simp [signed]
/-- the sum of the opposites is the sum's opposite, but for nought's sign -/
theorem sum_opposite (d e : Datum) : OE (d.opposite.sum e.opposite) ((d.sum e).map Datum.opposite) := by
  cases d with
  | nan s f => cases e <;> exact .inl ⟨rfl, rfl⟩
  | infinity s =>
    cases e with
    | nan t f => exact .inl ⟨rfl, rfl⟩
    | infinity t => cases s <;> cases t <;> exact .refl _
    | number t n j => exact .refl _
  | number s m i =>
    cases e with
    | nan t f => exact .inl ⟨rfl, rfl⟩
    | infinity t => exact .refl _
    | number t n j =>
      show OE (Datum.sum (.number (!s) m i) (.number (!t) n j)) _
      rw [sum_num, sum_num, signed_not, signed_not]
      generalize signed s m (i - min i j).toNat = u
      generalize signed t n (j - min i j).toNat = v
      have e1 : -u + -v = -(u + v) := by omega
      rw [e1]
      generalize u + v = x
      refine .inr ⟨_, _, rfl, rfl, ?_⟩
      by_cases hx : x = 0
      · subst hx; exact .inr ⟨_, _, _, rfl, rfl⟩
      · left
        have e2 : (-x).natAbs = x.natAbs := by omega
        have e3 : decide (-x < 0) = !decide (x < 0) := by
          rw [Bool.eq_iff_iff]; simp; omega
        rw [if_neg hx, if_neg (show ¬ -x = 0 by omega), e2, e3]
        rfl
theorem write_opposite (d : Datum) (h : d.isNaN = false) : Wq (Ieee.double.write d.opposite) (ng (Ieee.double.write d)) := by
  cases d with
  | nan s f => cases h
  | infinity s => exact .inl (word_not s _ (by rw [dbl_inf]; decide))
  | number s m p =>
    by_cases hm : m = 0
    · subst hm
      refine .inr ⟨?_, ?_⟩
      · show nought (Ieee.double.nearest _ 0 _) = true
        rw [nearest_zero]; exact nought_word _
      · rw [nought_ng]
        show nought (Ieee.double.nearest _ 0 _) = true
        rw [nearest_zero]; exact nought_word _
    · exact .inl (nearest_not s m p hm)
theorem sum_not_nan (d e r : Datum) (h : d.sum e = some r) : r.isNaN = false := by
  cases d with
  | nan s f => cases e <;> cases h
  | infinity s =>
    cases e with
    | nan t f => cases h
    | infinity t => cases s <;> cases t <;> cases h <;> rfl
    | number t n j => cases h; rfl
  | number s m i =>
    cases e with
    | nan t f => cases h
    | infinity t => cases h; rfl
    | number t n j => rw [sum_num] at h; cases h; rfl
theorem product_not_nan (d e r : Datum) (h : d.product e = some r) : r.isNaN = false := by
  cases d with
  | nan s f => cases e <;> cases h
  | infinity s =>
    cases e with
    | nan t f => cases h
    | infinity t => cases h; rfl
    | number t n j =>
      simp only [Datum.product] at h
      split at h
      · cases h
      · cases h; rfl
  | number s m i =>
    cases e with
    | nan t f => cases h
    | infinity t =>
      simp only [Datum.product] at h
      split at h
      · cases h
      · cases h; rfl
    | number t n j => cases h; rfl
theorem add_ng (x y : Nat) : Oq (floatBits .add .f64 (ng x) (ng y)) ((floatBits .add .f64 x y).map ng) := by
  rw [add_is, add_is, read_ng, read_ng]
  refine (sum_opposite _ _).write.trans ?_
  cases h : (Ieee.double.read x).sum (Ieee.double.read y) with
  | none => exact .inl ⟨rfl, rfl⟩
  | some r => exact .inr ⟨_, _, rfl, rfl, write_opposite r (sum_not_nan _ _ _ h)⟩
theorem product_opposite (d e : Datum) : d.opposite.product e = (d.product e).map Datum.opposite := by
  cases d with
  | nan s f => cases e <;> rfl
  | infinity s =>
    cases e with
    | nan t f => rfl
    | infinity t => simp [Datum.product, Datum.opposite]
    | number t n j =>
      simp only [Datum.product, Datum.opposite]
      split
      · rfl
      · simp [Datum.opposite]
  | number s m i =>
    cases e with
    | nan t f => rfl
    | infinity t =>
      simp only [Datum.product, Datum.opposite]
      split
      · rfl
      · simp [Datum.opposite]
    | number t n j => simp [Datum.product, Datum.opposite]
theorem mul_ng_left (x y : Nat) : Oq (floatBits .mul .f64 (ng x) y) ((floatBits .mul .f64 x y).map ng) := by
  rw [mul_is, mul_is, read_ng, product_opposite]
  cases h : (Ieee.double.read x).product (Ieee.double.read y) with
  | none => exact .inl ⟨rfl, rfl⟩
  | some r => exact .inr ⟨_, _, rfl, rfl, write_opposite r (product_not_nan _ _ _ h)⟩
theorem fmul_ng_left (x y : Nat) (hx : fin x = true) (hy : fin y = true) : Wq (fmul (ng x) y) (ng (fmul x y)) := by
  have h := mul_ng_left x y
  rw [fmul_is x y hx hy, fmul_is (ng x) y (by rw [fin_ng]; exact hx) hy] at h
  exact h.getD
theorem fmul_ng_right (x y : Nat) (hx : fin x = true) (hy : fin y = true) : Wq (fmul x (ng y)) (ng (fmul x y)) := by
  rw [fmul_comm, fmul_comm x y]; exact fmul_ng_left y x hy hx
theorem fmul_ng_ng (x y : Nat) (hx : fin x = true) (hy : fin y = true) : Wq (fmul (ng x) (ng y)) (fmul x y) := by
  have h := (fmul_ng_right (ng x) y (by rw [fin_ng]; exact hx) hy).trans (fmul_ng_left x y hx hy).ng
  rw [ng_ng] at h; exact h

/-! the laws of a sum and a product -/
theorem sumO_comm (a b c d : Nat) : sumO .add a b c d = sumO .add c d a b := by unfold sumO; rw [add_comm', add_comm' (cim a b)]
theorem mulO_comm (a b c d : Nat) : mulO a b c d = mulO c d a b := by
  unfold mulO
  rw [fmul_comm (cre a b), fmul_comm (cim a b) (cim c d), fmul_comm (cre c d) (cim a b), fmul_comm (cim c d) (cre a b), add_comm' (fmul (cre a b) (cim c d))]
theorem sub_self' (x : Nat) (h : fin x = true) : floatBits .sub .f64 x x = some 0 := by
  obtain ⟨m, k, hr, _⟩ := read_fin x h
  rw [sub_is, hr]
  show ((Datum.sum (.number _ m _) (.number (!minusB x) m _))).map Ieee.double.write = some 0
  rw [sum_num, signed_not, Int.add_right_neg, if_pos rfl]
  simp only [Option.map]
  show some (Ieee.double.nearest _ 0 _) = some 0
  rw [nearest_zero]
  cases minusB x <;> rfl
theorem read_zero : Ieee.double.read 0 = .number false 0 (-1074) := by rw [read_eq]; decide
theorem signed_neg (s : Bool) (m k : Nat) (hm : m ≠ 0) : decide (signed s m k < 0) = s := by
  have : 0 < m <<< k := by rw [Nat.shiftLeft_eq]; exact Nat.mul_pos (Nat.pos_of_ne_zero hm) (Nat.two_pow_pos k)
  cases s
  · simp only [signed, Bool.false_eq_true, if_false, decide_eq_false_iff_not]; omega
  · simp only [signed, if_true, decide_eq_true_eq]; omega
theorem signed_abs (s : Bool) (m k : Nat) : (signed s m k).natAbs = m * 2 ^ k := by
  have e : ∀ n : Nat, ((n : Int)).natAbs = n := fun n => Int.natAbs_natCast n
  cases s
  · simp only [signed, Bool.false_eq_true, if_false, e, Nat.shiftLeft_eq]
  · simp only [signed, if_true, Int.natAbs_neg, e, Nat.shiftLeft_eq]
theorem signed_ne (s : Bool) (m k : Nat) (hm : m ≠ 0) : signed s m k ≠ 0 := by
  have := signed_abs s m k
  have h2 : 0 < m * 2 ^ k := Nat.mul_pos (Nat.pos_of_ne_zero hm) (Nat.two_pow_pos k)
  omega
/-- nought added changes no finite word, but for nought's sign -/
theorem add_zero' (x : Nat) (h64 : x < 2 ^ 64) (h : fin x = true) : Oq (floatBits .add .f64 x 0) (some x) := by
  obtain ⟨m, k, hr, hu⟩ := read_fin x h
  rw [add_is, hr, read_zero, sum_num]
  have e1 : min (-1074 + (k : Int)) (-1074) = -1074 := by omega
  have e2 : (-1074 + (k : Int) - (-1074)).toNat = k := by omega
  rw [e1, e2, signed_zero, Int.add_zero]
  refine .inr ⟨_, _, rfl, rfl, ?_⟩
  by_cases hm : m = 0
  · subst hm
    rw [signed_zero]
    have n0 : nought x = true := by
      rw [nought_iff]; rw [Nat.zero_mul] at hu; exact (unitsOf_zero _).1 hu
    exact .inr ⟨by show nought (Ieee.double.nearest _ 0 _) = true; rw [nearest_zero]; exact nought_word _, n0⟩
  · left
    rw [if_neg (signed_ne _ _ _ hm), signed_neg _ _ _ hm, signed_abs]
    have := write_read x m k h64 h hu
    rw [← nearest_shift _ m _ k, show (-1074 : Int) + (k : Int) - (k : Int) = -1074 by omega] at this
    exact this
theorem sub_zero' (x : Nat) (h64 : x < 2 ^ 64) (h : fin x = true) : Oq (floatBits .sub .f64 x 0) (some x) := by
  have e : floatBits .sub .f64 x 0 = floatBits .add .f64 x (ng 0) := by rw [sub_is, add_is, read_ng]
  rw [e]
  exact (Wq.add (.refl x) (.inr ⟨by decide, by decide⟩)).trans (add_zero' x h64 h)
theorem product_num (s t : Bool) (m n : Nat) (i j : Int) : Datum.product (.number s m i) (.number t n j) = some (.number (s ^^ t) (m * n) (i + j)) := rfl
theorem write_num (s : Bool) (m : Nat) (p : Int) : Ieee.double.write (.number s m p) = Ieee.double.nearest s m p := rfl
theorem read_one : Ieee.double.read oneB = .number false (2 ^ 52) (-52) := by rw [read_eq]; decide
theorem mul_one' (x : Nat) (h64 : x < 2 ^ 64) (h : fin x = true) : fmul x oneB = x := by
  obtain ⟨m, k, hr, hu⟩ := read_fin x h
  unfold fmul
  rw [mul_is, hr, read_one, product_num, Option.map_some, Option.getD_some, write_num, Bool.xor_false]
  have := nearest_shift (minusB x) m (-1074 + (k : Int)) 52
  rw [show (-1074 : Int) + (k : Int) + -52 = -1074 + (k : Int) - ((52 : Nat) : Int) by omega, this]
  exact write_read x m k h64 h hu
theorem mul_zero' (x : Nat) (h : fin x = true) : nought (fmul x 0) = true := by
  obtain ⟨m, k, hr, hu⟩ := read_fin x h
  unfold fmul
  rw [mul_is, hr, read_zero, product_num, Option.map_some, Option.getD_some, write_num, Nat.mul_zero, nearest_zero]; exact nought_word _
theorem nought_Wq (x : Nat) (h : nought x = true) : Wq x 0 := .inr ⟨h, by decide⟩
/-- a word less a nought, a nought more a word -/
theorem sub_nought (x z : Nat) (h64 : x < 2 ^ 64) (h : fin x = true) (hz : nought z = true) : Oq (floatBits .sub .f64 x z) (some x) :=
  (Wq.sub (.refl x) (nought_Wq z hz)).trans (sub_zero' x h64 h)
theorem add_nought (x z : Nat) (h64 : x < 2 ^ 64) (h : fin x = true) (hz : nought z = true) : Oq (floatBits .add .f64 z x) (some x) := by
  rw [add_comm']; exact (Wq.add (.refl x) (nought_Wq z hz)).trans (add_zero' x h64 h)
theorem cl_lt (x : Nat) (h : x < 2 ^ 64) : cl x < 2 ^ 64 := by unfold cl; split <;> omega
theorem cre_lt (a b : Nat) (h : a < 2 ^ 64) : cre a b < 2 ^ 64 := by unfold cre; split; exact cl_lt a h; omega
theorem cim_lt (a b : Nat) (h : b < 2 ^ 64) : cim a b < 2 ^ 64 := by unfold cim; split; exact cl_lt b h; omega
theorem reO_some (x y : Nat) : reO (some x, some y) = cre x y := rfl
theorem imO_some (x y : Nat) : imO (some x, some y) = cim x y := rfl
theorem erO_some (x y : Nat) : erO (some x, some y) = cer x y := rfl

/-! CplxLaws: what each answer comes to -/
theorem sub_same (a b : Nat) : reO (sumO .sub a b a b) = 0 ∧ imO (sumO .sub a b a b) = 0 ∧ erO (sumO .sub a b a b) = 0 := by
  unfold sumO
  rw [sub_self' _ (fin_cre a b), sub_self' _ (fin_cim a b)]
  exact ⟨rfl, rfl, rfl⟩
theorem cre_00 : cre 0 0 = 0 := by decide
theorem cim_00 : cim 0 0 = 0 := by decide
theorem cre_10 : cre oneB 0 = oneB := by decide
theorem cim_10 : cim oneB 0 = 0 := by decide
theorem some_cl (x y : Nat) (hx : clean x) (hy : clean y) : reO (some x, some y) = x ∧ imO (some x, some y) = y ∧ erO (some x, some y) = 0 := by
  rw [reO_some, imO_some, erO_some, cre_clean x y hx hy, cim_clean x y hx hy, cer_fin x y hx.1 hy.1]
  exact ⟨rfl, rfl, rfl⟩
theorem add_nil (a b : Nat) (ha : a < 2 ^ 64) (hb : b < 2 ^ 64) : reO (sumO .add a b 0 0) = cre a b ∧ imO (sumO .add a b 0 0) = cim a b ∧ erO (sumO .add a b 0 0) = 0 := by
  unfold sumO
  rw [cre_00, cim_00]
  have h1 := add_zero' (cre a b) (cre_lt a b ha) (fin_cre a b)
  have h2 := add_zero' (cim a b) (cim_lt a b hb) (fin_cim a b)
  rw [reO_eq h1 h2, imO_eq h1 h2, erO_eq h1 h2]
  exact some_cl _ _ (clean_cre a b) (clean_cim a b)
theorem mul_unit (a b : Nat) (ha : a < 2 ^ 64) (hb : b < 2 ^ 64) : reO (mulO a b oneB 0) = cre a b ∧ imO (mulO a b oneB 0) = cim a b ∧ erO (mulO a b oneB 0) = 0 := by
  unfold mulO
  rw [cre_10, cim_10, mul_one' _ (cre_lt a b ha) (fin_cre a b), mul_one' _ (cim_lt a b hb) (fin_cim a b)]
  have h1 := sub_nought (cre a b) _ (cre_lt a b ha) (fin_cre a b) (mul_zero' (cim a b) (fin_cim a b))
  have h2 := add_nought (cim a b) _ (cim_lt a b hb) (fin_cim a b) (mul_zero' (cre a b) (fin_cre a b))
  rw [reO_eq h1 h2, imO_eq h1 h2, erO_eq h1 h2]
  exact some_cl _ _ (clean_cre a b) (clean_cim a b)

theorem mul_unit_lit (a b : Nat) (ha : a < 2 ^ 64) (hb : b < 2 ^ 64) : reO (mulO a b 4607182418800017408 0) = cre a b ∧ imO (mulO a b 4607182418800017408 0) = cim a b ∧ erO (mulO a b 4607182418800017408 0) = 0 := mul_unit a b ha hb

/-! CplxMirrors -/
theorem wq_cl_ng (x : Nat) : Wq (cl (ng x)) (ng x) := wq_cl _
theorem conjRe_pair (o p : Option Nat) : conjRe (reO (o, p)) (imO (o, p)) = reO (o, p) := by
  rw [conjRe_is]
  by_cases h : (finO o && finO p) = true
  · simp only [Bool.and_eq_true] at h
    have e1 : fin (reO (o, p)) = true := by
      unfold reO creO; simp only [h.1, h.2, Bool.and_self, if_true]
      cases o with
      | none => exact absurd h.1 (by decide)
      | some x => rw [Option.getD_some, fin_cl]; exact h.1
    have e2 : fin (imO (o, p)) = true := by
      unfold imO cimO; simp only [h.1, h.2, Bool.and_self, if_true]
      cases p with
      | none => exact absurd h.2 (by decide)
      | some x => rw [Option.getD_some, fin_cl]; exact h.2
    rw [cre_fin _ _ e1 e2]
    unfold reO creO; simp only [h.1, h.2, Bool.and_self, if_true]; exact cl_cl _
  · have e1 : reO (o, p) = 0 := by unfold reO creO; simp only; rw [if_neg h]
    have e2 : imO (o, p) = 0 := by unfold imO cimO; simp only; rw [if_neg h]
    rw [e1, e2]; exact cre_00
theorem conjIm_pair (o p : Option Nat) : conjIm (reO (o, p)) (imO (o, p)) = imO (o, p.map ng) := by
  rw [conjIm_is]
  have hm : finO (p.map ng) = finO p := by
    cases p with
    | none => rfl
    | some x => exact fin_ng x
  by_cases h : (finO o && finO p) = true
  · have h' := h
    simp only [Bool.and_eq_true] at h
    cases o with
    | none => exact absurd h.1 (by decide)
    | some x =>
      cases p with
      | none => exact absurd h.2 (by decide)
      | some y =>
        have f1 : fin x = true := h.1
        have f2 : fin y = true := h.2
        show cl (ng (cim (reO (some x, some y)) (imO (some x, some y)))) = imO (some x, some (ng y))
        rw [reO_some, imO_some, imO_some, cre_fin x y f1 f2, cim_fin x y f1 f2, cim_fin (cl x) (cl y) (by rw [fin_cl]; exact f1) (by rw [fin_cl]; exact f2),
          cim_fin x (ng y) f1 (by rw [fin_ng]; exact f2), cl_cl]
        exact (wq_cl y).ng.cl
  · have e1 : reO (o, p) = 0 := by unfold reO creO; simp only; rw [if_neg h]
    have e2 : imO (o, p) = 0 := by unfold imO cimO; simp only; rw [if_neg h]
    have e3 : imO (o, p.map ng) = 0 := by unfold imO cimO; simp only; rw [hm, if_neg h]
    rw [e1, e2, e3]; decide
theorem finO_map_ng (p : Option Nat) : finO (p.map ng) = finO p := by
  cases p with
  | none => rfl
  | some x => exact fin_ng x
theorem reO_map_ng (o p : Option Nat) : reO (o, p.map ng) = reO (o, p) := by unfold reO creO; simp only; rw [finO_map_ng]
theorem erO_map_ng (o p : Option Nat) : erO (o, p.map ng) = erO (o, p) := by unfold erO cerO; simp only; rw [finO_map_ng]

theorem mirror_sum (a b c d : Nat) :
    reO (sumO .add (conjRe a b) (conjIm a b) (conjRe c d) (conjIm c d)) = conjRe (reO (sumO .add a b c d)) (imO (sumO .add a b c d)) ∧
    imO (sumO .add (conjRe a b) (conjIm a b) (conjRe c d) (conjIm c d)) = conjIm (reO (sumO .add a b c d)) (imO (sumO .add a b c d)) ∧
    erO (sumO .add (conjRe a b) (conjIm a b) (conjRe c d) (conjIm c d)) = erO (sumO .add a b c d) := by
  unfold sumO
  rw [cre_conj, cre_conj, cim_conj, cim_conj, conjRe_pair, conjIm_pair]
  have h : Oq (floatBits .add .f64 (cl (ng (cim a b))) (cl (ng (cim c d)))) ((floatBits .add .f64 (cim a b) (cim c d)).map ng) :=
    (Wq.add (wq_cl_ng _) (wq_cl_ng _)).trans (add_ng _ _)
  rw [reO_eq (.refl _) h, imO_eq (.refl _) h, erO_eq (.refl _) h, reO_map_ng, erO_map_ng]
  exact ⟨rfl, rfl, rfl⟩
theorem mirror_product (a b c d : Nat) :
    reO (mulO (conjRe a b) (conjIm a b) (conjRe c d) (conjIm c d)) = conjRe (reO (mulO a b c d)) (imO (mulO a b c d)) ∧
    imO (mulO (conjRe a b) (conjIm a b) (conjRe c d) (conjIm c d)) = conjIm (reO (mulO a b c d)) (imO (mulO a b c d)) ∧
    erO (mulO (conjRe a b) (conjIm a b) (conjRe c d) (conjIm c d)) = erO (mulO a b c d) := by
  unfold mulO
  rw [cre_conj, cre_conj, cim_conj, cim_conj, conjRe_pair, conjIm_pair]
  have q : Wq (fmul (cl (ng (cim a b))) (cl (ng (cim c d)))) (fmul (cim a b) (cim c d)) :=
    (Wq.fmul (wq_cl_ng _) (wq_cl_ng _)).trans (fmul_ng_ng _ _ (fin_cim a b) (fin_cim c d))
  have r1 : Wq (fmul (cre a b) (cl (ng (cim c d)))) (ng (fmul (cre a b) (cim c d))) :=
    (Wq.fmul (.refl _) (wq_cl_ng _)).trans (fmul_ng_right _ _ (fin_cre a b) (fin_cim c d))
  have r2 : Wq (fmul (cl (ng (cim a b))) (cre c d)) (ng (fmul (cim a b) (cre c d))) :=
    (Wq.fmul (wq_cl_ng _) (.refl _)).trans (fmul_ng_left _ _ (fin_cim a b) (fin_cre c d))
  have h1 := Wq.sub (.refl (fmul (cre a b) (cre c d))) q
  have h2 := (Wq.add r1 r2).trans (add_ng _ _)
  rw [reO_eq h1 h2, imO_eq h1 h2, erO_eq h1 h2, reO_map_ng, erO_map_ng]
  exact ⟨rfl, rfl, rfl⟩
end Go.Proofs.YthgoihblpeeogaaDoor
