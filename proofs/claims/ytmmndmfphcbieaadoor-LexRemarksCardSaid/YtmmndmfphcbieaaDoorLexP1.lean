/- Plain: digits' numbers, the words, the ops. -/
import Derived.Test.YtmmndmfphcbieaaDoorLexE
namespace Go.Proofs.YtmmndmfphcbieaaDoor
/-- a digit's number -/
@[irreducible] def dgt (c : UInt8) : Nat := c.toNat - 48
theorem dgt_eq (c : UInt8) : dgt c = c.toNat - 48 := by unfold dgt; rfl
/-- what digits spell, behind acc -/
def valD (acc : Nat) (l : List UInt8) : Nat := l.foldl (fun a c => a * 10 + dgt c) acc
theorem valD_nil (acc : Nat) : valD acc [] = acc := by unfold valD; exact List.foldl_nil
theorem valD_cons (acc : Nat) (c : UInt8) (r : List UInt8) : valD acc (c :: r) = valD (acc * 10 + dgt c) r := by unfold valD; rw [List.foldl_cons]
def allDig (l : List UInt8) : Prop := ∀ c ∈ l, isDig (c.toNat : Int) = true
theorem isDig_iff (c : UInt8) : isDig (c.toNat : Int) = true ↔ 48 ≤ c.toNat ∧ c.toNat ≤ 57 := by
  unfold isDig
  simp
  omega
theorem valD_ge : ∀ (l : List UInt8) (acc : Nat), acc ≤ valD acc l
  | [], acc => Nat.le_refl _
  | c :: r, acc => by
    have := valD_ge r (acc * 10 + dgt c)
    rw [valD_cons]
    omega
theorem parseM : ∀ (l : List UInt8) (acc : Nat), allDig l → acc ≤ 18446744073709551615 →
    Lib.parseUintM 18446744073709551615 acc l = if valD acc l ≤ 18446744073709551615 then .ok (valD acc l) else .range
  | [], acc, _, ha => by rw [Lib.parseUintM, valD_nil, if_pos ha]
  | c :: r, acc, hl, ha => by
    have hc := (isDig_iff c).1 (hl c List.mem_cons_self)
    have hr : allDig r := fun d hd => hl d (List.mem_cons_of_mem _ hd)
    have hg := valD_ge r (acc * 10 + dgt c)
    rw [Lib.parseUintM, if_pos hc, valD_cons, ← dgt_eq c]
    split
    · rw [if_neg (by omega)]
    · split
      · rw [if_neg (by omega)]
      · exact parseM r _ hr (by omega)
theorem parse64 (l : List UInt8) (hl : allDig l) (h0 : l ≠ []) :
    Lib.parseIntB 64 l = if valD 0 l < 9223372036854775808 then .ok (valD 0 l : Int) else .range := by
  cases l with
  | nil => exact absurd rfl h0
  | cons c r =>
    have hc := (isDig_iff c).1 (hl c List.mem_cons_self)
    have hU : Lib.parseUintB 64 (c :: r) = if valD 0 (c :: r) ≤ 18446744073709551615 then .ok (valD 0 (c :: r)) else .range := by
      unfold Lib.parseUintB
      rw [if_neg (by simp), show 2 ^ 64 - 1 = 18446744073709551615 from by decide]
      exact parseM _ 0 hl (by omega)
    unfold Lib.parseIntB
    simp only
    rw [if_neg (by omega), hU]
    by_cases h1 : valD 0 (c :: r) < 9223372036854775808
    · rw [if_pos (by omega), if_pos h1]
      simp only
      rw [if_neg (by rintro ⟨_, h⟩; omega), if_neg (by rintro ⟨h, _⟩; omega), if_neg (by omega)]
    · rw [if_neg h1]
      split
      · rename_i e; split at e <;> simp at e
      · rfl
      · rename_i u e
        split at e
        · simp at e
          subst e
          rw [if_pos ⟨by omega, by omega⟩]
        · simp at e
theorem valD_snoc : ∀ (l : List UInt8) (acc : Nat) (c : UInt8), valD acc (l ++ [c]) = valD acc l * 10 + dgt c
  | [], acc, c => rfl
  | d :: r, acc, c => by
    rw [List.cons_append, valD_cons, valD_cons, valD_snoc r]
theorem valD_append : ∀ (l m : List UInt8) (acc : Nat), valD acc (l ++ m) = valD (valD acc l) m
  | [], m, acc => rfl
  | c :: r, m, acc => by rw [List.cons_append, valD_cons, valD_cons, valD_append r]
/-! the words -/
def noSp (l : List UInt8) : Prop := ∀ c ∈ l, c ≠ 32
theorem prefix_word : ∀ (t w r : List UInt8), noSp t → noSp w → (t ++ [32]).isPrefixOf (w ++ 32 :: r) = decide (t = w)
  | [], [], r, _, _ => by simp [List.isPrefixOf]
  | [], d :: w, r, _, hw => by
    have := hw d List.mem_cons_self
    simp [List.isPrefixOf, Ne.symm this]
  | c :: t, [], r, ht, _ => by
    have := ht c List.mem_cons_self
    simp [List.isPrefixOf, this]
  | c :: t, d :: w, r, ht, hw => by
    have ih := prefix_word t w r (fun x hx => ht x (List.mem_cons_of_mem _ hx)) (fun x hx => hw x (List.mem_cons_of_mem _ hx))
    simp only [List.cons_append, List.isPrefixOf, ih]
    by_cases h : c = d
    · subst h; simp
    · simp [h]
theorem index_cons (b : UInt8) (l sub : List UInt8) : decide (0 ≤ Lib.index (b :: l) sub) = (sub.isPrefixOf (b :: l) || decide (0 ≤ Lib.index l sub)) := by
  have hg := Lib.index_ge l sub
  rw [Lib.index]
  by_cases h : sub.isPrefixOf (b :: l) = true
  · simp [h]
  · simp only [Bool.not_eq_true] at h
    simp only [h, Bool.false_or]
    by_cases h' : Lib.index l sub = -1
    · simp [h']
    · simp [h']
      omega
/-- the suffixes of what begins with a blank: one word, and the rest -/
theorem index_word (t w r : List UInt8) (ht : noSp t) (hw : noSp w) : decide (0 ≤ Lib.index (32 :: (w ++ 32 :: r)) (32 :: t ++ [32])) = (decide (t = w) || decide (0 ≤ Lib.index (32 :: r) (32 :: t ++ [32]))) := by
  rw [index_cons]
  congr 1
  · simp only [List.cons_append, List.isPrefixOf, prefix_word t w r ht hw]; simp
  · induction w with
    | nil => rfl
    | cons c w ih =>
      rw [List.cons_append, index_cons]
      have : c ≠ 32 := hw c List.mem_cons_self
      simp only [List.cons_append, List.isPrefixOf]
      rw [show (32 == c) = false from by simp [Ne.symm this]]
      simp only [Bool.false_and, Bool.false_or]
      exact ih (fun x hx => hw x (List.mem_cons_of_mem _ hx))
def wordList : List (List UInt8) := [[102, 110], [108, 101, 116], [105, 102], [101, 108, 115, 101], [119, 104, 105, 108, 101], [98, 114, 101, 97, 107], [99, 111, 110, 116, 105, 110, 117, 101], [114, 101, 116, 117, 114, 110], [112, 114, 105, 110, 116], [110, 105, 108]]
theorem isWd_iff (t : List UInt8) (ht : noSp t) : isWd t = wordList.contains t := by
  have e : ∀ w ∈ wordList, noSp w := by unfold noSp wordList; decide
  have hc : isWd t = decide (0 ≤ Lib.index lexWords (32 :: t ++ [32])) := rfl
  rw [hc, show lexWords = 32 :: ([102, 110] ++ 32 :: ([108, 101, 116] ++ 32 :: ([105, 102] ++ 32 :: ([101, 108, 115, 101] ++ 32 :: ([119, 104, 105, 108, 101] ++ 32 :: ([98, 114, 101, 97, 107] ++ 32 :: ([99, 111, 110, 116, 105, 110, 117, 101] ++ 32 :: ([114, 101, 116, 117, 114, 110] ++ 32 :: ([112, 114, 105, 110, 116] ++ 32 :: ([110, 105, 108] ++ 32 :: [])))))))))) from rfl]
  rw [index_word t _ _ ht (e _ (by simp [wordList])), index_word t _ _ ht (e _ (by simp [wordList])), index_word t _ _ ht (e _ (by simp [wordList])), index_word t _ _ ht (e _ (by simp [wordList])), index_word t _ _ ht (e _ (by simp [wordList])), index_word t _ _ ht (e _ (by simp [wordList])), index_word t _ _ ht (e _ (by simp [wordList])), index_word t _ _ ht (e _ (by simp [wordList])), index_word t _ _ ht (e _ (by simp [wordList])), index_word t _ _ ht (e _ (by simp [wordList]))]
  have hl : decide (0 ≤ Lib.index [32] (32 :: t ++ [32])) = false := by
    rw [index_cons]
    cases t with
    | nil => decide
    | cons c r => simp [List.isPrefixOf, Lib.index]
  rw [hl]
  simp only [wordList, List.contains_cons, List.contains_nil, Bool.or_false, Bool.beq_eq_decide_eq]
end Go.Proofs.YtmmndmfphcbieaaDoor
