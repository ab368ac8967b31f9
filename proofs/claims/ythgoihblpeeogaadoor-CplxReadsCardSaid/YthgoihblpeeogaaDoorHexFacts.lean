/- Sixteen digits are read as the number that they were written of; the text of a number. -/
import Derived.Test.YthgoihblpeeogaaDoorHex
import Derived.Test.YthgoihblpeeogaaDoorPu16
import Derived.Test.YthgoihblpeeogaaDoorFlt
namespace Go.Proofs.YthgoihblpeeogaaDoor
open Go.RowKit
/-- the last k digits -/
def dl (u : Nat) : Nat → List UInt8
  | 0 => []
  | k + 1 => (hexB (u / 16 ^ k % 16)).toUInt8 :: dl u k
theorem dl_length (u k : Nat) : (dl u k).length = k := by induction k <;> simp [dl, *]
theorem dl_eq (u k : Nat) (h : k ≤ 65) : ((List.range 65).drop (65 - k)).map (fun j => (hexB (u / 16 ^ (64 - j) % 16)).toUInt8) = dl u k := by
  induction k with
  | zero => simp [dl]
  | succ k ih =>
    have e : (List.range 65).drop (65 - (k + 1)) = (64 - k) :: (List.range 65).drop (65 - k) := by
      rw [List.drop_eq_getElem_cons (by simp; omega)]
      have e1 : 65 - (k + 1) = 64 - k := by omega
      have e2 : 65 - (k + 1) + 1 = 65 - k := by omega
      rw [List.getElem_range, e2, e1]
    rw [e, List.map_cons, ih (by omega), dl, show 64 - (64 - k) = k by omega]
theorem hex16_list (u : Nat) : (hex16 u).data.toList = dl u 16 := by
  unfold hex16 tailS
  rw [List.toList_toArray]
  exact dl_eq u 16 (by omega)
theorem hex16_size (u : Nat) : (hex16 u).size = 16 := tail_size u 49
theorem hexVal_hexB (d : Nat) (h : d < 16) : hexVal (hexB d).toUInt8.toNat = some d := by
  rcases (by omega : d = 0 ∨ d = 1 ∨ d = 2 ∨ d = 3 ∨ d = 4 ∨ d = 5 ∨ d = 6 ∨ d = 7 ∨ d = 8 ∨ d = 9 ∨ d = 10 ∨ d = 11 ∨ d = 12 ∨ d = 13 ∨ d = 14 ∨ d = 15) with rfl | rfl | rfl | rfl | rfl | rfl | rfl | rfl | rfl | rfl | rfl | rfl | rfl | rfl | rfl | rfl <;> decide
theorem pu16_dl (u k : Nat) : ∀ acc, pu16 acc (dl u k) = some (acc * 16 ^ k + u % 16 ^ k) := by
  induction k with
  | zero => intro acc; simp [dl, pu16, Nat.mod_one]
  | succ k ih =>
    intro acc
    rw [dl, pu16, hexVal_hexB _ (by omega)]
    simp only
    rw [ih]
    congr 1
    have h1 : u % 16 ^ (k + 1) = 16 ^ k * (u / 16 ^ k % 16) + u % 16 ^ k := by
      rw [Nat.pow_succ, Nat.mod_mul, Nat.add_comm]
    rw [h1, Nat.pow_succ, Nat.add_mul, Nat.mul_assoc, Nat.mul_comm 16 (16 ^ k), Nat.mul_comm (u / 16 ^ k % 16)]
    omega
theorem pu16_hex (u : Nat) (h : u < 18446744073709551616) : pu16 0 (hex16 u).data.toList = some u := by
  rw [hex16_list, pu16_dl, Nat.zero_mul, Nat.zero_add, Nat.mod_eq_of_lt]
  have : (16 : Nat) ^ 16 = 18446744073709551616 := by decide
  omega
theorem pu16_bound (l : List UInt8) : ∀ acc n, pu16 acc l = some n → n < (acc + 1) * 16 ^ l.length := by
  induction l with
  | nil => intro acc n h; simp [pu16] at h; subst h; simp
  | cons c r ih =>
    intro acc n h
    rw [pu16] at h
    cases hd : hexVal c.toNat with
    | none => rw [hd] at h; cases h
    | some d =>
      rw [hd] at h
      have h1 := ih _ _ h
      have h2 := hexVal_lt _ _ hd
      have h3 : (acc * 16 + d + 1) * 16 ^ r.length ≤ ((acc + 1) * 16) * 16 ^ r.length := Nat.mul_le_mul_right _ (by omega)
      rw [List.length_cons, Nat.pow_succ]
      have h4 : (acc + 1) * (16 ^ r.length * 16) = ((acc + 1) * 16) * 16 ^ r.length := by
        rw [Nat.mul_assoc, Nat.mul_comm 16]
      omega
/-- the reference's: small letters alone -/
def lowVal (c : Nat) : Option Nat := if 48 ≤ c ∧ c ≤ 57 then some (c - 48) else if 97 ≤ c ∧ c ≤ 102 then some (c - 87) else none
def pl16 (acc : Nat) : List UInt8 → Option Nat
  | [] => some acc
  | c :: r => match lowVal c.toNat with
    | some d => pl16 (acc * 16 + d) r
    | none => none
theorem lowVal_lt (c d : Nat) (h : lowVal c = some d) : d < 16 := by
  unfold lowVal at h
  split at h
  · cases h; omega
  · split at h
    · cases h; omega
    · cases h
theorem lowVal_hexB (d : Nat) (h : d < 16) : lowVal (hexB d).toUInt8.toNat = some d := by
  rcases (by omega : d = 0 ∨ d = 1 ∨ d = 2 ∨ d = 3 ∨ d = 4 ∨ d = 5 ∨ d = 6 ∨ d = 7 ∨ d = 8 ∨ d = 9 ∨ d = 10 ∨ d = 11 ∨ d = 12 ∨ d = 13 ∨ d = 14 ∨ d = 15) with rfl | rfl | rfl | rfl | rfl | rfl | rfl | rfl | rfl | rfl | rfl | rfl | rfl | rfl | rfl | rfl <;> decide
theorem pl16_dl (u k : Nat) : ∀ acc, pl16 acc (dl u k) = some (acc * 16 ^ k + u % 16 ^ k) := by
  induction k with
  | zero => intro acc; simp [dl, pl16, Nat.mod_one]
  | succ k ih =>
    intro acc
    rw [dl, pl16, lowVal_hexB _ (by omega)]
    simp only
    rw [ih]
    congr 1
    have h1 : u % 16 ^ (k + 1) = 16 ^ k * (u / 16 ^ k % 16) + u % 16 ^ k := by
      rw [Nat.pow_succ, Nat.mod_mul, Nat.add_comm]
    rw [h1, Nat.pow_succ, Nat.add_mul, Nat.mul_assoc, Nat.mul_comm 16 (16 ^ k), Nat.mul_comm (u / 16 ^ k % 16)]
    omega
theorem pl16_hex (u : Nat) (h : u < 18446744073709551616) : pl16 0 (hex16 u).data.toList = some u := by
  rw [hex16_list, pl16_dl, Nat.zero_mul, Nat.zero_add, Nat.mod_eq_of_lt]
  have : (16 : Nat) ^ 16 = 18446744073709551616 := by decide
  omega
theorem pl16_bound (l : List UInt8) : ∀ acc n, pl16 acc l = some n → n < (acc + 1) * 16 ^ l.length := by
  induction l with
  | nil => intro acc n h; simp [pl16] at h; subst h; simp
  | cons c r ih =>
    intro acc n h
    rw [pl16] at h
    cases hd : lowVal c.toNat with
    | none => rw [hd] at h; cases h
    | some d =>
      rw [hd] at h
      have h1 := ih _ _ h
      have h2 := lowVal_lt _ _ hd
      have h3 : (acc * 16 + d + 1) * 16 ^ r.length ≤ ((acc + 1) * 16) * 16 ^ r.length := Nat.mul_le_mul_right _ (by omega)
      rw [List.length_cons, Nat.pow_succ]
      have h4 : (acc + 1) * (16 ^ r.length * 16) = ((acc + 1) * 16) * 16 ^ r.length := by
        rw [Nat.mul_assoc, Nat.mul_comm 16]
      omega

/-- a number's text -/
def textB (p q : Nat) : ByteArray := ((((⟨#[60]⟩ : ByteArray) ++ hex16 p) ++ (⟨#[44]⟩ : ByteArray)) ++ hex16 q) ++ (⟨#[62]⟩ : ByteArray)
theorem textB_list (p q : Nat) : (textB p q).data.toList = 60 :: (dl p 16 ++ 44 :: (dl q 16 ++ [62])) := by
  unfold textB
  simp [ByteArray.data_append, hex16_list]
theorem textB_size (p q : Nat) : (textB p q).size = 35 := by
  have h : (textB p q).data.toList.length = 35 := by
    rw [textB_list, List.length_cons, List.length_append, List.length_cons, List.length_append, dl_length, dl_length]; rfl
  rw [Array.length_toList] at h; exact h
theorem extract_list (s : ByteArray) (a b : Nat) : (s.extract a b).data.toList = (s.data.toList.drop a).take (b - a) := by
  rw [ByteArray.data_extract, Array.toList_extract, List.extract_eq_take_drop]
theorem bytes_ext {a b : ByteArray} (h : a.data.toList = b.data.toList) : a = b := by
  apply ByteArray.ext; exact Array.toList_inj.1 h
theorem textB_first (p q : Nat) : (textB p q).extract 1 17 = hex16 p := by
  apply bytes_ext
  rw [extract_list, textB_list, hex16_list, List.drop_succ_cons, List.drop_zero]
  exact List.take_left' (dl_length p 16)
theorem textB_second (p q : Nat) : (textB p q).extract 18 34 = hex16 q := by
  apply bytes_ext
  rw [extract_list, textB_list, hex16_list, List.drop_succ_cons, List.drop_append, dl_length, List.drop_of_length_le (by rw [dl_length]; omega), List.nil_append]
  exact List.take_left' (dl_length q 16)
end Go.Proofs.YthgoihblpeeogaaDoor
