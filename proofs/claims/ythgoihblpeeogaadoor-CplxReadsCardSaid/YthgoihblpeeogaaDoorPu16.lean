/- strconv.ParseUint to the base 16 of at most sixteen bytes, walked: the number, or an error that is not nil. -/
import Derived.Test.YthgoihblpeeogaaDoorProg
import Derived.Test.YthgoihblpeeogaaDoorShelf
import Derived.Lib.Strings
import Derived.Lib.Walk
import Derived.Lib.ConvBytes
import Derived.Lib.AtoiAllMem
import Derived.Lib.AtoiErrMem
import Derived.Lib.Hide
import Derived.Laws.Strings3
import Derived.Laws.Closers25
import Derived.Laws.Closers25b
import Derived.WalkKit
import Derived.WalkSpells
import Derived.WalkLawsBesides
namespace Go.Proofs.YthgoihblpeeogaaDoor
open Go.RowKit

/-- the letter made small, as a number -/
def lowI (c : Nat) : Int := bits .or .u8 (c : Int) 32
/-- the digit that a byte is -/
def hexVal (c : Nat) : Option Nat :=
  if 48 ≤ c ∧ c ≤ 57 then some (c - 48) else if 97 ≤ lowI c ∧ lowI c ≤ 102 then some (lowI c - 87).toNat else none
def pu16 (acc : Nat) : List UInt8 → Option Nat
  | [] => some acc
  | c :: r => match hexVal c.toNat with
    | some d => pu16 (acc * 16 + d) r
    | none => none
def puV (l : List UInt8) : Int := match pu16 0 l with | some n => (n : Int) | none => 0
def puErr (l : List UInt8) : Value := match pu16 0 l with | some _ => .nilIface | none => .iface 77 (.int .i64 2)
theorem hexVal_lt (c d : Nat) (h : hexVal c = some d) : d < 16 := by
  unfold hexVal at h
  split at h
  · cases h; omega
  · split at h
    · cases h; omega
    · cases h

set_option maxHeartbeats 4000000 in
set_option maxRecDepth 100000 in
theorem iparse16 (t : ByteArray) (hne : t.size ≠ 0) (hmax : t.size ≤ 16) (w : World) :
    Calls Tryd.prog 36 #[.string t, .int .i64 16, .int .i64 64] w fun e w' => e = .returned (.tuple #[.int .u64 (puV t.data.toList), puErr t.data.toList]) ∧ Below w.heap.size w w' := by
  have hemp : t.toList.isEmpty = false := by
    rw [← decide_eq_emptyBytes]
    exact decide_eq_false (fun h => hne (by rw [h]; rfl))
  have hcv := Lib.run_convert_string_bytes (P := Tryd.prog) w 9 39 5 t (u := .string) Tryd.underlying9 Tryd.underlying39 Tryd.underlying5
  have hB : ∀ j, j < t.size → (Lib.bytesWorld w 5 t).cell? ⟨w.heap.size, j, none⟩ = some (.int .u8 (t.data.toList.getD j 0).toNat) := fun j hj => Lib.bytesWorld_cell w 5 t j hj
  have hbel : Below w.heap.size w (Lib.bytesWorld w 5 t) := Lib.bytesWorld_below w 5 t
  obtain ⟨W1, hW1⟩ : ∃ W1, W1 = Lib.bytesWorld w 5 t := ⟨_, rfl⟩
  rw [← hW1] at hcv hB hbel
  clear hW1
  obtain ⟨bs, hL⟩ : ∃ bs, bs = t.data.toList := ⟨_, rfl⟩
  have hLn : bs.length = t.size := by rw [hL, Lib.size_eq]
  rw [← hL] at hB ⊢
  clear hL
  have hmv : IntKind.u64.wrap (IntKind.u64.wrap 18446744073709551616 - 1) = 18446744073709551615 := by
    rw [IntKind.wrap_u64, IntKind.wrap_u64]
    decide
  go_enter Tryd.func36, Tryd.ntmps36
  go_wp2
  go_loop [12, 13, 101] (fun vu vn vi => ∃ (k acc : Nat) (a : Int), vu = .bool false ∧ vn = .int .u64 a ∧ vi = .int .i64 k ∧ k ≤ t.size ∧ Hid (a = (acc : Int) ∧ acc < 16 ^ k ∧ pu16 0 bs = pu16 acc (bs.drop k)))
    (fun _ _ vi => t.size - (intOf vi).toNat)
  case atStart => exact ⟨0, 0, 0, rfl, rfl, rfl, by omega, rfl, by omega, rfl⟩
  case round =>
    obtain ⟨k, acc, a, rfl, rfl, rfl, hk, hh⟩ := hrel
    obtain ⟨ha, hacc, hdec⟩ := hh.out
    clear hh
    have a0 : 0 ≤ a := by omega
    by_cases hkn : k < t.size
    · have hc := hB k hkn
      have hdrop : bs.drop k = bs[k]'(by omega) :: bs.drop (k + 1) := List.drop_eq_getElem_cons (by omega)
      have hget : bs.getD k 0 = bs[k]'(by omega) := by simp [List.getD, List.getElem?_eq_getElem (show k < bs.length by omega)]
      rw [hdrop] at hdec
      rw [hget] at hc
      generalize bs[k]'(by omega) = c at hc hdec
      have hc256 : c.toNat < 256 := c.toNat_lt
      have haccb : acc < 1152921504606846976 := by
        have h1 : 16 ^ k ≤ 16 ^ 15 := Nat.pow_le_pow_right (by omega) (by omega)
        have h2 : (16 : Nat) ^ 15 = 1152921504606846976 := by decide
        omega
      have a1 : a < 1152921504606846976 := by omega
      clear hB hdrop hget
      by_cases hdig : 48 ≤ c.toNat ∧ c.toNat ≤ 57
      · obtain ⟨hd0, hd1⟩ := hdig
        have hF : pu16 acc (c :: bs.drop (k + 1)) = pu16 (acc * 16 + (c.toNat - 48)) (bs.drop (k + 1)) := by simp [pu16, hexVal, hd0, hd1]
        have HN : Hid (a * 16 + ((c.toNat : Int) - 48) = ((acc * 16 + (c.toNat - 48) : Nat) : Int) ∧ acc * 16 + (c.toNat - 48) < 16 ^ (k + 1) ∧ pu16 0 bs = pu16 (acc * 16 + (c.toNat - 48)) (bs.drop (k + 1))) := Lib.hid ⟨by omega, by rw [Nat.pow_succ]; omega, hdec.trans hF⟩
        clear hacc hF hdec ha haccb
        go_wp2
        refine ⟨⟨k + 1, acc * 16 + (c.toNat - 48), a * 16 + ((c.toNat : Int) - 48), rfl, (by first | rfl | (congr 1; omega)), (by first | rfl | (congr 1; omega)), by omega, HN⟩, by simp [intOf]; omega⟩
      · have hv0 := bits_lo_u8 .or (c.toNat : Int) 32
        have hv1 := bits_hi_u8 .or (c.toNat : Int) 32
        have hu0 := bits_lo_u8 .or 95 32
        have hu1 := bits_hi_u8 .or 95 32
        have hl : lowI c.toNat = bits .or .u8 (c.toNat : Int) 32 := rfl
        have hdn : ¬ (48 ≤ (c.toNat : Int) ∧ (c.toNat : Int) ≤ 57) := by omega
        by_cases hlet : 97 ≤ bits .or .u8 (c.toNat : Int) 32 ∧ bits .or .u8 (c.toNat : Int) 32 ≤ 102
        · have hF : pu16 acc (c :: bs.drop (k + 1)) = pu16 (acc * 16 + (lowI c.toNat - 87).toNat) (bs.drop (k + 1)) := by
            have : hexVal c.toNat = some (lowI c.toNat - 87).toNat := by unfold hexVal; rw [if_neg hdig, if_pos (by rw [hl]; exact hlet)]
            simp [pu16, this]
          rw [hl] at hF
          clear hl
          have hne95 : ((c.toNat : Int) == 95) = false := by
            rw [beq_eq_false_iff_ne]; intro e
            rw [e] at hlet
            exact absurd hlet (by decide)
          obtain ⟨L, hL⟩ : ∃ L, bits .or .u8 (c.toNat : Int) 32 = L := ⟨_, rfl⟩
          rw [hL] at hlet hF hv0 hv1
          obtain ⟨hl0, hl1⟩ := hlet
          have HN : Hid (a * 16 + (L - 97 + 10) = ((acc * 16 + (L - 87).toNat : Nat) : Int) ∧ acc * 16 + (L - 87).toNat < 16 ^ (k + 1) ∧ pu16 0 bs = pu16 (acc * 16 + (L - 87).toNat) (bs.drop (k + 1))) := Lib.hid ⟨by omega, by rw [Nat.pow_succ]; omega, hdec.trans hF⟩
          clear hacc hF hdec ha haccb hdig hu0 hu1
          go_wp2_with (go_at_call 48; refine (Tryd.internal_strconv_lower _ _).mono ?_; rintro e w' ⟨rfl, rfl⟩)
          all_goals refine ⟨⟨k + 1, acc * 16 + (L - 87).toNat, a * 16 + (L - 97 + 10), rfl, (by first | rfl | (congr 1; omega)), (by first | rfl | (congr 1; omega)), by omega, HN⟩, by simp [intOf]; omega⟩
        · -- NO DIGIT: whatever way the text goes
          have hF : pu16 acc (c :: bs.drop (k + 1)) = none := by
            have : hexVal c.toNat = none := by unfold hexVal; rw [if_neg hdig, if_neg (by rw [hl]; exact hlet)]
            simp [pu16, this]
          rw [hF] at hdec
          have hres : (Ending.returned (.tuple #[.int .u64 0, .iface 77 (.int .i64 2)])) = .returned (.tuple #[.int .u64 (puV bs), puErr bs]) := by
            simp only [puV, puErr, hdec]
          have HR := Lib.hid hres
          clear hacc hF ha hl hdec hres haccb
          go_wp2_with (go_at_call 48; refine (Tryd.internal_strconv_lower _ _).mono ?_; rintro e w' ⟨rfl, rfl⟩)
          all_goals go_ret2
          all_goals exact ⟨HR.out, hbel⟩
    · -- THE BYTES ARE AT AN END
      have hkk : k = t.size := by omega
      subst hkk
      have hF : pu16 acc (bs.drop t.size) = some acc := by rw [List.drop_eq_nil_of_le (by omega)]; rfl
      rw [hF] at hdec
      have hres : (Ending.returned (.tuple #[.int .u64 a, .nilIface])) = .returned (.tuple #[.int .u64 (puV bs), puErr bs]) := by
        simp only [puV, puErr, hdec, ha]
      have HR := Lib.hid hres
      clear hacc hF ha hdec hres
      go_wp2
      go_ret2
      exact ⟨HR.out, hbel⟩
end Go.Proofs.YthgoihblpeeogaaDoor
