/- The sixteen digits of a word: strconv.FormatUint to the base 16, package cplx's hex and the references' hex, walked. -/
import Derived.Test.YthgoihblpeeogaaDoorProg
import Derived.Test.YthgoihblpeeogaaDoorShelf
import Derived.WalkKit
import Derived.WalkSpells
import Derived.WalkLawsBesides
import Derived.Lib.Hide
namespace Go.Proofs.YthgoihblpeeogaaDoor
open Go.RowKit
theorem tz16 (w : World) (h : w.cell? ⟨6, 15, none⟩ = some (.int .u8 4)) :
    Calls Tryd.prog 71 #[.int .u64 16] w fun e w' => e = .returned (.int .i64 4) ∧ w = w' := by
  have h1 : bits .and .u64 16 (IntKind.u64.wrap (-16)) = 16 := by decide
  have h2 : IntKind.u64.wrap 4573923408821661840 = 4573923408821661840 := by decide
  go_enter Tryd.func71, Tryd.ntmps71
  go_wp2
  go_ret
  exact ⟨rfl, rfl⟩
theorem pow2 (w : World)  :
    Calls Tryd.prog 70 #[.int .i64 16] w fun e w' => e = .returned (.bool true) ∧ w = w' := by
  go_enter Tryd.func70, Tryd.ntmps70
  go_wp2
  go_ret
  exact ⟨rfl, rfl⟩
/-- a digit's byte -/
def hexB (d : Nat) : Nat := if d < 10 then 48 + d else 87 + d
theorem hexB_byte (d : Nat) : (hexB (d % 16)).toUInt8.toNat = hexB (d % 16) := by
  have : hexB (d % 16) < 256 := by unfold hexB; split <;> omega
  simp; omega
/-- 65 bytes, those from place q on the digits of u -/
def arr (u q : Nat) : Array Value := ((List.range 65).map fun j => if q ≤ j then Value.int .u8 (hexB (u / 16 ^ (64 - j) % 16) : Nat) else .int .u8 0).toArray
theorem arr_zero (u : Nat) : arr u 65 = Tryd.zeroCells101 := by
  have : arr u 65 = ((List.range 65).map fun _ => Value.int .u8 0).toArray := by
    unfold arr
    refine congrArg List.toArray (List.map_congr_left ?_)
    intro j hj
    rw [List.mem_range] at hj
    rw [if_neg (by omega)]
  rw [this]; rfl
theorem arr_size (u k : Nat) : (arr u k).size = 65 := by unfold arr; simp
theorem arr_get (u k j : Nat) (h : j < 65) : (arr u k)[j]? = some (if k ≤ j then Value.int .u8 (hexB (u / 16 ^ (64 - j) % 16) : Nat) else .int .u8 0) := by
  unfold arr
  simp [h]
theorem arr_set (u q : Nat) (h : q < 65) : (arr u (q + 1)).setIfInBounds q (.int .u8 (hexB (u / 16 ^ (64 - q) % 16) : Nat)) = arr u q := by
  apply Array.ext_getElem?
  intro j
  by_cases hj : j < 65
  · rw [Array.getElem?_setIfInBounds, arr_size, arr_get _ _ _ hj, arr_get _ _ _ hj]
    by_cases e : q = j
    · subst e
      rw [if_pos rfl, if_pos h, if_pos (Nat.le_refl _)]
    · rw [if_neg e]
      by_cases f : q + 1 ≤ j
      · rw [if_pos f, if_pos (by omega)]
      · rw [if_neg f, if_neg (by omega)]
  · rw [Array.getElem?_eq_none (by simp [arr_size]; omega), Array.getElem?_eq_none (by rw [arr_size]; omega)]
theorem mask15 (X : Nat) : bits .and .u64 (X : Int) 15 = ((X % 16 : Nat) : Int) := by
  show IntKind.u64.wrap ((BitVec.ofInt 64 (X : Int) &&& BitVec.ofInt 64 15).toNat : Int) = _
  have e : (BitVec.ofInt 64 (X : Int) &&& BitVec.ofInt 64 15).toNat = X % 16 := by
    have h1 : (BitVec.ofInt 64 (X : Int)).toNat = X % 2 ^ 64 := by simp
    have h2 : (BitVec.ofInt 64 15).toNat = 2 ^ 4 - 1 := by decide
    rw [BitVec.toNat_and, h1, h2, Nat.and_two_pow_sub_one_eq_mod]; omega
  rw [e, IntKind.wrap_u64]; omega
theorem digits_get (D : Nat) (h : D < 16) (h' : D < (ByteArray.mk #[48, 49, 50, 51, 52, 53, 54, 55, 56, 57, 97, 98, 99, 100, 101, 102, 103, 104, 105, 106, 107, 108, 109, 110, 111, 112, 113, 114, 115, 116, 117, 118, 119, 120, 121, 122]).size) :
    ((ByteArray.mk #[48, 49, 50, 51, 52, 53, 54, 55, 56, 57, 97, 98, 99, 100, 101, 102, 103, 104, 105, 106, 107, 108, 109, 110, 111, 112, 113, 114, 115, 116, 117, 118, 119, 120, 121, 122])[D]'h').toNat = hexB D := by
  rcases (by omega : D = 0 ∨ D = 1 ∨ D = 2 ∨ D = 3 ∨ D = 4 ∨ D = 5 ∨ D = 6 ∨ D = 7 ∨ D = 8 ∨ D = 9 ∨ D = 10 ∨ D = 11 ∨ D = 12 ∨ D = 13 ∨ D = 14 ∨ D = 15) with rfl | rfl | rfl | rfl | rfl | rfl | rfl | rfl | rfl | rfl | rfl | rfl | rfl | rfl | rfl | rfl <;> rfl
/-- the bytes of the number from place q on -/
def tailS (u q : Nat) : ByteArray := ⟨(((List.range 65).drop q).map fun j => (hexB (u / 16 ^ (64 - j) % 16)).toUInt8).toArray⟩
def HexRet (u : Nat) (e : Ending) : Prop := ∃ r, 49 ≤ r ∧ r ≤ 64 ∧ u / 16 ^ (65 - r) = 0 ∧ e = .returned (.tuple #[.slice none 0 0, .string (tailS u r)])
def FmtRet (u : Nat) (e : Ending) : Prop := ∃ r, 49 ≤ r ∧ r ≤ 64 ∧ u / 16 ^ (65 - r) = 0 ∧ e = .returned (.string (tailS u r))
set_option maxRecDepth 100000 in
theorem fb16 (u : Nat) (hu : u < 18446744073709551616) (w : World) (h : w.cell? ⟨6, 15, none⟩ = some (.int .u8 4)) :
    Calls Tryd.prog 58 #[.slice none 0 0, .int .u64 u, .int .i64 16, .bool false, .bool false] w fun e w' => HexRet u e ∧ Below w.heap.size w w' := by
  have hlt : 6 < w.heap.size := by
    rcases Nat.lt_or_ge 6 w.heap.size with g | g
    · exact g
    · exfalso; simp [World.cell?, Array.getElem?_eq_none g] at h
  have hal : ∀ o, (w.alloc o).cell? ⟨6, 15, none⟩ = some (.int .u8 4) := fun o => (World.cell?_alloc_lt _ _ _ hlt).trans h
  go_enter Tryd.func58, Tryd.ntmps58
  go_wp2_with (first | (go_at_call 70; refine (pow2 _).mono ?_; rintro e w' ⟨rfl, rfl⟩) | (go_at_call 71; refine (tz16 _ (hal _)).mono ?_; rintro e w' ⟨rfl, rfl⟩))
  have hz : w.alloc (.cells Tryd.zeroCells101 101) = w.alloc (.cells (arr u 65) 101) := by rw [arr_zero]
  rw [hz]; clear hz hal h
  go_loopw [1, 13] (fun v i wr => ∃ q : Nat, 50 ≤ q ∧ q ≤ 65 ∧ v = .int .u64 ((u / 16 ^ (65 - q) : Nat) : Int) ∧ i = .int .i64 (q : Int) ∧ wr = w.alloc (.cells (arr u q) 101)) (fun v _ _ => (intOf v).toNat)
  case atStart => exact ⟨65, by omega, by omega, by simp, rfl, rfl⟩
  case round =>
    obtain ⟨q, hq1, hq2, rfl, rfl, rfl⟩ := hrel
    obtain ⟨r, rfl⟩ : ∃ r, q = r + 1 := ⟨q - 1, by omega⟩
    obtain ⟨X, hX⟩ : ∃ X, u / 16 ^ (65 - (r + 1)) = X := ⟨_, rfl⟩
    have hXb : X < 18446744073709551616 := by rw [← hX]; exact Nat.lt_of_le_of_lt (Nat.div_le_self _ _) hu
    have hXr : 16 ≤ X → 50 ≤ r := by
      intro g
      rw [← hX] at g
      rcases Nat.lt_or_ge r 50 with f | f
      · have : r = 49 := by omega
        subst this; omega
      · exact f
    have hnext : u / 16 ^ (65 - r) = X / 16 := by
      rw [← hX, show 65 - r = (65 - (r + 1)) + 1 by omega, Nat.pow_succ, Nat.div_div_eq_div_mul]
    rw [hX]
    have hset := arr_set u r (by omega)
    have hget := arr_get u (r + 1) r (by omega)
    rw [if_neg (by omega)] at hget
    rw [show 64 - r = 65 - (r + 1) by omega, hX] at hset
    clear hX
    have hm := mask15 X
    have hd16 : X % 16 < 16 := by omega
    have HN := Lib.hid hnext
    clear hnext
    have hsz := arr_size u (r + 1)
    by_cases hge : 16 ≤ X
    · have hr50 := hXr hge
      clear hXr
      go_wp2
      go_roundw
      case rel => exact ⟨r, hr50, by omega, by rw [HN.out]; rfl, rfl, by rw [digits_get (X % 16) hd16]; exact congrArg (fun a => w.alloc (.cells a 101)) hset⟩
      case measure => simp [intOf]; omega
    · clear hXr
      have hX16 : X % 16 = X := Nat.mod_eq_of_lt (by omega)
      rw [hX16] at hset
      have hdg := digits_get X (by omega)
      have hsl : ∀ W', (Instr.sliceAt 101 (.pointer (some ⟨w.heap.size, 0, none⟩)) (some (.int .i64 (r : Int))) none none).run Tryd.prog W' = .ok (.slice (some ⟨w.heap.size, r, none⟩) (65 - r) (65 - r)) W' := by
        intro W'
        have hlen : Tryd.prog.arrayLen 101 = 65 := by kernel_rfl
        rw [run_sliceAt_array_l (ht := by kernel_rfl) (h0 := by omega) (h1 := by rw [hlen]; omega), hlen, show Tryd.prog.elem 101 = 5 by kernel_rfl, Tryd.sizeOf5]
        simp only [slicedAt, Int.toNat_natCast, Result.andThen, Nat.mul_one]
        rw [if_neg (by omega)]
        unfold Addr.add
        rw [if_neg (by omega)]
        simp
      have hcv : ∀ cap, (convert 39 9 (.slice (some ⟨w.heap.size, r, none⟩) (65 - r) cap)).run Tryd.prog (w.alloc (.cells (arr u r) 101)) = .ok (.string (tailS u r)) (w.alloc (.cells (arr u r) 101)) := by
        intro cap
        have hl : (((List.range 65).drop r).map fun j => (hexB (u / 16 ^ (64 - j) % 16)).toUInt8).length = 65 - r := by simp
        have := run_convert_bytes_back (P := Tryd.prog) (w.alloc (.cells (arr u r) 101)) 39 9 5 ⟨w.heap.size, r, none⟩ cap (((List.range 65).drop r).map fun j => (hexB (u / 16 ^ (64 - j) % 16)).toUInt8) Tryd.underlying39 Tryd.underlying5 Tryd.underlying9 (by
          intro j hj
          rw [hl] at hj
          rw [show (⟨w.heap.size, r, none⟩ : Addr).add j = ⟨w.heap.size, r + j, none⟩ by (unfold Addr.add; split <;> simp_all), World.cell?_alloc_new, arr_get u r (r + j) (by omega), if_pos (by omega)]
          rw [List.getElem_map, List.getElem_drop, List.getElem_range, hexB_byte])
        rw [hl] at this
        exact this
      have hfin : HexRet u (.returned (.tuple #[.slice none 0 0, .string (tailS u r)])) := ⟨r, by omega, by omega, by rw [HN.out, Nat.div_eq_of_lt (by omega)], rfl⟩
      clear HN hm hd16
      go_wp2
      go_ret2
      exact ⟨hfin, (Below.refl _ _).alloc (Nat.le_refl _) _⟩

theorem formatUint16 (u : Nat) (hu : u < 18446744073709551616) (w : World) (h : w.cell? ⟨6, 15, none⟩ = some (.int .u8 4)) :
    Calls Tryd.prog 41 #[.int .u64 u, .int .i64 16] w fun e w' => FmtRet u e ∧ Below w.heap.size w w' := by
  go_enter Tryd.func41, Tryd.ntmps41
  go_wp2_with fail
  refine (fb16 u hu _ h).mono ?_
  rintro e w1 ⟨⟨r, h1, h2, h3, rfl⟩, hb⟩
  have hfin : FmtRet u (.returned (.string (tailS u r))) := ⟨r, h1, h2, h3, rfl⟩
  clear h3
  go_wp2
  go_ret
  exact ⟨hfin, hb⟩
theorem strconvFormatUint16 (u : Nat) (hu : u < 18446744073709551616) (w : World) (h : w.cell? ⟨6, 15, none⟩ = some (.int .u8 4)) :
    Calls Tryd.prog 34 #[.int .u64 u, .int .i64 16] w fun e w' => FmtRet u e ∧ Below w.heap.size w w' := by
  go_enter Tryd.func34, Tryd.ntmps34
  go_wp2_with fail
  refine (formatUint16 u hu _ h).mono ?_
  rintro e w1 ⟨⟨r, h1, h2, h3, rfl⟩, hb⟩
  have hfin : FmtRet u (.returned (.string (tailS u r))) := ⟨r, h1, h2, h3, rfl⟩
  clear h3
  go_wp2
  go_ret
  exact ⟨hfin, hb⟩
/-- sixteen digits -/
def hex16 (u : Nat) : ByteArray := tailS u 49
theorem tail_size (u q : Nat) : (tailS u q).size = 65 - q := by unfold tailS; simp [ByteArray.size]
theorem rep48 (c : Nat) : Lib.repeatL [48] c = List.replicate c (48 : UInt8) := by
  have := Lib.repeatL_replicate 48 1 c
  rw [Nat.mul_one] at this; exact this
theorem fill16 (u r : Nat) (h1 : 49 ≤ r) (h2 : r ≤ 64) (h3 : u / 16 ^ (65 - r) = 0) : (⟨(Lib.repeatL [48] (r - 49)).toArray⟩ : ByteArray) ++ tailS u r = hex16 u := by
  obtain ⟨c, rfl⟩ : ∃ c, r = 49 + c := ⟨r - 49, by omega⟩
  have e1 : (List.range 65).drop 49 = ((List.range 65).drop 49).take c ++ (List.range 65).drop (49 + c) := by
    rw [← List.drop_drop, List.take_append_drop]
  have e2 : (((List.range 65).drop 49).take c).map (fun j => (hexB (u / 16 ^ (64 - j) % 16)).toUInt8) = Lib.repeatL [48] c := by
    rw [rep48]
    apply List.ext_getElem
    · simp; omega
    · intro i hi1 hi2
      rw [List.getElem_map, List.getElem_take, List.getElem_drop, List.getElem_range, List.getElem_replicate]
      have hi : i < c := by simpa using hi2
      have z : u / 16 ^ (64 - (49 + i)) = 0 := by
        have hp : 16 ^ (65 - (49 + c)) ∣ 16 ^ (64 - (49 + i)) := Nat.pow_dvd_pow _ (by omega)
        obtain ⟨d, hd⟩ := hp
        rw [hd, ← Nat.div_div_eq_div_mul, h3, Nat.zero_div]
      rw [z]; rfl
  unfold hex16 tailS
  apply ByteArray.ext
  rw [ByteArray.data_append, show 49 + c - 49 = c by omega, e1, List.map_append, e2]
  simp
theorem hex_calls (u : Nat) (hu : u < 18446744073709551616) (w : World) (h : w.cell? ⟨6, 15, none⟩ = some (.int .u8 4)) :
    Calls Tryd.prog 23 #[.int .u64 u] w fun e w' => e = .returned (.string (hex16 u)) ∧ Below w.heap.size w w' := by
  go_enter Tryd.func23, Tryd.ntmps23
  go_wp2_with fail
  refine (strconvFormatUint16 u hu _ h).mono ?_
  rintro e w1 ⟨⟨r, h1, h2, h3, rfl⟩, hb⟩
  have hsz := tail_size u r
  have hF := fill16 u r h1 h2 h3
  clear h3
  go_wp2_with fail
  rw [show (16 - ((65 - r : Nat) : Int)) = ((r - 49 : Nat) : Int) by omega]
  refine (Tryd.strings_Repeat ⟨#[48]⟩ (r - 49) _ (by omega) (by show 1 * (r - 49) ≤ _; omega)).mono ?_
  rintro e w2 ⟨rfl, hb2⟩
  have hb3 := hb.trans (hb2.mono hb.size)
  have hl : (⟨#[48]⟩ : ByteArray).data.toList = [48] := rfl
  rw [hl]
  have hzs : (ByteArray.mk (Lib.repeatL [48] (r - 49)).toArray).size = r - 49 := by simp [ByteArray.size, rep48]
  generalize ByteArray.mk (Lib.repeatL [48] (r - 49)).toArray = Z at *
  go_wp2
  go_ret
  exact ⟨rfl, hb3⟩
end Go.Proofs.YthgoihblpeeogaaDoor
