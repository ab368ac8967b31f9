/- A number's bits and text, written and read: package cplx's calls and the references', walked. -/
import Derived.Test.YthgoihblpeeogaaDoorHexFacts
import Derived.Test.YthgoihblpeeogaaDoorFltLaws
import Derived.Test.YthgoihblpeeogaaDoorCplxB
namespace Go.Proofs.YthgoihblpeeogaaDoor
open Go.RowKit
attribute [local go_sem] run_frombits run_bits run_negf

theorem cplxBits_calls (a b : Nat) (w : World) :
    Calls Tryd.prog 10 #[.complex .f64 a b] w fun e w' => e = .returned (.tuple #[.int .u64 (cre a b : Nat), .int .u64 (cim a b : Nat)]) ∧ w = w' := by
  go_enter Tryd.func10, Tryd.ntmps10
  go_wp2_with (go_at_call 22; refine (parts_calls _ _ _).mono ?_; rintro e w' ⟨rfl, rfl⟩)
  go_ret2
  exact ⟨rfl, rfl⟩
theorem fromBits_calls (a b : Nat) (w : World) :
    Calls Tryd.prog 6 #[.int .u64 a, .int .u64 b] w fun e w' => e = .returned (.tuple #[.complex .f64 (if okB a b then a else 0) (if okB a b then b else 0), .bool (okB a b)]) ∧ w = w' := by
  go_enter Tryd.func6, Tryd.ntmps6
  go_wp2_with (go_at_call 18; refine (ok_calls _ _ _).mono ?_; rintro e w' ⟨rfl, rfl⟩)
  all_goals (go_ret2; refine ⟨?_, rfl⟩; simp_all)
theorem cat5 (p q : Nat) : ((((⟨#[60]⟩ : ByteArray) ++ hex16 p) ++ (⟨#[44]⟩ : ByteArray)) ++ hex16 q) ++ (⟨#[62]⟩ : ByteArray) = textB p q := rfl
theorem text_calls (a b : Nat) (ha : a < 2 ^ 64) (hb : b < 2 ^ 64) (w : World) (h : w.cell? ⟨6, 15, none⟩ = some (.int .u8 4)) :
    Calls Tryd.prog 11 #[.complex .f64 a b] w fun e w' => e = .returned (.string (textB (cre a b) (cim a b))) ∧ Below w.heap.size w w' := by
  have h1 := cre_lt a b ha
  have h2 := cim_lt a b hb
  have hlt : 6 < w.heap.size := by
    rcases Nat.lt_or_ge 6 w.heap.size with g | g
    · exact g
    · exfalso; simp [World.cell?, Array.getElem?_eq_none g] at h
  have z1 := hex16_size (cre a b)
  have z2 := hex16_size (cim a b)
  have s1 : (⟨#[60]⟩ : ByteArray).size = 1 := rfl
  go_enter Tryd.func11, Tryd.ntmps11
  go_wp2_with (go_at_call 10; refine (cplxBits_calls _ _ _).mono ?_; rintro e w' ⟨rfl, rfl⟩)
  refine (hex_calls (cre a b) h1 _ h).mono ?_
  rintro e w1 ⟨rfl, hb1⟩
  have h' := (hb1.cell (p := ⟨6, 15, none⟩) hlt).trans h
  go_wp2_with fail
  refine (hex_calls (cim a b) h2 _ h').mono ?_
  rintro e w2 ⟨rfl, hb2⟩
  have hb3 := hb1.trans (hb2.mono hb1.size)
  have c5 := cat5 (cre a b) (cim a b)
  clear h h'
  go_wp2
  go_ret
  exact ⟨by rw [← c5]; rfl, hb3⟩
theorem digits_get16 (D : Nat) (h : D < 16) : (ByteArray.mk #[48, 49, 50, 51, 52, 53, 54, 55, 56, 57, 97, 98, 99, 100, 101, 102]).extract D (D + 1) = ⟨#[(hexB D).toUInt8]⟩ := by
  rcases (by omega : D = 0 ∨ D = 1 ∨ D = 2 ∨ D = 3 ∨ D = 4 ∨ D = 5 ∨ D = 6 ∨ D = 7 ∨ D = 8 ∨ D = 9 ∨ D = 10 ∨ D = 11 ∨ D = 12 ∨ D = 13 ∨ D = 14 ∨ D = 15) with rfl | rfl | rfl | rfl | rfl | rfl | rfl | rfl | rfl | rfl | rfl | rfl | rfl | rfl | rfl | rfl <;> decide
def dlS (u k : Nat) : ByteArray := ⟨(dl u k).toArray⟩
theorem refHex_calls (u : Nat) (hu : u < 18446744073709551616) (w : World) :
    Calls Tryd.prog 26 #[.int .u64 u] w fun e w' => e = .returned (.string (hex16 u)) ∧ w = w' := by
  go_enter Tryd.func26, Tryd.ntmps26
  go_wp2
  go_loop [0, 3, 4] (fun x s i => ∃ k : Nat, k ≤ 16 ∧ x = .int .u64 ((u / 16 ^ k : Nat) : Int) ∧ s = .string (dlS u k) ∧ i = .int .i64 k) (fun _ _ i => 16 - (intOf i).toNat)
  case atStart => exact ⟨0, by omega, by simp, rfl, rfl⟩
  case round =>
    obtain ⟨k, hk, rfl, rfl, rfl⟩ := hrel
    obtain ⟨X, hX⟩ : ∃ X, u / 16 ^ k = X := ⟨_, rfl⟩
    rw [hX]
    by_cases hlt : k < 16
    · have hm := mask15 X
      obtain ⟨D, hD⟩ : ∃ D, X % 16 = D := ⟨_, rfl⟩
      have hD16 : D < 16 := by omega
      rw [hD] at hm
      have hg := digits_get16 D hD16
      have hz : (dlS u k).size = k := by unfold dlS; simp [ByteArray.size, dl_length]
      have HN : Hid (X / 16 = u / 16 ^ (k + 1)) := by rw [← hX, Nat.div_div_eq_div_mul, Nat.pow_succ]; exact Lib.hid rfl
      have HS : Hid ((⟨#[UInt8.ofNat (hexB D)]⟩ : ByteArray) ++ dlS u k = dlS u (k + 1)) := Lib.hid (by
        apply bytes_ext; unfold dlS; rw [← hD, ← hX]; simp [ByteArray.data_append, dl])
      have hXb : X < 18446744073709551616 := by rw [← hX]; exact Nat.lt_of_le_of_lt (Nat.div_le_self _ _) hu
      clear hX hD
      go_wp2
      refine ⟨⟨k + 1, by omega, ?_, ?_, (by go_num)⟩, by simp [intOf]; omega⟩
      · rw [← HN.out]; rfl
      · rw [← HS.out]
    · have hk16 : k = 16 := by omega
      subst hk16
      have hfin : dlS u 16 = hex16 u := bytes_ext (by rw [hex16_list]; rfl)
      clear hX
      go_wp2
      go_ret
      exact ⟨by rw [← hfin]; rfl, rfl⟩
theorem cxText_calls (a b : Nat) (ha : a < 2 ^ 64) (hb : b < 2 ^ 64) (w : World) :
    Calls Tryd.prog 14 #[.complex .f64 a b] w fun e w' => e = .returned (.string (textB (cre a b) (cim a b))) ∧ w = w' := by
  have h1 := cre_lt a b ha
  have h2 := cim_lt a b hb
  have z1 := hex16_size (cre a b)
  have z2 := hex16_size (cim a b)
  have s1 : (⟨#[60]⟩ : ByteArray).size = 1 := rfl
  have c5 := cat5 (cre a b) (cim a b)
  go_enter Tryd.func14, Tryd.ntmps14
  go_wp2_with (first | (go_at_call 25; refine (sane_calls _ _ _).mono ?_; rintro e w' ⟨rfl, rfl⟩) | (go_at_call 26; refine (refHex_calls _ (by assumption) _).mono ?_; rintro e w' ⟨rfl, rfl⟩))
  go_ret
  exact ⟨by rw [← c5]; rfl, rfl⟩
/-- what the public call tells: the number, and whether there is an error -/
def PuRet (l : List UInt8) (e : Ending) : Prop := ∃ er : Value, e = .returned (.tuple #[.int .u64 (puV l), er]) ∧ ((∃ n, pu16 0 l = some n) ∧ er = .nilIface ∨ pu16 0 l = none ∧ ∃ p, er = .iface 80 (.pointer (some p)))
/-- the digit, -1 for none -/
def lowI' (c : Nat) : Int := match lowVal c with | some d => (d : Int) | none => -1
theorem lowI'_eq (c : Nat) : lowI' c = if 48 ≤ c ∧ c ≤ 57 then (c : Int) - 48 else if 97 ≤ c ∧ c ≤ 102 then (c : Int) - 87 else -1 := by
  unfold lowI' lowVal
  by_cases h : 48 ≤ c ∧ c ≤ 57
  · rw [if_pos h, if_pos h]; simp only; omega
  · rw [if_neg h, if_neg h]
    by_cases g : 97 ≤ c ∧ c ≤ 102
    · rw [if_pos g, if_pos g]; simp only; omega
    · rw [if_neg g, if_neg g]
theorem digit_calls (c : Nat) (hc : c < 256) (w : World) :
    Calls Tryd.prog 30 #[.int .u8 c] w fun e w' => e = .returned (.int .i64 (lowI' c)) ∧ w = w' := by
  go_enter Tryd.func30, Tryd.ntmps30
  go_wp2
  all_goals go_ret
  all_goals exact ⟨congrArg (fun n => Ending.returned (.int .i64 n)) (by rw [lowI'_eq]; split <;> (try split) <;> omega), rfl⟩
set_option maxRecDepth 100000 in
theorem strconvParse16 (t : ByteArray) (hne : t.size ≠ 0) (hmax : t.size ≤ 16) (ev : Value) (w : World) (hv : w.cell? ⟨1, 0, none⟩ = some ev) (hev : ev = .nilIface ∨ ∃ te pe, ev = .iface te pe) :
    Calls Tryd.prog 24 #[.string t, .int .i64 16, .int .i64 64] w fun e w' => PuRet t.data.toList e ∧ Below w.heap.size w w' := by
  have hlt : 1 < w.heap.size := by
    rcases Nat.lt_or_ge 1 w.heap.size with g | g
    · exact g
    · exfalso; simp [World.cell?, Array.getElem?_eq_none g] at hv
  cases hp : pu16 0 t.data.toList with
  | some n =>
    have hE : puErr t.data.toList = .nilIface := by simp only [puErr, hp]
    have hfin : PuRet t.data.toList (.returned (.tuple #[.int .u64 (puV t.data.toList), .nilIface])) := ⟨_, rfl, .inl ⟨⟨n, hp⟩, rfl⟩⟩
    clear hp
    go_enter Tryd.func24, Tryd.ntmps24
    go_wp2_with fail
    refine (iparse16 t hne hmax _).mono ?_
    rintro e w1 ⟨rfl, hb⟩
    rw [hE]
    go_wp2
    go_ret2
    exact ⟨hfin, hb⟩
  | none =>
    have hE : puErr t.data.toList = .iface 77 (.int .i64 2) := by simp only [puErr, hp]
    have hfin : ∀ p, PuRet t.data.toList (.returned (.tuple #[.int .u64 (puV t.data.toList), .iface 80 (.pointer (some p))])) := fun p => ⟨_, rfl, .inr ⟨hp, p, rfl⟩⟩
    have HF := Lib.hid hfin
    clear hp hfin
    go_enter Tryd.func24, Tryd.ntmps24
    go_wp2_with fail
    refine (iparse16 t hne hmax _).mono ?_
    rintro e w1 ⟨rfl, hb⟩
    rw [hE]
    have hv1 := (hb.cell (p := ⟨1, 0, none⟩) hlt).trans hv
    go_wp2_with fail
    refine (Tryd.strconv_toError_syntax _ t _ _ ev _ (by omega) hv1 hev).mono ?_
    rintro e w2 ⟨N, rfl, hN, _, hb2⟩
    have hb3 := hb.trans (hb2.mono hb.size)
    clear hv1
    go_wp2
    go_ret2
    exact ⟨HF.out _, hb3⟩
end Go.Proofs.YthgoihblpeeogaaDoor
