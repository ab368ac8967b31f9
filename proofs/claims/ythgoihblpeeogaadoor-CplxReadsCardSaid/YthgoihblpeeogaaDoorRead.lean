/- Reading a number's text: package cplx's Parse and the reference's CxParse tell the same: the number whose own text it is, or none. -/
import Derived.Test.YthgoihblpeeogaaDoorText
import Derived.Deep.QuietTactic
import Derived.BigQuiet
namespace Go.Proofs.YthgoihblpeeogaaDoor
open Go.RowKit
attribute [local go_sem] run_frombits run_bits run_negf

def parseOk (s : ByteArray) (x y : Nat) : Prop := s = textB x y ∧ okB x y = true ∧ x < 2 ^ 64 ∧ y < 2 ^ 64
def ParseRet (s : ByteArray) (e : Ending) : Prop :=
  (∃ x y, parseOk s x y ∧ e = .returned (.tuple #[.complex .f64 x y, .bool true])) ∨ ((∀ x y, ¬ parseOk s x y) ∧ e = .returned (.tuple #[.complex .f64 0 0, .bool false]))
theorem good_clean (x : Nat) (hx : x < 2 ^ 64) (h : goodB x = true) : clean x := by
  unfold goodB at h
  simp only [Bool.and_eq_true, Bool.not_eq_true'] at h
  refine ⟨h.1, ?_⟩
  rw [cl_eq]
  by_cases hn : nought x = true
  · rw [if_pos hn]
    have h2 := h.2
    rw [hn, Bool.true_and] at h2
    rw [nought_iff] at hn
    unfold minusB at h2
    have : ¬ x / 2 ^ 63 % 2 = 1 := by simpa using h2
    omega
  · rw [if_neg hn]
theorem ok_clean_parts (x y : Nat) (hx : x < 2 ^ 64) (hy : y < 2 ^ 64) (h : okB x y = true) : cre x y = x ∧ cim x y = y := by
  unfold okB at h
  simp only [Bool.and_eq_true] at h
  exact ⟨cre_clean x y (good_clean x hx h.1) (good_clean y hy h.2), cim_clean x y (good_clean x hx h.1) (good_clean y hy h.2)⟩
theorem parse_first (s : ByteArray) (x y : Nat) (h : parseOk s x y) : pu16 0 (s.extract 1 17).data.toList = some x ∧ pu16 0 (s.extract 18 34).data.toList = some y := by
  obtain ⟨rfl, _, hx, hy⟩ := h
  rw [textB_first, textB_second]
  exact ⟨pu16_hex x (by omega), pu16_hex y (by omega)⟩
theorem low_first (s : ByteArray) (x y : Nat) (h : parseOk s x y) : pl16 0 (s.extract 1 17).data.toList = some x ∧ pl16 0 (s.extract 18 34).data.toList = some y := by
  obtain ⟨rfl, _, hx, hy⟩ := h
  rw [textB_first, textB_second]
  exact ⟨pl16_hex x (by omega), pl16_hex y (by omega)⟩
theorem parse_size (s : ByteArray) (x y : Nat) (h : parseOk s x y) : s.size = 35 := by rw [h.1]; exact textB_size x y
theorem pu_lt (t : ByteArray) (ht : t.size = 16) (n : Nat) (h : pu16 0 t.data.toList = some n) : n < 18446744073709551616 := by
  have h1 := pu16_bound _ _ _ h
  have h2 : t.data.toList.length = 16 := by rw [Array.length_toList]; exact ht
  rw [h2] at h1
  have : (0 + 1) * (16 : Nat) ^ 16 = 18446744073709551616 := by decide
  omega
theorem parse16_ok (t : ByteArray) (n : Nat) (hne : t.size ≠ 0) (hmax : t.size ≤ 16) (hp : pu16 0 t.data.toList = some n) (ev : Value) (w : World) (hv : w.cell? ⟨1, 0, none⟩ = some ev) (hev : ev = .nilIface ∨ ∃ te pe, ev = .iface te pe) :
    Calls Tryd.prog 24 #[.string t, .int .i64 16, .int .i64 64] w fun e w' => e = .returned (.tuple #[.int .u64 (n : Int), .nilIface]) ∧ Below w.heap.size w w' :=
  (strconvParse16 t hne hmax ev w hv hev).mono fun e w' ⟨⟨er, he, h⟩, hb⟩ => by
    have hV : puV t.data.toList = n := by simp only [puV, hp]
    rcases h with ⟨_, rfl⟩ | ⟨h, _⟩
    · exact ⟨by rw [he, hV], hb⟩
    · rw [hp] at h; cases h
theorem parse16_bad (t : ByteArray) (hne : t.size ≠ 0) (hmax : t.size ≤ 16) (hp : pu16 0 t.data.toList = none) (ev : Value) (w : World) (hv : w.cell? ⟨1, 0, none⟩ = some ev) (hev : ev = .nilIface ∨ ∃ te pe, ev = .iface te pe) :
    Calls Tryd.prog 24 #[.string t, .int .i64 16, .int .i64 64] w fun e w' => (∃ p, e = .returned (.tuple #[.int .u64 ((0 : Nat) : Int), .iface 80 (.pointer (some p))])) ∧ Below w.heap.size w w' :=
  (strconvParse16 t hne hmax ev w hv hev).mono fun e w' ⟨⟨er, he, h⟩, hb⟩ => by
    have hV : puV t.data.toList = ((0 : Nat) : Int) := by simp only [puV, hp]; rfl
    rcases h with ⟨⟨n, h⟩, _⟩ | ⟨_, p, rfl⟩
    · rw [hp] at h; cases h
    · exact ⟨⟨p, by rw [he, hV]⟩, hb⟩

theorem toList_inj {a b : ByteArray} (h : a.toList = b.toList) : a = b := bytes_ext (by rw [← Lib.toList_data, ← Lib.toList_data, h])
theorem lt_of_cell {w : World} {g o : Nat} {v : Value} (h : w.cell? ⟨g, o, none⟩ = some v) : g < w.heap.size := by
  rcases Nat.lt_or_ge g w.heap.size with x | x
  · exact x
  · exfalso; simp [World.cell?, Array.getElem?_eq_none x] at h
set_option maxRecDepth 100000 in
theorem parse_calls (s : ByteArray) (ev : Value) (w : World) (h : w.cell? ⟨6, 15, none⟩ = some (.int .u8 4)) (hv : w.cell? ⟨1, 0, none⟩ = some ev) (hev : ev = .nilIface ∨ ∃ te pe, ev = .iface te pe) :
    Calls Tryd.prog 12 #[.string s] w fun e w' => ParseRet s e ∧ Below w.heap.size w w' := by
  have hbad : (∀ x y, ¬ parseOk s x y) → ParseRet s (.returned (.tuple #[.complex .f64 0 0, .bool false])) := fun h => .inr ⟨h, rfl⟩
  by_cases h35 : s.size = 35
  · have z1 : (s.extract 1 17).size = 16 := by rw [ByteArray.size_extract]; omega
    have z2 : (s.extract 18 34).size = 16 := by rw [ByteArray.size_extract]; omega
    have hlt := lt_of_cell h
    have hlv := lt_of_cell hv
    have hfst := parse_first s
    generalize hT1 : s.extract 1 17 = T1 at *
    generalize hT2 : s.extract 18 34 = T2 at *
    cases p1 : pu16 0 T1.data.toList with
    | none =>
      have HB := Lib.hid (hbad (fun x y hk => by have := (hfst x y hk).1; rw [p1] at this; cases this))
      clear hfst hbad
      have P1 := Lib.hid p1
      clear p1
      cases p2 : pu16 0 T2.data.toList with
      | none =>
        have P2 := Lib.hid p2
        clear p2
        go_enter Tryd.func12, Tryd.ntmps12
        go_wp2_with fail
        refine (parse16_bad T1 (by omega) (by omega) P1.out ev _ hv hev).mono ?_
        rintro e w1 ⟨⟨a1, rfl⟩, hb1⟩
        have hv1 := (hb1.cell (p := ⟨1, 0, none⟩) hlv).trans hv
        go_wp2_with fail
        refine (parse16_bad T2 (by omega) (by omega) P2.out ev _ hv1 hev).mono ?_
        rintro e w2 ⟨⟨a2, rfl⟩, hb2⟩
        have hb3 := hb1.trans (hb2.mono hb1.size)
        clear hv1
        go_wp2_with (go_at_call 6; refine (fromBits_calls _ _ _).mono ?_; rintro e w' ⟨rfl, rfl⟩)
        all_goals (go_ret2; exact ⟨HB.out, hb3⟩)
      | some n2 =>
        have P2 := Lib.hid p2
        clear p2
        go_enter Tryd.func12, Tryd.ntmps12
        go_wp2_with fail
        refine (parse16_bad T1 (by omega) (by omega) P1.out ev _ hv hev).mono ?_
        rintro e w1 ⟨⟨a1, rfl⟩, hb1⟩
        have hv1 := (hb1.cell (p := ⟨1, 0, none⟩) hlv).trans hv
        go_wp2_with fail
        refine (parse16_ok T2 n2 (by omega) (by omega) P2.out ev _ hv1 hev).mono ?_
        rintro e w2 ⟨rfl, hb2⟩
        have hb3 := hb1.trans (hb2.mono hb1.size)
        clear hv1
        go_wp2_with (go_at_call 6; refine (fromBits_calls _ _ _).mono ?_; rintro e w' ⟨rfl, rfl⟩)
        all_goals (go_ret2; exact ⟨HB.out, hb3⟩)
    | some n1 =>
      have P1 := Lib.hid p1
      clear p1
      cases p2 : pu16 0 T2.data.toList with
      | none =>
        have HB := Lib.hid (hbad (fun x y hk => by have := (hfst x y hk).2; rw [p2] at this; cases this))
        clear hfst hbad
        have P2 := Lib.hid p2
        clear p2
        go_enter Tryd.func12, Tryd.ntmps12
        go_wp2_with fail
        refine (parse16_ok T1 n1 (by omega) (by omega) P1.out ev _ hv hev).mono ?_
        rintro e w1 ⟨rfl, hb1⟩
        have hv1 := (hb1.cell (p := ⟨1, 0, none⟩) hlv).trans hv
        go_wp2_with fail
        refine (parse16_bad T2 (by omega) (by omega) P2.out ev _ hv1 hev).mono ?_
        rintro e w2 ⟨⟨a2, rfl⟩, hb2⟩
        have hb3 := hb1.trans (hb2.mono hb1.size)
        clear hv1
        go_wp2_with (go_at_call 6; refine (fromBits_calls _ _ _).mono ?_; rintro e w' ⟨rfl, rfl⟩)
        all_goals (go_ret2; exact ⟨HB.out, hb3⟩)
      | some n2 =>
        have P2 := Lib.hid p2
        clear p2
        have m1 := pu_lt T1 z1 n1 P1.out
        have m2 := pu_lt T2 z2 n2 P2.out
        have huniq : ∀ x y, parseOk s x y → x = n1 ∧ y = n2 := fun x y hk => by
          obtain ⟨g1, g2⟩ := hfst x y hk
          rw [P1.out] at g1; rw [P2.out] at g2
          exact ⟨(Option.some.inj g1).symm, (Option.some.inj g2).symm⟩
        clear hfst
        by_cases hok : okB n1 n2 = true
        · obtain ⟨k1, k2⟩ := ok_clean_parts n1 n2 (by omega) (by omega) hok
          by_cases ht : textB n1 n2 = s
          · have HG : Hid (ParseRet s (.returned (.tuple #[.complex .f64 n1 n2, .bool true]))) := Lib.hid (.inl ⟨n1, n2, ⟨ht.symm, hok, by omega, by omega⟩, rfl⟩)
            have hte : ((textB n1 n2).toList == s.toList) = true := by rw [ht]; exact beq_self_eq_true _
            clear huniq hbad ht
            go_enter Tryd.func12, Tryd.ntmps12
            go_wp2_with fail
            refine (parse16_ok T1 n1 (by omega) (by omega) P1.out ev _ hv hev).mono ?_
            rintro e w1 ⟨rfl, hb1⟩
            have hv1 := (hb1.cell (p := ⟨1, 0, none⟩) hlv).trans hv
            go_wp2_with fail
            refine (parse16_ok T2 n2 (by omega) (by omega) P2.out ev _ hv1 hev).mono ?_
            rintro e w2 ⟨rfl, hb2⟩
            have hb3 := hb1.trans (hb2.mono hb1.size)
            have ht1 := (hb3.cell (p := ⟨6, 15, none⟩) hlt).trans h
            clear hv1
            go_wp2_with (go_at_call 6; refine (fromBits_calls _ _ _).mono ?_; rintro e w' ⟨rfl, rfl⟩)
            refine (text_calls n1 n2 (by omega) (by omega) _ ht1).mono ?_
            rintro e w3 ⟨rfl, hb4⟩
            rw [k1, k2]
            have hb5 := hb3.trans (hb4.mono hb3.size)
            clear ht1
            go_wp2
            go_ret2
            exact ⟨HG.out, hb5⟩

          · have HB := Lib.hid (hbad (fun x y hk => by obtain ⟨rfl, rfl⟩ := huniq x y hk; exact ht hk.1.symm))
            have hte : ((textB n1 n2).toList == s.toList) = false := by rw [beq_eq_false_iff_ne]; exact fun e => ht (toList_inj e)
            clear huniq hbad ht
            go_enter Tryd.func12, Tryd.ntmps12
            go_wp2_with fail
            refine (parse16_ok T1 n1 (by omega) (by omega) P1.out ev _ hv hev).mono ?_
            rintro e w1 ⟨rfl, hb1⟩
            have hv1 := (hb1.cell (p := ⟨1, 0, none⟩) hlv).trans hv
            go_wp2_with fail
            refine (parse16_ok T2 n2 (by omega) (by omega) P2.out ev _ hv1 hev).mono ?_
            rintro e w2 ⟨rfl, hb2⟩
            have hb3 := hb1.trans (hb2.mono hb1.size)
            have ht1 := (hb3.cell (p := ⟨6, 15, none⟩) hlt).trans h
            clear hv1
            go_wp2_with (go_at_call 6; refine (fromBits_calls _ _ _).mono ?_; rintro e w' ⟨rfl, rfl⟩)
            refine (text_calls n1 n2 (by omega) (by omega) _ ht1).mono ?_
            rintro e w3 ⟨rfl, hb4⟩
            rw [k1, k2]
            have hb5 := hb3.trans (hb4.mono hb3.size)
            clear ht1
            go_wp2
            go_ret2
            exact ⟨HB.out, hb5⟩

        · have HB := Lib.hid (hbad (fun x y hk => by obtain ⟨rfl, rfl⟩ := huniq x y hk; exact hok hk.2.1))
          have hokf : okB n1 n2 = false := by simpa using hok
          clear huniq hbad hok
          go_enter Tryd.func12, Tryd.ntmps12
          go_wp2_with fail
          refine (parse16_ok T1 n1 (by omega) (by omega) P1.out ev _ hv hev).mono ?_
          rintro e w1 ⟨rfl, hb1⟩
          have hv1 := (hb1.cell (p := ⟨1, 0, none⟩) hlv).trans hv
          go_wp2_with fail
          refine (parse16_ok T2 n2 (by omega) (by omega) P2.out ev _ hv1 hev).mono ?_
          rintro e w2 ⟨rfl, hb2⟩
          have hb3 := hb1.trans (hb2.mono hb1.size)
          clear hv1
          go_wp2_with (go_at_call 6; refine (fromBits_calls _ _ _).mono ?_; rintro e w' ⟨rfl, rfl⟩)
          all_goals (go_ret2; exact ⟨HB.out, hb3⟩)

  · have HB := Lib.hid (hbad (fun x y hk => h35 (parse_size s x y hk)))
    have hn : ¬ (s.size : Int) = 35 := by omega
    clear hbad h35
    go_enter Tryd.func12, Tryd.ntmps12
    go_wp2
    go_ret2
    exact ⟨HB.out, Below.refl _ _⟩

/-! the reference's -/
theorem pl16_snoc (c : UInt8) : ∀ (l : List UInt8) (acc : Nat), pl16 acc (l ++ [c]) = (pl16 acc l).bind fun n => (lowVal c.toNat).map fun d => n * 16 + d
  | [], acc => by
    rw [List.nil_append, pl16, pl16]
    cases lowVal c.toNat with
    | none => rfl
    | some d => rfl
  | x :: r, acc => by
    rw [List.cons_append, pl16, pl16]
    cases lowVal x.toNat with
    | none => rfl
    | some d => exact pl16_snoc c r (acc * 16 + d)
theorem pl16_none (r : List UInt8) : ∀ (l : List UInt8) (acc : Nat), pl16 acc l = none → pl16 acc (l ++ r) = none
  | [], acc, h => by simp [pl16] at h
  | x :: l, acc, h => by
    rw [List.cons_append, pl16]
    rw [pl16] at h
    cases hx : lowVal x.toNat with
    | none => rfl
    | some d => rw [hx] at h; exact pl16_none r l _ h
theorem pl_lt (l : List UInt8) (h : l.length ≤ 16) (n : Nat) (hn : pl16 0 l = some n) : n < 18446744073709551616 := by
  have h1 := pl16_bound _ _ _ hn
  have h2 : (16 : Nat) ^ l.length ≤ 16 ^ 16 := Nat.pow_le_pow_right (by omega) h
  have : (16 : Nat) ^ 16 = 18446744073709551616 := by decide
  omega
theorem pl_lt15 (l : List UInt8) (h : l.length ≤ 15) (n : Nat) (hn : pl16 0 l = some n) : n < 1152921504606846976 := by
  have h1 := pl16_bound _ _ _ hn
  have h2 : (16 : Nat) ^ l.length ≤ 16 ^ 15 := Nat.pow_le_pow_right (by omega) h
  have : (16 : Nat) ^ 15 = 1152921504606846976 := by decide
  omega
def St (s : ByteArray) (k X Y : Nat) : Prop := match k with
  | 0 => X = 0 ∧ Y = 0
  | 1 => pl16 0 (s.extract 1 17).data.toList = some X ∧ Y = 0
  | _ => pl16 0 (s.extract 1 17).data.toList = some X ∧ pl16 0 (s.extract 18 34).data.toList = some Y
theorem low_step (L : List UInt8) (i : Nat) (c : UInt8) (h : L[i]? = some c) (hi : i < 16) (X : Nat) (hX : pl16 0 (L.take i) = some X) :
    (∀ d, lowVal c.toNat = some d → pl16 0 (L.take (i + 1)) = some (X * 16 + d)) ∧ (lowVal c.toNat = none → pl16 0 (L.take 16) = none) := by
  have e : L.take (i + 1) = L.take i ++ [c] := by rw [List.take_add_one, h]; rfl
  constructor
  · intro d hd
    rw [e, pl16_snoc, hX, hd]; rfl
  · intro hd
    have e2 : L.take 16 = L.take (i + 1) ++ (L.drop (i + 1)).take (16 - (i + 1)) := by
      rw [← List.take_add, show i + 1 + (16 - (i + 1)) = 16 by omega]
    rw [e2]
    refine pl16_none _ _ _ ?_
    rw [e, pl16_snoc, hX, hd]; rfl
theorem byte_at (s : ByteArray) (o i : Nat) (h : o + i < s.size) : (s.data.toList.drop o)[i]? = some (s[o + i]'h) := by
  rw [List.getElem?_drop, Array.getElem?_toList, Array.getElem?_eq_getElem (by exact h)]; rfl
theorem or_digit (X d : Nat) (hX : X < 1152921504606846976) (hd : d < 16) : bits .or .u64 ((X : Int) * 16) (d : Int) = (X : Int) * 16 + d := by
  have e : bits .or .u64 ((X : Int) * 16) (d : Int) = IntKind.u64.wrap ((BitVec.ofInt 64 ((X : Int) * 16) ||| BitVec.ofInt 64 (d : Int)).toNat : Int) := rfl
  have h1 : (BitVec.ofInt 64 ((X : Int) * 16)).toNat = 2 ^ 4 * X := by
    rw [BitVec.toNat_ofInt]; omega
  have h2 : (BitVec.ofInt 64 (d : Int)).toNat = d := by rw [BitVec.toNat_ofInt]; omega
  rw [e, BitVec.toNat_or, h1, h2, ← Nat.two_pow_add_eq_or_of_lt (by omega), IntKind.wrap_u64]
  omega
set_option maxRecDepth 100000 in
theorem cxParse_calls (s : ByteArray) (w : World) :
    Calls Tryd.prog 16 #[.string s] w fun e w' => ParseRet s e ∧ Below w.heap.size w w' := by
  have hbad : (∀ x y, ¬ parseOk s x y) → ParseRet s (.returned (.tuple #[.complex .f64 0 0, .bool false])) := fun h => .inr ⟨h, rfl⟩
  by_cases h35 : s.size = 35
  · have hfst := low_first s
    have HB := Lib.hid hbad
    have HL := Lib.hid hfst
    clear hbad hfst
    have hsz : (s.size : Int) = 35 := by omega
    go_enter Tryd.func16, Tryd.ntmps16
    go_wp2_with fail
    go_loopw [5] (fun kv wr => ∃ (k X Y : Nat), kv = .int .i64 k ∧ k ≤ 2 ∧ wr = w.alloc (.cells #[.int .u64 X, .int .u64 Y] 56) ∧ Hid (St s k X Y)) (fun kv _ => 2 - (intOf kv).toNat)
    case atStart => exact ⟨0, 0, 0, rfl, by omega, rfl, Lib.hid ⟨rfl, rfl⟩⟩
    case round =>
      obtain ⟨k, X, Y, rfl, hk, rfl, hst⟩ := hrel
      rcases (by omega : k = 0 ∨ k = 1 ∨ k = 2) with rfl | rfl | rfl
      · -- THE FIRST WORD
        obtain ⟨rfl, rfl⟩ := hst.out
        clear hst
        rw [show ((0 : Nat) : Int) = 0 from rfl]
        go_wp2_with fail
        go_loopw [6] (fun iv wr => ∃ (i X : Nat), iv = .int .i64 i ∧ i ≤ 16 ∧ wr = w.alloc (.cells #[.int .u64 X, .int .u64 0] 56) ∧ Hid (pl16 0 ((s.data.toList.drop 1).take i) = some X)) (fun iv _ => 16 - (intOf iv).toNat)
        case atStart => exact ⟨0, 0, rfl, by omega, rfl, Lib.hid rfl⟩
        case round =>
          obtain ⟨i, X, rfl, hi, rfl, hX⟩ := hrel
          by_cases hlt : i < 16
          · have hbyte := byte_at s 1 i (by omega)
            have hbnd := pl_lt15 ((s.data.toList.drop 1).take i) (by rw [List.length_take]; omega) X hX.out
            go_wp2_with fail
            generalize s[1 + i]'_ = c at *
            obtain ⟨hyes, hno⟩ := low_step _ i c hbyte hlt X hX.out
            have HY := Lib.hid hyes
            have HNo := Lib.hid hno
            clear hyes hno hbyte hX
            refine (digit_calls c.toNat c.toNat_lt _).mono ?_
            rintro e w' ⟨rfl, rfl⟩
            cases hd : lowVal c.toNat with
            | none =>
              have hv : lowI' c.toNat = -1 := by unfold lowI'; rw [hd]
              have HB2 := Lib.hid (HB.out (fun x y hk => by
                have h1 := (HL.out x y hk).1
                rw [extract_list] at h1
                have h2 := HNo.out hd
                rw [show 17 - 1 = 16 by omega] at h1
                rw [h2] at h1; cases h1))
              clear HY HNo hd
              rw [hv]
              go_wp2
              go_ret2
              exact ⟨HB2.out, (Below.refl _ _).alloc (Nat.le_refl _) _⟩
            | some d =>
              have hd16 := lowVal_lt _ _ hd
              have hv : lowI' c.toNat = (d : Int) := by unfold lowI'; rw [hd]
              have HN := Lib.hid (HY.out d hd)
              have hor := or_digit X d hbnd hd16
              clear HY HNo hd
              rw [hv]
              clear hv
              go_wp2
              have ec : ((X * 16 + d : Nat) : Int) = (X : Int) * 16 + d := by omega
              go_roundw
              case rel => exact ⟨i + 1, X * 16 + d, (by go_num), by omega, by rw [ec], HN⟩
              case measure => simp [intOf]; omega
          · have hi16 : i = 16 := by omega
            subst hi16
            have HS : Hid (St s 1 X 0) := Lib.hid ⟨by rw [extract_list]; exact hX.out, rfl⟩
            clear hX
            go_wp2
            go_roundw
            case rel => exact ⟨1, X, 0, (by go_num), by omega, rfl, HS⟩
            case measure => simp [intOf]
      · -- THE SECOND WORD
        obtain ⟨hX1, rfl⟩ := hst.out
        have HX1 := Lib.hid hX1
        clear hst hX1
        rw [show ((1 : Nat) : Int) = 1 from rfl, show ((0 : Nat) : Int) = 0 from rfl]
        go_wp2_with fail
        go_loopw [6] (fun iv wr => ∃ (i Y : Nat), iv = .int .i64 i ∧ i ≤ 16 ∧ wr = w.alloc (.cells #[.int .u64 X, .int .u64 Y] 56) ∧ Hid (pl16 0 ((s.data.toList.drop 18).take i) = some Y)) (fun iv _ => 16 - (intOf iv).toNat)
        case atStart => exact ⟨0, 0, rfl, by omega, rfl, Lib.hid rfl⟩
        case round =>
          obtain ⟨i, Y, rfl, hi, rfl, hX⟩ := hrel
          by_cases hlt : i < 16
          · have hbyte := byte_at s 18 i (by omega)
            have hbnd := pl_lt15 ((s.data.toList.drop 18).take i) (by rw [List.length_take]; omega) Y hX.out
            go_wp2_with fail
            generalize s[18 + i]'_ = c at *
            obtain ⟨hyes, hno⟩ := low_step _ i c hbyte hlt Y hX.out
            have HY := Lib.hid hyes
            have HNo := Lib.hid hno
            clear hyes hno hbyte hX
            refine (digit_calls c.toNat c.toNat_lt _).mono ?_
            rintro e w' ⟨rfl, rfl⟩
            cases hd : lowVal c.toNat with
            | none =>
              have hv : lowI' c.toNat = -1 := by unfold lowI'; rw [hd]
              have HB2 := Lib.hid (HB.out (fun x y hk => by
                have h1 := (HL.out x y hk).2
                rw [extract_list] at h1
                have h2 := HNo.out hd
                rw [show 34 - 18 = 16 by omega] at h1
                rw [h2] at h1; cases h1))
              clear HY HNo hd
              rw [hv]
              go_wp2
              go_ret2
              exact ⟨HB2.out, (Below.refl _ _).alloc (Nat.le_refl _) _⟩
            | some d =>
              have hd16 := lowVal_lt _ _ hd
              have hv : lowI' c.toNat = (d : Int) := by unfold lowI'; rw [hd]
              have HN := Lib.hid (HY.out d hd)
              have hor := or_digit Y d hbnd hd16
              clear HY HNo hd
              rw [hv]
              clear hv
              go_wp2
              have ec : ((Y * 16 + d : Nat) : Int) = (Y : Int) * 16 + d := by omega
              go_roundw
              case rel => exact ⟨i + 1, Y * 16 + d, (by go_num), by omega, by rw [ec], HN⟩
              case measure => simp [intOf]; omega
          · have hi16 : i = 16 := by omega
            subst hi16
            have HS : Hid (St s 2 X Y) := Lib.hid ⟨HX1.out, by rw [extract_list]; exact hX.out⟩
            clear hX
            go_wp2
            go_roundw
            case rel => exact ⟨2, X, Y, (by go_num), by omega, rfl, HS⟩
            case measure => simp [intOf]
      · -- BOTH WORDS ARE READ
        obtain ⟨hX, hY⟩ := hst.out
        clear hst
        rw [show ((2 : Nat) : Int) = 2 from rfl]
        go_wp2_with fail
        have hx64 := pl_lt _ (by rw [extract_list, List.length_take]; omega) X hX
        have hy64 := pl_lt _ (by rw [extract_list, List.length_take]; omega) Y hY
        have huniq : ∀ x y, parseOk s x y → x = X ∧ y = Y := fun x y hk => by
          obtain ⟨g1, g2⟩ := HL.out x y hk
          rw [hX] at g1; rw [hY] at g2
          exact ⟨(Option.some.inj g1).symm, (Option.some.inj g2).symm⟩
        clear HL hX hY
        by_cases hok : okB X Y = true
        · obtain ⟨k1, k2⟩ := ok_clean_parts X Y (by omega) (by omega) hok
          by_cases ht : textB X Y = s
          · have HG : Hid (ParseRet s (.returned (.tuple #[.complex .f64 X Y, .bool true]))) := Lib.hid (.inl ⟨X, Y, ⟨ht.symm, hok, by omega, by omega⟩, rfl⟩)
            have hte : ((textB X Y).toList == s.toList) = true := by rw [ht]; exact beq_self_eq_true _
            clear huniq ht HB
            go_quiet (fail)
            go_wp2_with (first | (go_at_call 7; refine (sound_calls _ _ _).mono ?_; rintro e w' ⟨rfl, rfl⟩) | (go_at_call 14; refine (cxText_calls X Y (by omega) (by omega) _).mono ?_; rintro e w' ⟨rfl, rfl⟩; rw [k1, k2]))
            go_ret2
            exact ⟨HG.out, below_drewN ((Below.refl _ _).alloc (Nat.le_refl _) _) _⟩
          · have HN := Lib.hid (HB.out (fun x y hk => by obtain ⟨rfl, rfl⟩ := huniq x y hk; exact ht hk.1.symm))
            have hte : ((textB X Y).toList == s.toList) = false := by rw [beq_eq_false_iff_ne]; exact fun e => ht (toList_inj e)
            clear huniq ht HB
            go_quiet (fail)
            go_wp2_with (first | (go_at_call 7; refine (sound_calls _ _ _).mono ?_; rintro e w' ⟨rfl, rfl⟩) | (go_at_call 14; refine (cxText_calls X Y (by omega) (by omega) _).mono ?_; rintro e w' ⟨rfl, rfl⟩; rw [k1, k2]))
            go_ret2
            exact ⟨HN.out, below_drewN ((Below.refl _ _).alloc (Nat.le_refl _) _) _⟩
        · have HN := Lib.hid (HB.out (fun x y hk => by obtain ⟨rfl, rfl⟩ := huniq x y hk; exact hok hk.2.1))
          have hokf : okB X Y = false := by simpa using hok
          clear huniq hok HB
          go_quiet (fail)
          go_wp2_with (go_at_call 7; refine (sound_calls _ _ _).mono ?_; rintro e w' ⟨rfl, rfl⟩)
          go_ret2
          exact ⟨HN.out, below_drewN ((Below.refl _ _).alloc (Nat.le_refl _) _) _⟩
  · have HB := Lib.hid (hbad (fun x y hk => h35 (parse_size s x y hk)))
    have hn : ¬ (s.size : Int) = 35 := by omega
    clear hbad h35
    go_enter Tryd.func16, Tryd.ntmps16
    go_wp2
    go_ret2
    exact ⟨HB.out, Below.refl _ _⟩
end Go.Proofs.YthgoihblpeeogaaDoor
