/- XA: ratlineref11.SameInts of two rows that are alike; ScopeSlots walked, given what Source tells of its text. -/
import Derived.Test.YtjofmihdeblbmaaGreatDoorXaM31
namespace Go.Proofs.YtjofmihdeblbmaaGreatDoor.Xa
open Go Go.RowKit
set_option linter.unusedVariables false
set_option linter.unusedSimpArgs false
set_option maxRecDepth 100000
set_option maxHeartbeats 1000000
def SiJ (a : List Int) (h : H) (i1 s1 i2 s2 : Nat) : Nat → List V → H → Prop := fun m fr' h' => ∃ i, m + i = a.length + 1 ∧ i ≤ a.length ∧ h' = h ∧ fr'.length = 26 ∧ ev fr' (.tmp 0) = .slc i1 s1 (a.map intV) ∧ ev fr' (.tmp 1) = .slc i2 s2 (a.map intV) ∧ ev fr' (.tmp 5) = .lit (.int .i64 (i : Nat))
attribute [local simp] hid2 hid3 hid4 xcode_skip xcode_region xcode_draw xcode_loop xcode_seq xcode_cond xcode_block xcode_scope xcode_exit xcode_ret xops_nil xops_cons xd_nil xd_cons xstep_eq annot fillOf findFill findStore srcOf kcls cls qval qvalN xwant dstAt want1 xdo xop ev_const ev_global ev_func ev_zero ev_succ ev_undefs ev_hit ev_miss put_none put_len undefs_len xnil xfieldAddr fieldOf eT emtb seqQ blockQ xload xstore splice V.storable V.one V.cells mk xbinop xbin xun xbuiltin xindexAddr nilOr xindex xint cv cv1 retQ xres_tmp xres_cell xres_nil xresult xbuild xfill xbuildSlice xrows Nat.testBit places xfield item sideOk pendOk pendOf tyT1 tyT2 tyT3 tyT4 tyT5 tyT9 tyT22 tyT23 tyT24 tyT25 tyT26 tyT30 tyT34 tyT39 tyT41 tyT47 tyT48 tyT50 tyT53 tyT54 tyT56 tyT58 tyT63 tyT70 tyT76 tyT78 tyT80 tyT84 tyT87 tyT89 tyT96 tyT98 tyT100 tyT102 tyT108 tyT110 tyT112 tyT113 tyT115 tyT119 tyT121 tyT124 tyT138 tyT139 tyT141 tyT142 tyT143 tyT145 tyT147 tyT149 tyT155 tyT158 tyT164 tyT179 tyT186 tyT188 tyT189 tyT194 tyT197 tyT200 tyT216 tyT242 tyT245 H.put_get H.new_get H.row_obj H.grow_obj H.bump_obj H.newArr_obj H.putArr_obj H.moveArr_obj H.put_arr H.new_arr H.row_arr H.grow_arr H.bump_arr H.newArr_get H.putArr_get H.moveArr_get H.put_ext H.new_ext H.newArr_ext H.putArr_ext H.moveArr_ext H.bump_ext H.row_get H.grow_get H.new_next H.row_next H.bump_next H.put_next H.grow_next H.newArr_next H.putArr_next H.moveArr_next H.app_next H.app_obj H.app_arr H.app_get bne emT emM xapp_em xmakeSlice xslice xlookup xmapUpdate keyShape
theorem sameInts_calls (h : H) (a : List Int) (i1 s1 i2 s2 : Nat) (h1 : rowOk s1 a) (h2 : rowOk s2 a) (hl : a.length ≤ 100000) :
    XCalls e 14 [.slc i1 s1 (a.map intV), .slc i2 s2 (a.map intV)] h (fun v h' => v = .lit (.bool true) ∧ h' = h) := by
  refine XCalls.of Tryz.func14 rfl (by kernel_rfl) ?_
  rw [Tryz.ntmps14]
  simp [-Int.natCast_add, isM, xappendM, rowsIn]
  refine XW.loopH (SiJ a h i1 s1 i2 s2) (a.length + 1) ?_ ?_
  · refine ⟨0, by omega, by omega, rfl, ?_⟩
    simp [-Int.natCast_add, isM, xappendM, rowsIn]
  · rintro m fr' h' ⟨i, hm, hi, rfl, e0, e1, e2, e3⟩
    by_cases hlt : i < a.length
    · have hlt' : (i : Int) < (a.length : Int) := by omega
      have hne : a ≠ [] := by intro h0; rw [h0] at hlt; cases hlt
      have z1 := h1 hne
      have z2 := h2 hne
      subst z1
      subst z2
      simp [-Int.natCast_add, isM, xappendM, rowsIn, e0, e1, e2, e3, hlt, hlt', ltB_t]
      refine XW.drawH mixed (L := List.range 9) (by kernel_rfl) ?_
      simp only [List.range, List.range.loop, List.map_cons, List.map_nil, item]
      simp only [annot, fillOf, findFill, findStore, srcOf, List.getD_cons_succ, List.getD_cons_zero]
      simp [-Int.natCast_add, isM, xappendM, rowsIn, e0, e1, e2, e3, hlt, hlt', ltB_t, intV]
      have hw : IntKind.i64.wrap ((i : Int) + 1) = ((i + 1 : Nat) : Int) := by
        have : (i : Int) < 100000 := by omega
        simp [IntKind.wrap, IntKind.bits, IntKind.signed]
        omega
      refine ⟨m - 1, by omega, i + 1, by omega, by omega, rfl, ?_⟩
      simp [-Int.natCast_add, isM, xappendM, rowsIn, e0, e1, e2, e3, hw, intV]
    · obtain rfl : i = a.length := by omega
      simp [-Int.natCast_add, isM, xappendM, rowsIn, e0, e1, e2, e3, ltB_f]
/-- what the text and the row come to, at each loop's head -/
structure SlSpec (n m : Nat) (Src : ByteArray → SrcR → Prop) (l1 l2 l3 l4 : Nat → List UInt8) (w2 w3 w4 : Nat → List Int) : Prop where
  hn : n < 9
  hm : m < 21
  a0 : l1 0 = [102, 110, 32, 102, 32, 40, 32]
  a1 : ∀ i, i < n → l1 (i + 1) = (if 0 < i then l1 i ++ [44, 32] else l1 i) ++ [112, UInt8.ofNat (97 + i)] ++ [32]
  b0 : l2 0 = l1 n ++ [41, 32, 123, 32]
  b1 : ∀ i, i < m → l2 (i + 1) = l2 i ++ [108, 101, 116, 32] ++ [118, UInt8.ofNat (97 + i)] ++ [32, 61, 32, 49, 32, 59, 32]
  c0 : l3 m = l2 m
  c1 : ∀ j, 1 ≤ j → j ≤ m → l3 (j - 1) = l3 j ++ [112, 114, 105, 110, 116, 32] ++ [118, UInt8.ofNat (97 + (j - 1))] ++ [32, 59, 32]
  d0 : l4 n = l3 0
  d1 : ∀ j, 1 ≤ j → j ≤ n → l4 (j - 1) = l4 j ++ [112, UInt8.ofNat (97 + (j - 1))] ++ [32, 61, 32] ++ [112, UInt8.ofNat (97 + (n - 1 - (j - 1)))] ++ [32, 59, 32]
  w20 : w2 0 = []
  w21 : ∀ i, i < m → w2 (i + 1) = w2 i ++ [((n + i : Nat) : Int)]
  w30 : w3 m = w2 m
  w31 : ∀ j, 1 ≤ j → j ≤ m → w3 (j - 1) = w3 j ++ [((n + (j - 1) : Nat) : Int)]
  w40 : w4 n = w3 0
  w41 : ∀ j, 1 ≤ j → j ≤ n → w4 (j - 1) = w4 j ++ [((j - 1 : Nat) : Int), ((n - 1 - (j - 1) : Nat) : Int)]
  src : ∀ b : ByteArray, b.data.toList = l4 0 ++ [125, 32, 102, 110, 32, 109, 97, 105, 110, 32, 40, 32, 41, 32, 123, 32, 125] → ∃ l, Src b ⟨l, [⟨((n + m : Nat) : Int), w4 0, [], 0⟩, ⟨0, [], [], 0⟩], 0, 0⟩
def SlJ1 (n m : Nat) (l1 : Nat → List UInt8) (h : H) : Nat → List V → H → Prop := fun k fr' h' => ∃ (i : Nat) (s : ByteArray), k + i = n + 1 ∧ i ≤ n ∧ Fr h h' ∧ s.data.toList = l1 i ∧ s.size ≤ 100 + 20 * i ∧ fr'.length = 157 ∧ ev fr' (.tmp 0) = .lit (.int .i64 (n : Nat)) ∧ ev fr' (.tmp 1) = .lit (.int .i64 (m : Nat)) ∧ ev fr' (.tmp 5) = .lit (.string s) ∧ ev fr' (.tmp 6) = .lit (.int .i64 (i : Nat))
/-- the second loop -/
def SlJ2 (n m : Nat) (l2 : Nat → List UInt8) (w2 : Nat → List Int) (h : H) : Nat → List V → H → Prop := fun k fr' h' => ∃ (i : Nat) (s : ByteArray) (id sz : Nat), k + i = m + 1 ∧ i ≤ m ∧ Fr h h' ∧ s.data.toList = l2 i ∧ s.size ≤ 1000 + 20 * i ∧ (w2 i).length ≤ i ∧ Own h' id sz (w2 i).length 1 h.next ∧ fr'.length = 157 ∧ ev fr' (.tmp 0) = .lit (.int .i64 (n : Nat)) ∧ ev fr' (.tmp 1) = .lit (.int .i64 (m : Nat)) ∧ ev fr' (.tmp 5) = .lit (.string s) ∧ ev fr' (.tmp 7) = .slc id sz ((w2 i).map intV) ∧ ev fr' (.tmp 8) = .lit (.int .i64 (i : Nat))
/-- the third and the fourth: j are to come -/
def SlJ3 (n m c k0 : Nat) (l3 : Nat → List UInt8) (w3 : Nat → List Int) (t : Nat) (h : H) : Nat → List V → H → Prop := fun k fr' h' => ∃ (j : Nat) (s : ByteArray) (id sz : Nat), k = j + 1 ∧ j ≤ k0 ∧ Fr h h' ∧ s.data.toList = l3 j ∧ s.size ≤ c + 20 * (k0 - j) ∧ (w3 j).length ≤ c + 2 * (k0 - j) ∧ Own h' id sz (w3 j).length 1 h.next ∧ fr'.length = 157 ∧ ev fr' (.tmp 0) = .lit (.int .i64 (n : Nat)) ∧ ev fr' (.tmp 1) = .lit (.int .i64 (m : Nat)) ∧ ev fr' (.tmp 5) = .lit (.string s) ∧ ev fr' (.tmp 7) = .slc id sz ((w3 j).map intV) ∧ ev fr' (.tmp t) = .lit (.int .i64 ((j : Int) - 1))
theorem and_mod (a : Int) (k : Int) (hk : 0 < k) : ∃ n : Nat, (n : Int) < k ∧ (IntKind.i64.wrap ↑((a % 2 ^ IntKind.i64.bits).toNat &&& 65535 % 2 ^ IntKind.i64.bits)).tmod k = (n : Int) := by
  have h1 : (a % 2 ^ IntKind.i64.bits).toNat &&& 65535 % 2 ^ IntKind.i64.bits ≤ 65535 := Nat.le_trans Nat.and_le_right (by decide)
  generalize (a % 2 ^ IntKind.i64.bits).toNat &&& 65535 % 2 ^ IntKind.i64.bits = x at h1
  have h2 : IntKind.i64.wrap (x : Int) = (x : Int) := by
    simp [IntKind.wrap, IntKind.bits, IntKind.signed]
    omega
  rw [h2, Int.tmod_eq_emod_of_nonneg (by omega)]
  have h3 := Int.emod_nonneg (x : Int) (show k ≠ 0 by omega)
  have h4 := Int.emod_lt_of_pos (x : Int) hk
  exact ⟨((x : Int) % k).toNat, by omega, by omega⟩
theorem xconv_u8 (n : Int) : xconv e 3 5 (.lit (.int .i64 n)) = some (.lit (.int .u8 (IntKind.u8.wrap n))) := by
  unfold xconv
  rw [eT, eT, tyT3, tyT5]
theorem xconv_two (id : Nat) (a b : Int) (h : id ≠ 0) : xconv e 22 9 (.slc id 1 [[.lit (.int .u8 a)], [.lit (.int .u8 b)]]) = some (.lit (.string ⟨#[UInt8.ofNat a.toNat, UInt8.ofNat b.toNat]⟩)) := by
  unfold xconv
  simp [eT, tyT22, tyT9, tyT5, h, xbytes]
theorem wrap_let {i : Nat} (h : i < 26) : IntKind.u8.wrap (97 + IntKind.u8.wrap (i : Int)) = ((97 + i : Nat) : Int) := by
  simp [IntKind.wrap, IntKind.bits, IntKind.signed]
  omega
theorem wrapS {a b : Nat} (h : a + b < 1000000) : IntKind.i64.wrap ((a : Int) + (b : Int)) = ((a + b : Nat) : Int) := by
  simp [IntKind.wrap, IntKind.bits, IntKind.signed]
  omega
theorem big1 {n : Nat} (h : n ≤ 1000000) (k : Nat) (hk : k ≤ 1000) : (9223372036854775807 < ((n + k : Nat) : Int)) = False := by
  simp
  omega
theorem big2 {n : Nat} (h : n ≤ 1000000) (k l : Nat) (hk : k ≤ 1000) (hl : l ≤ 1000) : (9223372036854775807 < ((n + k + l : Nat) : Int)) = False := by
  simp
  omega
theorem big3 {n : Nat} (h : n ≤ 1000000) (k l j : Nat) (hk : k ≤ 1000) (hl : l ≤ 1000) (hj : j ≤ 1000) : (9223372036854775807 < ((n + k + l + j : Nat) : Int)) = False := by
  simp
  omega
theorem big4 {n : Nat} (h : n ≤ 1000000) (k l j i : Nat) (hk : k ≤ 1000) (hl : l ≤ 1000) (hj : j ≤ 1000) (hi : i ≤ 1000) : (9223372036854775807 < ((n + k + l + j + i : Nat) : Int)) = False := by
  simp
  omega
theorem wrapD {a : Nat} (h : a < 1000000) : IntKind.i64.wrap ((a : Int) - 1) = (a : Int) - 1 := by
  simp [IntKind.wrap, IntKind.bits, IntKind.signed]
  omega
theorem bsz (a : Array UInt8) : (⟨a⟩ : ByteArray).size = a.size := rfl
theorem slots_walk (Src : ByteArray → SrcR → Prop) (hS : ∀ (h : H) (b : ByteArray) (r : SrcR), Src b r → XCalls e 13 [.lit (.string b)] h (SrcP h r))
    (hA : ∀ h : H, XCalls e 15 [] h (fun v h' => v = .lit (.bool true) ∧ Fr h h'))
    (sp : ∀ n m : Nat, n < 9 → m < 21 → ∃ l1 l2 l3 l4 w2 w3 w4, SlSpec n m Src l1 l2 l3 l4 w2 w3 w4) (h : H) (hp : 0 < h.next) (a b : Int) :
    XCalls e 3 [.lit (.int .i64 a), .lit (.int .i64 b)] h (fun v h' => v = .lit (.bool true) ∧ Fr h h') := by
  obtain ⟨n, hn, en⟩ := and_mod a 9 (by decide)
  obtain ⟨m, hm, em⟩ := and_mod b 21 (by decide)
  obtain ⟨l1, l2, l3, l4, w2, w3, w4, sp⟩ := sp n m (by omega) (by omega)
  refine XCalls.of Tryz.func3 rfl (by kernel_rfl) ?_
  rw [Tryz.ntmps3]
  simp [-Int.natCast_add, isM, xappendM, rowsIn, en, em]
  refine XW.loopH (SlJ1 n m l1 h) (n + 1) ?_ ?_
  · refine ⟨0, ⟨#[102, 110, 32, 102, 32, 40, 32]⟩, by omega, by omega, Fr.refl _, sp.a0.symm, by decide, ?_⟩
    simp [-Int.natCast_add, isM, xappendM, rowsIn]
  rintro k fr' h' ⟨i, s, hk, hi, hF, hs, hz, e0, e1, e2, e3, e4⟩
  have hp' : h'.next ≠ 0 := by have := hF.next; omega
  have b1 := big1 (n := s.size) (by omega)
  have b2 := big2 (n := s.size) (by omega)
  have b3 := big3 (n := s.size) (by omega)
  by_cases hlt : i < n
  · have hlt' : (i : Int) < (n : Int) := by omega
    have hw := wrap_let (i := i) (by omega)
    have hw2 : IntKind.i64.wrap ((i : Int) + 1) = ((i + 1 : Nat) : Int) := wrapS (a := i) (b := 1) (by omega)
    by_cases h0 : 0 < i
    · have h0' : (0 : Int) < (i : Int) := by omega
      simp [-Int.natCast_add, isM, xappendM, rowsIn, e0, e1, e2, e3, e4, hlt, hlt', ltB_t, h0, h0', bsz, b1, b2, b3, xconv_u8, xconv_two, hp', hw]
      refine ⟨k - 1, by omega, i + 1, _, by omega, by omega, ?_, ?_, ?_, by simp [-Int.natCast_add, isM, xappendM, rowsIn, e0, e1, e2, e3, e4, hw2]; rfl⟩
      · repeat' first | exact Fr.refl _ | assumption | refine Fr.put ?_ (by omega) _ | refine Fr.new1 ?_ _ | refine Fr.row1 ?_ _ | refine Fr.bump1 ?_ | refine Fr.app ?_ (by first | assumption | omega) _ | refine Fr.grow ?_ (by omega) _ | refine Fr.newArr1 ?_ _ | refine Fr.putArr ?_ (by omega) _ | refine Fr.moveArr ?_ (by omega) _ | refine Fr.trans ?_ (by assumption)
      · rw [sp.a1 i hlt, if_pos h0, ← hs]
        simp
      · simp [bsz]
        omega
    · have hf : ltB 0 (i : Int) = false := ltB_f (by omega)
      simp [-Int.natCast_add, isM, xappendM, rowsIn, e0, e1, e2, e3, e4, hlt, hlt', ltB_t, hf, bsz, b1, b2, b3, xconv_u8, xconv_two, hp', hw]
      refine ⟨k - 1, by omega, i + 1, _, by omega, by omega, ?_, ?_, ?_, by simp [-Int.natCast_add, isM, xappendM, rowsIn, e0, e1, e2, e3, e4, hw2]; rfl⟩
      · repeat' first | exact Fr.refl _ | assumption | refine Fr.put ?_ (by omega) _ | refine Fr.new1 ?_ _ | refine Fr.row1 ?_ _ | refine Fr.bump1 ?_ | refine Fr.app ?_ (by first | assumption | omega) _ | refine Fr.grow ?_ (by omega) _ | refine Fr.newArr1 ?_ _ | refine Fr.putArr ?_ (by omega) _ | refine Fr.moveArr ?_ (by omega) _ | refine Fr.trans ?_ (by assumption)
      · rw [sp.a1 i hlt, if_neg h0, ← hs]
        simp
      · simp [bsz]
        omega
  have hin : i = n := by omega
  rw [hin] at hs hz e4
  clear hin hlt hk hi
  simp [-Int.natCast_add, isM, xappendM, rowsIn, e0, e1, e2, e3, e4, ltB_f, bsz, b1]
  refine XW.loopH (SlJ2 n m l2 w2 h) (m + 1) ?_ ?_
  · refine ⟨0, s ++ ⟨#[41, 32, 123, 32]⟩, 0, 0, by omega, by omega, hF, ?_, ?_, ?_, ?_, ?_⟩
    · rw [sp.b0, ← hs]; simp
    · simp [bsz]; omega
    · rw [sp.w20]; simp
    · rw [sp.w20]; exact Own.nil _ _ _
    · simp [-Int.natCast_add, isM, xappendM, rowsIn, e0, e1, e2, e3, e4, sp.w20]
  clear e0 e1 e2 e3 e4 hs hz b1 b2 b3 hp' hF fr' h' s i k
  rintro k fr' h' ⟨i, s, id, sz, hk, hi, hF, hs, hz, hwl, hO, e0, e1, e2, e3, e4, e5⟩
  have hp' : h'.next ≠ 0 := by have := hF.next; omega
  have hlow := hO.low
  have hnx := hF.next
  have b1 := big1 (n := s.size) (by omega)
  have b2 := big2 (n := s.size) (by omega)
  have b3 := big3 (n := s.size) (by omega)
  by_cases hlt : i < m
  · have hlt' : (i : Int) < (m : Int) := by omega
    have hw := wrap_let (i := i) (by omega)
    have hw2 : IntKind.i64.wrap ((i : Int) + 1) = ((i + 1 : Nat) : Int) := wrapS (a := i) (b := 1) (by omega)
    have hw3 : IntKind.i64.wrap ((n : Int) + (i : Int)) = ((n + i : Nat) : Int) := wrapS (a := n) (b := i) (by omega)
    simp [-Int.natCast_add, isM, xappendM, rowsIn, e0, e1, e2, e3, e4, e5, hlt, hlt', ltB_t, bsz, b1, b2, b3, xconv_u8, xconv_two, hp', hw, hw3]
    rw [xapp_own 23 (w := 1) rfl rfl rfl rfl (by decide) (lo := h.next) ?a1 ?a2 ?a3 ?a4 ?a5]
    case a1 =>
      rw [List.length_map]
      refine hO.mono ?_
      repeat' first | exact Fr.refl _ | assumption | refine Fr.put ?_ (by omega) _ | refine Fr.new1 ?_ _ | refine Fr.row1 ?_ _ | refine Fr.bump1 ?_ | refine Fr.app ?_ (by first | assumption | omega) _ | refine Fr.grow ?_ (by omega) _ | refine Fr.newArr1 ?_ _ | refine Fr.putArr ?_ (by omega) _ | refine Fr.moveArr ?_ (by omega) _ | refine Fr.trans ?_ (by assumption)
    case a2 => simp
    case a3 => simp
    case a4 => simp; omega
    case a5 => simp [maxLen]; omega
    simp [-Int.natCast_add, isM, xappendM, rowsIn, e0, e1, e2, e3, e4, e5, hw2]
    refine ⟨k - 1, by omega, i + 1, s ++ ⟨#[108, 101, 116, 32]⟩ ++ ⟨#[118, 97 + UInt8.ofNat i]⟩ ++ ⟨#[32, 61, 32, 49, 32, 59, 32]⟩, h'.next + 1 + 1, 1, by omega, by omega, ?_, ?_, ?_, ?_, ?_, ?_⟩
    · repeat' first | exact Fr.refl _ | assumption | refine Fr.put ?_ (by omega) _ | refine Fr.new1 ?_ _ | refine Fr.row1 ?_ _ | refine Fr.bump1 ?_ | refine Fr.app ?_ (by first | assumption | omega) _ | refine Fr.grow ?_ (by omega) _ | refine Fr.newArr1 ?_ _ | refine Fr.putArr ?_ (by omega) _ | refine Fr.moveArr ?_ (by omega) _ | refine Fr.trans ?_ (by assumption)
    · rw [sp.b1 i hlt, ← hs]
      simp
    · simp [bsz]
      omega
    · rw [sp.w21 i hlt]; simp; omega
    · rw [sp.w21 i hlt]
      simp only [List.length_append, List.length_cons, List.length_nil]
      exact Own.app (by simp [H.row_next]; omega) (by simp [H.row_next])
    · simp [-Int.natCast_add, isM, xappendM, rowsIn, e0, e1, e2, e3, e4, e5, hw2, sp.w21 i hlt, intV]
  have hin : i = m := by omega
  rw [hin] at hs hz e4 e5 hwl hO
  clear hin hlt hk hi
  have hwm := wrapD (a := m) (by omega)
  simp [-Int.natCast_add, isM, xappendM, rowsIn, e0, e1, e2, e3, e4, e5, ltB_f, hwm]
  refine XW.loopH (SlJ3 n m 2000 m l3 w3 9 h) (m + 1) ?_ ?_
  · refine ⟨m, s, id, sz, rfl, by omega, hF, ?_, by omega, ?_, ?_, ?_⟩
    · rw [sp.c0, hs]
    · rw [sp.w30]; omega
    · rw [sp.w30]; exact hO
    · simp [-Int.natCast_add, isM, xappendM, rowsIn, e0, e1, e2, e3, e4, e5, sp.w30]
  clear e0 e1 e2 e3 e4 e5 hs hz b1 b2 b3 hp' hF fr' h' s i k hO hwl hlow hnx id sz
  rintro k fr' h' ⟨j, s, id, sz, rfl, hj, hF, hs, hz, hwl, hO, e0, e1, e2, e3, e4, e5⟩
  have hp' : h'.next ≠ 0 := by have := hF.next; omega
  have hlow := hO.low
  have hnx := hF.next
  have b1 := big1 (n := s.size) (by omega)
  have b2 := big2 (n := s.size) (by omega)
  have b3 := big3 (n := s.size) (by omega)
  by_cases hlt : 1 ≤ j
  · obtain ⟨q, rfl⟩ : ∃ q, j = q + 1 := ⟨j - 1, by omega⟩
    rw [show ((q + 1 : Nat) : Int) - 1 = (q : Int) by omega] at e5
    have hw := wrap_let (i := q) (by omega)
    have hw2 := wrapD (a := q) (by omega)
    have hw3 : IntKind.i64.wrap ((n : Int) + (q : Int)) = ((n + q : Nat) : Int) := wrapS (a := n) (b := q) (by omega)
    have hle : leB 0 (q : Int) = true := leB_t (by omega)
    simp [-Int.natCast_add, isM, xappendM, rowsIn, e0, e1, e2, e3, e4, e5, hle, bsz, b1, b2, b3, xconv_u8, xconv_two, hp', hw, hw3]
    rw [xapp_own 23 (w := 1) rfl rfl rfl rfl (by decide) (lo := h.next) ?a1 ?a2 ?a3 ?a4 ?a5]
    case a1 =>
      rw [List.length_map]
      refine hO.mono ?_
      repeat' first | exact Fr.refl _ | assumption | refine Fr.put ?_ (by omega) _ | refine Fr.new1 ?_ _ | refine Fr.row1 ?_ _ | refine Fr.bump1 ?_ | refine Fr.app ?_ (by first | assumption | omega) _ | refine Fr.grow ?_ (by omega) _ | refine Fr.newArr1 ?_ _ | refine Fr.putArr ?_ (by omega) _ | refine Fr.moveArr ?_ (by omega) _ | refine Fr.trans ?_ (by assumption)
    case a2 => simp
    case a3 => simp
    case a4 => simp; omega
    case a5 => simp [maxLen]; omega
    simp [-Int.natCast_add, isM, xappendM, rowsIn, e0, e1, e2, e3, e4, e5, hw2]
    have hc1 := sp.c1 (q + 1) hlt hj
    have hw31 := sp.w31 (q + 1) hlt hj
    simp only [Nat.add_sub_cancel] at hc1 hw31
    refine ⟨q + 1, by omega, q, s ++ ⟨#[112, 114, 105, 110, 116, 32]⟩ ++ ⟨#[118, 97 + UInt8.ofNat q]⟩ ++ ⟨#[32, 59, 32]⟩, h'.next + 1 + 1, 1, rfl, by omega, ?_, ?_, ?_, ?_, ?_, ?_⟩
    · repeat' first | exact Fr.refl _ | assumption | refine Fr.put ?_ (by omega) _ | refine Fr.new1 ?_ _ | refine Fr.row1 ?_ _ | refine Fr.bump1 ?_ | refine Fr.app ?_ (by first | assumption | omega) _ | refine Fr.grow ?_ (by omega) _ | refine Fr.newArr1 ?_ _ | refine Fr.putArr ?_ (by omega) _ | refine Fr.moveArr ?_ (by omega) _ | refine Fr.trans ?_ (by assumption)
    · rw [hc1, ← hs]
      simp
    · simp [bsz]
      omega
    · rw [hw31]; simp; omega
    · rw [hw31]
      simp only [List.length_append, List.length_cons, List.length_nil]
      exact Own.app (by simp [H.row_next]; omega) (by simp [H.row_next])
    · simp [-Int.natCast_add, isM, xappendM, rowsIn, e0, e1, e2, e3, e4, e5, hw2, hw31, intV]
  have hin : j = 0 := by omega
  rw [hin] at hs hz e4 e5 hwl hO
  clear hin hlt hj
  have hwm := wrapD (a := n) (by omega)
  have hle : leB 0 (((0 : Nat) : Int) - 1) = false := leB_f (by decide)
  simp only [Int.natCast_zero, Int.zero_sub] at e5 hle
  simp [-Int.natCast_add, isM, xappendM, rowsIn, e0, e1, e2, e3, e4, e5, hle, hwm]
  refine XW.loopH (SlJ3 n m 3000 n l4 w4 10 h) (n + 1) ?_ ?_
  · refine ⟨n, s, id, sz, rfl, by omega, hF, ?_, by omega, ?_, ?_, ?_⟩
    · rw [sp.d0, hs]
    · rw [sp.w40]; omega
    · rw [sp.w40]; exact hO
    · simp [-Int.natCast_add, isM, xappendM, rowsIn, e0, e1, e2, e3, e4, e5, sp.w40]
  clear e0 e1 e2 e3 e4 e5 hs hz b1 b2 b3 hp' hF fr' h' s j hO hwl hlow hnx id sz hle
  rintro k fr' h' ⟨j, s, id, sz, rfl, hj, hF, hs, hz, hwl, hO, e0, e1, e2, e3, e4, e5⟩
  have hp' : h'.next ≠ 0 := by have := hF.next; omega
  have hlow := hO.low
  have hnx := hF.next
  have b1 := big1 (n := s.size) (by omega)
  have b2 := big2 (n := s.size) (by omega)
  have b3 := big3 (n := s.size) (by omega)
  have b4 := big4 (n := s.size) (by omega)
  by_cases hlt : 1 ≤ j
  · obtain ⟨q, rfl⟩ : ∃ q, j = q + 1 := ⟨j - 1, by omega⟩
    rw [show ((q + 1 : Nat) : Int) - 1 = (q : Int) by omega] at e5
    have hw := wrap_let (i := q) (by omega)
    have hwq := wrap_let (i := n - 1 - q) (by omega)
    have hw2 := wrapD (a := q) (by omega)
    have hw3 : IntKind.i64.wrap ((n : Int) - 1 - (q : Int)) = ((n - 1 - q : Nat) : Int) := by
      rw [show (n : Int) - 1 - (q : Int) = ((n - 1 - q : Nat) : Int) + ((0 : Nat) : Int) by omega]
      exact wrapS (by omega)
    have hle : leB 0 (q : Int) = true := leB_t (by omega)
    have hpr : (h'.row 2).next ≠ 0 := by simp [H.row_next]
    simp [-Int.natCast_add, isM, xappendM, rowsIn, e0, e1, e2, e3, e4, e5, hle, bsz, b1, b2, b3, b4, xconv_u8, xconv_two, hp', hpr, hw, hw3, hwm, hwq]
    rw [xapp_own 23 (w := 1) rfl rfl rfl rfl (by decide) (lo := h.next) ?a1 ?a2 ?a3 ?a4 ?a5]
    case a1 =>
      rw [List.length_map]
      refine hO.mono ?_
      repeat' first | exact Fr.refl _ | assumption | refine Fr.put ?_ (by omega) _ | refine Fr.new1 ?_ _ | refine Fr.row1 ?_ _ | refine Fr.bump1 ?_ | refine Fr.app ?_ (by first | assumption | omega) _ | refine Fr.grow ?_ (by omega) _ | refine Fr.newArr1 ?_ _ | refine Fr.putArr ?_ (by omega) _ | refine Fr.moveArr ?_ (by omega) _ | refine Fr.trans ?_ (by assumption)
    case a2 => simp
    case a3 => simp
    case a4 => simp; omega
    case a5 => simp [maxLen]; omega
    simp [-Int.natCast_add, isM, xappendM, rowsIn, e0, e1, e2, e3, e4, e5, hw2]
    have hc1 := sp.d1 (q + 1) hlt hj
    have hw31 := sp.w41 (q + 1) hlt hj
    simp only [Nat.add_sub_cancel] at hc1 hw31
    refine ⟨q + 1, by omega, q, s ++ ⟨#[112, 97 + UInt8.ofNat q]⟩ ++ ⟨#[32, 61, 32]⟩ ++ ⟨#[112, 97 + UInt8.ofNat (n - 1 - q)]⟩ ++ ⟨#[32, 59, 32]⟩, h'.next + 1 + 1 + 1, 1, rfl, by omega, ?_, ?_, ?_, ?_, ?_, ?_⟩
    · repeat' first | exact Fr.refl _ | assumption | refine Fr.put ?_ (by omega) _ | refine Fr.new1 ?_ _ | refine Fr.row1 ?_ _ | refine Fr.bump1 ?_ | refine Fr.app ?_ (by first | assumption | omega) _ | refine Fr.grow ?_ (by omega) _ | refine Fr.newArr1 ?_ _ | refine Fr.putArr ?_ (by omega) _ | refine Fr.moveArr ?_ (by omega) _ | refine Fr.trans ?_ (by assumption)
    · rw [hc1, ← hs]
      simp
    · simp [bsz]
      omega
    · rw [hw31]; simp; omega
    · rw [hw31]
      simp only [List.length_append, List.length_cons, List.length_nil]
      exact Own.app (by simp [H.row_next]; omega) (by simp [H.row_next])
    · simp [-Int.natCast_add, isM, xappendM, rowsIn, e0, e1, e2, e3, e4, e5, hw2, hw31, intV]
  have hin : j = 0 := by omega
  rw [hin] at hs hz e4 e5 hwl hO
  clear hin hlt hj
  have hle : leB 0 (((0 : Nat) : Int) - 1) = false := leB_f (by decide)
  simp only [Int.natCast_zero, Int.zero_sub] at e5 hle
  simp [-Int.natCast_add, isM, xappendM, rowsIn, e0, e1, e2, e3, e4, e5, hle, bsz, b1]
  obtain ⟨l, hsrc⟩ := sp.src (s ++ ⟨#[125, 32, 102, 110, 32, 109, 97, 105, 110, 32, 40, 32, 41, 32, 123, 32, 125]⟩) (by simp [hs])
  refine (hS _ _ _ hsrc).mono ?_
  rintro _ h2 ⟨hF2, id2, sz2, oid2, osz2, ts2, os2, rfl, q1, q2, q3, q4, q5, q6⟩
  obtain ⟨o, o2, rfl, ho1, ho2⟩ : ∃ o o2, os2 = [o, o2] ∧ o.r = ⟨((n + m : Nat) : Int), w4 0, [], 0⟩ ∧ o2.r = ⟨0, [], [], 0⟩ := by
    match os2, q2 with
    | [], q2 => cases q2
    | [_], q2 => simp at q2
    | [o, o2], q2 => exact ⟨o, o2, rfl, by simpa using q2⟩
    | _ :: _ :: _ :: _, q2 => simp at q2
  have q6' := q6 (by simp)
  have hok := q4 o (by simp)
  have hr1 : o.r.locals = ((n + m : Nat) : Int) := by rw [ho1]
  have hr2 : o.r.slots = w4 0 := by rw [ho1]
  have hr3 : o.r.calls = [] := by rw [ho1]
  have hnm : IntKind.i64.wrap ((n : Int) + (m : Int)) = ((n + m : Nat) : Int) := wrapS (a := n) (b := m) (by omega)
  unfold FunT.v sfV
  simp [-Int.natCast_add, isM, xappendM, rowsIn, e0, e1, e2, e3, e4, e5, hr1, hr2, hr3, q6', hnm]
  refine (sameInts_calls _ (w4 0) _ _ _ _ (by have := hok.1; rw [hr2] at this; exact this) hO.ok (by omega)).mono ?_
  rintro _ h3 ⟨rfl, eh⟩
  rw [eh]
  clear eh h3
  simp [-Int.natCast_add, isM, xappendM, rowsIn, e0, e1, e2, e3, e4, e5, hr1, hr2, hr3, q6', hnm]
  refine (hA _).mono ?_
  rintro _ h3 ⟨rfl, hF3⟩
  simp [-Int.natCast_add, isM, xappendM, rowsIn, e0, e1, e2, e3, e4, e5]
  exact (hF.trans hF2).trans hF3
end Go.Proofs.YtjofmihdeblbmaaGreatDoor.Xa
