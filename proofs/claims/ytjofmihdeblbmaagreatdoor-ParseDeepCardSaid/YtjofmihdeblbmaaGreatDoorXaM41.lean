/- XA, joined: the printer: put, sign, strength; expressions. -/
import Derived.Test.YtjofmihdeblbmaaGreatDoorXaM33
import Derived.Test.YtjofmihdeblbmaaGreatDoorXaM37
/- XA: the printer: put, sign, strength. -/
namespace Go.Proofs.YtjofmihdeblbmaaGreatDoor.Xa
open Go Go.RowKit
set_option linter.unusedVariables false
set_option linter.unusedSimpArgs false
set_option maxRecDepth 100000
set_option maxHeartbeats 1000000
structure PrAt (p : Nat) (h : H) (l : List ByteArray) (id sz : Nat) : Prop where
  obj : h.obj p = some (.cells [.slc id sz (l.map strV)] 80)
  lt : p < h.next
  own : Own h id sz l.length 1 (p + 1)
def Pr (p : Nat) (h : H) (l : List ByteArray) : Prop := ∃ id sz, PrAt p h l id sz
def PrQ (p : Nat) (h : H) (l : List ByteArray) : V → H → Prop := fun v h' => v = .tup [] ∧ Pr p h' l ∧ FrC p h h'
attribute [local simp] hid2 hid3 hid4 xcode_skip xcode_region xcode_draw xcode_loop xcode_seq xcode_cond xcode_block xcode_scope xcode_exit xcode_ret xops_nil xops_cons xd_nil xd_cons xstep_eq annot fillOf findFill findStore srcOf kcls cls qval qvalN xwant dstAt want1 xdo xop ev_const ev_global ev_func ev_zero ev_succ ev_undefs ev_hit ev_miss put_none put_len undefs_len xnil xfieldAddr fieldOf eT emtb seqQ blockQ xload xstore splice V.storable V.one V.cells mk xbinop xbin xun xbuiltin xindexAddr nilOr xindex xint cv cv1 retQ xres_tmp xres_cell xres_nil xresult xbuild xfill xbuildSlice xrows Nat.testBit places xfield item sideOk pendOk pendOf tyT1 tyT2 tyT3 tyT4 tyT5 tyT9 tyT22 tyT23 tyT24 tyT25 tyT26 tyT30 tyT34 tyT39 tyT41 tyT47 tyT48 tyT50 tyT53 tyT54 tyT56 tyT58 tyT63 tyT70 tyT76 tyT78 tyT80 tyT84 tyT87 tyT89 tyT96 tyT98 tyT100 tyT102 tyT108 tyT110 tyT112 tyT113 tyT115 tyT119 tyT121 tyT124 tyT138 tyT139 tyT141 tyT142 tyT143 tyT145 tyT147 tyT149 tyT155 tyT158 tyT164 tyT179 tyT186 tyT188 tyT189 tyT194 tyT197 tyT200 tyT216 tyT242 tyT245 H.put_get H.new_get H.row_obj H.grow_obj H.bump_obj H.newArr_obj H.putArr_obj H.moveArr_obj H.put_arr H.new_arr H.row_arr H.grow_arr H.bump_arr H.newArr_get H.putArr_get H.moveArr_get H.put_ext H.new_ext H.newArr_ext H.putArr_ext H.moveArr_ext H.bump_ext H.row_get H.grow_get H.new_next H.row_next H.bump_next H.put_next H.grow_next H.newArr_next H.putArr_next H.moveArr_next H.app_next H.app_obj H.app_arr H.app_get bne emT emM xapp_em xmakeSlice xslice xlookup xmapUpdate keyShape
theorem put_calls (p : Nat) (h : H) (l ys : List ByteArray) (hP : Pr p h l) (id2 : Nat) (hne : ys ≠ []) (h2 : id2 ≠ 0) (hl : l.length + ys.length ≤ 1000000) :
    XCalls e 51 [.ptr p 0, .slc id2 1 (ys.map strV)] h (PrQ p h (l ++ ys)) := by
  obtain ⟨id, sz, hP⟩ := hP
  refine XCalls.of Tryz.func51 rfl (by kernel_rfl) ?_
  rw [Tryz.ntmps51]
  have ho := hP.obj
  have hlt := hP.lt
  have hlow := hP.own.low
  simp [-Int.natCast_add, isM, xappendM, rowsIn, ho]
  rw [xapp_own 34 (w := 1) rfl rfl rfl rfl (by decide) (lo := p + 1) ?a1 ?a2 ?a3 ?a4 ?a5]
  case a1 => rw [List.length_map]; exact hP.own
  case a2 => exact h2
  case a3 => simpa using hne
  case a4 => simp; omega
  case a5 => simp [maxLen]; omega
  simp [-Int.natCast_add, isM, xappendM, rowsIn, ho]
  refine ⟨rfl, ⟨h.next, 1, by rw [H.put_get, if_pos rfl, List.map_append], by simp [H.put_next, H.app_next]; omega, ?_⟩, ?_⟩
  · have := Own.app (h := h) (id := id) (k := l.length + ys.length) (w := 1) (lo := p + 1) (by omega) (by omega)
    simpa [Own, H.put_next, H.put_ext] using this
  · repeat' first | exact FrC.refl _ _ | assumption | refine FrC.put1 ?_ _ | refine FrC.row1 ?_ (by omega) _ | refine FrC.new1 ?_ (by omega) _ | refine FrC.app1 ?_ (by omega) (by first | assumption | omega) _ | refine FrC.putNe ?_ (by omega) _ | refine FrC.trans ?_ (by assumption)
/-! sign, strength -/
def signN (level op : Int) : ByteArray := match (binsOf level).find? (fun b => b.2 == op) with
  | some b => b.1
  | none => ⟨#[]⟩
theorem bins_len (n : Int) : (binsOf n).length ≤ 6 := by
  unfold binsOf
  split
  · decide
  · split
    · decide
    · split <;> decide
theorem bins_calls (h : H) (n : Int) : XCalls e 158 [.lit (.int .i64 n)] h (fun v h' => (∃ id sz, v = .slc id sz ((binsOf n).map binV) ∧ (binsOf n ≠ [] → sz = 2)) ∧ Fr h h') := by
  refine XCalls.of Tryz.func158 rfl (by kernel_rfl) ?_
  rw [Tryz.ntmps158]
  cases g1 : (n == 3)
  · cases g2 : (n == 4)
    · cases g3 : (n == 5)
      · simp [-Int.natCast_add, isM, xappendM, rowsIn, g1, g2, g3]
        exact ⟨⟨_, _, by simp [binsOf, g1, g2, g3]; exact ⟨rfl, rfl⟩, by simp [binsOf, g1, g2, g3]⟩, Fr.refl h⟩
      · simp [-Int.natCast_add, isM, xappendM, rowsIn, g1, g2, g3]
        exact ⟨⟨h.next, 2, by simp [binsOf, g1, g2, g3, binV], fun _ => rfl⟩, Fr.row _ _⟩
    · simp [-Int.natCast_add, isM, xappendM, rowsIn, g1, g2]
      exact ⟨⟨h.next, 2, by simp [binsOf, g1, g2, binV], fun _ => rfl⟩, Fr.row _ _⟩
  · simp [-Int.natCast_add, isM, xappendM, rowsIn, g1]
    exact ⟨⟨h.next, 2, by simp [binsOf, g1, binV], fun _ => rfl⟩, Fr.row _ _⟩
def SgJ (h : H) (n op : Int) (id sz : Nat) : Nat → List V → H → Prop := fun m fr' h' => ∃ k : Nat, m + k = (binsOf n).length + 1 ∧ k ≤ (binsOf n).length ∧ Fr h h' ∧ (match ((binsOf n).drop k).find? (fun b => b.2 == op) with | some b => b.1 | none => ⟨#[]⟩) = signN n op ∧ fr'.length = 21 ∧ ev fr' (.tmp 1) = .lit (.int .i64 op) ∧ ev fr' (.tmp 8) = .slc id sz ((binsOf n).map binV) ∧ ev fr' (.tmp 9) = .lit (.int .i64 ((binsOf n).length : Nat)) ∧ ev fr' (.tmp 10) = .lit (.int .i64 (k : Nat))
theorem sign_calls (h : H) (n op : Int) : XCalls e 104 [.lit (.int .i64 n), .lit (.int .i64 op)] h (fun v h' => v = .lit (.string (signN n op)) ∧ Fr h h') := by
  refine XCalls.of Tryz.func104 rfl (by kernel_rfl) ?_
  rw [Tryz.ntmps104]
  simp [-Int.natCast_add, isM, xappendM, rowsIn]
  refine (bins_calls h n).mono ?_
  rintro _ h1 ⟨⟨id, sz, rfl, hsz⟩, hF⟩
  simp [-Int.natCast_add, isM, xappendM, rowsIn]
  have hb6 := bins_len n
  refine XW.loopH (SgJ h n op id sz) ((binsOf n).length + 1) ?_ ?_
  · refine ⟨0, by omega, by omega, hF, rfl, ?_⟩
    simp [-Int.natCast_add, isM, xappendM, rowsIn]
  · rintro m fr' h' ⟨k, hm, hk, hF3, hfl, e0, e1, e2, e3, e4⟩
    have hnx := hF3.next
    rcases Nat.lt_or_ge k (binsOf n).length with hi | hi
    · have hsz2 : sz = 2 := hsz (by intro h0; rw [h0] at hi; cases hi)
      subst hsz2
      have hi' : (k : Int) < ((binsOf n).length : Nat) := by omega
      have hw : IntKind.i64.wrap ((k : Int) + 1) = ((k + 1 : Nat) : Int) := wrapS (a := k) (b := 1) (by omega)
      rw [List.drop_eq_getElem_cons hi, List.find?_cons] at hfl
      cases hq : ((binsOf n)[k].2 == op)
      · simp only [hq] at hfl
        simp [-Int.natCast_add, isM, xappendM, rowsIn, e0, e1, e2, e3, e4, ltB_t, hi, hi', binV, hq]
        refine ⟨m - 1, by omega, k + 1, by omega, by omega, ?_, hfl, ?_⟩
        · repeat' first | exact Fr.refl _ | assumption | refine Fr.put ?_ (by omega) _ | refine Fr.new1 ?_ _ | refine Fr.row1 ?_ _ | refine Fr.bump1 ?_ | refine Fr.app ?_ (by first | assumption | omega) _ | refine Fr.grow ?_ (by omega) _ | refine Fr.newArr1 ?_ _ | refine Fr.putArr ?_ (by omega) _ | refine Fr.moveArr ?_ (by omega) _ | refine Fr.trans ?_ (by assumption)
        · simp [-Int.natCast_add, isM, xappendM, rowsIn, e0, e1, e2, e3, e4, hw, binV]
      · simp only [hq] at hfl
        simp [-Int.natCast_add, isM, xappendM, rowsIn, e0, e1, e2, e3, e4, ltB_t, hi, hi', binV, hq]
        refine ⟨hfl, ?_⟩
        repeat' first | exact Fr.refl _ | assumption | refine Fr.put ?_ (by omega) _ | refine Fr.new1 ?_ _ | refine Fr.row1 ?_ _ | refine Fr.bump1 ?_ | refine Fr.app ?_ (by first | assumption | omega) _ | refine Fr.grow ?_ (by omega) _ | refine Fr.newArr1 ?_ _ | refine Fr.putArr ?_ (by omega) _ | refine Fr.moveArr ?_ (by omega) _ | refine Fr.trans ?_ (by assumption)
    · have hkl : k = (binsOf n).length := by omega
      have hlf : ltB (k : Int) ((binsOf n).length : Nat) = false := ltB_f (by omega)
      rw [List.drop_of_length_le (by omega)] at hfl
      simp [-Int.natCast_add, isM, xappendM, rowsIn, e0, e1, e2, e3, e4, hlf]
      exact ⟨hfl, hF3⟩
def strong (n : Nd) : Int :=
  if n.kind == 13 then 1 else if n.kind == 12 then 2 else if n.kind == 14 then 6
  else if n.kind == 11 then (if !eqB (signN 3 n.op) ⟨#[]⟩ then 3 else if !eqB (signN 4 n.op) ⟨#[]⟩ then 4 else if !eqB (signN 5 n.op) ⟨#[]⟩ then 5 else 7)
  else 8
theorem TN.nd_kind (T : TN) : T.nd.kind = T.kind := by rw [TN.nd_eq]; rfl
theorem TN.nd_op (T : TN) : T.nd.op = T.op := by rw [TN.nd_eq]; rfl
theorem TN.nd_str (T : TN) : T.nd.str = T.str := by rw [TN.nd_eq]; rfl
theorem TN.nd_num (T : TN) : T.nd.num = T.num := by rw [TN.nd_eq]; rfl
def StJ (h : H) (T : TN) (q : Nat) : Nat → List V → H → Prop := fun m fr' h' => ∃ k : Nat, m + k = 6 ∧ 3 ≤ k ∧ k ≤ 6 ∧ Fr h h' ∧ q < h'.next ∧ h'.obj q = some (.cells T.v 41) ∧ (∀ j : Nat, 3 ≤ j → j < k → eqB (signN (j : Nat) T.op) ⟨#[]⟩ = true) ∧ fr'.length = 24 ∧ ev fr' (.tmp 1) = .ptr q 0 ∧ ev fr' (.tmp 3) = .lit (.int .i64 (k : Nat))
theorem strength_calls (h : H) (T : TN) : XCalls e 58 [.agg T.v] h (fun v h' => v = .lit (.int .i64 (strong T.nd)) ∧ Fr h h') := by
  have hv := TN.v_eq T
  rw [hv]
  refine XCalls.of Tryz.func58 rfl (by kernel_rfl) ?_
  rw [Tryz.ntmps58]
  unfold strong
  rw [TN.nd_kind, TN.nd_op]
  have fin : Fr h (h.new (.cells [.lit (.int .i64 T.kind), .lit (.int .i64 T.op), .lit (.string T.str), .lit (.int .i64 T.num), .slc T.kid T.ksz (T.kl.map TN.v)] 41)) := Fr.new _ _
  cases g1 : (T.kind == 13)
  · cases g2 : (T.kind == 12)
    · cases g3 : (T.kind == 14)
      · cases g4 : (T.kind == 11)
        · simp [-Int.natCast_add, isM, xappendM, rowsIn, g1, g2, g3, g4]
          exact fin
        · simp [-Int.natCast_add, isM, xappendM, rowsIn, g1, g2, g3, g4]
          refine XW.loopH (StJ h T h.next) 3 ?_ ?_
          · refine ⟨3, by omega, by omega, by omega, fin, Nat.lt_succ_self _, by rw [hv]; exact H.new_self _ _, fun j h1 h2 => by omega, ?_⟩
            simp [-Int.natCast_add, isM, xappendM, rowsIn]
          · rintro m fr' h' ⟨k, hm, h3, h6, hF, hq, ho, hall, e0, e1, e2⟩
            have hnx := hF.next
            rw [hv] at ho
            by_cases hk : k ≤ 5
            · have hk' : leB (k : Int) 5 = true := leB_t (by omega)
              have hw : IntKind.i64.wrap ((k : Int) + 1) = ((k + 1 : Nat) : Int) := wrapS (a := k) (b := 1) (by omega)
              simp [-Int.natCast_add, isM, xappendM, rowsIn, e0, e1, e2, hk', ho]
              refine (sign_calls _ _ _).mono ?_
              rintro _ h2 ⟨rfl, hF2⟩
              have hn2 := hF2.next
              have ho2 : h2.obj h.next = _ := (hF2.obj _ hq).trans ho
              cases hs : eqB (signN (k : Nat) T.op) ⟨#[]⟩
              · have hs' := hs
                unfold eqB at hs'
                simp at hs'
                simp [-Int.natCast_add, isM, xappendM, rowsIn, e0, e1, e2, bytes_list, hs']
                refine ⟨?_, hF.trans hF2⟩
                have hc : k = 3 ∨ k = 4 ∨ k = 5 := by omega
                rcases hc with rfl | rfl | rfl
                · have h3' : eqB (signN 3 T.op) ⟨#[]⟩ = false := hs
                  simp [h3']
                · have h3' : eqB (signN 3 T.op) ⟨#[]⟩ = true := hall 3 (by omega) (by omega)
                  have h4' : eqB (signN 4 T.op) ⟨#[]⟩ = false := hs
                  simp [h3', h4']
                · have h3' : eqB (signN 3 T.op) ⟨#[]⟩ = true := hall 3 (by omega) (by omega)
                  have h4' : eqB (signN 4 T.op) ⟨#[]⟩ = true := hall 4 (by omega) (by omega)
                  have h5' : eqB (signN 5 T.op) ⟨#[]⟩ = false := hs
                  simp [h3', h4', h5']
              · have hs' := hs
                unfold eqB at hs'
                simp at hs'
                simp [-Int.natCast_add, isM, xappendM, rowsIn, e0, e1, e2, bytes_list, hs']
                refine ⟨m - 1, by omega, k + 1, by omega, by omega, by omega, hF.trans hF2, by omega, by rw [hv]; exact ho2, ?_, ?_⟩
                · intro j h1 h4
                  by_cases hj : j < k
                  · exact hall j h1 hj
                  · obtain rfl : j = k := by omega
                    exact hs
                · simp [-Int.natCast_add, isM, xappendM, rowsIn, e0, e1, e2, hw]
            · obtain rfl : k = 6 := by omega
              have hk' : leB (6 : Int) 5 = false := rfl
              have h3' : eqB (signN 3 T.op) ⟨#[]⟩ = true := hall 3 (by omega) (by omega)
              have h4' : eqB (signN 4 T.op) ⟨#[]⟩ = true := hall 4 (by omega) (by omega)
              have h5' : eqB (signN 5 T.op) ⟨#[]⟩ = true := hall 5 (by omega) (by omega)
              simp [-Int.natCast_add, isM, xappendM, rowsIn, e0, e1, e2, hk', h3', h4', h5']
              exact hF
      · simp [-Int.natCast_add, isM, xappendM, rowsIn, g1, g2, g3]
        exact fin
    · simp [-Int.natCast_add, isM, xappendM, rowsIn, g1, g2]
      exact fin
  · simp [-Int.natCast_add, isM, xappendM, rowsIn, g1]
    exact fin
end Go.Proofs.YtjofmihdeblbmaaGreatDoor.Xa
/- XA: the printer's expressions: plain functions, contracts. -/
namespace Go.Proofs.YtjofmihdeblbmaaGreatDoor.Xa
open Go Go.RowKit
set_option linter.unusedVariables false
set_option linter.unusedSimpArgs false
set_option maxRecDepth 100000
set_option maxHeartbeats 1000000
def putL (w ys : List ByteArray) : Option (List ByteArray) := if w.length + ys.length ≤ 1000000 then some (w ++ ys) else none
/-- digits, of small numbers alone -/
def digN (n : Int) : Option ByteArray := if 0 ≤ n ∧ n < 10 then some ⟨#[UInt8.ofNat (48 + n.toNat)]⟩ else none
mutual
def prNode : Nat → List ByteArray → Nd → Int → Option (List ByteArray)
  | 0, _, _, _ => none
  | f + 1, w, n, level => if ltB (strong n) level then match putL w [⟨#[40]⟩] with
      | some w0 => match prBare f w0 n with
        | some w1 => putL w1 [⟨#[41]⟩]
        | none => none
      | none => none
    else prBare f w n
def prNodes : Nat → Bool → List ByteArray → List Nd → Option (List ByteArray)
  | 0, _, _, _ => none
  | f + 1, _, w, [] => some w
  | f + 1, true, w, n :: l => match prNode f w n 1 with
      | some w1 => prNodes f false w1 l
      | none => none
  | f + 1, false, w, n :: l => match putL w [⟨#[44]⟩] with
    | some w0 => match prNode f w0 n 1 with
      | some w1 => prNodes f false w1 l
      | none => none
    | none => none
def prList : Nat → List ByteArray → List Nd → Option (List ByteArray)
  | 0, _, _ => none
  | f + 1, w, l => if l.length ≤ 1000000 then prNodes f true w l else none
def prTwo : Nat → List ByteArray → Nd → ByteArray → Option (List ByteArray)
  | 0, _, _, _ => none
  | f + 1, w, n, t => match prNode f w (n.kid 0) (if strong n == 3 then IntKind.i64.wrap (strong n + 1) else strong n) with
    | some w1 => match putL w1 [t] with
      | some w2 => prNode f w2 (n.kid 1) (IntKind.i64.wrap (strong n + 1))
      | none => none
    | none => none
def prBin : Nat → List ByteArray → Nd → Option (List ByteArray)
  | 0, _, _ => none
  | f + 1, w, n => if ltB (strong n) 7 then prTwo f w n (signN (strong n) n.op) else match prNode f w (n.kid 0) 7 with
    | some w1 => match putL w1 [⟨#[91]⟩] with
      | some w2 => match prNode f w2 (n.kid 1) 1 with
        | some w3 => putL w3 [⟨#[93]⟩]
        | none => none
      | none => none
    | none => none
def prBare : Nat → List ByteArray → Nd → Option (List ByteArray)
  | 0, _, _ => none
  | f + 1, w, n =>
    if n.kind == 13 then prTwo f w n ⟨#[124, 124]⟩
    else if n.kind == 12 then prTwo f w n ⟨#[38, 38]⟩
    else if n.kind == 11 then prBin f w n
    else if n.kind == 14 then match putL w [if n.op == 16 then ⟨#[33]⟩ else ⟨#[45]⟩] with
      | some w1 => prNode f w1 (n.kid 0) 6
      | none => none
    else if n.kind == 15 then match digN n.num with
      | some d => putL w [d]
      | none => none
    else if n.kind == 16 then none
    else if n.kind == 17 then none
    else if n.kind == 19 then putL w [n.str]
    else if n.kind == 20 then match putL w [n.str, ⟨#[40]⟩] with
      | some w1 => match prList f w1 n.kids with
        | some w2 => putL w2 [⟨#[41]⟩]
        | none => none
      | none => none
    else if n.kind == 21 then match putL w [⟨#[91]⟩] with
      | some w1 => match prList f w1 n.kids with
        | some w2 => putL w2 [⟨#[93]⟩]
        | none => none
      | none => none
    else putL w [⟨#[110, 105, 108]⟩]
end
def CNo (f : Nat) : Prop := ∀ (p : Nat) (h : H) (l : List ByteArray) (T : TN) (level : Int) (l' : List ByteArray), Pr p h l → prNode f l T.nd level = some l' → XCalls e 35 [.ptr p 0, .agg T.v, .lit (.int .i64 level)] h (PrQ p h l')
def CNs (f : Nat) : Prop := ∀ (p : Nat) (h : H) (l : List ByteArray) (id sz : Nat) (L : List TN) (l' : List ByteArray), Pr p h l → (L ≠ [] → sz = 5) → prList f l (L.map TN.nd) = some l' → XCalls e 110 [.ptr p 0, .slc id sz (L.map TN.v)] h (PrQ p h l')
def CTwo (f : Nat) : Prop := ∀ (p : Nat) (h : H) (l : List ByteArray) (T : TN) (t : ByteArray) (l' : List ByteArray), Pr p h l → prTwo f l T.nd t = some l' → XCalls e 105 [.ptr p 0, .agg T.v, .lit (.string t)] h (PrQ p h l')
def CBin (f : Nat) : Prop := ∀ (p : Nat) (h : H) (l : List ByteArray) (T : TN) (l' : List ByteArray), Pr p h l → prBin f l T.nd = some l' → XCalls e 106 [.ptr p 0, .agg T.v] h (PrQ p h l')
def CBare (f : Nat) : Prop := ∀ (p : Nat) (h : H) (l : List ByteArray) (T : TN) (l' : List ByteArray), Pr p h l → prBare f l T.nd = some l' → XCalls e 59 [.ptr p 0, .agg T.v] h (PrQ p h l')
theorem put_q {p : Nat} {h0 h : H} {l ys l' : List ByteArray} (hF : FrC p h0 h) (hP : Pr p h l) (hs : putL l ys = some l') (hne : ys ≠ []) {id2 : Nat} (h2 : id2 ≠ 0) :
    XCalls e 51 [.ptr p 0, .slc id2 1 (ys.map strV)] h (PrQ p h0 l') := by
  unfold putL at hs
  split at hs
  case isFalse => cases hs
  rename_i hl
  obtain rfl := Option.some.inj hs
  refine (put_calls p h l ys hP id2 hne h2 hl).mono ?_
  rintro v h' ⟨h1, h3, h4⟩
  exact ⟨h1, h3, hF.trans h4⟩
theorem Pr.lt {p : Nat} {h : H} {l : List ByteArray} (x : Pr p h l) : p < h.next := by obtain ⟨_, _, x⟩ := x; exact x.lt
theorem Pr.fr {p : Nat} {h h' : H} {l : List ByteArray} (x : Pr p h l) (f : Fr h h') : Pr p h' l := by
  obtain ⟨id, sz, x⟩ := x
  exact ⟨id, sz, (f.obj p x.lt).trans x.obj, Nat.lt_of_lt_of_le x.lt f.next, x.own.mono f⟩
theorem Fr.c' {p : Nat} {h h' : H} (x : Fr h h') (hp : p < h.next) : FrC p h h' := x.c (Nat.le_of_lt hp)
theorem put_r {p : Nat} {h : H} {l ys l' : List ByteArray} (hP : Pr p h l) (hs : putL l ys = some l') (hne : ys ≠ []) {id2 : Nat} (h2 : id2 ≠ 0) :
    XCalls e 51 [.ptr p 0, .slc id2 1 (ys.map strV)] h (PrQ p h l') := put_q (FrC.refl _ _) hP hs hne h2
/-- one word -/
theorem put_1 {p : Nat} {h : H} {l l' : List ByteArray} {y : ByteArray} (hP : Pr p h l) (hs : putL l [y] = some l') :
    XCalls e 51 [.ptr p 0, .slc h.next 1 [[.lit (.string y)]]] (h.row 1) (PrQ p h l') := by
  have hp := hP.lt
  refine (put_r (hP.fr (Fr.row h 1)) hs (by simp) (id2 := h.next) (by omega)).mono ?_
  rintro v h' ⟨a, b, c⟩
  exact ⟨a, b, ((Fr.row h 1).c' hp).trans c⟩
theorem put_2 {p : Nat} {h : H} {l l' : List ByteArray} {y z : ByteArray} (hP : Pr p h l) (hs : putL l [y, z] = some l') :
    XCalls e 51 [.ptr p 0, .slc h.next 1 [[.lit (.string y)], [.lit (.string z)]]] (h.row 2) (PrQ p h l') := by
  have hp := hP.lt
  refine (put_r (hP.fr (Fr.row h 2)) hs (by simp) (id2 := h.next) (by omega)).mono ?_
  rintro v h' ⟨a, b, c⟩
  exact ⟨a, b, ((Fr.row h 2).c' hp).trans c⟩
attribute [local simp] hid2 hid3 hid4 xcode_skip xcode_region xcode_draw xcode_loop xcode_seq xcode_cond xcode_block xcode_scope xcode_exit xcode_ret xops_nil xops_cons xd_nil xd_cons xstep_eq annot fillOf findFill findStore srcOf kcls cls qval qvalN xwant dstAt want1 xdo xop ev_const ev_global ev_func ev_zero ev_succ ev_undefs ev_hit ev_miss put_none put_len undefs_len xnil xfieldAddr fieldOf eT emtb seqQ blockQ xload xstore splice V.storable V.one V.cells mk xbinop xbin xun xbuiltin xindexAddr nilOr xindex xint cv cv1 retQ xres_tmp xres_cell xres_nil xresult xbuild xfill xbuildSlice xrows Nat.testBit places xfield item sideOk pendOk pendOf tyT1 tyT2 tyT3 tyT4 tyT5 tyT9 tyT22 tyT23 tyT24 tyT25 tyT26 tyT30 tyT34 tyT39 tyT41 tyT47 tyT48 tyT50 tyT53 tyT54 tyT56 tyT58 tyT63 tyT70 tyT76 tyT78 tyT80 tyT84 tyT87 tyT89 tyT96 tyT98 tyT100 tyT102 tyT108 tyT110 tyT112 tyT113 tyT115 tyT119 tyT121 tyT124 tyT138 tyT139 tyT141 tyT142 tyT143 tyT145 tyT147 tyT149 tyT155 tyT158 tyT164 tyT179 tyT186 tyT188 tyT189 tyT194 tyT197 tyT200 tyT216 tyT242 tyT245 H.put_get H.new_get H.row_obj H.grow_obj H.bump_obj H.newArr_obj H.putArr_obj H.moveArr_obj H.put_arr H.new_arr H.row_arr H.grow_arr H.bump_arr H.newArr_get H.putArr_get H.moveArr_get H.put_ext H.new_ext H.newArr_ext H.putArr_ext H.moveArr_ext H.bump_ext H.row_get H.grow_get H.new_next H.row_next H.bump_next H.put_next H.grow_next H.newArr_next H.putArr_next H.moveArr_next H.app_next H.app_obj H.app_arr H.app_get bne emT emM xapp_em xmakeSlice xslice xlookup xmapUpdate keyShape
theorem node_pstep (f : Nat) (hb : CBare f) : CNo (f + 1) := by
  intro p h l T level l' hP hs
  unfold prNode at hs
  have hp := hP.lt
  refine XCalls.of Tryz.func35 rfl (by kernel_rfl) ?_
  rw [Tryz.ntmps35]
  simp [-Int.natCast_add, isM, xappendM, rowsIn, TN.v_len, TN.v_take, TN.v_drop]
  refine (strength_calls _ T).mono ?_
  rintro _ h1 ⟨rfl, hF1⟩
  have hn1 := hF1.next
  simp only [H.new_next] at hn1
  have ho := hF1.obj h.next (Nat.lt_succ_self _)
  rw [H.new_self] at ho
  have hP1 : Pr p h1 l := (hP.fr (Fr.new _ _)).fr hF1
  have hC1 : FrC p h h1 := ((Fr.new _ _).trans hF1).c' hp
  cases hlt : ltB (strong T.nd) level
  · simp only [hlt, Bool.false_eq_true, if_false] at hs
    simp [-Int.natCast_add, isM, xappendM, rowsIn, TN.v_len, TN.v_take, TN.v_drop, hlt, ho]
    refine (hb p h1 l T l' hP1 hs).mono ?_
    rintro _ h2 ⟨rfl, hP2, hC2⟩
    simp [-Int.natCast_add, isM, xappendM, rowsIn]
    exact ⟨rfl, hP2, hC1.trans hC2⟩
  · simp only [hlt, if_true] at hs
    split at hs
    case h_2 => cases hs
    rename_i w0 hw0
    split at hs
    case h_2 => cases hs
    rename_i w1 hw1
    simp [-Int.natCast_add, isM, xappendM, rowsIn, TN.v_len, TN.v_take, TN.v_drop, hlt, ho]
    refine (put_1 hP1 hw0).mono ?_
    rintro _ h2 ⟨rfl, hP2, hC2⟩
    have ho2 := (hC2.obj h.next (by omega) (by omega)).trans ho
    have hn2 := hC2.next
    simp [-Int.natCast_add, isM, xappendM, rowsIn, TN.v_len, TN.v_take, TN.v_drop, hlt, ho2]
    refine (hb p h2 w0 T w1 hP2 hw1).mono ?_
    rintro _ h3 ⟨rfl, hP3, hC3⟩
    simp [-Int.natCast_add, isM, xappendM, rowsIn]
    refine (put_1 hP3 hs).mono ?_
    rintro _ h4 ⟨rfl, hP4, hC4⟩
    simp [-Int.natCast_add, isM, xappendM, rowsIn]
    exact ⟨rfl, hP4, ((hC1.trans hC2).trans hC3).trans hC4⟩
theorem two_pstep (f : Nat) (hn : CNo f) : CTwo (f + 1) := by
  intro p h l T t l' hP hs
  unfold prTwo at hs
  have hp := hP.lt
  split at hs
  case h_2 => cases hs
  rename_i w1 hw1
  split at hs
  case h_2 => cases hs
  rename_i w2 hw2
  refine XCalls.of Tryz.func105 rfl (by kernel_rfl) ?_
  rw [Tryz.ntmps105]
  simp [-Int.natCast_add, isM, xappendM, rowsIn, TN.v_len, TN.v_take, TN.v_drop]
  refine (strength_calls _ T).mono ?_
  rintro _ h1 ⟨rfl, hF1⟩
  have hn1 := hF1.next
  simp only [H.new_next] at hn1
  have ho := hF1.obj h.next (Nat.lt_succ_self _)
  rw [H.new_self] at ho
  have hP1 : Pr p h1 l := (hP.fr (Fr.new _ _)).fr hF1
  have hC1 : FrC p h h1 := ((Fr.new _ _).trans hF1).c' hp
  cases hq : (strong T.nd == 3)
  · simp only [hq, Bool.false_eq_true, if_false] at hw1
    simp [-Int.natCast_add, isM, xappendM, rowsIn, TN.v_len, TN.v_take, TN.v_drop, hq, ho]
    refine (at_calls _ T 0 (by decide)).mono ?_
    rintro _ h2 ⟨rfl, hF2⟩
    have hn2 := hF2.next
    have ho2 := (hF2.obj h.next (by omega)).trans ho
    simp [-Int.natCast_add, isM, xappendM, rowsIn, TN.v_len, TN.v_take, TN.v_drop, hq, ho2]
    refine (hn p h2 l (T.kid_n 0) _ w1 (hP1.fr hF2) (by rw [kid_nd]; exact hw1)).mono ?_
    rintro _ h3 ⟨rfl, hP3, hC3⟩
    have hn3 := hC3.next
    have ho3 := (hC3.obj h.next (by omega) (by omega)).trans ho2
    simp [-Int.natCast_add, isM, xappendM, rowsIn, TN.v_len, TN.v_take, TN.v_drop, ho3]
    refine (put_1 hP3 hw2).mono ?_
    rintro _ h4 ⟨rfl, hP4, hC4⟩
    have hn4 := hC4.next
    have ho4 := (hC4.obj h.next (by omega) (by omega)).trans ho3
    simp [-Int.natCast_add, isM, xappendM, rowsIn, TN.v_len, TN.v_take, TN.v_drop, ho4]
    refine (at_calls _ T 1 (by decide)).mono ?_
    rintro _ h5 ⟨rfl, hF5⟩
    simp [-Int.natCast_add, isM, xappendM, rowsIn, TN.v_len, TN.v_take, TN.v_drop]
    refine (hn p h5 w2 (T.kid_n 1) _ l' (hP4.fr hF5) (by rw [kid_nd]; exact hs)).mono ?_
    rintro _ h6 ⟨rfl, hP6, hC6⟩
    simp [-Int.natCast_add, isM, xappendM, rowsIn]
    exact ⟨rfl, hP6, ((((hC1.trans (hF2.c' (by omega))).trans hC3).trans hC4).trans (hF5.c' (by omega))).trans hC6⟩
  · simp only [hq, if_true] at hw1
    simp [-Int.natCast_add, isM, xappendM, rowsIn, TN.v_len, TN.v_take, TN.v_drop, hq, ho]
    refine (at_calls _ T 0 (by decide)).mono ?_
    rintro _ h2 ⟨rfl, hF2⟩
    have hn2 := hF2.next
    have ho2 := (hF2.obj h.next (by omega)).trans ho
    simp [-Int.natCast_add, isM, xappendM, rowsIn, TN.v_len, TN.v_take, TN.v_drop, hq, ho2]
    refine (hn p h2 l (T.kid_n 0) _ w1 (hP1.fr hF2) (by rw [kid_nd]; exact hw1)).mono ?_
    rintro _ h3 ⟨rfl, hP3, hC3⟩
    have hn3 := hC3.next
    have ho3 := (hC3.obj h.next (by omega) (by omega)).trans ho2
    simp [-Int.natCast_add, isM, xappendM, rowsIn, TN.v_len, TN.v_take, TN.v_drop, ho3]
    refine (put_1 hP3 hw2).mono ?_
    rintro _ h4 ⟨rfl, hP4, hC4⟩
    have hn4 := hC4.next
    have ho4 := (hC4.obj h.next (by omega) (by omega)).trans ho3
    simp [-Int.natCast_add, isM, xappendM, rowsIn, TN.v_len, TN.v_take, TN.v_drop, ho4]
    refine (at_calls _ T 1 (by decide)).mono ?_
    rintro _ h5 ⟨rfl, hF5⟩
    simp [-Int.natCast_add, isM, xappendM, rowsIn, TN.v_len, TN.v_take, TN.v_drop]
    refine (hn p h5 w2 (T.kid_n 1) _ l' (hP4.fr hF5) (by rw [kid_nd]; exact hs)).mono ?_
    rintro _ h6 ⟨rfl, hP6, hC6⟩
    simp [-Int.natCast_add, isM, xappendM, rowsIn]
    exact ⟨rfl, hP6, ((((hC1.trans (hF2.c' (by omega))).trans hC3).trans hC4).trans (hF5.c' (by omega))).trans hC6⟩
theorem bin_pstep (f : Nat) (hn : CNo f) (ht : CTwo f) : CBin (f + 1) := by
  intro p h l T l' hP hs
  unfold prBin at hs
  have hp := hP.lt
  refine XCalls.of Tryz.func106 rfl (by kernel_rfl) ?_
  rw [Tryz.ntmps106]
  simp [-Int.natCast_add, isM, xappendM, rowsIn, TN.v_len, TN.v_take, TN.v_drop]
  refine (strength_calls _ T).mono ?_
  rintro _ h1 ⟨rfl, hF1⟩
  have hn1 := hF1.next
  simp only [H.new_next] at hn1
  have ho := hF1.obj h.next (Nat.lt_succ_self _)
  rw [H.new_self] at ho
  have hP1 : Pr p h1 l := (hP.fr (Fr.new _ _)).fr hF1
  have hC1 : FrC p h h1 := ((Fr.new _ _).trans hF1).c' hp
  cases hq : ltB (strong T.nd) 7
  · simp only [hq, Bool.false_eq_true, if_false] at hs
    split at hs
    case h_2 => cases hs
    rename_i w1 hw1
    split at hs
    case h_2 => cases hs
    rename_i w2 hw2
    split at hs
    case h_2 => cases hs
    rename_i w3 hw3
    simp [-Int.natCast_add, isM, xappendM, rowsIn, TN.v_len, TN.v_take, TN.v_drop, hq, ho]
    refine (at_calls _ T 0 (by decide)).mono ?_
    rintro _ h2 ⟨rfl, hF2⟩
    have hn2 := hF2.next
    have ho2 := (hF2.obj h.next (by omega)).trans ho
    simp [-Int.natCast_add, isM, xappendM, rowsIn, TN.v_len, TN.v_take, TN.v_drop, hq, ho2]
    refine (hn p h2 l (T.kid_n 0) _ w1 (hP1.fr hF2) (by rw [kid_nd]; exact hw1)).mono ?_
    rintro _ h3 ⟨rfl, hP3, hC3⟩
    have hn3 := hC3.next
    have ho3 := (hC3.obj h.next (by omega) (by omega)).trans ho2
    simp [-Int.natCast_add, isM, xappendM, rowsIn, TN.v_len, TN.v_take, TN.v_drop, ho3]
    refine (put_1 hP3 hw2).mono ?_
    rintro _ h4 ⟨rfl, hP4, hC4⟩
    have hn4 := hC4.next
    have ho4 := (hC4.obj h.next (by omega) (by omega)).trans ho3
    simp [-Int.natCast_add, isM, xappendM, rowsIn, TN.v_len, TN.v_take, TN.v_drop, ho4]
    refine (at_calls _ T 1 (by decide)).mono ?_
    rintro _ h5 ⟨rfl, hF5⟩
    simp [-Int.natCast_add, isM, xappendM, rowsIn, TN.v_len, TN.v_take, TN.v_drop]
    refine (hn p h5 w2 (T.kid_n 1) _ w3 (hP4.fr hF5) (by rw [kid_nd]; exact hw3)).mono ?_
    rintro _ h6 ⟨rfl, hP6, hC6⟩
    simp [-Int.natCast_add, isM, xappendM, rowsIn]
    refine (put_1 hP6 hs).mono ?_
    rintro _ h7 ⟨rfl, hP7, hC7⟩
    simp [-Int.natCast_add, isM, xappendM, rowsIn]
    exact ⟨rfl, hP7, (((((hC1.trans (hF2.c' (by omega))).trans hC3).trans hC4).trans (hF5.c' (by omega))).trans hC6).trans hC7⟩
  · simp only [hq, if_true] at hs
    have hv := TN.v_eq T
    rw [hv] at ho
    simp [-Int.natCast_add, isM, xappendM, rowsIn, TN.v_len, TN.v_take, TN.v_drop, hq, ho]
    refine XW.drawB mixed (L := List.range 7) (B := [0, 0, 0, 0, 8, 28, 63]) (by kernel_rfl) (by kernel_rfl) ?_
    simp only [List.range, List.range.loop, List.map_cons, List.map_nil, item]
    simp only [annot, fillOf, findFill, findStore, srcOf, List.getD_cons_succ, List.getD_cons_zero]
    simp [-Int.natCast_add, isM, xappendM, rowsIn, TN.v_len, TN.v_take, TN.v_drop, hq, ho]
    refine (sign_calls _ _ _).mono ?_
    rintro _ h2 ⟨rfl, hF2⟩
    have ho2 := (hF2.obj h.next (by omega)).trans ho
    simp [-Int.natCast_add, isM, xappendM, rowsIn, TN.v_len, TN.v_take, TN.v_drop, hq, ho, ho2]
    rw [← hv, ← TN.nd_op]
    refine (ht p h2 l T _ l' (hP1.fr hF2) hs).mono ?_
    rintro _ h3 ⟨rfl, hP3, hC3⟩
    simp [-Int.natCast_add, isM, xappendM, rowsIn]
    exact ⟨rfl, hP3, (hC1.trans (hF2.c' (by omega))).trans hC3⟩
theorem small_calls (h : H) (n : Int) (hn : 0 ≤ n ∧ n < 10) : XCalls e 195 [.lit (.int .i64 n)] h (fun v h' => v = .lit (.string ⟨#[UInt8.ofNat (48 + n.toNat)]⟩) ∧ h' = h) := by
  refine XCalls.of Tryz.func195 rfl (by kernel_rfl) ?_
  rw [Tryz.ntmps195]
  have hc : n = 0 ∨ n = 1 ∨ n = 2 ∨ n = 3 ∨ n = 4 ∨ n = 5 ∨ n = 6 ∨ n = 7 ∨ n = 8 ∨ n = 9 := by omega
  have hl : ltB n 10 = true := ltB_t hn.2
  have hw : IntKind.i64.wrap (n + 1) = n + 1 := by
    simp [IntKind.wrap, IntKind.bits, IntKind.signed]
    omega
  have h36 : n + 1 ≤ 36 := by omega
  have hle : n ≤ n + 1 := by omega
  simp [-Int.natCast_add, isM, xappendM, rowsIn, hl, hw, hn.1, h36, hle, bsz]
  rcases hc with rfl | rfl | rfl | rfl | rfl | rfl | rfl | rfl | rfl | rfl <;> decide
theorem ifmt_calls (h : H) (n : Int) (hn : 0 ≤ n ∧ n < 10) : XCalls e 159 [.lit (.int .i64 n), .lit (.int .i64 10)] h (fun v h' => v = .lit (.string ⟨#[UInt8.ofNat (48 + n.toNat)]⟩) ∧ h' = h) := by
  refine XCalls.of Tryz.func159 rfl (by kernel_rfl) ?_
  rw [Tryz.ntmps159]
  have h1 : leB 0 n = true := leB_t hn.1
  have h2 : ltB n 100 = true := ltB_t (by omega)
  simp [-Int.natCast_add, isM, xappendM, rowsIn, h1, h2]
  refine (small_calls h n hn).mono ?_
  rintro _ h' ⟨rfl, eh⟩
  rw [eh]
  clear eh h'
  simp [-Int.natCast_add, isM, xappendM, rowsIn]
theorem fmt_calls (h : H) (n : Int) (d : ByteArray) (hd : digN n = some d) : XCalls e 108 [.lit (.int .i64 n), .lit (.int .i64 10)] h (fun v h' => v = .lit (.string d) ∧ h' = h) := by
  unfold digN at hd
  split at hd
  case isFalse => cases hd
  rename_i hn
  obtain rfl := Option.some.inj hd
  refine XCalls.of Tryz.func108 rfl (by kernel_rfl) ?_
  rw [Tryz.ntmps108]
  simp [-Int.natCast_add, isM, xappendM, rowsIn]
  refine (ifmt_calls h n hn).mono ?_
  rintro _ h' ⟨rfl, eh⟩
  rw [eh]
  clear eh h'
  simp [-Int.natCast_add, isM, xappendM, rowsIn]
theorem bare_pstep (f : Nat) (hn : CNo f) (ht : CTwo f) (hbn : CBin f) (hl : CNs f) : CBare (f + 1) := by
  intro p h l T l' hP hs
  unfold prBare at hs
  have hp := hP.lt
  have hv := TN.v_eq T
  rw [TN.nd_kind] at hs
  refine XCalls.of Tryz.func59 rfl (by kernel_rfl) ?_
  rw [Tryz.ntmps59]
  rw [hv]
  have hne : h.next ≠ p := by omega
  have hP1 : ∀ ob, Pr p (h.new ob) l := fun ob => hP.fr (Fr.new _ _)
  have hC1 : ∀ ob, FrC p h (h.new ob) := fun ob => (Fr.new _ _).c' hp
  cases g1 : (T.kind == 13)
  · cases g2 : (T.kind == 12)
    · cases g3 : (T.kind == 11)
      · cases g4 : (T.kind == 14)
        · cases g5 : (T.kind == 15)
          · cases g6 : (T.kind == 16)
            · cases g7 : (T.kind == 17)
              · cases g8 : (T.kind == 19)
                · cases g9 : (T.kind == 20)
                  · cases g10 : (T.kind == 21)
                    · simp only [g1, g2, g3, g4, g5, g6, g7, g8, g9, g10, Bool.false_eq_true, if_false] at hs
                      simp [-Int.natCast_add, isM, xappendM, rowsIn, g1, g2, g3, g4, g5, g6, g7, g8, g9, g10]
                      refine (put_1 (hP1 _) hs).mono ?_
                      rintro _ h2 ⟨rfl, hP2, hC2⟩
                      simp [-Int.natCast_add, isM, xappendM, rowsIn]
                      exact ⟨rfl, hP2, (hC1 _).trans hC2⟩
                    · simp only [g1, g2, g3, g4, g5, g6, g7, g8, g9, g10, Bool.false_eq_true, if_false, if_true] at hs
                      split at hs
                      case h_2 => cases hs
                      rename_i w1 hw1
                      split at hs
                      case h_2 => cases hs
                      rename_i w2 hw2
                      simp [-Int.natCast_add, isM, xappendM, rowsIn, g1, g2, g3, g4, g5, g6, g7, g8, g9, g10]
                      refine (put_1 (hP1 _) hw1).mono ?_
                      rintro _ h2 ⟨rfl, hP2, hC2⟩
                      have ho2 := (hC2.obj h.next (Nat.lt_succ_self _) hne).trans (H.new_self _ _)
                      simp [-Int.natCast_add, isM, xappendM, rowsIn, ho2]
                      refine (hl p h2 w1 T.kid T.ksz T.kl w2 hP2 T.ksz5 (by rw [← TN.nd_kids]; exact hw2)).mono ?_
                      rintro _ h3 ⟨rfl, hP3, hC3⟩
                      simp [-Int.natCast_add, isM, xappendM, rowsIn]
                      refine (put_1 hP3 hs).mono ?_
                      rintro _ h4 ⟨rfl, hP4, hC4⟩
                      simp [-Int.natCast_add, isM, xappendM, rowsIn]
                      exact ⟨rfl, hP4, (((hC1 _).trans hC2).trans hC3).trans hC4⟩
                  · simp only [g1, g2, g3, g4, g5, g6, g7, g8, g9, Bool.false_eq_true, if_false, if_true, TN.nd_str] at hs
                    split at hs
                    case h_2 => cases hs
                    rename_i w1 hw1
                    split at hs
                    case h_2 => cases hs
                    rename_i w2 hw2
                    simp [-Int.natCast_add, isM, xappendM, rowsIn, g1, g2, g3, g4, g5, g6, g7, g8, g9]
                    refine (put_2 (hP1 _) hw1).mono ?_
                    rintro _ h2 ⟨rfl, hP2, hC2⟩
                    have ho2 := (hC2.obj h.next (Nat.lt_succ_self _) hne).trans (H.new_self _ _)
                    simp [-Int.natCast_add, isM, xappendM, rowsIn, ho2]
                    refine (hl p h2 w1 T.kid T.ksz T.kl w2 hP2 T.ksz5 (by rw [← TN.nd_kids]; exact hw2)).mono ?_
                    rintro _ h3 ⟨rfl, hP3, hC3⟩
                    simp [-Int.natCast_add, isM, xappendM, rowsIn]
                    refine (put_1 hP3 hs).mono ?_
                    rintro _ h4 ⟨rfl, hP4, hC4⟩
                    simp [-Int.natCast_add, isM, xappendM, rowsIn]
                    exact ⟨rfl, hP4, (((hC1 _).trans hC2).trans hC3).trans hC4⟩
                · simp only [g1, g2, g3, g4, g5, g6, g7, g8, Bool.false_eq_true, if_false, if_true, TN.nd_str] at hs
                  simp [-Int.natCast_add, isM, xappendM, rowsIn, g1, g2, g3, g4, g5, g6, g7, g8]
                  refine (put_1 (hP1 _) hs).mono ?_
                  rintro _ h2 ⟨rfl, hP2, hC2⟩
                  simp [-Int.natCast_add, isM, xappendM, rowsIn]
                  exact ⟨rfl, hP2, (hC1 _).trans hC2⟩
              · simp only [g1, g2, g3, g4, g5, g6, g7, Bool.false_eq_true, if_false, if_true] at hs
                cases hs
            · simp only [g1, g2, g3, g4, g5, g6, Bool.false_eq_true, if_false, if_true] at hs
              cases hs
          · simp only [g1, g2, g3, g4, g5, Bool.false_eq_true, if_false, if_true, TN.nd_num] at hs
            split at hs
            case h_2 => cases hs
            rename_i d hd
            simp [-Int.natCast_add, isM, xappendM, rowsIn, g1, g2, g3, g4, g5]
            refine (fmt_calls _ _ d hd).mono ?_
            rintro _ h' ⟨rfl, eh⟩
            rw [eh]
            clear eh h'
            simp [-Int.natCast_add, isM, xappendM, rowsIn]
            refine (put_1 (hP1 _) hs).mono ?_
            rintro _ h2 ⟨rfl, hP2, hC2⟩
            simp [-Int.natCast_add, isM, xappendM, rowsIn]
            exact ⟨rfl, hP2, (hC1 _).trans hC2⟩
        · simp only [g1, g2, g3, g4, Bool.false_eq_true, if_false, if_true, TN.nd_op] at hs
          split at hs
          case h_2 => cases hs
          rename_i w1 hw1
          cases g16 : (T.op == 16)
          · simp only [g16, Bool.false_eq_true, if_false] at hw1
            simp [-Int.natCast_add, isM, xappendM, rowsIn, g1, g2, g3, g4, g16]
            refine (put_1 (hP1 _) hw1).mono ?_
            rintro _ h2 ⟨rfl, hP2, hC2⟩
            have ho2 := (hC2.obj h.next (Nat.lt_succ_self _) hne).trans (H.new_self _ _)
            simp [-Int.natCast_add, isM, xappendM, rowsIn, ho2]
            refine (at_calls2 _ T 0 (by decide)).mono ?_
            rintro _ h3 ⟨rfl, hF3⟩
            simp [-Int.natCast_add, isM, xappendM, rowsIn]
            refine (hn p h3 w1 (T.kid_n 0) _ l' (hP2.fr hF3) (by rw [kid_nd]; exact hs)).mono ?_
            rintro _ h4 ⟨rfl, hP4, hC4⟩
            simp [-Int.natCast_add, isM, xappendM, rowsIn]
            exact ⟨rfl, hP4, (((hC1 _).trans hC2).trans (hF3.c' hP2.lt)).trans hC4⟩
          · simp only [g16, if_true] at hw1
            simp [-Int.natCast_add, isM, xappendM, rowsIn, g1, g2, g3, g4, g16]
            refine (put_1 (hP1 _) hw1).mono ?_
            rintro _ h2 ⟨rfl, hP2, hC2⟩
            have ho2 := (hC2.obj h.next (Nat.lt_succ_self _) hne).trans (H.new_self _ _)
            simp [-Int.natCast_add, isM, xappendM, rowsIn, ho2]
            refine (at_calls2 _ T 0 (by decide)).mono ?_
            rintro _ h3 ⟨rfl, hF3⟩
            simp [-Int.natCast_add, isM, xappendM, rowsIn]
            refine (hn p h3 w1 (T.kid_n 0) _ l' (hP2.fr hF3) (by rw [kid_nd]; exact hs)).mono ?_
            rintro _ h4 ⟨rfl, hP4, hC4⟩
            simp [-Int.natCast_add, isM, xappendM, rowsIn]
            exact ⟨rfl, hP4, (((hC1 _).trans hC2).trans (hF3.c' hP2.lt)).trans hC4⟩
      · simp only [g1, g2, g3, Bool.false_eq_true, if_false, if_true] at hs
        simp [-Int.natCast_add, isM, xappendM, rowsIn, g1, g2, g3]
        rw [← hv]
        refine (hbn p _ l T l' (hP1 _) hs).mono ?_
        rintro _ h2 ⟨rfl, hP2, hC2⟩
        simp [-Int.natCast_add, isM, xappendM, rowsIn]
        exact ⟨rfl, hP2, (hC1 _).trans hC2⟩
    · simp only [g1, g2, Bool.false_eq_true, if_false, if_true] at hs
      simp [-Int.natCast_add, isM, xappendM, rowsIn, g1, g2]
      rw [← hv]
      refine (ht p _ l T _ l' (hP1 _) hs).mono ?_
      rintro _ h2 ⟨rfl, hP2, hC2⟩
      simp [-Int.natCast_add, isM, xappendM, rowsIn]
      exact ⟨rfl, hP2, (hC1 _).trans hC2⟩
  · simp only [g1, if_true] at hs
    simp [-Int.natCast_add, isM, xappendM, rowsIn, g1]
    rw [← hv]
    refine (ht p _ l T _ l' (hP1 _) hs).mono ?_
    rintro _ h2 ⟨rfl, hP2, hC2⟩
    simp [-Int.natCast_add, isM, xappendM, rowsIn]
    exact ⟨rfl, hP2, (hC1 _).trans hC2⟩
def NsJ (f p : Nat) (h : H) (id sz : Nat) (L : List TN) (l' : List ByteArray) : Nat → List V → H → Prop := fun m fr' h' => ∃ (k fu : Nat) (w : List ByteArray), m + k = L.length + 1 ∧ k ≤ L.length ∧ fu ≤ f ∧ prNodes fu (decide (k = 0)) w ((L.drop k).map TN.nd) = some l' ∧ Pr p h' w ∧ FrC p h h' ∧
  fr'.length = 22 ∧ ev fr' (.tmp 0) = .ptr p 0 ∧ ev fr' (.tmp 6) = .slc id sz (L.map TN.v) ∧ ev fr' (.tmp 7) = .lit (.int .i64 (L.length : Nat)) ∧ ev fr' (.tmp 8) = .lit (.int .i64 (k : Nat))
theorem nodes_pstep (f : Nat) (hn : ∀ m, m ≤ f → CNo m) : CNs (f + 1) := by
  intro p h l id sz L l' hP hsz hs
  unfold prList at hs
  split at hs
  case isFalse => cases hs
  rename_i hL
  rw [List.length_map] at hL
  have hp := hP.lt
  refine XCalls.of Tryz.func110 rfl (by kernel_rfl) ?_
  rw [Tryz.ntmps110]
  simp [-Int.natCast_add, isM, xappendM, rowsIn]
  refine XW.loopH (NsJ f p h id sz L l') (L.length + 1) ?_ ?_
  · refine ⟨0, f, l, by omega, by omega, Nat.le_refl _, by simpa using hs, hP, FrC.refl _ _, ?_⟩
    simp [-Int.natCast_add, isM, xappendM, rowsIn]
  · clear hs hP
    rintro m fr' h' ⟨k, fu, w, hm, hk, hfu, hs, hP, hC, e0, e1, e2, e3, e4⟩
    have hp' := hP.lt
    cases fu with
    | zero => unfold prNodes at hs; cases hs
    | succ fu =>
    rcases Nat.lt_or_ge k L.length with hi | hi
    · have hi' : (k : Int) < (L.length : Int) := by omega
      have z5 : sz = 5 := hsz (by intro h0; rw [h0] at hi; cases hi)
      subst z5
      have hw : IntKind.i64.wrap ((k : Int) + 1) = ((k + 1 : Nat) : Int) := by
        have : (k : Int) < 1000000 := by omega
        simp [IntKind.wrap, IntKind.bits, IntKind.signed]
        omega
      rw [List.drop_eq_getElem_cons hi, List.map_cons] at hs
      have hnep : h'.next ≠ p := by omega
      by_cases h0 : k = 0
      · rw [show decide (k = 0) = true by simpa using h0] at hs
        simp only [prNodes] at hs
        split at hs
        case h_2 => cases hs
        rename_i w1 hw1
        have hz : ltB 0 (k : Int) = false := ltB_f (by omega)
        simp [-Int.natCast_add, isM, xappendM, rowsIn, e0, e1, e2, e3, e4, hi, hi', ltB_t, hz, TN.v_len, TN.v_take, TN.v_drop]
        have hFb : ∀ o o', Fr h' ((h'.new o).put h'.next o') := fun o o' => (Fr.new _ _).put (Nat.le_refl _) _
        refine (hn fu (by omega) p _ w L[k] _ w1 (hP.fr (hFb _ _)) hw1).mono ?_
        rintro _ h2 ⟨rfl, hP2, hC2⟩
        simp [-Int.natCast_add, isM, xappendM, rowsIn, e0, e1, e2, e3, e4]
        refine ⟨m - 1, by omega, k + 1, fu, w1, by omega, by omega, by omega, ?_, hP2, ?_, ?_⟩
        · rw [show decide (k + 1 = 0) = false by simp]; exact hs
        · exact (hC.trans ((hFb _ _).c' hp')).trans hC2
        · simp [-Int.natCast_add, isM, xappendM, rowsIn, e0, e1, e2, e3, e4, hw]
      · rw [show decide (k = 0) = false by simpa using h0] at hs
        simp only [prNodes] at hs
        split at hs
        case h_2 => cases hs
        rename_i w0 hw0
        split at hs
        case h_2 => cases hs
        rename_i w1 hw1
        have hz : ltB 0 (k : Int) = true := ltB_t (by omega)
        have hFb : ∀ o o', Fr h' ((h'.new o).put h'.next o') := fun o o' => (Fr.new _ _).put (Nat.le_refl _) _
        simp [-Int.natCast_add, isM, xappendM, rowsIn, e0, e1, e2, e3, e4, hi, hi', ltB_t, hz, TN.v_len, TN.v_take, TN.v_drop]
        refine (put_1 (hP.fr (hFb _ _)) hw0).mono ?_
        rintro _ h2 ⟨rfl, hP2, hC2⟩
        have ho2 := (hC2.obj h'.next (by simp [H.put_next, H.new_next]) hnep).trans (H.put_same _ _ _)
        simp [-Int.natCast_add, isM, xappendM, rowsIn, e0, e1, e2, e3, e4, ho2, TN.v_len, TN.v_take, TN.v_drop]
        refine (hn fu (by omega) p _ w0 L[k] _ w1 hP2 hw1).mono ?_
        rintro _ h3 ⟨rfl, hP3, hC3⟩
        simp [-Int.natCast_add, isM, xappendM, rowsIn, e0, e1, e2, e3, e4]
        refine ⟨m - 1, by omega, k + 1, fu, w1, by omega, by omega, by omega, ?_, hP3, ?_, ?_⟩
        · rw [show decide (k + 1 = 0) = false by simp]; exact hs
        · exact ((hC.trans ((hFb _ _).c' hp')).trans hC2).trans hC3
        · simp [-Int.natCast_add, isM, xappendM, rowsIn, e0, e1, e2, e3, e4, hw]
    · have hlf : ltB (k : Int) (L.length : Int) = false := ltB_f (by omega)
      rw [List.drop_of_length_le (by omega)] at hs
      have hr : w = l' := by
        revert hs
        cases decide (k = 0) <;> simp [prNodes]
      subst hr
      simp [-Int.natCast_add, isM, xappendM, rowsIn, e0, e1, e2, e3, e4, hlf]
      exact ⟨rfl, hP, hC⟩
structure Px (f : Nat) : Prop where
  node : CNo f
  nodes : CNs f
  two : CTwo f
  bin : CBin f
  bare : CBare f
theorem px_all : ∀ f m, m ≤ f → Px m
  | 0, m, hm => by
    obtain rfl : m = 0 := by omega
    exact { node := fun p h l T level l' hP hs => by unfold prNode at hs; cases hs
            nodes := fun p h l id sz L l' hP hz hs => by unfold prList at hs; cases hs
            two := fun p h l T t l' hP hs => by unfold prTwo at hs; cases hs
            bin := fun p h l T l' hP hs => by unfold prBin at hs; cases hs
            bare := fun p h l T l' hP hs => by unfold prBare at hs; cases hs }
  | f + 1, m, hm => by
    have ih := px_all f
    rcases Nat.lt_or_ge m (f + 1) with h1 | h1
    · exact ih m (by omega)
    · obtain rfl : m = f + 1 := by omega
      have i := ih f (Nat.le_refl f)
      exact { node := node_pstep f i.bare
              nodes := nodes_pstep f fun m hm => (ih m hm).node
              two := two_pstep f i.node
              bin := bin_pstep f i.node i.two
              bare := bare_pstep f i.node i.two i.bin i.nodes }
theorem px (f : Nat) : Px f := px_all f f (Nat.le_refl f)
end Go.Proofs.YtjofmihdeblbmaaGreatDoor.Xa
