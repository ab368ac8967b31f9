/- XA, joined: the printer's blocks; SameNode, SameFuns; Print of one function; ParseBlocks plain and walked. -/
import Derived.Test.YtjofmihdeblbmaaGreatDoorXaM43
import Derived.Test.YtjofmihdeblbmaaGreatDoorXaM45
/- XA: the printer's blocks and ifs (no other statement: what ParseBlocks needs). -/
namespace Go.Proofs.YtjofmihdeblbmaaGreatDoor.Xa
open Go Go.RowKit
set_option linter.unusedVariables false
set_option linter.unusedSimpArgs false
set_option maxRecDepth 100000
set_option maxHeartbeats 1000000
mutual
def prBlock : Nat → List ByteArray → Nd → Option (List ByteArray)
  | 0, _, _ => none
  | f + 1, w, n => match putL w [⟨#[123]⟩] with
    | some w0 => if n.kids.length ≤ 1000000 then match prStats f w0 n.kids with
        | some w1 => putL w1 [⟨#[125]⟩]
        | none => none
      else none
    | none => none
def prStats : Nat → List ByteArray → List Nd → Option (List ByteArray)
  | 0, _, _ => none
  | f + 1, w, [] => some w
  | f + 1, w, n :: l => match prStat f w n with
    | some w1 => prStats f w1 l
    | none => none
def prStat : Nat → List ByteArray → Nd → Option (List ByteArray)
  | 0, _, _ => none
  | f + 1, w, n => if n.kind == 3 then prIff f w n else none
def prIff : Nat → List ByteArray → Nd → Option (List ByteArray)
  | 0, _, _ => none
  | f + 1, w, n => match putL w [⟨#[105, 102]⟩] with
    | some w0 => match prNode f w0 (n.kid 0) 1 with
      | some w1 => match prBlock f w1 (n.kid 1) with
        | some w2 => if n.kids.length < 3 then some w2 else match putL w2 [⟨#[101, 108, 115, 101]⟩] with
          | some w3 => if (n.kid 2).kids.length == 1 && ((n.kid 2).kid 0).kind == 3 then prIff f w3 ((n.kid 2).kid 0) else prBlock f w3 (n.kid 2)
          | none => none
        | none => none
      | none => none
    | none => none
end
def CBl (f : Nat) : Prop := ∀ (p : Nat) (h : H) (l : List ByteArray) (T : TN) (l' : List ByteArray), Pr p h l → prBlock f l T.nd = some l' → XCalls e 52 [.ptr p 0, .agg T.v] h (PrQ p h l')
def CSs (f : Nat) : Prop := ∀ (p : Nat) (h : H) (l : List ByteArray) (T : TN) (l' : List ByteArray), Pr p h l → prStat f l T.nd = some l' → XCalls e 100 [.ptr p 0, .agg T.v] h (PrQ p h l')
def CIi (f : Nat) : Prop := ∀ (p : Nat) (h : H) (l : List ByteArray) (T : TN) (l' : List ByteArray), Pr p h l → prIff f l T.nd = some l' → XCalls e 149 [.ptr p 0, .agg T.v] h (PrQ p h l')
attribute [local simp] hid2 hid3 hid4 xcode_skip xcode_region xcode_draw xcode_loop xcode_seq xcode_cond xcode_block xcode_scope xcode_exit xcode_ret xops_nil xops_cons xd_nil xd_cons xstep_eq annot fillOf findFill findStore srcOf kcls cls qval qvalN xwant dstAt want1 xdo xop ev_const ev_global ev_func ev_zero ev_succ ev_undefs ev_hit ev_miss put_none put_len undefs_len xnil xfieldAddr fieldOf eT emtb seqQ blockQ xload xstore splice V.storable V.one V.cells mk xbinop xbin xun xbuiltin xindexAddr nilOr xindex xint cv cv1 retQ xres_tmp xres_cell xres_nil xresult xbuild xfill xbuildSlice xrows Nat.testBit places xfield item sideOk pendOk pendOf tyT1 tyT2 tyT3 tyT4 tyT5 tyT9 tyT22 tyT23 tyT24 tyT25 tyT26 tyT30 tyT34 tyT39 tyT41 tyT47 tyT48 tyT50 tyT53 tyT54 tyT56 tyT58 tyT63 tyT70 tyT76 tyT78 tyT80 tyT84 tyT87 tyT89 tyT96 tyT98 tyT100 tyT102 tyT108 tyT110 tyT112 tyT113 tyT115 tyT119 tyT121 tyT124 tyT138 tyT139 tyT141 tyT142 tyT143 tyT145 tyT147 tyT149 tyT155 tyT158 tyT164 tyT179 tyT186 tyT188 tyT189 tyT194 tyT197 tyT200 tyT216 tyT242 tyT245 H.put_get H.new_get H.row_obj H.grow_obj H.bump_obj H.newArr_obj H.putArr_obj H.moveArr_obj H.put_arr H.new_arr H.row_arr H.grow_arr H.bump_arr H.newArr_get H.putArr_get H.moveArr_get H.put_ext H.new_ext H.newArr_ext H.putArr_ext H.moveArr_ext H.bump_ext H.row_get H.grow_get H.new_next H.row_next H.bump_next H.put_next H.grow_next H.newArr_next H.putArr_next H.moveArr_next H.app_next H.app_obj H.app_arr H.app_get bne emT emM xapp_em xmakeSlice xslice xlookup xmapUpdate keyShape
theorem stat_pstep (f : Nat) (hi : CIi f) : CSs (f + 1) := by
  intro p h l T l' hP hs
  unfold prStat at hs
  rw [TN.nd_kind] at hs
  have hp := hP.lt
  have hv := TN.v_eq T
  cases g : (T.kind == 3)
  · simp only [g, Bool.false_eq_true, if_false] at hs
    cases hs
  simp only [g, if_true] at hs
  rw [hv]
  refine XCalls.of Tryz.func100 rfl (by kernel_rfl) ?_
  rw [Tryz.ntmps100]
  simp [-Int.natCast_add, isM, xappendM, rowsIn, g]
  rw [← hv]
  refine (hi p _ l T l' (hP.fr (Fr.new _ _)) hs).mono ?_
  rintro _ h2 ⟨rfl, hP2, hC2⟩
  simp [-Int.natCast_add, isM, xappendM, rowsIn]
  exact ⟨rfl, hP2, ((Fr.new _ _).c' hp).trans hC2⟩
def BkJ (f p q : Nat) (h : H) (T : TN) (w1 : List ByteArray) : Nat → List V → H → Prop := fun m fr' h' => ∃ (k fu : Nat) (w : List ByteArray), m + k = T.kl.length + 1 ∧ k ≤ T.kl.length ∧ fu ≤ f ∧ prStats fu w ((T.kl.drop k).map TN.nd) = some w1 ∧ Pr p h' w ∧ FrC p h h' ∧
  fr'.length = 23 ∧ ev fr' (.tmp 0) = .ptr p 0 ∧ ev fr' (.tmp 10) = .slc T.kid T.ksz (T.kl.map TN.v) ∧ ev fr' (.tmp 11) = .lit (.int .i64 (T.kl.length : Nat)) ∧ ev fr' (.tmp 12) = .lit (.int .i64 (k : Nat))
theorem block_pstep (f : Nat) (hst : ∀ m, m ≤ f → CSs m) : CBl (f + 1) := by
  intro p h l T l' hP hs
  unfold prBlock at hs
  split at hs
  case h_2 => cases hs
  rename_i w0 hw0
  split at hs
  case isFalse => cases hs
  rename_i hL
  split at hs
  case h_2 => cases hs
  rename_i w1 hw1
  rw [TN.nd_kids] at hL hw1
  rw [List.length_map] at hL
  have hp := hP.lt
  have hv := TN.v_eq T
  rw [hv]
  have hne : h.next ≠ p := by omega
  have hP1 : ∀ ob, Pr p (h.new ob) l := fun ob => hP.fr (Fr.new _ _)
  have hC1 : ∀ ob, FrC p h (h.new ob) := fun ob => (Fr.new _ _).c' hp
  refine XCalls.of Tryz.func52 rfl (by kernel_rfl) ?_
  rw [Tryz.ntmps52]
  simp [-Int.natCast_add, isM, xappendM, rowsIn]
  refine (put_1 (hP1 _) hw0).mono ?_
  rintro _ h2 ⟨rfl, hP2, hC2⟩
  have ho2 := (hC2.obj h.next (Nat.lt_succ_self _) hne).trans (H.new_self _ _)
  simp [-Int.natCast_add, isM, xappendM, rowsIn, ho2]
  refine XW.loopH (BkJ f p h.next h T w1) (T.kl.length + 1) ?_ ?_
  · refine ⟨0, f, w0, by omega, by omega, Nat.le_refl _, by simpa using hw1, hP2, (hC1 _).trans hC2, ?_⟩
    simp [-Int.natCast_add, isM, xappendM, rowsIn]
  clear hw1 hP2 hC2 ho2 hw0 hP1 hC1 hP h2
  rintro m fr' h' ⟨k, fu, w, hm, hk, hfu, hq, hP, hC, e0, e1, e2, e3, e4⟩
  have hp' := hP.lt
  cases fu with
  | zero => unfold prStats at hq; cases hq
  | succ fu =>
  rcases Nat.lt_or_ge k T.kl.length with hi | hi
  · have hi' : (k : Int) < (T.kl.length : Int) := by omega
    have z5 : T.ksz = 5 := T.ksz5 (by intro h0; rw [h0] at hi; cases hi)
    rw [z5] at e2
    have hw : IntKind.i64.wrap ((k : Int) + 1) = ((k + 1 : Nat) : Int) := by
      have : (k : Int) < 1000000 := by omega
      simp [IntKind.wrap, IntKind.bits, IntKind.signed]
      omega
    rw [List.drop_eq_getElem_cons hi, List.map_cons] at hq
    simp only [prStats] at hq
    split at hq
    case h_2 => cases hq
    rename_i w2 hw2
    have hFb : ∀ o o', Fr h' ((h'.new o).put h'.next o') := fun o o' => (Fr.new _ _).put (Nat.le_refl _) _
    simp [-Int.natCast_add, isM, xappendM, rowsIn, e0, e1, e2, e3, e4, hi, hi', ltB_t, TN.v_len, TN.v_take, TN.v_drop]
    refine (hst fu (by omega) p _ w T.kl[k] w2 (hP.fr (hFb _ _)) hw2).mono ?_
    rintro _ h2 ⟨rfl, hP2, hC2⟩
    simp [-Int.natCast_add, isM, xappendM, rowsIn, e0, e1, e2, e3, e4]
    refine ⟨m - 1, by omega, k + 1, fu, w2, by omega, by omega, by omega, hq, hP2, ?_, ?_⟩
    · exact (hC.trans ((hFb _ _).c' hp')).trans hC2
    · simp [-Int.natCast_add, isM, xappendM, rowsIn, e0, e1, e2, e3, e4, hw, z5]
  · have hlf : ltB (k : Int) (T.kl.length : Int) = false := ltB_f (by omega)
    rw [List.drop_of_length_le (by omega)] at hq
    simp only [List.map_nil, prStats] at hq
    obtain rfl := Option.some.inj hq
    simp [-Int.natCast_add, isM, xappendM, rowsIn, e0, e1, e2, e3, e4, hlf]
    refine (put_1 hP hs).mono ?_
    rintro _ h2 ⟨rfl, hP2, hC2⟩
    simp [-Int.natCast_add, isM, xappendM, rowsIn, e0, e1, e2, e3, e4]
    exact ⟨rfl, hP2, hC.trans hC2⟩
theorem kid_n_get (T : TN) (i : Nat) (hi : i < T.kl.length) : T.kid_n i = T.kl[i] := by
  unfold TN.kid_n
  rw [List.getElem?_eq_getElem hi]
  rfl
theorem iff_pstep (f : Nat) (hb : CBl f) (hi : CIi f) : CIi (f + 1) := by
  intro p h l T l' hP hs
  unfold prIff at hs
  split at hs
  case h_2 => cases hs
  rename_i w0 hw0
  split at hs
  case h_2 => cases hs
  rename_i w1 hw1
  split at hs
  case h_2 => cases hs
  rename_i w2 hw2
  have hp := hP.lt
  have hv := TN.v_eq T
  rw [hv]
  have hne : h.next ≠ p := by omega
  have hP1 : ∀ ob, Pr p (h.new ob) l := fun ob => hP.fr (Fr.new _ _)
  have hC1 : ∀ ob, FrC p h (h.new ob) := fun ob => (Fr.new _ _).c' hp
  refine XCalls.of Tryz.func149 rfl (by kernel_rfl) ?_
  rw [Tryz.ntmps149]
  simp [-Int.natCast_add, isM, xappendM, rowsIn]
  refine (put_1 (hP1 _) hw0).mono ?_
  rintro _ h2 ⟨rfl, hP2, hC2⟩
  have hn2 := hC2.next
  simp only [H.new_next] at hn2
  have ho2 := (hC2.obj h.next (Nat.lt_succ_self _) hne).trans (H.new_self _ _)
  simp [-Int.natCast_add, isM, xappendM, rowsIn, ho2]
  refine (at_calls2 _ T 0 (by decide)).mono ?_
  rintro _ h3 ⟨rfl, hF3⟩
  have hn3 := hF3.next
  have ho3 := (hF3.obj h.next (by omega)).trans ho2
  simp [-Int.natCast_add, isM, xappendM, rowsIn, ho3]
  refine ((px f).node p h3 w0 (T.kid_n 0) 1 w1 (hP2.fr hF3) (by rw [kid_nd]; exact hw1)).mono ?_
  rintro _ h4 ⟨rfl, hP4, hC4⟩
  have hn4 := hC4.next
  have ho4 := (hC4.obj h.next (by omega) hne).trans ho3
  simp [-Int.natCast_add, isM, xappendM, rowsIn, ho4]
  refine (at_calls2 _ T 1 (by decide)).mono ?_
  rintro _ h5 ⟨rfl, hF5⟩
  have hn5 := hF5.next
  have ho5 := (hF5.obj h.next (by omega)).trans ho4
  simp [-Int.natCast_add, isM, xappendM, rowsIn, ho5]
  refine (hb p h5 w1 (T.kid_n 1) w2 (hP4.fr hF5) (by rw [kid_nd]; exact hw2)).mono ?_
  rintro _ h6 ⟨rfl, hP6, hC6⟩
  have hn6 := hC6.next
  have ho6 := (hC6.obj h.next (by omega) hne).trans ho5
  have hC : FrC p h h6 := (((((hC1 _).trans hC2).trans (hF3.c' hP2.lt)).trans hC4).trans (hF5.c' hP4.lt)).trans hC6
  rw [TN.nd_kids, List.length_map] at hs
  by_cases h3 : T.kl.length < 3
  · rw [if_pos h3] at hs
    obtain rfl := Option.some.inj hs
    have h3' : ltB (T.kl.length : Int) 3 = true := ltB_t (by omega)
    simp [-Int.natCast_add, isM, xappendM, rowsIn, ho6, h3']
    exact ⟨rfl, hP6, hC⟩
  · rw [if_neg h3] at hs
    split at hs
    case h_2 => cases hs
    rename_i w3 hw3
    have h3' : ltB (T.kl.length : Int) 3 = false := ltB_f (by omega)
    have hz : T.ksz = 5 := T.ksz5 (by intro h0; rw [h0] at h3; exact h3 (by decide))
    have h2l : 2 < T.kl.length := by omega
    have h2i : (2 : Int) < (T.kl.length : Int) := by omega
    simp [-Int.natCast_add, isM, xappendM, rowsIn, ho6, h3']
    refine (put_1 hP6 hw3).mono ?_
    rintro _ h7 ⟨rfl, hP7, hC7⟩
    have hn7 := hC7.next
    have ho7 := (hC7.obj h.next (by omega) hne).trans ho6
    have hp7 := hP7.lt
    rw [hz] at ho7
    have hv2 := TN.v_eq T.kl[2]
    have hn7' : h.next ≠ h7.next := by omega
    have hk2 : T.nd.kid 2 = T.kl[2].nd := by rw [← kid_nd, kid_n_get T 2 h2l]
    rw [hk2, TN.nd_kids, List.length_map] at hs
    have hFb : ∀ o o', Fr h7 ((h7.new o).put h7.next o') := fun o o' => (Fr.new _ _).put (Nat.le_refl _) _
    cases hone : (T.kl[2].kl.length == 1)
    · simp only [hone, Bool.false_and, Bool.false_eq_true, if_false] at hs
      have hone' : (((T.kl[2].kl.length : Nat) : Int) == 1) = false := by simp at hone ⊢; omega
      simp [-Int.natCast_add, isM, xappendM, rowsIn, ho7, h2l, h2i, hv2, hn7', hone']
      rw [← hv2]
      refine (hb p _ w3 T.kl[2] l' (hP7.fr (hFb _ _)) hs).mono ?_
      rintro _ h8 ⟨rfl, hP8, hC8⟩
      simp [-Int.natCast_add, isM, xappendM, rowsIn]
      exact ⟨rfl, hP8, ((hC.trans hC7).trans ((hFb _ _).c' hp7)).trans hC8⟩
    · have h1l : 0 < T.kl[2].kl.length := by simp at hone; omega
      have hone' : (((T.kl[2].kl.length : Nat) : Int) == 1) = true := by simp at hone ⊢; omega
      have hk0 : T.kl[2].nd.kid 0 = T.kl[2].kl[0].nd := by rw [← kid_nd, kid_n_get T.kl[2] 0 h1l]
      have hz2 : T.kl[2].ksz = 5 := TN.ksz5 _ (by intro h0; rw [h0] at h1l; cases h1l)
      have hv0 := TN.v_eq T.kl[2].kl[0]
      rw [hz2] at hv2
      rw [hk0] at hs
      simp only [hone, Bool.true_and, TN.nd_kind] at hs
      cases hk3 : (T.kl[2].kl[0].kind == 3)
      · simp only [hk3, Bool.false_eq_true, if_false] at hs
        simp [-Int.natCast_add, isM, xappendM, rowsIn, ho7, h2l, h2i, hv2, hn7', hone', hz2, h1l, hv0, hk3]
        rw [← hv2]
        refine (hb p _ w3 T.kl[2] l' (hP7.fr (hFb _ _)) hs).mono ?_
        rintro _ h8 ⟨rfl, hP8, hC8⟩
        simp [-Int.natCast_add, isM, xappendM, rowsIn]
        exact ⟨rfl, hP8, ((hC.trans hC7).trans ((hFb _ _).c' hp7)).trans hC8⟩
      · simp only [hk3, if_true] at hs
        simp [-Int.natCast_add, isM, xappendM, rowsIn, ho7, h2l, h2i, hv2, hn7', hone', hz2, h1l, hv0, hk3]
        rw [← hv0]
        refine (hi p _ w3 T.kl[2].kl[0] l' (hP7.fr (hFb _ _)) hs).mono ?_
        rintro _ h8 ⟨rfl, hP8, hC8⟩
        simp [-Int.natCast_add, isM, xappendM, rowsIn]
        exact ⟨rfl, hP8, ((hC.trans hC7).trans ((hFb _ _).c' hp7)).trans hC8⟩
structure Sx (f : Nat) : Prop where
  block : CBl f
  stat : CSs f
  iff_ : CIi f
theorem sx_all : ∀ f m, m ≤ f → Sx m
  | 0, m, hm => by
    obtain rfl : m = 0 := by omega
    exact { block := fun p h l T l' hP hs => by unfold prBlock at hs; cases hs
            stat := fun p h l T l' hP hs => by unfold prStat at hs; cases hs
            iff_ := fun p h l T l' hP hs => by unfold prIff at hs; cases hs }
  | f + 1, m, hm => by
    have ih := sx_all f
    rcases Nat.lt_or_ge m (f + 1) with h1 | h1
    · exact ih m (by omega)
    · obtain rfl : m = f + 1 := by omega
      have i := ih f (Nat.le_refl f)
      exact { block := block_pstep f fun m hm => (ih m hm).stat
              stat := stat_pstep f i.iff_
              iff_ := iff_pstep f i.block i.iff_ }
theorem sx (f : Nat) : Sx f := sx_all f f (Nat.le_refl f)
end Go.Proofs.YtjofmihdeblbmaaGreatDoor.Xa
/- XA: the reference's SameNode and SameFuns, slices.Equal and EqualFunc, parse.Print: of one function without parameters. -/
namespace Go.Proofs.YtjofmihdeblbmaaGreatDoor.Xa
open Go Go.RowKit
set_option linter.unusedVariables false
set_option linter.unusedSimpArgs false
set_option maxRecDepth 100000
set_option maxHeartbeats 2000000
def CSn (f : Nat) : Prop := ∀ (h : H) (A B : TN), smN f A.nd B.nd = true → XCalls e 23 [.agg A.v, .agg B.v] h (fun v h' => v = .lit (.bool true) ∧ Fr h h')
abbrev ndO (A : TN) : Obj := .cells [.lit (.int .i64 A.kind), .lit (.int .i64 A.op), .lit (.string A.str), .lit (.int .i64 A.num), .slc A.kid A.ksz (A.kl.map TN.v)] 41
def SnJ (f : Nat) (h : H) (A B : TN) (q1 q2 : Nat) : Nat → List V → H → Prop := fun m fr' h' => ∃ (k fu : Nat), m + k = A.kl.length + 1 ∧ k ≤ A.kl.length ∧ fu ≤ f ∧ smL fu ((A.kl.drop k).map TN.nd) ((B.kl.drop k).map TN.nd) = true ∧ Fr h h' ∧ q1 < h'.next ∧ q2 < h'.next ∧ h'.obj q1 = some (ndO A) ∧ h'.obj q2 = some (ndO B) ∧
  fr'.length = 60 ∧ ev fr' (.tmp 2) = .ptr q1 0 ∧ ev fr' (.tmp 3) = .ptr q2 0 ∧ ev fr' (.tmp 5) = .lit (.int .i64 (k : Nat))
attribute [local simp] hid2 hid3 hid4 xcode_skip xcode_region xcode_draw xcode_loop xcode_seq xcode_cond xcode_block xcode_scope xcode_exit xcode_ret xops_nil xops_cons xd_nil xd_cons xstep_eq annot fillOf findFill findStore srcOf kcls cls qval qvalN xwant dstAt want1 xdo xop ev_const ev_global ev_func ev_zero ev_succ ev_undefs ev_hit ev_miss put_none put_len undefs_len xnil xfieldAddr fieldOf eT emtb seqQ blockQ xload xstore splice V.storable V.one V.cells mk xbinop xbin xun xbuiltin xindexAddr nilOr xindex xint cv cv1 retQ xres_tmp xres_cell xres_nil xresult xbuild xfill xbuildSlice xrows Nat.testBit places xfield item sideOk pendOk pendOf tyT1 tyT2 tyT3 tyT4 tyT5 tyT9 tyT22 tyT23 tyT24 tyT25 tyT26 tyT30 tyT34 tyT39 tyT41 tyT47 tyT48 tyT50 tyT53 tyT54 tyT56 tyT58 tyT63 tyT70 tyT76 tyT78 tyT80 tyT84 tyT87 tyT89 tyT96 tyT98 tyT100 tyT102 tyT108 tyT110 tyT112 tyT113 tyT115 tyT119 tyT121 tyT124 tyT138 tyT139 tyT141 tyT142 tyT143 tyT145 tyT147 tyT149 tyT155 tyT158 tyT164 tyT179 tyT186 tyT188 tyT189 tyT194 tyT197 tyT200 tyT216 tyT242 tyT245 H.put_get H.new_get H.row_obj H.grow_obj H.bump_obj H.newArr_obj H.putArr_obj H.moveArr_obj H.put_arr H.new_arr H.row_arr H.grow_arr H.bump_arr H.newArr_get H.putArr_get H.moveArr_get H.put_ext H.new_ext H.newArr_ext H.putArr_ext H.moveArr_ext H.bump_ext H.row_get H.grow_get H.new_next H.row_next H.bump_next H.put_next H.grow_next H.newArr_next H.putArr_next H.moveArr_next H.app_next H.app_obj H.app_arr H.app_get bne emT emM xapp_em xmakeSlice xslice xlookup xmapUpdate keyShape
theorem sn_step (f : Nat) (hg : ∀ m, m ≤ f → CSn m) : CSn (f + 1) := by
  intro h A B hs
  unfold smN at hs
  rw [TN.nd_kind, TN.nd_kind, TN.nd_op, TN.nd_op, TN.nd_str, TN.nd_str, TN.nd_num, TN.nd_num, TN.nd_kids, TN.nd_kids, List.length_map, List.length_map] at hs
  simp only [Bool.and_eq_true, decide_eq_true_eq] at hs
  obtain ⟨s1, s2, s3, s4, s5, s6, s7⟩ := hs
  unfold eqB at s3
  have s5' : A.kl.length = B.kl.length := by simpa using s5
  rw [TN.v_eq A, TN.v_eq B]
  refine XCalls.of Tryz.func23 rfl (by kernel_rfl) ?_
  rw [Tryz.ntmps23]
  simp [-Int.natCast_add, isM, xappendM, rowsIn, s1, s2, bytes_list, s3, s4, s5']
  refine XW.loopH (SnJ f h A B h.next (h.next + 1)) (A.kl.length + 1) ?_ ?_
  · refine ⟨0, f, by omega, by omega, Nat.le_refl _, by simpa using s7, (Fr.new _ _).new1 _, by simp only [H.new_next]; omega, by simp only [H.new_next]; omega, ?_, ?_, ?_⟩
    · simp [H.new_get, H.new_next]
    · simp [H.new_get, H.new_next]
    · simp [-Int.natCast_add, isM, xappendM, rowsIn]
  clear s7
  rintro m fr' h' ⟨k, fu, hm, hk, hfu, hs, hF, l1, l2, o1, o2, e0, e1, e2, e3⟩
  cases fu with
  | zero => unfold smL at hs; cases hs
  | succ fu =>
  rcases Nat.lt_or_ge k A.kl.length with hi | hi
  · have hi' : (k : Int) < (A.kl.length : Int) := by omega
    have hj : k < B.kl.length := by omega
    have hj' : (k : Int) < (B.kl.length : Int) := by omega
    have z1 := A.ksz5 (by intro h0; rw [h0] at hi; cases hi)
    have z2 := B.ksz5 (by intro h0; rw [h0] at hj; cases hj)
    have hw : IntKind.i64.wrap ((k : Int) + 1) = ((k + 1 : Nat) : Int) := by
      have : (k : Int) < 1000000 := by omega
      simp [IntKind.wrap, IntKind.bits, IntKind.signed]
      omega
    rw [List.drop_eq_getElem_cons hi, List.drop_eq_getElem_cons hj, List.map_cons, List.map_cons] at hs
    simp only [smL, Bool.and_eq_true] at hs
    have o1' := o1
    have o2' := o2
    unfold ndO at o1 o2
    rw [z1] at o1
    rw [z2] at o2
    simp [-Int.natCast_add, isM, xappendM, rowsIn, e0, e1, e2, e3, o1, o2, hi, hi', hj, hj', ltB_t, TN.v_len, TN.v_take, TN.v_drop]
    refine XW.drawB mixed (L := List.range 12) (B := [0, 1, 0, 7, 15, 0, 32, 0, 224, 480, 1023, 2047]) (by kernel_rfl) (by kernel_rfl) ?_
    simp only [List.range, List.range.loop, List.map_cons, List.map_nil, item]
    simp only [annot, fillOf, findFill, findStore, srcOf, List.getD_cons_succ, List.getD_cons_zero]
    simp [-Int.natCast_add, isM, xappendM, rowsIn, e0, e1, e2, e3, o1, o2, hi, hi', hj, hj', TN.v_len, TN.v_take, TN.v_drop]
    refine (hg fu (by omega) _ A.kl[k] B.kl[k] hs.1).mono ?_
    rintro _ h3 ⟨rfl, hF3⟩
    have p1 := (hF3.obj _ l1).trans o1
    have p2 := (hF3.obj _ l2).trans o2
    have hn3 := hF3.next
    simp [-Int.natCast_add, isM, xappendM, rowsIn, e0, e1, e2, e3, p1, p2, hi, hi', hj, hj', TN.v_len, TN.v_take, TN.v_drop]
    refine ⟨m - 1, by omega, k + 1, fu, by omega, by omega, by omega, hs.2, hF.trans hF3, by omega, by omega, (hF3.obj _ l1).trans o1', (hF3.obj _ l2).trans o2', ?_⟩
    simp [-Int.natCast_add, isM, xappendM, rowsIn, e0, e1, e2, e3, hw]
  · have hlf : ltB (k : Int) (A.kl.length : Int) = false := ltB_f (by omega)
    unfold ndO at o1 o2
    simp [-Int.natCast_add, isM, xappendM, rowsIn, e0, e1, e2, e3, o1, o2, hlf]
    exact hF
theorem sn_all : ∀ f m, m ≤ f → CSn m
  | 0, m, hm => by
    obtain rfl : m = 0 := by omega
    intro h A B hs
    unfold smN at hs
    cases hs
  | f + 1, m, hm => by
    rcases Nat.lt_or_ge m (f + 1) with h1 | h1
    · exact sn_all f m (by omega)
    · obtain rfl : m = f + 1 := by omega
      exact sn_step f (sn_all f)
/-! of one function without parameters -/
theorem FnT.v0 (t : FnT) (h : t.params = []) : t.v = [.lit (.string t.name), .slc t.pid t.psz [], .lit (.int .i64 t.body.kind), .lit (.int .i64 t.body.op), .lit (.string t.body.str), .lit (.int .i64 t.body.num), .slc t.body.kid t.body.ksz (t.body.kl.map TN.v)] := by
  unfold FnT.v
  rw [h, TN.v_eq t.body]
  rfl
theorem eqs_calls (h : H) (i1 s1 i2 s2 : Nat) : XCalls e 54 [.slc i1 s1 [], .slc i2 s2 []] h (fun v h' => v = .lit (.bool true) ∧ h' = h) := by
  refine XCalls.of Tryz.func54 rfl (by kernel_rfl) ?_
  rw [Tryz.ntmps54]
  simp [-Int.natCast_add, isM, xappendM, rowsIn]
  refine XW.loopH (fun m fr' h' => h' = h ∧ fr'.length = 26 ∧ ev fr' (.tmp 12) = .lit (.int .i64 0) ∧ ev fr' (.tmp 13) = .lit (.int .i64 0)) 1 ?_ ?_
  · simp [-Int.natCast_add, isM, xappendM, rowsIn]
  · rintro m fr' h' ⟨rfl, e0, e1, e2⟩
    simp [-Int.natCast_add, isM, xappendM, rowsIn, e0, e1, e2, show ltB 0 0 = false from rfl]
theorem alike_calls (f : Nat) (h : H) (s t : FnT) (hs : s.params = []) (ht : t.params = []) (hn : eqB s.name t.name = true) (hb : smN f s.body.nd t.body.nd = true) : XCalls e 53 [.agg s.v, .agg t.v] h (fun v h' => v = .lit (.bool true) ∧ Fr h h') := by
  rw [FnT.v0 s hs, FnT.v0 t ht]
  unfold eqB at hn
  refine XCalls.of Tryz.func53 rfl (by kernel_rfl) ?_
  rw [Tryz.ntmps53]
  simp [-Int.natCast_add, isM, xappendM, rowsIn, bytes_list, hn]
  refine (eqs_calls _ _ _ _ _).mono ?_
  rintro _ h' ⟨rfl, eh⟩
  rw [eh]
  clear eh h'
  simp [-Int.natCast_add, isM, xappendM, rowsIn, bytes_list, hn]
  rw [← TN.v_eq, ← TN.v_eq]
  refine (same_calls f _ s.body t.body hb).mono ?_
  rintro _ h3 ⟨rfl, hF3⟩
  simp [-Int.natCast_add, isM, xappendM, rowsIn]
  exact ((Fr.new _ _).new1 _).trans hF3
theorem eqf_calls (f : Nat) (h : H) (i1 i2 : Nat) (s t : FnT) (hs : s.params = []) (ht : t.params = []) (hn : eqB s.name t.name = true) (hb : smN f s.body.nd t.body.nd = true) :
    XCalls e 55 [.slc i1 7 [s.v], .slc i2 7 [t.v], .fn 53 []] h (fun v h' => v = .lit (.bool true) ∧ Fr h h') := by
  refine XCalls.of Tryz.func55 rfl (by kernel_rfl) ?_
  rw [Tryz.ntmps55]
  simp [-Int.natCast_add, isM, xappendM, rowsIn]
  refine XW.loopH (fun m fr' h' => ∃ k : Nat, m + k = 2 ∧ k ≤ 1 ∧ Fr h h' ∧ fr'.length = 32 ∧ ev fr' (.tmp 1) = .slc i2 7 [t.v] ∧ ev fr' (.tmp 2) = .fn 53 [] ∧ ev fr' (.tmp 15) = .slc i1 7 [s.v] ∧ ev fr' (.tmp 16) = .lit (.int .i64 1) ∧ ev fr' (.tmp 17) = .lit (.int .i64 (k : Nat))) 2 ?_ ?_
  · refine ⟨0, by omega, by omega, Fr.refl _, ?_⟩
    simp [-Int.natCast_add, isM, xappendM, rowsIn]
  · rintro m fr' h' ⟨k, hm, hk, hF, e0, e1, e2, e3, e4, e5⟩
    have hnx := hF.next
    by_cases h0 : k = 0
    · subst h0
      simp only [Int.natCast_zero] at e5
      have hFb : ∀ o1 o2 o3 o4, Fr h ((((h'.new o1).put h'.next o2).new o3).put (h'.next + 1) o4) := fun o1 o2 o3 o4 => ((((hF.new1 _).put hnx _).new1 _).put (by omega) _)
      simp [-Int.natCast_add, isM, xappendM, rowsIn, e0, e1, e2, e3, e4, e5, show ltB 0 1 = true from rfl, FnT.v_len, FnT.v_take, FnT.v_drop]
      refine (alike_calls f _ s t hs ht hn hb).mono ?_
      rintro _ h3 ⟨rfl, hF3⟩
      simp [-Int.natCast_add, isM, xappendM, rowsIn, e0, e1, e2, e3, e4, e5]
      refine ⟨m - 1, by omega, 1, by omega, by omega, (hFb _ _ _ _).trans hF3, ?_⟩
      simp [-Int.natCast_add, isM, xappendM, rowsIn, e0, e1, e2, e3, e4, e5, show IntKind.i64.wrap 1 = 1 from rfl]
    · obtain rfl : k = 1 := by omega
      have e5' : ev fr' (.tmp 17) = .lit (.int .i64 1) := e5
      simp [-Int.natCast_add, isM, xappendM, rowsIn, e0, e1, e2, e3, e4, e5', show ltB 1 1 = false from rfl]
      exact hF
theorem sameFuns_calls (f : Nat) (h : H) (i1 i2 : Nat) (s t : FnT) (hs : s.params = []) (ht : t.params = []) (hn : eqB s.name t.name = true) (hb : smN f s.body.nd t.body.nd = true) :
    XCalls e 31 [.slc i1 7 [s.v], .slc i2 7 [t.v]] h (fun v h' => v = .lit (.bool true) ∧ Fr h h') := by
  unfold eqB at hn
  refine XCalls.of Tryz.func31 rfl (by kernel_rfl) ?_
  rw [Tryz.ntmps31]
  simp [-Int.natCast_add, isM, xappendM, rowsIn]
  refine XW.loopH (fun m fr' h' => ∃ k : Nat, m + k = 2 ∧ k ≤ 1 ∧ Fr h h' ∧ fr'.length = 85 ∧ ev fr' (.tmp 0) = .slc i1 7 [s.v] ∧ ev fr' (.tmp 1) = .slc i2 7 [t.v] ∧ ev fr' (.tmp 5) = .lit (.int .i64 (k : Nat))) 2 ?_ ?_
  · refine ⟨0, by omega, by omega, Fr.refl _, ?_⟩
    simp [-Int.natCast_add, isM, xappendM, rowsIn]
  · rintro m fr' h' ⟨k, hm, hk, hF, e0, e1, e2, e3⟩
    by_cases h0 : k = 0
    · subst h0
      simp only [Int.natCast_zero] at e3
      have hv1 := FnT.v0 s hs
      have hv2 := FnT.v0 t ht
      rw [hv1] at e1
      rw [hv2] at e2
      simp [-Int.natCast_add, isM, xappendM, rowsIn, e0, e1, e2, e3, show ltB 0 1 = true from rfl]
      refine XW.drawB mixed (L := List.range 40) (B := [0, 0, 3, 7, 15, 0, 0, 96, 224, 480, 1023, 2047, 4095, 4095, 16383, 32767, 65535, 131071, 4095, 4095, 790527, 1839103, 3936255, 8130559, 16777215, 33554431, 67108863, 134217727, 134217727, 536870911, 1073741823, 2147483647, 134217727, 134217727, 13019119615, 30198988799, 64558727167, 137438953471, 274877906943, 549755813887]) (by kernel_rfl) (by kernel_rfl) ?_
      simp only [List.range, List.range.loop, List.map_cons, List.map_nil, item]
      simp only [annot, fillOf, findFill, findStore, srcOf, List.getD_cons_succ, List.getD_cons_zero]
      simp [-Int.natCast_add, isM, xappendM, rowsIn, e0, e1, e2, e3, bytes_list, hn]
      rw [← TN.v_eq, ← TN.v_eq]
      refine (sn_all f f (Nat.le_refl f) _ s.body t.body hb).mono ?_
      rintro _ h3 ⟨rfl, hF3⟩
      simp [-Int.natCast_add, isM, xappendM, rowsIn, e0, e1, e2, e3, bytes_list, hn]
      refine XW.loopH (fun m' fr2 h2 => h2 = h3 ∧ fr2.length = 85 ∧ ev fr2 (.tmp 0) = .slc i1 7 [s.v] ∧ ev fr2 (.tmp 1) = .slc i2 7 [t.v] ∧ ev fr2 (.tmp 5) = .lit (.int .i64 0) ∧ ev fr2 (.tmp 6) = .lit (.int .i64 0)) 1 ?_ ?_
      · rw [hv1, hv2]
        simp [-Int.natCast_add, isM, xappendM, rowsIn, e0, e1, e2, e3]
      · rintro m2 fr2 h2 ⟨rfl, c0, c1, c2, c3, c4⟩
        rw [hv1] at c1
        simp [-Int.natCast_add, isM, xappendM, rowsIn, c0, c1, c2, c3, c4, show ltB 0 0 = false from rfl]
        refine ⟨m - 1, by omega, 1, by omega, by omega, hF.trans hF3, ?_⟩
        rw [hv1]
        simp [-Int.natCast_add, isM, xappendM, rowsIn, c0, c1, c2, c3, c4, show IntKind.i64.wrap 1 = 1 from rfl]
    · obtain rfl : k = 1 := by omega
      have e3' : ev fr' (.tmp 5) = .lit (.int .i64 1) := e3
      simp [-Int.natCast_add, isM, xappendM, rowsIn, e0, e1, e2, e3', show ltB 1 1 = false from rfl]
      exact hF
end Go.Proofs.YtjofmihdeblbmaaGreatDoor.Xa
/- XA: parse.Print of one function without parameters. -/
namespace Go.Proofs.YtjofmihdeblbmaaGreatDoor.Xa
open Go Go.RowKit
set_option linter.unusedVariables false
set_option linter.unusedSimpArgs false
set_option maxRecDepth 100000
set_option maxHeartbeats 2000000
theorem put_3 {p : Nat} {h : H} {l l' : List ByteArray} {y z u : ByteArray} (hP : Pr p h l) (hs : putL l [y, z, u] = some l') :
    XCalls e 51 [.ptr p 0, .slc h.next 1 [[.lit (.string y)], [.lit (.string z)], [.lit (.string u)]]] (h.row 3) (PrQ p h l') := by
  have hp := hP.lt
  refine (put_r (hP.fr (Fr.row h 3)) hs (by simp) (id2 := h.next) (by omega)).mono ?_
  rintro v h' ⟨a, b, c⟩
  exact ⟨a, b, ((Fr.row h 3).c' hp).trans c⟩
/-- the words of a function without parameters -/
def prFn (f : Nat) (nm : ByteArray) (b : Nd) : Option (List ByteArray) := match putL [] [⟨#[102, 110]⟩, nm, ⟨#[40]⟩] with
  | some w0 => match putL w0 [⟨#[41]⟩] with
    | some w1 => prBlock f w1 b
    | none => none
  | none => none
def PtJ (h h0 : H) (id p q : Nat) (t : FnT) (ws : List ByteArray) : Nat → List V → H → Prop := fun m fr' h' => ∃ k : Nat, m + k = 2 ∧ ((k = 0 ∧ h' = h0) ∨ (k = 1 ∧ Pr p h' ws ∧ Fr h h')) ∧ fr'.length = 69 ∧ ev fr' (.tmp 0) = .slc id 7 [t.v] ∧ ev fr' (.tmp 4) = .ptr q 0 ∧ ev fr' (.tmp 5) = .ptr p 0 ∧ ev fr' (.tmp 15) = .slc id 7 [t.v] ∧ ev fr' (.tmp 16) = .lit (.int .i64 1) ∧ ev fr' (.tmp 17) = .lit (.int .i64 (k : Nat))
attribute [local simp] hid2 hid3 hid4 xcode_skip xcode_region xcode_draw xcode_loop xcode_seq xcode_cond xcode_block xcode_scope xcode_exit xcode_ret xops_nil xops_cons xd_nil xd_cons xstep_eq annot fillOf findFill findStore srcOf kcls cls qval qvalN xwant dstAt want1 xdo xop ev_const ev_global ev_func ev_zero ev_succ ev_undefs ev_hit ev_miss put_none put_len undefs_len xnil xfieldAddr fieldOf eT emtb seqQ blockQ xload xstore splice V.storable V.one V.cells mk xbinop xbin xun xbuiltin xindexAddr nilOr xindex xint cv cv1 retQ xres_tmp xres_cell xres_nil xresult xbuild xfill xbuildSlice xrows Nat.testBit places xfield item sideOk pendOk pendOf tyT1 tyT2 tyT3 tyT4 tyT5 tyT9 tyT22 tyT23 tyT24 tyT25 tyT26 tyT30 tyT34 tyT39 tyT41 tyT47 tyT48 tyT50 tyT53 tyT54 tyT56 tyT58 tyT63 tyT70 tyT76 tyT78 tyT80 tyT84 tyT87 tyT89 tyT96 tyT98 tyT100 tyT102 tyT108 tyT110 tyT112 tyT113 tyT115 tyT119 tyT121 tyT124 tyT138 tyT139 tyT141 tyT142 tyT143 tyT145 tyT147 tyT149 tyT155 tyT158 tyT164 tyT179 tyT186 tyT188 tyT189 tyT194 tyT197 tyT200 tyT216 tyT242 tyT245 H.put_get H.new_get H.row_obj H.grow_obj H.bump_obj H.newArr_obj H.putArr_obj H.moveArr_obj H.put_arr H.new_arr H.row_arr H.grow_arr H.bump_arr H.newArr_get H.putArr_get H.moveArr_get H.put_ext H.new_ext H.newArr_ext H.putArr_ext H.moveArr_ext H.bump_ext H.row_get H.grow_get H.new_next H.row_next H.bump_next H.put_next H.grow_next H.newArr_next H.putArr_next H.moveArr_next H.app_next H.app_obj H.app_arr H.app_get bne emT emM xapp_em xmakeSlice xslice xlookup xmapUpdate keyShape
theorem print_calls (f : Nat) (hf : f ≤ 1000000) (h : H) (id : Nat) (t : FnT) (hpar : t.params = []) (left at_ : Int) (ws : List ByteArray) (F : FnN)
    (hg : grN f [t.body.nd] 0 4000 = some (false, left)) (hw : prFn f t.name t.body.nd = some ws) (h2 : 2 ≤ ws.length) (hl : ws.length ≤ 1000000) (hsz : (joinB ws).size ≤ 1000000)
    (he : progT f (joinB ws) = some ([F], at_, 0)) (hF0 : F.params = []) (hFn : eqB t.name F.name = true) (hFb : smN f t.body.nd F.body = true) :
    XCalls e 29 [.slc id 7 [t.v]] h (fun v h' => v = .tup [.lit (.string (joinB ws)), .lit (.bool true)] ∧ Fr h h') := by
  unfold prFn at hw
  split at hw
  case h_2 => cases hw
  rename_i w0 hw0
  split at hw
  case h_2 => cases hw
  rename_i w1 hw1
  have hv := FnT.v0 t hpar
  have hb := TN.v_eq t.body
  refine XCalls.of Tryz.func29 rfl (by kernel_rfl) ?_
  rw [Tryz.ntmps29]
  simp [-Int.natCast_add, isM, xappendM, rowsIn]
  generalize hh0 : ((h.new (.cells [.lit (.int .i64 0)] 3)).put h.next (.cells [.lit (.int .i64 4000)] 3)).new (.cells [.slc 0 0 []] 80) = h0
  have q1 : h.next < h0.next := by rw [← hh0]; simp [H.new_next, H.put_next]; omega
  have q2 : h0.obj h.next = some (.cells [.lit (.int .i64 4000)] 3) := by rw [← hh0]; simp [H.new_get, H.put_get, H.put_next, H.new_next]
  have q3 : h0.obj (h.next + 1) = some (.cells [.slc 0 0 []] 80) := by rw [← hh0]; simp [H.new_get, H.put_next, H.new_next]
  have q4 : h0.next = h.next + 2 := by rw [← hh0]; rfl
  have q5 : Fr h h0 := by rw [← hh0]; exact (((Fr.new _ _).put (Nat.le_refl _) _).new1 _)
  refine XW.loopH (PtJ h h0 id (h.next + 1) h.next t ws) 2 ?_ ?_
  · refine ⟨0, by omega, .inl ⟨rfl, rfl⟩, ?_⟩
    simp [-Int.natCast_add, isM, xappendM, rowsIn]
  rintro m fr' h' ⟨k, hm, hk, e0, e1, e2, e3, e4, e5, e6⟩
  rcases hk with ⟨rfl, rfl⟩ | ⟨rfl, hP, hFr⟩
  · simp only [Int.natCast_zero] at e6
    have hne : h'.next ≠ h.next := by omega
    have hne' : h'.next ≠ h.next + 1 := by omega
    rw [hv] at e4
    simp [-Int.natCast_add, isM, xappendM, rowsIn, e0, e1, e2, e3, e4, e5, e6, show ltB 0 1 = true from rfl]
    generalize hB : (((h'.new (.cells [.lit (.string ⟨#[]⟩), .slc 0 0 [], .lit (.int .i64 0), .lit (.int .i64 0), .lit (.string ⟨#[]⟩), .lit (.int .i64 0), .slc 0 0 []] 70)).put h'.next (.cells [.lit (.string t.name), .slc t.pid t.psz [], .lit (.int .i64 t.body.kind), .lit (.int .i64 t.body.op), .lit (.string t.body.str), .lit (.int .i64 t.body.num), .slc t.body.kid t.body.ksz (t.body.kl.map TN.v)] 70)).row 1) = B
    have b1 : B.next = h'.next + 2 := by rw [← hB]; rfl
    have b2 : B.obj h'.next = some (.cells [.lit (.string t.name), .slc t.pid t.psz [], .lit (.int .i64 t.body.kind), .lit (.int .i64 t.body.op), .lit (.string t.body.str), .lit (.int .i64 t.body.num), .slc t.body.kid t.body.ksz (t.body.kl.map TN.v)] 70) := by rw [← hB, H.row_obj, H.put_same]
    have b3 : Fr h' B := by rw [← hB]; exact (((Fr.new _ _).put (Nat.le_refl _) _).row1 _)
    have b4 := (b3.obj h.next (by omega)).trans q2
    have b5 := (b3.obj (h.next + 1) (by omega)).trans q3
    rw [← hb]
    refine (gr_all f f (Nat.le_refl f) h.next B (h'.next + 1) 5 [t.body] 0 4000 (false, left) (by omega) b4 (fun _ => rfl) hg).mono ?_
    rintro _ h2 ⟨rfl, _, hC2⟩
    have hn2 := hC2.next
    have c1 := (hC2.obj h'.next (by omega) hne).trans b2
    have c2 := (hC2.obj (h.next + 1) (by omega) (by omega)).trans b5
    have hP2 : Pr (h.next + 1) h2 [] := ⟨0, 0, c2, by omega, Own.nil _ _ _⟩
    simp [-Int.natCast_add, isM, xappendM, rowsIn, e0, e1, e2, e3, e4, e5, e6, c1]
    refine (put_3 hP2 hw0).mono ?_
    rintro _ h3 ⟨rfl, hP3, hC3⟩
    have hn3 := hC3.next
    have c3 := (hC3.obj h'.next (by omega) hne').trans c1
    simp [-Int.natCast_add, isM, xappendM, rowsIn, e0, e1, e2, e3, e4, e5, e6, c3, show ltB 0 0 = false from rfl]
    refine (put_1 hP3 hw1).mono ?_
    rintro _ h4 ⟨rfl, hP4, hC4⟩
    have hn4 := hC4.next
    have c4 := (hC4.obj h'.next (by omega) hne').trans c3
    simp [-Int.natCast_add, isM, xappendM, rowsIn, e0, e1, e2, e3, e4, e5, e6, c4]
    rw [← hb]
    refine ((sx f).block (h.next + 1) h4 w1 t.body ws hP4 hw).mono ?_
    rintro _ h5 ⟨rfl, hP5, hC5⟩
    simp [-Int.natCast_add, isM, xappendM, rowsIn, e0, e1, e2, e3, e4, e5, e6]
    refine ⟨m - 1, by omega, 1, by omega, .inr ⟨rfl, hP5, ?_⟩, ?_⟩
    · exact ((hC3.trans hC4).trans hC5).fr (hC2.fr (q5.trans b3) (Nat.le_refl _)) (by omega)
    · rw [← hv] at e4
      simp [-Int.natCast_add, isM, xappendM, rowsIn, e0, e1, e2, e3, e4, e5, e6, show IntKind.i64.wrap 1 = 1 from rfl]
  · have e6' : ev fr' (.tmp 17) = .lit (.int .i64 1) := e6
    obtain ⟨id3, sz3, hP⟩ := hP
    have hw3 := hP.obj
    simp [-Int.natCast_add, isM, xappendM, rowsIn, e0, e1, e2, e3, e4, e5, e6', show ltB 1 1 = false from rfl, hw3]
    refine (join_calls h' id3 sz3 ws h2 hl hsz).mono ?_
    rintro _ h3 ⟨rfl, eh⟩
    rw [eh]
    clear eh h3
    simp [-Int.natCast_add, isM, xappendM, rowsIn, e0, e1, e2, e3, e4, e5, e6']
    refine (progT_calls f hf _ _ _ he).mono ?_
    rintro _ h4 ⟨hF4, id4, sz4, ts, rfl, t1, t2, t3⟩
    simp only at t1
    obtain ⟨u, rfl, rfl⟩ : ∃ u, ts = [u] ∧ u.fn = F := by
      match ts, t1 with
      | [], t1 => cases t1
      | [u], t1 => exact ⟨u, rfl, by simpa using t1⟩
      | _ :: _ :: _, t1 => simp at t1
    have z7 := t3 (by simp)
    subst z7
    simp [-Int.natCast_add, isM, xappendM, rowsIn, e0, e1, e2, e3, e4, e5, e6']
    refine (eqf_calls f _ id id4 t u hpar hF0 hFn hFb).mono ?_
    rintro _ h5 ⟨rfl, hF5⟩
    simp [-Int.natCast_add, isM, xappendM, rowsIn, e0, e1, e2, e3, e4, e5, e6']
    exact (hFr.trans hF4).trans hF5
end Go.Proofs.YtjofmihdeblbmaaGreatDoor.Xa
/- XA: plain: texts with wider gaps; ParseBlocks' 120 texts, evaluated. -/
namespace Go.Proofs.YtjofmihdeblbmaaGreatDoor.Xa
open Go Go.RowKit
set_option linter.unusedVariables false
set_option linter.unusedSimpArgs false
set_option maxRecDepth 100000
set_option maxHeartbeats 8000000
def flatG (ws : List (List UInt8 × Nat)) : List UInt8 := ws.flatMap (fun w => w.1 ++ 32 :: List.replicate w.2 32)
theorem flatG_cons (w : List UInt8 × Nat) (ws : List (List UInt8 × Nat)) : flatG (w :: ws) = w.1 ++ 32 :: (List.replicate w.2 32 ++ flatG ws) := by simp [flatG]
def toksG : Nat → List (List UInt8 × Nat) → List UInt8 → List Tok
  | p, [], last => [⟨wKind last, wText last, wNum last, (p : Nat)⟩]
  | p, w :: ws, last => ⟨wKind w.1, wText w.1, wNum w.1, (p : Nat)⟩ :: toksG (p + w.1.length + 1 + w.2) ws last
theorem skip_rep (l : List UInt8) : ∀ g, skipB false (List.replicate g 32 ++ l) = g + skipB false l
  | 0 => by simp
  | g + 1 => by
    rw [List.replicate_succ, List.cons_append, skip_32, skip_rep l g]
    omega
theorem tokL_gap (s : ByteArray) (hs : s.size ≤ 4000) (last : List UInt8) (hlast : goodW last = true) : ∀ (ws : List (List UInt8 × Nat)) (pre : List UInt8) (f : Nat) (acc : List Tok),
    s.data.toList = pre ++ (flatG ws ++ last) → (∀ w ∈ ws, goodW w.1 = true) → ws.length + 1 < f →
    tokL s f pre.length acc = some (acc ++ toksG pre.length ws last, 0, 0)
  | [], pre, f + 1, acc, hd, hg, hf => by
    have := tokL_words s hs last hlast [] pre (f + 1) acc (by rw [hd]; simp [flatG, flatW]) (by simp) hf
    rw [this]
    simp [toksAt, toksG]
  | w :: ws, pre, f + 1, acc, hd, hg, hf => by
    have hgw := hg w List.mem_cons_self
    have hp := good_pos hgw
    rw [flatG_cons] at hd
    have hz : s.size = pre.length + w.1.length + 1 + w.2 + ((flatG ws).length + last.length) := by rw [size_data, hd]; simp; omega
    have hde : (s.extract pre.length s.size).data.toList = w.1 ++ 32 :: (List.replicate w.2 32 ++ (flatG ws ++ last)) := by rw [extract_list, hd]; simp
    rw [tokL, if_pos (by omega), tokF_word w.1 (32 :: (List.replicate w.2 32 ++ (flatG ws ++ last))) (s.extract pre.length s.size) hde (.inr ⟨_, rfl⟩) hgw (by rw [size_data, hde]; simp; omega)]
    simp only
    have h1 : ((w.1.length : Int) == 0) = false := by simp; intro h; rw [h] at hp; exact absurd hp (by decide)
    rw [h1]
    simp only [Bool.false_eq_true, if_false, Int.toNat_natCast]
    have h2 : leB 0 (w.1.length : Int) = true := by unfold leB; simp
    rw [h2, if_pos (by simp; omega)]
    have h3 : s.data.toList.drop (pre.length + w.1.length) = 32 :: (List.replicate w.2 32 ++ (flatG ws ++ last)) := by
      rw [hd, ← List.length_append, show (pre ++ (w.1 ++ 32 :: (List.replicate w.2 32 ++ flatG ws) ++ last)) = (pre ++ w.1) ++ (32 :: (List.replicate w.2 32 ++ (flatG ws ++ last))) by simp, List.drop_left]
    have h4 : skipB false (flatG ws ++ last) = 0 := by
      cases ws with
      | nil => simpa [flatG] using good_head hlast []
      | cons v vs => rw [flatG_cons, List.append_assoc]; exact good_head (hg v (by simp)) _
    rw [h3, skip_32, skip_rep, h4]
    have ih := tokL_gap s hs last hlast ws (pre ++ w.1 ++ [32] ++ List.replicate w.2 32) f (acc ++ [⟨wKind w.1, wText w.1, wNum w.1, (pre.length : Nat)⟩]) (by rw [hd]; simp) (fun v hv => hg v (List.mem_cons_of_mem _ hv)) (by simp at hf; omega)
    have hl : (pre ++ w.1 ++ [32] ++ List.replicate w.2 32).length = pre.length + w.1.length + 1 + w.2 := by simp; omega
    rw [hl] at ih
    rw [show pre.length + w.1.length + (1 + (w.2 + 0)) = pre.length + w.1.length + 1 + w.2 by omega, ih]
    simp [toksG]
theorem len_flatG : ∀ ws : List (List UInt8 × Nat), ws.length ≤ (flatG ws).length
  | [] => Nat.le_refl _
  | w :: ws => by
    have := len_flatG ws
    rw [flatG_cons]
    simp
    omega
theorem tokens_gap (s : ByteArray) (hs : s.size ≤ 4000) (ws : List (List UInt8 × Nat)) (last : List UInt8) (hg : ∀ w ∈ ws, goodW w.1 = true) (hlast : goodW last = true) (hd : s.data.toList = flatG ws ++ last) :
    tokensR s = some (toksG 0 ws last, 0, 0) := by
  have h4 : skipB false s.data.toList = 0 := by
    rw [hd]
    cases ws with
    | nil => simpa [flatG] using good_head hlast []
    | cons v vs => rw [flatG_cons, List.append_assoc]; exact good_head (hg v (by simp)) _
  unfold tokensR
  rw [if_neg (by omega), h4]
  have hl := len_flatG ws
  have hz : s.size = (flatG ws).length + last.length := by rw [size_data, hd]; simp
  have hp := good_pos hlast
  have := tokL_gap s hs last hlast ws [] 4001 [] (by rw [hd]; rfl) hg (by omega)
  simpa using this
theorem toksG_len : ∀ (ws : List (List UInt8 × Nat)) (p : Nat) (last : List UInt8), (toksG p ws last).length = ws.length + 1
  | [], _, _ => rfl
  | w :: ws, p, last => by simp [toksG, toksG_len ws]
def progK (f : Nat) (toks : List Tok) (n : Nat) : Option (List FnN × Int × Int) := match pProgL f f ⟨0, 0, toks, (n : Nat)⟩ ⟨0, 0, 0, 0⟩ false [] with
  | none => none
  | some r => some (progR r)
theorem progT_of (f : Nat) (b : ByteArray) (toks : List Tok) (r : List FnN × Int × Int) (ht : tokensR b = some (toks, 0, 0)) (hl : toks.length ≤ 1000000) (hk : progK f toks b.size = some r) : progT f b = some r := by
  unfold progT
  rw [ht]
  simp only
  rw [if_pos hl]
  exact hk
def pbO (c : Bool) : List UInt8 := if c then [105, 102, 32, 49, 32, 123, 32, 125, 32, 101, 108, 115, 101, 32] else [105, 102, 32, 49, 32, 123, 32]
def pbE (c : Bool) : List UInt8 := if c then [] else [32, 125]
def pbM (c : Bool) : List UInt8 := if c then [105, 102, 32, 50, 32, 123, 32, 125] else []
def pbText (n : Nat) (c : Bool) : List UInt8 := [102, 110, 32, 109, 97, 105, 110, 32, 40, 32, 41, 32, 123, 32] ++ (rp n (pbO c) ++ (pbM c ++ (rp n (pbE c) ++ [32, 125])))
def pbHead : List (List UInt8) := [[102, 110], [109, 97, 105, 110], [40], [41], [123]]
def pbWs (n : Nat) (c : Bool) : List (List UInt8 × Nat) :=
  if c then (pbHead ++ (rp n [[105, 102], [49], [123], [125], [101, 108, 115, 101]] ++ [[105, 102], [50], [123], [125]])).map (fun w => (w, 0))
  else ((pbHead ++ rp n [[105, 102], [49], [123]]).dropLast.map (fun w => (w, 0))) ++ ([123], 1) :: List.replicate n ([125], 0)
def pbF2 (F : FnN) (ws : List ByteArray) : Bool :=
  let wl := ws.map (·.data.toList)
  decide (2 ≤ ws.length) && (decide (ws.length ≤ 1000000) && (decide ((joinB ws).size ≤ 4000) && (((joinB ws).data.toList == flatW wl.dropLast ++ [125]) && (wl.dropLast.all goodW &&
    chk (progK 100000 (toksAt 0 (wl.dropLast ++ [[125]])) (joinB ws).size) (fun r => r.2.2 == 0 && match r.1 with | [G] => G.params.isEmpty && (eqB F.name G.name && (smN 100000 F.body G.body && (eqB G.name F.name && smN 100000 G.body F.body))) | _ => false)))))
def pbF1 (r : List FnN × Int × Int) : Bool := r.2.2 == 0 && match r.1 with
  | [F] => F.params.isEmpty && (chk (grN 100000 [F.body] 0 4000) (fun g => !g.1) && chk (prFn 100000 F.name F.body) (pbF2 F))
  | _ => false
def pbOk (n : Nat) (c : Bool) : Bool :=
  (pbText n c == flatG (pbWs n c) ++ [125]) && ((pbWs n c).all (fun w => goodW w.1) && (decide ((pbText n c).length ≤ 4000) &&
  chk (progK 100000 (toksG 0 (pbWs n c) [125]) (pbText n c).length) (fun r => if !c && decide (23 < n) then r.2.2 == 21 && r.1.isEmpty else pbF1 r)))
def pbR (lo k : Nat) : Bool := (List.range k).all fun i => pbOk (lo + i) true && pbOk (lo + i) false
theorem pbR_of {lo k n : Nat} (h : pbR lo k = true) (h1 : lo ≤ n) (h2 : n < lo + k) (c : Bool) : pbOk n c = true := by
  have := List.all_eq_true.1 h (n - lo) (by simp; omega)
  simp only [Bool.and_eq_true] at this
  rw [show lo + (n - lo) = n by omega] at this
  cases c
  · exact this.2
  · exact this.1
end Go.Proofs.YtjofmihdeblbmaaGreatDoor.Xa
/- XA: ParseBlocks walked. -/
namespace Go.Proofs.YtjofmihdeblbmaaGreatDoor.Xa
open Go Go.RowKit
set_option linter.unusedVariables false
set_option linter.unusedSimpArgs false
set_option maxRecDepth 100000
set_option maxHeartbeats 2000000
structure PbOut (r : List FnN × Int × Int) (F : FnN) (a left : Int) (ws : List ByteArray) (G : FnN) (a2 : Int) : Prop where
  r : r = ([F], a, 0)
  par : F.params = []
  gr : grN 100000 [F.body] 0 4000 = some (false, left)
  pr : prFn 100000 F.name F.body = some ws
  l2 : 2 ≤ ws.length
  l6 : ws.length ≤ 1000000
  sz : (joinB ws).size ≤ 4000
  src : progT 100000 (joinB ws) = some ([G], a2, 0)
  par2 : G.params = []
  n1 : eqB F.name G.name = true
  b1 : smN 100000 F.body G.body = true
  n2 : eqB G.name F.name = true
  b2 : smN 100000 G.body F.body = true
theorem pbF1_out {r : List FnN × Int × Int} (h : pbF1 r = true) : ∃ F a left ws G a2, PbOut r F a left ws G a2 := by
  obtain ⟨l, a, ee⟩ := r
  unfold pbF1 at h
  simp only [Bool.and_eq_true, beq_iff_eq] at h
  obtain ⟨rfl, h⟩ := h
  split at h
  case h_2 => cases h
  rename_i F
  simp only [Bool.and_eq_true] at h
  obtain ⟨h1, h2, h3⟩ := h
  obtain ⟨⟨g, left⟩, hg, hg1⟩ := opt_of h2
  obtain ⟨ws, hw, hw1⟩ := opt_of h3
  unfold pbF2 at hw1
  simp only [Bool.and_eq_true, decide_eq_true_eq, beq_iff_eq] at hw1
  obtain ⟨w1, w2, w3, w4, w5, w6⟩ := hw1
  obtain ⟨⟨l2, a2, e2⟩, hk, hk1⟩ := opt_of w6
  simp only [Bool.and_eq_true, beq_iff_eq] at hk1
  obtain ⟨rfl, hk2⟩ := hk1
  split at hk2
  case h_2 => cases hk2
  rename_i G
  simp only [Bool.and_eq_true] at hk2
  obtain ⟨k1, k2, k3, k4, k5⟩ := hk2
  have hg0 : g = false := by simpa using hg1
  subst hg0
  have ht := tokens_words (joinB ws) w3 _ [125] (fun w hw => by simpa using List.all_eq_true.1 w5 w hw) (by decide +kernel) w4
  have hlen := len_flat ((ws.map (·.data.toList)).dropLast)
  have hz : (flatW ((ws.map (·.data.toList)).dropLast)).length ≤ (joinB ws).size := by rw [size_data, w4]; simp
  refine ⟨F, a, left, ws, G, a2, ⟨rfl, by simpa using h1, hg, hw, w1, w2, w3, progT_of 100000 _ _ _ ht (by rw [toksAt_len]; simp only [List.length_append, List.length_cons, List.length_nil]; omega) hk, by simpa using k1, k2, k3, k4, k5⟩⟩
theorem pb_src (n : Nat) (c : Bool) (h : pbOk n c = true) (b : ByteArray) (hb : b.data.toList = pbText n c) :
    ∃ r, progT 100000 b = some r ∧ ((!c && decide (23 < n)) = true → r.2.2 = 21 ∧ r.1 = []) ∧ ((!c && decide (23 < n)) = false → pbF1 r = true) := by
  unfold pbOk at h
  simp only [Bool.and_eq_true, beq_iff_eq, decide_eq_true_eq] at h
  obtain ⟨h1, h2, h3, h4⟩ := h
  obtain ⟨r, hr, hq⟩ := opt_of h4
  have hsz : b.size = (pbText n c).length := by rw [size_data, hb]
  have ht := tokens_gap b (by omega) (pbWs n c) [125] (fun w hw => by simpa using List.all_eq_true.1 h2 w hw) (by decide +kernel) (by rw [hb, h1])
  have hlen := len_flatG (pbWs n c)
  have hz : (flatG (pbWs n c)).length ≤ (pbText n c).length := by rw [h1]; simp
  refine ⟨r, progT_of 100000 b _ _ ht (by rw [toksG_len]; omega) (by rw [hsz]; exact hr), fun hc => ?_, fun hc => ?_⟩
  · simp only [Bool.and_eq_true, decide_eq_true_eq] at hc
    rw [if_pos hc] at hq
    simp only [Bool.and_eq_true, beq_iff_eq, List.isEmpty_iff] at hq
    exact hq
  · have hc' : ¬ ((!c) = true ∧ 23 < n) := by
      intro hcc
      simp [hcc.1, hcc.2] at hc
    rw [if_neg hc'] at hq
    exact hq
def PbJ (n : Nat) (c : Bool) (h : H) : Nat → List V → H → Prop := fun m fr' h' => ∃ (i : Nat) (s t : ByteArray), m + i = n + 1 ∧ i ≤ n ∧ Fr h h' ∧ s.data.toList = rp i (pbO c) ∧ t.data.toList = rp i (pbE c) ∧ s.size ≤ 14 * i ∧ t.size ≤ 2 * i ∧ fr'.length = 93 ∧ ev fr' (.tmp 0) = .lit (.int .i64 (n : Nat)) ∧ ev fr' (.tmp 1) = .lit (.bool c) ∧
  ev fr' (.tmp 5) = .lit (.string s) ∧ ev fr' (.tmp 6) = .lit (.string t) ∧ ev fr' (.tmp 7) = .lit (.int .i64 (i : Nat))
attribute [local simp] hid2 hid3 hid4 xcode_skip xcode_region xcode_draw xcode_loop xcode_seq xcode_cond xcode_block xcode_scope xcode_exit xcode_ret xops_nil xops_cons xd_nil xd_cons xstep_eq annot fillOf findFill findStore srcOf kcls cls qval qvalN xwant dstAt want1 xdo xop ev_const ev_global ev_func ev_zero ev_succ ev_undefs ev_hit ev_miss put_none put_len undefs_len xnil xfieldAddr fieldOf eT emtb seqQ blockQ xload xstore splice V.storable V.one V.cells mk xbinop xbin xun xbuiltin xindexAddr nilOr xindex xint cv cv1 retQ xres_tmp xres_cell xres_nil xresult xbuild xfill xbuildSlice xrows Nat.testBit places xfield item sideOk pendOk pendOf tyT1 tyT2 tyT3 tyT4 tyT5 tyT9 tyT22 tyT23 tyT24 tyT25 tyT26 tyT30 tyT34 tyT39 tyT41 tyT47 tyT48 tyT50 tyT53 tyT54 tyT56 tyT58 tyT63 tyT70 tyT76 tyT78 tyT80 tyT84 tyT87 tyT89 tyT96 tyT98 tyT100 tyT102 tyT108 tyT110 tyT112 tyT113 tyT115 tyT119 tyT121 tyT124 tyT138 tyT139 tyT141 tyT142 tyT143 tyT145 tyT147 tyT149 tyT155 tyT158 tyT164 tyT179 tyT186 tyT188 tyT189 tyT194 tyT197 tyT200 tyT216 tyT242 tyT245 H.put_get H.new_get H.row_obj H.grow_obj H.bump_obj H.newArr_obj H.putArr_obj H.moveArr_obj H.put_arr H.new_arr H.row_arr H.grow_arr H.bump_arr H.newArr_get H.putArr_get H.moveArr_get H.put_ext H.new_ext H.newArr_ext H.putArr_ext H.moveArr_ext H.bump_ext H.row_get H.grow_get H.new_next H.row_next H.bump_next H.put_next H.grow_next H.newArr_next H.putArr_next H.moveArr_next H.app_next H.app_obj H.app_arr H.app_get bne emT emM xapp_em xmakeSlice xslice xlookup xmapUpdate keyShape
theorem pblocks_walk (hall : ∀ n, n < 60 → ∀ c, pbOk n c = true) (h : H) (hp : 0 < h.next) (a : Int) (c : Bool) : XCalls e 12 [.lit (.int .i64 a), .lit (.bool c)] h (fun v h' => v = .lit (.bool true) ∧ Fr h h') := by
  obtain ⟨n, hn0, en⟩ := and_mod a 60 (by decide)
  have hn : n < 60 := by omega
  refine XCalls.of Tryz.func12 rfl (by kernel_rfl) ?_
  rw [Tryz.ntmps12]
  simp [-Int.natCast_add, isM, xappendM, rowsIn, en]
  refine XW.loopH (PbJ n c h) (n + 1) ?_ ?_
  · refine ⟨0, ⟨#[]⟩, ⟨#[]⟩, by omega, by omega, Fr.refl _, rfl, rfl, by decide, by decide, ?_⟩
    simp [-Int.natCast_add, isM, xappendM, rowsIn]
  rintro m fr' h' ⟨i, s, t, hm, hi, hF, hs, ht, hz1, hz2, e0, e1, e2, e3, e4, e5⟩
  have hnx := hF.next
  have b1 := big1 (n := s.size) (by omega)
  have b2 := big1 (n := t.size) (by omega)
  by_cases hlt : i < n
  · have hlt' : (i : Int) < (n : Int) := by omega
    have hw9 : IntKind.i64.wrap ((i : Int) + 1) = ((i + 1 : Nat) : Int) := wrapS (a := i) (b := 1) (by omega)
    cases c
    · simp [-Int.natCast_add, isM, xappendM, rowsIn, e0, e1, e2, e3, e4, e5, hlt, hlt', ltB_t, bsz, b1, b2]
      refine ⟨m - 1, by omega, i + 1, s ++ ⟨#[105, 102, 32, 49, 32, 123, 32]⟩, t ++ ⟨#[32, 125]⟩, by omega, by omega, hF, ?_, ?_, ?_, ?_, ?_⟩
      · rw [rp_succ, ← hs]; simp [pbO]
      · rw [rp_succ, ← ht]; simp [pbE]
      · simp [bsz]; omega
      · simp [bsz]; omega
      · simp [-Int.natCast_add, isM, xappendM, rowsIn, e0, e1, e2, e3, e4, e5, hw9]
    · simp [-Int.natCast_add, isM, xappendM, rowsIn, e0, e1, e2, e3, e4, e5, hlt, hlt', ltB_t, bsz, b1, b2]
      refine ⟨m - 1, by omega, i + 1, s ++ ⟨#[105, 102, 32, 49, 32, 123, 32, 125, 32, 101, 108, 115, 101, 32]⟩, t, by omega, by omega, hF, ?_, ?_, ?_, by omega, ?_⟩
      · rw [rp_succ, ← hs]; simp [pbO]
      · rw [rp_succ, ← ht]; simp [pbE]
      · simp [bsz]; omega
      · simp [-Int.natCast_add, isM, xappendM, rowsIn, e0, e1, e2, e3, e4, e5, hw9]
  · have hin : i = n := by omega
    rw [hin] at hs ht
    have hlf : ltB (i : Int) (n : Int) = false := ltB_f (by omega)
    cases c
    · have b5 : (9223372036854775807 < ((14 + s.size : Nat) : Int)) = False := by simp; omega
      have b6 : (9223372036854775807 < ((14 + s.size + t.size : Nat) : Int)) = False := by simp; omega
      have b7 : (9223372036854775807 < ((14 + s.size + t.size + 2 : Nat) : Int)) = False := by simp; omega
      simp [-Int.natCast_add, isM, xappendM, rowsIn, e0, e1, e2, e3, e4, e5, hlf, bsz, b5, b6, b7]
      have hd : ((⟨#[102, 110, 32, 109, 97, 105, 110, 32, 40, 32, 41, 32, 123, 32]⟩ : ByteArray) ++ s ++ t ++ ⟨#[32, 125]⟩).data.toList = pbText n false := by
        simp [pbText, hs, ht, pbM]
      obtain ⟨r, hr, r1, r2⟩ := pb_src n false (hall n hn false) _ hd
      by_cases h23 : 23 < n
      · have hc : (!false && decide (23 < n)) = true := by simpa using h23
        have h23' : ltB 23 (n : Int) = true := ltB_t (by omega)
        obtain ⟨x1, x2⟩ := r1 hc
        refine (progT_calls 100000 (by decide) _ _ _ hr).mono ?_
        rintro _ h1 ⟨hF1, id, sz, ts, rfl, t1, t2, t3⟩
        rw [x2] at t1
        have hts : ts = [] := by simpa using t1
        subst hts
        simp [-Int.natCast_add, isM, xappendM, rowsIn, e0, e1, e2, e3, e4, e5, h23', x1]
        refine (awake5_calls _).mono ?_
        rintro _ h2 ⟨rfl, hF2⟩
        simp [-Int.natCast_add, isM, xappendM, rowsIn, e0, e1, e2, e3, e4, e5]
        exact (hF.trans hF1).trans hF2
      · have hc : (!false && decide (23 < n)) = false := by simpa using h23
        have h23' : ltB 23 (n : Int) = false := ltB_f (by omega)
        obtain ⟨F, a1, left, ws, G, a2, po⟩ := pbF1_out (r2 hc)
        obtain ⟨l0, x0, y0⟩ := r
        have hr0 := po.r
        simp only [Prod.mk.injEq] at hr0
        obtain ⟨rfl, rfl, rfl⟩ := hr0
        refine (progT_calls 100000 (by decide) _ _ _ hr).mono ?_
        rintro _ h1 ⟨hF1, id, sz, ts, rfl, t1, t2, t3⟩
        simp only at t1
        obtain ⟨u, rfl, hu⟩ : ∃ u, ts = [u] ∧ u.fn = F := by
          match ts, t1 with
          | [], t1 => cases t1
          | [u], t1 => exact ⟨u, rfl, by simpa using t1⟩
          | _ :: _ :: _, t1 => simp at t1
        subst hu
        have z7 := t3 (by simp)
        subst z7
        simp [-Int.natCast_add, isM, xappendM, rowsIn, e0, e1, e2, e3, e4, e5, h23']
        refine (print_calls 100000 (by decide) _ id u po.par left a2 ws G po.gr po.pr po.l2 po.l6 (by have := po.sz; omega) po.src po.par2 po.n1 po.b1).mono ?_
        rintro _ h2 ⟨rfl, hF2⟩
        simp [-Int.natCast_add, isM, xappendM, rowsIn, e0, e1, e2, e3, e4, e5, h23']
        refine (progT_calls 100000 (by decide) _ _ _ po.src).mono ?_
        rintro _ h3 ⟨hF3, id3, sz3, ts3, rfl, u1, u2, u3⟩
        simp only at u1
        obtain ⟨v, rfl, hvn⟩ : ∃ v, ts3 = [v] ∧ v.fn = G := by
          match ts3, u1 with
          | [], u1 => cases u1
          | [v], u1 => exact ⟨v, rfl, by simpa using u1⟩
          | _ :: _ :: _, u1 => simp at u1
        subst hvn
        have y7 := u3 (by simp)
        subst y7
        simp [-Int.natCast_add, isM, xappendM, rowsIn, e0, e1, e2, e3, e4, e5, h23']
        refine (sameFuns_calls 100000 _ id3 id v u po.par2 po.par po.n2 po.b2).mono ?_
        rintro _ h4 ⟨rfl, hF4⟩
        simp [-Int.natCast_add, isM, xappendM, rowsIn, e0, e1, e2, e3, e4, e5, h23']
        refine (awake5_calls _).mono ?_
        rintro _ h5 ⟨rfl, hF5⟩
        simp [-Int.natCast_add, isM, xappendM, rowsIn, e0, e1, e2, e3, e4, e5, h23']
        exact ((((hF.trans hF1).trans hF2).trans hF3).trans hF4).trans hF5
    · have b5 := b1 8 (by omega)
      have b6 : (9223372036854775807 < ((14 + (s.size + 8) : Nat) : Int)) = False := by simp; omega
      have b7 : (9223372036854775807 < ((14 + (s.size + 8) + t.size : Nat) : Int)) = False := by simp; omega
      have b8 : (9223372036854775807 < ((14 + (s.size + 8) + t.size + 2 : Nat) : Int)) = False := by simp; omega
      have hd : ((⟨#[102, 110, 32, 109, 97, 105, 110, 32, 40, 32, 41, 32, 123, 32]⟩ : ByteArray) ++ (s ++ ⟨#[105, 102, 32, 50, 32, 123, 32, 125]⟩) ++ t ++ ⟨#[32, 125]⟩).data.toList = pbText n true := by
        simp [pbText, hs, ht, pbM]
      obtain ⟨r, hr, r1, r2⟩ := pb_src n true (hall n hn true) _ hd
      have hc : (!true && decide (23 < n)) = false := rfl
      simp [-Int.natCast_add, isM, xappendM, rowsIn, e0, e1, e2, e3, e4, e5, hlf, bsz, b5, b6, b7, b8]
      obtain ⟨F, a1, left, ws, G, a2, po⟩ := pbF1_out (r2 hc)
      obtain ⟨l0, x0, y0⟩ := r
      have hr0 := po.r
      simp only [Prod.mk.injEq] at hr0
      obtain ⟨rfl, rfl, rfl⟩ := hr0
      refine (progT_calls 100000 (by decide) _ _ _ hr).mono ?_
      rintro _ h1 ⟨hF1, id, sz, ts, rfl, t1, t2, t3⟩
      simp only at t1
      obtain ⟨u, rfl, hu⟩ : ∃ u, ts = [u] ∧ u.fn = F := by
        match ts, t1 with
        | [], t1 => cases t1
        | [u], t1 => exact ⟨u, rfl, by simpa using t1⟩
        | _ :: _ :: _, t1 => simp at t1
      subst hu
      have z7 := t3 (by simp)
      subst z7
      simp [-Int.natCast_add, isM, xappendM, rowsIn, e0, e1, e2, e3, e4, e5]
      refine (print_calls 100000 (by decide) _ id u po.par left a2 ws G po.gr po.pr po.l2 po.l6 (by have := po.sz; omega) po.src po.par2 po.n1 po.b1).mono ?_
      rintro _ h2 ⟨rfl, hF2⟩
      simp [-Int.natCast_add, isM, xappendM, rowsIn, e0, e1, e2, e3, e4, e5]
      refine (progT_calls 100000 (by decide) _ _ _ po.src).mono ?_
      rintro _ h3 ⟨hF3, id3, sz3, ts3, rfl, u1, u2, u3⟩
      simp only at u1
      obtain ⟨v, rfl, hvn⟩ : ∃ v, ts3 = [v] ∧ v.fn = G := by
        match ts3, u1 with
        | [], u1 => cases u1
        | [v], u1 => exact ⟨v, rfl, by simpa using u1⟩
        | _ :: _ :: _, u1 => simp at u1
      subst hvn
      have y7 := u3 (by simp)
      subst y7
      simp [-Int.natCast_add, isM, xappendM, rowsIn, e0, e1, e2, e3, e4, e5]
      refine (sameFuns_calls 100000 _ id3 id v u po.par2 po.par po.n2 po.b2).mono ?_
      rintro _ h4 ⟨rfl, hF4⟩
      simp [-Int.natCast_add, isM, xappendM, rowsIn, e0, e1, e2, e3, e4, e5]
      refine (awake5_calls _).mono ?_
      rintro _ h5 ⟨rfl, hF5⟩
      simp [-Int.natCast_add, isM, xappendM, rowsIn, e0, e1, e2, e3, e4, e5]
      exact ((((hF.trans hF1).trans hF2).trans hF3).trans hF4).trans hF5
end Go.Proofs.YtjofmihdeblbmaaGreatDoor.Xa
