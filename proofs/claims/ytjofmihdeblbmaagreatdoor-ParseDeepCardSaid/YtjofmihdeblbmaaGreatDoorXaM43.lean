/- XA, joined: great, same; Join over the abstract heap, Expr as a plain function, Show. -/
import Derived.Test.YtjofmihdeblbmaaGreatDoorXaM41
import Derived.Test.YtjofmihdeblbmaaGreatDoorJoin
/- XA: great, same. -/
namespace Go.Proofs.YtjofmihdeblbmaaGreatDoor.Xa
open Go Go.RowKit
set_option linter.unusedVariables false
set_option linter.unusedSimpArgs false
set_option maxRecDepth 100000
set_option maxHeartbeats 1000000
mutual
def grN : Nat → List Nd → Int → Int → Option (Bool × Int)
  | 0, _, _, _ => none
  | f + 1, l, deep, left => if ltB 4000 deep then some (true, left) else if l.length ≤ 1000000 then grL f l deep left else none
def grL : Nat → List Nd → Int → Int → Option (Bool × Int)
  | 0, _, _, _ => none
  | f + 1, [], deep, left => some (false, left)
  | f + 1, n :: l, deep, left => if ltB (IntKind.i64.wrap (left - 1)) 0 then some (true, IntKind.i64.wrap (left - 1)) else match grN f n.kids (IntKind.i64.wrap (deep + 1)) (IntKind.i64.wrap (left - 1)) with
    | some (true, x) => some (true, x)
    | some (false, x) => grL f l deep x
    | none => none
end
def CGr (f : Nat) : Prop := ∀ (q : Nat) (h : H) (id sz : Nat) (L : List TN) (deep left : Int) (r : Bool × Int), q < h.next → h.obj q = some (.cells [.lit (.int .i64 left)] 3) → (L ≠ [] → sz = 5) → grN f (L.map TN.nd) deep left = some r →
  XCalls e 34 [.slc id sz (L.map TN.v), .lit (.int .i64 deep), .ptr q 0] h (fun v h' => v = .lit (.bool r.1) ∧ h'.obj q = some (.cells [.lit (.int .i64 r.2)] 3) ∧ FrC q h h')
def GrJ (f q : Nat) (h : H) (id sz : Nat) (L : List TN) (deep : Int) (r : Bool × Int) : Nat → List V → H → Prop := fun m fr' h' => ∃ (k fu : Nat) (left : Int), m + k = L.length + 1 ∧ k ≤ L.length ∧ fu ≤ f ∧ grL fu ((L.drop k).map TN.nd) deep left = some r ∧ q < h'.next ∧ h'.obj q = some (.cells [.lit (.int .i64 left)] 3) ∧ FrC q h h' ∧
  fr'.length = 35 ∧ ev fr' (.tmp 1) = .lit (.int .i64 deep) ∧ ev fr' (.tmp 2) = .ptr q 0 ∧ ev fr' (.tmp 11) = .slc id sz (L.map TN.v) ∧ ev fr' (.tmp 12) = .lit (.int .i64 (L.length : Nat)) ∧ ev fr' (.tmp 13) = .lit (.int .i64 (k : Nat))
attribute [local simp] hid2 hid3 hid4 xcode_skip xcode_region xcode_draw xcode_loop xcode_seq xcode_cond xcode_block xcode_scope xcode_exit xcode_ret xops_nil xops_cons xd_nil xd_cons xstep_eq annot fillOf findFill findStore srcOf kcls cls qval qvalN xwant dstAt want1 xdo xop ev_const ev_global ev_func ev_zero ev_succ ev_undefs ev_hit ev_miss put_none put_len undefs_len xnil xfieldAddr fieldOf eT emtb seqQ blockQ xload xstore splice V.storable V.one V.cells mk xbinop xbin xun xbuiltin xindexAddr nilOr xindex xint cv cv1 retQ xres_tmp xres_cell xres_nil xresult xbuild xfill xbuildSlice xrows Nat.testBit places xfield item sideOk pendOk pendOf tyT1 tyT2 tyT3 tyT4 tyT5 tyT9 tyT22 tyT23 tyT24 tyT25 tyT26 tyT30 tyT34 tyT39 tyT41 tyT47 tyT48 tyT50 tyT53 tyT54 tyT56 tyT58 tyT63 tyT70 tyT76 tyT78 tyT80 tyT84 tyT87 tyT89 tyT96 tyT98 tyT100 tyT102 tyT108 tyT110 tyT112 tyT113 tyT115 tyT119 tyT121 tyT124 tyT138 tyT139 tyT141 tyT142 tyT143 tyT145 tyT147 tyT149 tyT155 tyT158 tyT164 tyT179 tyT186 tyT188 tyT189 tyT194 tyT197 tyT200 tyT216 tyT242 tyT245 H.put_get H.new_get H.row_obj H.grow_obj H.bump_obj H.newArr_obj H.putArr_obj H.moveArr_obj H.put_arr H.new_arr H.row_arr H.grow_arr H.bump_arr H.newArr_get H.putArr_get H.moveArr_get H.put_ext H.new_ext H.newArr_ext H.putArr_ext H.moveArr_ext H.bump_ext H.row_get H.grow_get H.new_next H.row_next H.bump_next H.put_next H.grow_next H.newArr_next H.putArr_next H.moveArr_next H.app_next H.app_obj H.app_arr H.app_get bne emT emM xapp_em xmakeSlice xslice xlookup xmapUpdate keyShape
theorem great_step (f : Nat) (hg : ∀ m, m ≤ f → CGr m) : CGr (f + 1) := by
  intro q h id sz L deep left r hq ho hsz hs
  unfold grN at hs
  refine XCalls.of Tryz.func34 rfl (by kernel_rfl) ?_
  rw [Tryz.ntmps34]
  cases hd : ltB 4000 deep
  · simp only [hd, Bool.false_eq_true, if_false] at hs
    split at hs
    case isFalse => cases hs
    rename_i hL
    rw [List.length_map] at hL
    simp [-Int.natCast_add, isM, xappendM, rowsIn, hd]
    refine XW.loopH (GrJ f q h id sz L deep r) (L.length + 1) ?_ ?_
    · refine ⟨0, f, left, by omega, by omega, Nat.le_refl _, by simpa using hs, hq, ho, FrC.refl _ _, ?_⟩
      simp [-Int.natCast_add, isM, xappendM, rowsIn]
    · clear hs ho
      rintro m fr' h' ⟨k, fu, left, hm, hk, hfu, hs, hq', ho, hC, e0, e1, e2, e3, e4, e5⟩
      cases fu with
      | zero => unfold grL at hs; cases hs
      | succ fu =>
      rcases Nat.lt_or_ge k L.length with hi | hi
      · have hi' : (k : Int) < (L.length : Int) := by omega
        have z5 : sz = 5 := hsz (by intro h0; rw [h0] at hi; cases hi)
        subst z5
        have hw : IntKind.i64.wrap ((k : Int) + 1) = ((k + 1 : Nat) : Int) := by
          have : (k : Int) < 1000000 := by omega
          simp [IntKind.wrap, IntKind.bits, IntKind.signed]
          omega
        rw [List.drop_eq_getElem_cons hi, List.map_cons] at hs
        have hneq : h'.next ≠ q := by omega
        have hneq' : q ≠ h'.next := by omega
        have hd4 : List.take 1 (List.drop 4 L[k].v) = [V.slc L[k].kid L[k].ksz (L[k].kl.map TN.v)] := by rw [TN.v_eq L[k]]; rfl
        have hFb : ∀ o o' o'', FrC q h' (((h'.new o).put h'.next o').put q o'') := fun o o' o'' => (((Fr.new _ _).put (Nat.le_refl _) _).c' hq').put1 _
        simp only [grL] at hs
        cases hlt : ltB (IntKind.i64.wrap (left - 1)) 0
        · simp only [hlt, Bool.false_eq_true, if_false] at hs
          simp [-Int.natCast_add, isM, xappendM, rowsIn, e0, e1, e2, e3, e4, e5, hi, hi', ltB_t, ho, hneq, hneq', hlt, TN.v_len, TN.v_take, TN.v_drop, hd4]
          split at hs
          case h_3 => cases hs
          · rename_i x hx
            obtain rfl := Option.some.inj hs
            refine (hg fu (by omega) q _ L[k].kid L[k].ksz L[k].kl _ _ (true, x) ?_ (H.put_same _ _ _) L[k].ksz5 (by rw [← TN.nd_kids]; exact hx)).mono ?_
            · simp [H.put_next, H.new_next]; omega
            rintro _ h2 ⟨rfl, ho2, hC2⟩
            simp [-Int.natCast_add, isM, xappendM, rowsIn, e0, e1, e2, e3, e4, e5]
            exact ⟨ho2, (hC.trans (hFb _ _ _)).trans hC2⟩
          · rename_i x hx
            refine (hg fu (by omega) q _ L[k].kid L[k].ksz L[k].kl _ _ (false, x) ?_ (H.put_same _ _ _) L[k].ksz5 (by rw [← TN.nd_kids]; exact hx)).mono ?_
            · simp [H.put_next, H.new_next]; omega
            rintro _ h2 ⟨rfl, ho2, hC2⟩
            have hn2 := hC2.next
            simp only [H.put_next, H.new_next] at hn2
            simp [-Int.natCast_add, isM, xappendM, rowsIn, e0, e1, e2, e3, e4, e5]
            refine ⟨m - 1, by omega, k + 1, fu, x, by omega, by omega, by omega, hs, by omega, ho2, (hC.trans (hFb _ _ _)).trans hC2, ?_⟩
            simp [-Int.natCast_add, isM, xappendM, rowsIn, e0, e1, e2, e3, e4, e5, hw]
        · simp only [hlt, if_true] at hs
          obtain rfl := Option.some.inj hs
          simp [-Int.natCast_add, isM, xappendM, rowsIn, e0, e1, e2, e3, e4, e5, hi, hi', ltB_t, ho, hneq, hneq', hlt, TN.v_len, TN.v_take, TN.v_drop]
          exact hC.trans (hFb _ _ _)
      · have hlf : ltB (k : Int) (L.length : Int) = false := ltB_f (by omega)
        rw [List.drop_of_length_le (by omega)] at hs
        simp only [List.map_nil, grL] at hs
        obtain rfl := Option.some.inj hs
        simp [-Int.natCast_add, isM, xappendM, rowsIn, e0, e1, e2, e3, e4, e5, hlf]
        exact ⟨ho, hC⟩
  · simp only [hd, if_true] at hs
    obtain rfl := Option.some.inj hs
    simp [-Int.natCast_add, isM, xappendM, rowsIn, hd]
    exact ⟨ho, FrC.refl _ _⟩
theorem gr_all : ∀ f m, m ≤ f → CGr m
  | 0, m, hm => by
    obtain rfl : m = 0 := by omega
    intro q h id sz L deep left r hq ho hsz hs
    unfold grN at hs
    cases hs
  | f + 1, m, hm => by
    rcases Nat.lt_or_ge m (f + 1) with h1 | h1
    · exact gr_all f m (by omega)
    · obtain rfl : m = f + 1 := by omega
      exact great_step f (gr_all f)
/-! same: of two that are alike -/
mutual
def smN : Nat → Nd → Nd → Bool
  | 0, _, _ => false
  | f + 1, a, b => a.kind == b.kind && (a.op == b.op && (eqB a.str b.str && (a.num == b.num && (a.kids.length == b.kids.length && (decide (a.kids.length ≤ 1000000) && smL f a.kids b.kids)))))
def smL : Nat → List Nd → List Nd → Bool
  | 0, _, _ => false
  | f + 1, a :: l, b :: r => smN f a b && smL f l r
  | f + 1, _, _ => true
end
def CSm (f : Nat) : Prop := ∀ (h : H) (A B : TN), smN f A.nd B.nd = true → XCalls e 37 [.agg A.v, .agg B.v] h (fun v h' => v = .lit (.bool true) ∧ Fr h h')
def CEq (f : Nat) : Prop := ∀ (h : H) (i1 s1 i2 s2 : Nat) (A B : List TN), (A ≠ [] → s1 = 5) → (B ≠ [] → s2 = 5) → A.length = B.length → A.length ≤ 1000000 → smL f (A.map TN.nd) (B.map TN.nd) = true →
  XCalls e 63 [.slc i1 s1 (A.map TN.v), .slc i2 s2 (B.map TN.v), .fn 37 []] h (fun v h' => v = .lit (.bool true) ∧ Fr h h')
def EqJ (f : Nat) (h : H) (i1 s1 i2 s2 : Nat) (A B : List TN) : Nat → List V → H → Prop := fun m fr' h' => ∃ (k fu : Nat), m + k = A.length + 1 ∧ k ≤ A.length ∧ fu ≤ f ∧ smL fu ((A.drop k).map TN.nd) ((B.drop k).map TN.nd) = true ∧ Fr h h' ∧
  fr'.length = 32 ∧ ev fr' (.tmp 1) = .slc i2 s2 (B.map TN.v) ∧ ev fr' (.tmp 2) = .fn 37 [] ∧ ev fr' (.tmp 15) = .slc i1 s1 (A.map TN.v) ∧ ev fr' (.tmp 16) = .lit (.int .i64 (A.length : Nat)) ∧ ev fr' (.tmp 17) = .lit (.int .i64 (k : Nat))
theorem eq_step (f : Nat) (hg : ∀ m, m ≤ f → CSm m) : CEq f := by
  intro h i1 s1 i2 s2 A B h1 h2 hlen hL hs
  refine XCalls.of Tryz.func63 rfl (by kernel_rfl) ?_
  rw [Tryz.ntmps63]
  simp [-Int.natCast_add, isM, xappendM, rowsIn, hlen]
  refine XW.loopH (EqJ f h i1 s1 i2 s2 A B) (A.length + 1) ?_ ?_
  · refine ⟨0, f, by omega, by omega, Nat.le_refl _, by simpa using hs, Fr.refl _, ?_⟩
    simp [-Int.natCast_add, isM, xappendM, rowsIn, hlen]
  · clear hs
    rintro m fr' h' ⟨k, fu, hm, hk, hfu, hs, hF, e0, e1, e2, e3, e4, e5⟩
    cases fu with
    | zero => unfold smL at hs; cases hs
    | succ fu =>
    rcases Nat.lt_or_ge k A.length with hi | hi
    · have hi' : (k : Int) < (A.length : Int) := by omega
      have hj : k < B.length := by omega
      have hj' : (k : Int) < (B.length : Int) := by omega
      have z1 := h1 (by intro h0; rw [h0] at hi; cases hi)
      have z2 := h2 (by intro h0; rw [h0] at hj; cases hj)
      subst z1
      subst z2
      have hw : IntKind.i64.wrap ((k : Int) + 1) = ((k + 1 : Nat) : Int) := by
        have : (k : Int) < 1000000 := by omega
        simp [IntKind.wrap, IntKind.bits, IntKind.signed]
        omega
      rw [List.drop_eq_getElem_cons hi, List.drop_eq_getElem_cons hj, List.map_cons, List.map_cons] at hs
      simp only [smL, Bool.and_eq_true] at hs
      have hnx := hF.next
      have hFb : ∀ o1 o2 o3 o4, Fr h ((((h'.new o1).put h'.next o2).new o3).put (h'.next + 1) o4) := fun o1 o2 o3 o4 => ((((hF.new1 _).put hnx _).new1 _).put (by omega) _)
      simp [-Int.natCast_add, isM, xappendM, rowsIn, e0, e1, e2, e3, e4, e5, hi, hi', hj, hj', ltB_t, TN.v_len, TN.v_take, TN.v_drop]
      refine (hg fu (by omega) _ A[k] B[k] hs.1).mono ?_
      rintro _ h3 ⟨rfl, hF3⟩
      simp [-Int.natCast_add, isM, xappendM, rowsIn, e0, e1, e2, e3, e4, e5]
      refine ⟨m - 1, by omega, k + 1, fu, by omega, by omega, by omega, hs.2, (hFb _ _ _ _).trans hF3, ?_⟩
      simp [-Int.natCast_add, isM, xappendM, rowsIn, e0, e1, e2, e3, e4, e5, hw]
    · have hlf : ltB (k : Int) (A.length : Int) = false := ltB_f (by omega)
      simp [-Int.natCast_add, isM, xappendM, rowsIn, e0, e1, e2, e3, e4, e5, hlf]
      exact hF
theorem same_step (f : Nat) (hq : CEq f) : CSm (f + 1) := by
  intro h A B hs
  unfold smN at hs
  rw [TN.nd_kind, TN.nd_kind, TN.nd_op, TN.nd_op, TN.nd_str, TN.nd_str, TN.nd_num, TN.nd_num, TN.nd_kids, TN.nd_kids, List.length_map, List.length_map] at hs
  simp only [Bool.and_eq_true, decide_eq_true_eq] at hs
  obtain ⟨s1, s2, s3, s4, s5, s6, s7⟩ := hs
  unfold eqB at s3
  have s5' : A.kl.length = B.kl.length := by simpa using s5
  rw [TN.v_eq A, TN.v_eq B]
  refine XCalls.of Tryz.func37 rfl (by kernel_rfl) ?_
  rw [Tryz.ntmps37]
  simp [-Int.natCast_add, isM, xappendM, rowsIn, s1, s2, bytes_list, s3, s4]
  refine (hq _ A.kid A.ksz B.kid B.ksz A.kl B.kl A.ksz5 B.ksz5 s5' s6 s7).mono ?_
  rintro _ h3 ⟨rfl, hF3⟩
  simp [-Int.natCast_add, isM, xappendM, rowsIn]
  exact ((Fr.new _ _).new1 _).trans hF3
theorem sm_all : ∀ f m, m ≤ f → CSm m
  | 0, m, hm => by
    obtain rfl : m = 0 := by omega
    intro h A B hs
    unfold smN at hs
    cases hs
  | f + 1, m, hm => by
    rcases Nat.lt_or_ge m (f + 1) with h1 | h1
    · exact sm_all f m (by omega)
    · obtain rfl : m = f + 1 := by omega
      exact same_step f (eq_step f (sm_all f))
theorem same_calls (f : Nat) (h : H) (A B : TN) (hs : smN f A.nd B.nd = true) : XCalls e 37 [.agg A.v, .agg B.v] h (fun v h' => v = .lit (.bool true) ∧ Fr h h') := sm_all f f (Nat.le_refl f) h A B hs
end Go.Proofs.YtjofmihdeblbmaaGreatDoor.Xa
/- XA: strings.Join over the abstract heap; parse.Expr as a plain function of the text; parse.Show. -/
namespace Go.Proofs.YtjofmihdeblbmaaGreatDoor.Xa
open Go Go.RowKit
set_option linter.unusedVariables false
set_option linter.unusedSimpArgs false
set_option maxRecDepth 100000
set_option maxHeartbeats 1000000
theorem rows_str {κ : Kp} : ∀ {l : List ByteArray} {css : List (List Value)}, VRowss κ (l.map strV) css → css.flatten = l.map Value.string
  | [], _, h => by
    cases h
    rfl
  | x :: l, _, h => by
    cases h with
    | cons h t =>
      have := rows_str t
      cases h with
      | cons h1 h2 =>
        cases h1
        cases h2
        simp [this]
def joinB (ws : List ByteArray) : ByteArray := ⟨(Lib.join (ws.map (·.data.toList)) [32]).toArray⟩
theorem join_calls (h : H) (id sz : Nat) (ws : List ByteArray) (h2 : 2 ≤ ws.length) (hl : ws.length ≤ 1000000) (hs : (joinB ws).size ≤ 1000000) :
    XCalls e 36 [.slc id sz (ws.map strV), .lit (.string ⟨#[32]⟩)] h (fun v h' => v = .lit (.string (joinB ws)) ∧ h' = h) := by
  refine ⟨⟨_, _, Tryz.func36, rfl, by kernel_rfl⟩, fun κ w cargs hI R ha => ?_⟩
  obtain ⟨cl⟩ := cargs
  simp only at ha
  cases ha with
  | cons h1 t1 =>
    cases t1 with
    | cons h3 t3 =>
      cases t3
      cases h3
      generalize hv : V.slc id sz (ws.map strV) = sv at h1
      cases h1 with
      | nil sz' =>
        exfalso
        injection hv with _ _ hv3
        have := congrArg List.length hv3
        simp at this
        rw [this] at h2
        simp at h2
      | slc hr hsz h1' hc hrt hid hrow =>
        injection hv with hv1 hv2 hv3
        subst hv3
        rename_i b o c css
        obtain ⟨l0, hl0, hpre⟩ := hrt
        obtain ⟨cells, ty, fz, hb, hpre2⟩ := R.rt b l0 hl0
        rw [rows_str hr] at hpre
        have hcell : ∀ (j : Nat) x, ws[j]? = some x → w.cell? ⟨b, o + j, none⟩ = some (.string x) := by
          intro j x hx
          unfold World.cell?
          simp only [hb, Option.isSome_none, Bool.false_eq_true, if_false]
          have hj : j < ws.length := by
            rcases Nat.lt_or_ge j ws.length with g | g
            · exact g
            · rw [List.getElem?_eq_none g] at hx; cases hx
          have e1 : (l0.drop o)[j]? = some (.string x) := by
            rw [List.prefix_iff_getElem?.1 hpre j (by simpa using hj), List.getElem_map]
            rw [List.getElem?_eq_getElem hj] at hx
            rw [Option.some.inj hx]
          rw [List.getElem?_drop] at e1
          have hlt : o + j < l0.length := by
            rcases Nat.lt_or_ge (o + j) l0.length with g | g
            · exact g
            · rw [List.getElem?_eq_none g] at e1; cases e1
          have e2 := List.prefix_iff_getElem?.1 hpre2 (o + j) hlt
          rw [List.getElem?_eq_getElem hlt] at e1
          rw [Option.some.inj e1, Array.getElem?_toList] at e2
          exact e2
        have hbk : b < w.heap.size := by
          rcases Nat.lt_or_ge b w.heap.size with g | g
          · exact g
          · rw [Array.getElem?_eq_none g] at hb; cases hb
        have hjl : (Lib.join (ws.map (·.data.toList)) [32]).length = (joinB ws).size := by
          show _ = (List.toArray _).size
          simp
        simp only [List.length_map] at hc ⊢
        refine (joinMany_calls b o c ws ⟨#[32]⟩ w hcell hbk h2 (by omega) hc (by show (Lib.join (ws.map (·.data.toList)) [32]).length ≤ _; rw [hjl]; omega)).mono ?_
        rintro e' w' ⟨rfl, hB⟩
        exact ⟨κ, _, _, h, rfl, Kp.le.refl κ, .lit _, R.under hB, rfl, rfl⟩
      | _ => cases hv
/-- the parser of expressions, of a text -/
def exprR (c : PC) (r : Nd × PS) : Nd × Int × Int := (if (endS c r.2).e == 0 then r.1 else nd0, if (endS c r.2).e == 0 then 0 else (endS c r.2).at_, (endS c r.2).e)
def exprT (f : Nat) (b : ByteArray) : Option (Nd × Int × Int) :=
  match tokensR b with
  | none => none
  | some (toks, a, ee) => if toks.length ≤ 1000000 then match pLevel f ⟨0, 0, toks, b.size⟩ ⟨0, 0, a, ee⟩ 1 with
      | none => none
      | some r => some (exprR ⟨0, 0, toks, b.size⟩ r)
    else none
theorem exprT_calls (f : Nat) (hf : f ≤ 1000000) (h : H) (b : ByteArray) (r : Nd × Int × Int) (hr : exprT f b = some r) : XCalls e 22 [.lit (.string b)] h (EP h r.1 r.2.1 r.2.2) := by
  unfold exprT at hr
  split at hr
  case h_1 => cases hr
  rename_i toks a ee ht
  split at hr
  case isFalse => cases hr
  rename_i hl
  split at hr
  case h_1 => cases hr
  rename_i r0 hp
  obtain rfl := Option.some.inj hr
  exact expr_calls f hf h b toks hl a ee r0.1 r0.2 (endS ⟨0, 0, toks, b.size⟩ r0.2) (fun p tid => by rw [← Prod.eta r0] at hp; rw [← hp]; exact (pcEq p tid 0 0 toks b.size f).level _ _) (fun p tid => rfl) (fun h => tokens_calls h b (toks, a, ee) ht)
theorem Pr.new0 (h : H) (p : Nat) (hp : p = h.next) : Pr p (h.new (.cells [.slc 0 0 []] 80)) [] := by
  subst hp
  exact ⟨0, 0, by rw [H.new_self]; rfl, Nat.lt_succ_self _, Own.nil _ _ _⟩
attribute [local simp] hid2 hid3 hid4 xcode_skip xcode_region xcode_draw xcode_loop xcode_seq xcode_cond xcode_block xcode_scope xcode_exit xcode_ret xops_nil xops_cons xd_nil xd_cons xstep_eq annot fillOf findFill findStore srcOf kcls cls qval qvalN xwant dstAt want1 xdo xop ev_const ev_global ev_func ev_zero ev_succ ev_undefs ev_hit ev_miss put_none put_len undefs_len xnil xfieldAddr fieldOf eT emtb seqQ blockQ xload xstore splice V.storable V.one V.cells mk xbinop xbin xun xbuiltin xindexAddr nilOr xindex xint cv cv1 retQ xres_tmp xres_cell xres_nil xresult xbuild xfill xbuildSlice xrows Nat.testBit places xfield item sideOk pendOk pendOf tyT1 tyT2 tyT3 tyT4 tyT5 tyT9 tyT22 tyT23 tyT24 tyT25 tyT26 tyT30 tyT34 tyT39 tyT41 tyT47 tyT48 tyT50 tyT53 tyT54 tyT56 tyT58 tyT63 tyT70 tyT76 tyT78 tyT80 tyT84 tyT87 tyT89 tyT96 tyT98 tyT100 tyT102 tyT108 tyT110 tyT112 tyT113 tyT115 tyT119 tyT121 tyT124 tyT138 tyT139 tyT141 tyT142 tyT143 tyT145 tyT147 tyT149 tyT155 tyT158 tyT164 tyT179 tyT186 tyT188 tyT189 tyT194 tyT197 tyT200 tyT216 tyT242 tyT245 H.put_get H.new_get H.row_obj H.grow_obj H.bump_obj H.newArr_obj H.putArr_obj H.moveArr_obj H.put_arr H.new_arr H.row_arr H.grow_arr H.bump_arr H.newArr_get H.putArr_get H.moveArr_get H.put_ext H.new_ext H.newArr_ext H.putArr_ext H.moveArr_ext H.bump_ext H.row_get H.grow_get H.new_next H.row_next H.bump_next H.put_next H.grow_next H.newArr_next H.putArr_next H.moveArr_next H.app_next H.app_obj H.app_arr H.app_get bne emT emM xapp_em xmakeSlice xslice xlookup xmapUpdate keyShape
theorem show_calls (f : Nat) (hf : f ≤ 1000000) (h : H) (T : TN) (ws : List ByteArray) (left at_ : Int) (nd : Nd)
    (hg : grN f [T.nd] 0 4000 = some (false, left)) (hw : prNode f [] T.nd 1 = some ws) (h2 : 2 ≤ ws.length) (hl : ws.length ≤ 1000000) (hsz : (joinB ws).size ≤ 1000000) (he : exprT f (joinB ws) = some (nd, at_, 0)) (hs : smN f T.nd nd = true) :
    XCalls e 20 [.agg T.v] h (fun v h' => v = .tup [.lit (.string (joinB ws)), .lit (.bool true)] ∧ Fr h h') := by
  refine XCalls.of Tryz.func20 rfl (by kernel_rfl) ?_
  rw [Tryz.ntmps20]
  simp [-Int.natCast_add, isM, xappendM, rowsIn, TN.v_len, TN.v_take, TN.v_drop]
  have hT : [T].map TN.v = [T.v] := rfl
  rw [← hT]
  refine (gr_all f f (Nat.le_refl f) (h.next + 1) _ _ 5 [T] 0 4000 (false, left) ?_ ?_ (fun _ => rfl) hg).mono ?_
  · simp [H.row_next, H.put_next, H.new_next]
  · rw [H.row_obj, H.put_same]
  rintro _ h1 ⟨rfl, ho1, hC1⟩
  have hn1 := hC1.next
  simp only [H.row_next, H.put_next, H.new_next] at hn1
  have hb1 := hC1.obj h.next (by simp only [H.row_next, H.put_next, H.new_next]; omega) (by omega)
  simp [H.row_obj, H.put_get, H.new_get] at hb1
  have hF1 : Fr h h1 := hC1.fr (by repeat' first | exact Fr.refl _ | assumption | refine Fr.put ?_ (by omega) _ | refine Fr.new1 ?_ _ | refine Fr.row1 ?_ _ | refine Fr.bump1 ?_ | refine Fr.app ?_ (by first | assumption | omega) _ | refine Fr.grow ?_ (by omega) _ | refine Fr.newArr1 ?_ _ | refine Fr.putArr ?_ (by omega) _ | refine Fr.moveArr ?_ (by omega) _ | refine Fr.trans ?_ (by assumption)) (by omega)
  have n1 : h.next ≠ h1.next := by omega
  simp [-Int.natCast_add, isM, xappendM, rowsIn, hb1, TN.v_len, TN.v_take, TN.v_drop, n1]
  refine ((px f).node h1.next _ [] T 1 ws (Pr.new0 h1 _ rfl) hw).mono ?_
  rintro _ h3 ⟨rfl, ⟨id, sz, hP⟩, hC3⟩
  have hn3 := hC3.next
  simp only [H.new_next] at hn3
  have hb3 := hC3.obj h.next (by simp only [H.new_next]; omega) (by omega)
  simp [H.new_get, hb1, show h.next ≠ h1.next by omega] at hb3
  have hF3 : Fr h h3 := hC3.fr (hF1.new1 _) (by omega)
  have hw3 := hP.obj
  simp [-Int.natCast_add, isM, xappendM, rowsIn, hb3, hw3, TN.v_len, TN.v_take, TN.v_drop]
  refine (join_calls h3 id sz ws h2 hl hsz).mono ?_
  rintro _ h' ⟨rfl, eh⟩
  rw [eh]
  clear eh h'
  simp [-Int.natCast_add, isM, xappendM, rowsIn]
  refine (exprT_calls f hf _ _ _ he).mono ?_
  rintro _ h4 ⟨hF4, T2, hT2, rfl⟩
  have hn4 := hF4.next
  have hb4 := (hF4.obj h.next (by omega)).trans hb3
  simp only at hT2
  simp [-Int.natCast_add, isM, xappendM, rowsIn, hb4, TN.v_len, TN.v_take, TN.v_drop, show h.next ≠ h4.next by omega]
  refine (same_calls f _ T T2 (by rw [hT2]; exact hs)).mono ?_
  rintro _ h5 ⟨rfl, hF5⟩
  simp [-Int.natCast_add, isM, xappendM, rowsIn]
  refine Fr.trans ?_ hF5
  have := hF3.next
  exact (((hF3.trans hF4).new1 _).put (by omega) _)
end Go.Proofs.YtjofmihdeblbmaaGreatDoor.Xa
