/- XA: stack: ticked. | XA: stack: Heights, Virtual. | XA: gen: Program, Source. | XA: gen: Source. -/
import Derived.Test.YtjofmihdeblbmaaGreatDoorXaM73
namespace Go.Proofs.YtjofmihdeblbmaaGreatDoor.Xa
open Go Go.RowKit
set_option linter.unusedVariables false
set_option linter.unusedSimpArgs false
set_option maxRecDepth 100000
set_option maxHeartbeats 1000000
def tickP (code : List Ins) : List Bool := code.map fun i => i.1 == 12
def graphP (code : List Ins) : List (List Int) := (List.range code.length).map (nextP code)
def tickOk (code : List Ins) (h : List Int) (k : Nat) : Bool := match code[k]?, h[k]? with
  | some x, some y => ltB y 0 || ((!(x.1 == 9 && (k == 0 || !((tickP code)[k - 1]?).getD false))) && !((x.1 == 7 || x.1 == 8) && ((code[x.2.1.toNat]?).map (·.1)).getD 0 == 9))
  | _, _ => false
def tickedP (f : Nat) (code : List Ins) (h : List Int) : Option Bool := match cyclicP f (graphP code) (tickP code) with
  | none => none
  | some true => some false
  | some false => some ((List.range code.length).all (tickOk code h))
def TkJ (h0 : H) (cv hv : V) (code : List Ins) : Nat → List V → H → Prop := fun m fr' h' => ∃ (i : Nat) (rr : List RR), m + i = code.length + 1 ∧ i ≤ code.length ∧ Fr h0 h' ∧ h0.next + 1 < h'.next ∧
  h'.arr h0.next = some ⟨(rr ++ List.replicate (code.length - i) (0, 0, [])).map rrV, 1, 23⟩ ∧ rr.length = i ∧ rr.map (·.2.2) = (graphP code).take i ∧ RrOk rr ∧
  h'.arr (h0.next + 1) = some ⟨((tickP code).take i ++ List.replicate (code.length - i) false).map boolV, 1, 4⟩ ∧
  fr'.length = 85 ∧ ev fr' (.tmp 0) = cv ∧ ev fr' (.tmp 1) = hv ∧ ev fr' (.tmp 5) = .msl h0.next 0 code.length 1 ∧ ev fr' (.tmp 6) = .msl (h0.next + 1) 0 code.length 1 ∧ ev fr' (.tmp 17) = .lit (.int .i64 (code.length : Nat)) ∧ ev fr' (.tmp 18) = .lit (.int .i64 (i : Nat))
def TkK (h0 : H) (cv hv : V) (code : List Ins) : Nat → List V → H → Prop := fun m fr' h' => ∃ (i : Nat), m + i = code.length + 1 ∧ i ≤ code.length ∧ Fr h0 h' ∧ h0.next + 1 < h'.next ∧
  h'.arr (h0.next + 1) = some ⟨(tickP code).map boolV, 1, 4⟩ ∧
  fr'.length = 85 ∧ ev fr' (.tmp 0) = cv ∧ ev fr' (.tmp 1) = hv ∧ ev fr' (.tmp 6) = .msl (h0.next + 1) 0 code.length 1 ∧ ev fr' (.tmp 40) = cv ∧ ev fr' (.tmp 41) = .lit (.int .i64 (code.length : Nat)) ∧ ev fr' (.tmp 42) = .lit (.int .i64 (i : Nat))
theorem nextP_len (code : List Ins) (k : Nat) : (nextP code k).length ≤ 2 := by
  unfold nextP
  split
  · simp
  · repeat' split
    all_goals simp
attribute [local simp] hid2 hid3 hid4 xcode_skip xcode_region xcode_draw xcode_loop xcode_seq xcode_cond xcode_block xcode_scope xcode_exit xcode_ret xops_nil xops_cons xd_nil xd_cons xstep_eq annot fillOf findFill findStore srcOf kcls cls qval qvalN xwant dstAt want1 xdo xop ev_const ev_global ev_func ev_zero ev_succ ev_undefs ev_hit ev_miss put_none put_len undefs_len xnil xfieldAddr fieldOf eT emtb seqQ blockQ xload xstore splice V.storable V.one V.cells mk xbinop xbin xun xbuiltin xindexAddr nilOr xindex xint cv cv1 retQ xres_tmp xres_cell xres_nil xresult xbuild xfill xbuildSlice xrows Nat.testBit places xfield item sideOk pendOk pendOf tyT1 tyT2 tyT3 tyT4 tyT5 tyT9 tyT22 tyT23 tyT24 tyT25 tyT26 tyT30 tyT34 tyT39 tyT41 tyT47 tyT48 tyT50 tyT53 tyT54 tyT56 tyT58 tyT63 tyT70 tyT76 tyT78 tyT80 tyT84 tyT87 tyT89 tyT96 tyT98 tyT100 tyT102 tyT108 tyT110 tyT112 tyT113 tyT115 tyT119 tyT121 tyT124 tyT138 tyT139 tyT141 tyT142 tyT143 tyT145 tyT147 tyT149 tyT155 tyT158 tyT164 tyT179 tyT186 tyT188 tyT189 tyT194 tyT197 tyT200 tyT216 tyT242 tyT245 H.put_get H.new_get H.row_obj H.grow_obj H.bump_obj H.newArr_obj H.putArr_obj H.moveArr_obj H.put_arr H.new_arr H.row_arr H.grow_arr H.bump_arr H.newArr_get H.putArr_get H.moveArr_get H.put_ext H.new_ext H.newArr_ext H.putArr_ext H.moveArr_ext H.bump_ext H.row_get H.grow_get H.new_next H.row_next H.bump_next H.put_next H.grow_next H.newArr_next H.putArr_next H.moveArr_next H.app_next H.app_obj H.app_arr H.app_get bne emT emM xapp_em xmakeSlice xslice xlookup xmapUpdate keyShape
theorem ticked_calls (h : H) (cv : V) (code : List Ins) (hl : code.length ≤ 90000) (hR : CodeR h cv code) (hid : Nat) (hh : List Int) (hA : h.arr hid = some ⟨hh.map intV, 1, 3⟩) (hid2 : hid < h.next) (hhl : hh.length = code.length)
    (f : Nat) (hp : tickedP f code hh = some true) (hj : ∀ i ∈ code, (i.1 == 7 || i.1 == 8) = true → 0 ≤ i.2.1 ∧ i.2.1 < (code.length : Int)) :
    XCalls e 84 [cv, .msl hid 0 code.length 1] h (fun v h' => v = .lit (.bool true) ∧ Fr h h') := by
  refine XCalls.of Tryz.func84 rfl (by kernel_rfl) ?_
  rw [Tryz.ntmps84]
  obtain ⟨cid, cr, rfl, hcid, hcr⟩ := hR
  have hb : (8 : Int) * (code.length : Nat) ≤ 281474976710656 := by omega
  have hb2 : (24 : Int) * (code.length : Nat) ≤ 281474976710656 := by omega
  have hb1 : ((code.length : Nat) : Int) ≤ 281474976710656 := by omega
  have hmx : code.length ≤ maxLen := by unfold maxLen; omega
  simp [-Int.natCast_add, isM, xappendM, rowsIn, hb, hb1, hb2, hmx]
  refine XW.loopH (TkJ h (.msl cid 0 code.length 3) (.msl hid 0 code.length 1) code) (code.length + 1) ?_ ?_
  · refine ⟨0, [], by omega, by omega, (Fr.newArr _ _).newArr1 _, by simp only [H.newArr_next]; omega, ?_, rfl, by simp, by intro r hr; simp at hr, ?_, ?_⟩
    · simp [H.newArr_get, H.newArr_next, rrV]
    · simp [H.newArr_get, H.newArr_next, boolV]
    · simp [-Int.natCast_add, isM, xappendM, rowsIn]
  rintro m fr' h' ⟨i, rr, hmi, hi, hF, hnx, ha, hrl, hrm, hro, hT, e0, e1, e2, e3, e4, e5, e6⟩
  rcases Nat.lt_or_ge i code.length with hil | hil
  · have hil' : (i : Int) < (code.length : Int) := by omega
    have hw : IntKind.i64.wrap ((i : Int) + 1) = ((i + 1 : Nat) : Int) := wrapS (a := i) (b := 1) (by omega)
    have hcr' := (hF.arr cid hcid).trans hcr
    have hrowc : (code.map insV ++ cr)[i]? = some [.lit (.int .i64 code[i].1), .lit (.int .i64 code[i].2.1), .lit (.int .i64 code[i].2.2)] := by
      rw [List.getElem?_append_left (by simpa using hil), List.getElem?_map, List.getElem?_eq_getElem hil]
      rfl
    simp [-Int.natCast_add, isM, xappendM, rowsIn, -List.map_append, e0, e1, e2, e3, e4, e5, e6, hil, hil', ltB_t]
    refine (next_calls h' _ code (by omega) ⟨cid, cr, rfl, Nat.lt_of_lt_of_le hcid hF.next, hcr'⟩ i hil).mono ?_
    rintro _ h2 ⟨⟨rid, rsz, rfl, rz⟩, hF2⟩
    have ha2 := (hF2.arr h.next (by omega)).trans ha
    have hT2 := (hF2.arr (h.next + 1) (by omega)).trans hT
    have hcr2 := (hF2.arr cid (by omega)).trans hcr'
    have hn2 := hF2.next
    have hrowg : ((rr ++ List.replicate (code.length - i) (0, 0, [])).map rrV)[i]? = some [.slc 0 0 []] := by
      rw [List.getElem?_map, List.getElem?_append_right (by omega), hrl, Nat.sub_self, List.getElem?_replicate, if_pos (by omega)]
      rfl
    have htl : ((tickP code).take i).length = i := by simp [tickP]; omega
    have hrowt : (((tickP code).take i ++ List.replicate (code.length - i) false).map boolV)[i]? = some [.lit (.bool false)] := by
      rw [List.getElem?_map, List.getElem?_append_right (by omega), htl, Nat.sub_self, List.getElem?_replicate, if_pos (by omega)]
      rfl
    have n1 : h.next ≠ h.next + 1 := by omega
    have n2 : cid ≠ h.next := by omega
    have n3 : cid ≠ h.next + 1 := by omega
    simp [-Int.natCast_add, isM, xappendM, rowsIn, -List.map_append, e0, e1, e2, e3, e4, e5, e6, hil, hil', ha2, hT2, hcr2, hrowg, hrowt, hrowc, n1, n2, n3]
    have hsub : code.length - i = (code.length - (i + 1)) + 1 := by omega
    refine ⟨m - 1, by omega, i + 1, rr ++ [(rid, rsz, nextP code i)], by omega, by omega, ((hF.trans hF2).putArr (Nat.le_refl _) _).putArr (Nat.le_succ _) _, by simp only [H.putArr_next]; omega, ?_, by simp [hrl], ?_, ?_, ?_, ?_⟩
    · rw [H.putArr_get, if_neg (by omega), H.putArr_get, if_pos rfl]
      rw [hsub, List.replicate_succ, List.map_append, List.set_append_right _ _ (by simp; omega)]
      simp [rrV, hrl]
    · rw [List.map_append, hrm, List.take_add_one]
      unfold graphP
      rw [List.getElem?_map, List.getElem?_range hil]
      rfl
    · intro r hr
      rcases List.mem_append.1 hr with hr | hr
      · exact hro r hr
      · simp at hr
        subst hr
        intro hne
        exact ⟨(rz hne).2, (rz hne).1⟩
    · rw [H.putArr_get, if_pos rfl, hsub, List.replicate_succ, List.map_append, List.set_append_right _ _ (by simp [tickP]; omega)]
      rw [List.take_add_one]
      have : (tickP code)[i]? = some (code[i].1 == 12) := by unfold tickP; rw [List.getElem?_map, List.getElem?_eq_getElem hil]; rfl
      rw [this]
      have hz : i - ((tickP code).take i).length = 0 := by omega
      rw [List.length_map, hz, List.map_append, List.map_append]
      simp [boolV]
    · simp [-Int.natCast_add, isM, xappendM, rowsIn, e0, e1, e2, e3, e4, e5, e6, hw]
  · have hie : i = code.length := by omega
    have hlf : ltB (i : Int) (code.length : Int) = false := ltB_f (by omega)
    have hgl : (graphP code).length = code.length := by simp [graphP]
    have htl : (tickP code).length = code.length := by simp [tickP]
    rw [hie, Nat.sub_self, List.replicate_zero, List.append_nil] at ha hT
    rw [hie, List.take_of_length_le (by omega)] at hrm
    rw [List.take_of_length_le (by omega)] at hT
    unfold tickedP at hp
    split at hp
    · cases hp
    · cases hp
    rename_i hcy
    have hall := Option.some.inj hp
    have hcc := cyclic_calls h' h.next (h.next + 1) (graphP code) (tickP code) ⟨by omega, rr, ha, hro, hrm⟩ hT hnx (by omega) (fun r hr => by
      obtain ⟨k, _, rfl⟩ := List.mem_map.1 hr
      have := nextP_len code k
      omega) f false hcy
    rw [hgl, htl] at hcc
    simp [-Int.natCast_add, isM, xappendM, rowsIn, -List.map_append, e0, e1, e2, e3, e4, e5, e6, hlf]
    refine hcc.mono ?_
    rintro _ h2 ⟨rfl, hF2⟩
    have hT2 := (hF2.arr (h.next + 1) (by omega)).trans hT
    have hn2 := hF2.next
    have hF02 := hF.trans hF2
    simp [-Int.natCast_add, isM, xappendM, rowsIn, -List.map_append, e0, e1, e2, e3, e4, e5, e6]
    refine XW.loopH (TkK h (.msl cid 0 code.length 3) (.msl hid 0 code.length 1) code) (code.length + 1) ?_ ?_
    · refine ⟨0, by omega, by omega, hF02, by omega, hT2, ?_⟩
      simp [-Int.natCast_add, isM, xappendM, rowsIn, e0, e1, e2, e3, e4, e5, e6]
    clear e0 e1 e2 e3 e4 e5 e6 hF hF2 hnx hT hT2 hF02 ha hcc hlf hn2
    rintro m fr' h' ⟨i, hmi, hi, hF, hnx, hT, e0, e1, e2, e3, e4, e5, e6⟩
    rcases Nat.lt_or_ge i code.length with hil | hil
    · have hil' : (i : Int) < (code.length : Int) := by omega
      have hw : IntKind.i64.wrap ((i : Int) + 1) = ((i + 1 : Nat) : Int) := wrapS (a := i) (b := 1) (by omega)
      have hcr' := (hF.arr cid hcid).trans hcr
      have hA' := (hF.arr hid hid2).trans hA
      have hok := List.all_eq_true.1 hall i (List.mem_range.2 hil)
      unfold tickOk at hok
      rw [List.getElem?_eq_getElem hil, List.getElem?_eq_getElem (show i < hh.length by omega)] at hok
      simp only at hok
      have hjj := hj code[i] (List.getElem_mem hil)
      generalize hci : code[i] = x at hok hjj
      have hilh : i < hh.length := by omega
      generalize hyi : hh[i] = y at hok
      obtain ⟨op, a, b⟩ := x
      simp only at hok hjj
      have hrowc : (code.map insV ++ cr)[i]? = some [.lit (.int .i64 op), .lit (.int .i64 a), .lit (.int .i64 b)] := by
        rw [List.getElem?_append_left (by simpa using hil), List.getElem?_map, List.getElem?_eq_getElem hil, hci]
        rfl
      have hrowh : (hh.map intV)[i]? = some [.lit (.int .i64 y)] := by
        rw [List.getElem?_map, List.getElem?_eq_getElem hilh, hyi]; rfl
      have hFn : ∀ o o', Fr h ((h'.new o).put h'.next o') := fun o o' => (hF.new1 _).put (by have := hF.next; omega) _
      have fin : ∀ o o' (fr' : List V), fr'.length = 85 ∧ ev fr' (.tmp 0) = .msl cid 0 code.length 3 ∧ ev fr' (.tmp 1) = .msl hid 0 code.length 1 ∧ ev fr' (.tmp 6) = .msl (h.next + 1) 0 code.length 1 ∧ ev fr' (.tmp 40) = .msl cid 0 code.length 3 ∧ ev fr' (.tmp 41) = .lit (.int .i64 (code.length : Nat)) ∧ ev fr' (.tmp 42) = .lit (.int .i64 ((i + 1 : Nat) : Int)) →
          ∃ m', m' < m ∧ TkK h (.msl cid 0 code.length 3) (.msl hid 0 code.length 1) code m' fr' ((h'.new o).put h'.next o') := by
        intro o o' fr' hx
        exact ⟨m - 1, by omega, i + 1, by omega, by omega, hFn o o', by simp only [H.put_next, H.new_next]; omega, hT, hx⟩
      cases hy : ltB y 0
      · rw [hy] at hok
        simp only [Bool.false_or, Bool.and_eq_true, Bool.not_eq_true'] at hok
        obtain ⟨hok1, hok2⟩ := hok
        cases h9 : (op == 9)
        · cases h7 : (op == 7)
          · cases h8 : (op == 8)
            · simp [-Int.natCast_add, isM, xappendM, rowsIn, -List.map_append, e0, e1, e2, e3, e4, e5, e6, hil, hil', ltB_t, hcr', hrowc, hA', hrowh, hT, hy, h9, h7, h8]
              refine fin _ _ _ ?_
              simp [-Int.natCast_add, isM, xappendM, rowsIn, e0, e1, e2, e3, e4, e5, e6, hw]
            · rw [h7, h8] at hok2 hjj
              simp only [Bool.false_or, Bool.true_and] at hok2
              obtain ⟨a0, a1⟩ := hjj rfl
              have han : a.toNat < code.length := by omega
              rw [List.getElem?_eq_getElem han] at hok2
              simp only [Option.map_some, Option.getD_some] at hok2
              have hrowz : (code.map insV ++ cr)[a.toNat]? = some [.lit (.int .i64 code[a.toNat].1), .lit (.int .i64 code[a.toNat].2.1), .lit (.int .i64 code[a.toNat].2.2)] := by
                rw [List.getElem?_append_left (by simpa using han), List.getElem?_map, List.getElem?_eq_getElem han]
                rfl
              simp [-Int.natCast_add, isM, xappendM, rowsIn, -List.map_append, e0, e1, e2, e3, e4, e5, e6, hil, hil', ltB_t, hcr', hrowc, hA', hrowh, hT, hy, h9, h7, h8, a0, a1, han, hrowz, hok2]
              refine fin _ _ _ ?_
              simp [-Int.natCast_add, isM, xappendM, rowsIn, e0, e1, e2, e3, e4, e5, e6, hw]
          · rw [h7] at hok2 hjj
            simp only [Bool.true_or, Bool.true_and] at hok2
            obtain ⟨a0, a1⟩ := hjj rfl
            have han : a.toNat < code.length := by omega
            rw [List.getElem?_eq_getElem han] at hok2
            simp only [Option.map_some, Option.getD_some] at hok2
            have hrowz : (code.map insV ++ cr)[a.toNat]? = some [.lit (.int .i64 code[a.toNat].1), .lit (.int .i64 code[a.toNat].2.1), .lit (.int .i64 code[a.toNat].2.2)] := by
              rw [List.getElem?_append_left (by simpa using han), List.getElem?_map, List.getElem?_eq_getElem han]
              rfl
            simp [-Int.natCast_add, isM, xappendM, rowsIn, -List.map_append, e0, e1, e2, e3, e4, e5, e6, hil, hil', ltB_t, hcr', hrowc, hA', hrowh, hT, hy, h9, h7, a0, a1, han, hrowz, hok2]
            refine fin _ _ _ ?_
            simp [-Int.natCast_add, isM, xappendM, rowsIn, e0, e1, e2, e3, e4, e5, e6, hw]
        · have hop : op = 9 := by simpa using h9
          subst hop
          simp only [beq_self_eq_true, Bool.true_and, Bool.or_eq_false_iff, Bool.not_eq_false'] at hok1
          obtain ⟨g1, g2⟩ := hok1
          have hi0 : i ≠ 0 := by simpa using g1
          have hti : (tickP code)[i - 1]? = some true := by
            have : i - 1 < (tickP code).length := by omega
            rw [List.getElem?_eq_getElem this] at g2 ⊢
            simpa using g2
          have hrowt : ((tickP code).map boolV)[i - 1]? = some [.lit (.bool true)] := by rw [List.getElem?_map, hti]; rfl
          have hwm : IntKind.i64.wrap ((i : Int) - 1) = ((i - 1 : Nat) : Int) := by rw [wrapD (by omega)]; omega
          have hz : ((i : Int) == 0) = false := by simp; omega
          have hm1 : i - 1 < code.length := by omega
          have hm2 : ((i - 1 : Nat) : Int) < (code.length : Int) := by omega
          simp [-Int.natCast_add, isM, xappendM, rowsIn, -List.map_append, e0, e1, e2, e3, e4, e5, e6, hil, hil', ltB_t, hcr', hrowc, hA', hrowh, hT, hy, hwm, hz, hrowt, hm1, hm2]
          refine fin _ _ _ ?_
          simp [-Int.natCast_add, isM, xappendM, rowsIn, e0, e1, e2, e3, e4, e5, e6, hw]
      · simp [-Int.natCast_add, isM, xappendM, rowsIn, -List.map_append, e0, e1, e2, e3, e4, e5, e6, hil, hil', ltB_t, hcr', hrowc, hA', hrowh, hT, hy]
        refine fin _ _ _ ?_
        simp [-Int.natCast_add, isM, xappendM, rowsIn, e0, e1, e2, e3, e4, e5, e6, hw]
    · have hlf : ltB (i : Int) (code.length : Int) = false := ltB_f (by omega)
      simp [-Int.natCast_add, isM, xappendM, rowsIn, -List.map_append, e0, e1, e2, e3, e4, e5, e6, hlf]
      exact hF
end Go.Proofs.YtjofmihdeblbmaaGreatDoor.Xa
namespace Go.Proofs.YtjofmihdeblbmaaGreatDoor.Xa
open Go Go.RowKit
set_option linter.unusedVariables false
set_option linter.unusedSimpArgs false
set_option maxRecDepth 100000
set_option maxHeartbeats 1000000
def mostP : List Ins → List Int → Int → Int
  | i :: l, n :: h, m => mostP l h (if leB 0 n then maxI (maxI m n) (wr (wr (n - popsP i) + pushesP i)) else m)
  | _, _, m => m
def virtP (f : Nat) (ps : List Int) (nk : Nat) (params locals : Int) (code : List Ins) : Option Int :=
  if goodP ps nk params locals code then match heightsP f code with
    | none => none
    | some h => match tickedP f code h with
      | some true => if ltB 200 (wr (locals + mostP code h 0)) then none else some (wr (locals + mostP code h 0))
      | _ => none
  else none
theorem hLoop_len (code : List Ins) : ∀ (f : Nat) (h : List Int) (td : List Nat) (res : List Int), hLoop code f h td = some res → res.length = h.length
  | 0, h, td, res, hx => by cases hx
  | f + 1, h, td, res, hx => by
    unfold hLoop at hx
    split at hx
    · obtain rfl := Option.some.inj hx; rfl
    split at hx
    case h_2 => cases hx
    split at hx
    · cases hx
    split at hx
    case h_2 => cases hx
    rename_i hst
    split at hx
    case isFalse => cases hx
    rw [hLoop_len code f _ _ _ hx, (hStep_len _ _ _ _ _ _ _ _ hst).2]
theorem heightsP_len {f : Nat} {code : List Ins} {res : List Int} (h : heightsP f code = some res) : res.length = code.length := by
  unfold heightsP at h
  split at h
  · cases h
  · rw [hLoop_len _ _ _ _ _ h]; simp
attribute [local simp] hid2 hid3 hid4 xcode_skip xcode_region xcode_draw xcode_loop xcode_seq xcode_cond xcode_block xcode_scope xcode_exit xcode_ret xops_nil xops_cons xd_nil xd_cons xstep_eq annot fillOf findFill findStore srcOf kcls cls qval qvalN xwant dstAt want1 xdo xop ev_const ev_global ev_func ev_zero ev_succ ev_undefs ev_hit ev_miss put_none put_len undefs_len xnil xfieldAddr fieldOf eT emtb seqQ blockQ xload xstore splice V.storable V.one V.cells mk xbinop xbin xun xbuiltin xindexAddr nilOr xindex xint cv cv1 retQ xres_tmp xres_cell xres_nil xresult xbuild xfill xbuildSlice xrows Nat.testBit places xfield item sideOk pendOk pendOf tyT1 tyT2 tyT3 tyT4 tyT5 tyT9 tyT22 tyT23 tyT24 tyT25 tyT26 tyT30 tyT34 tyT39 tyT41 tyT47 tyT48 tyT50 tyT53 tyT54 tyT56 tyT58 tyT63 tyT70 tyT76 tyT78 tyT80 tyT84 tyT87 tyT89 tyT96 tyT98 tyT100 tyT102 tyT108 tyT110 tyT112 tyT113 tyT115 tyT119 tyT121 tyT124 tyT138 tyT139 tyT141 tyT142 tyT143 tyT145 tyT147 tyT149 tyT155 tyT158 tyT164 tyT179 tyT186 tyT188 tyT189 tyT194 tyT197 tyT200 tyT216 tyT242 tyT245 H.put_get H.new_get H.row_obj H.grow_obj H.bump_obj H.newArr_obj H.putArr_obj H.moveArr_obj H.put_arr H.new_arr H.row_arr H.grow_arr H.bump_arr H.newArr_get H.putArr_get H.moveArr_get H.put_ext H.new_ext H.newArr_ext H.putArr_ext H.moveArr_ext H.bump_ext H.row_get H.grow_get H.new_next H.row_next H.bump_next H.put_next H.grow_next H.newArr_next H.putArr_next H.moveArr_next H.app_next H.app_obj H.app_arr H.app_get bne emT emM xapp_em xmakeSlice xslice xlookup xmapUpdate keyShape
theorem Heights_calls (h : H) (pid psz : Nat) (fs : List SF) (main : Int) (hz : fs ≠ [] → psz = 5) (k : Nat) (hk : k < fs.length) (hf : SFAt h fs[k]) (hg : goodP (fs.map (·.params)) fs[k].consts.length fs[k].params fs[k].locals fs[k].code = true) (f : Nat) (res : List Int) (hh : heightsP f fs[k].code = some res) (ht : tickedP f fs[k].code res = some true) :
    XCalls e 44 [.agg (prV pid psz fs main), .lit (.int .i64 (k : Nat))] h (HtQ h res) := by
  have z5 : psz = 5 := hz (by intro h0; rw [h0] at hk; cases hk)
  subst z5
  have hk' : (k : Int) < (fs.length : Int) := by omega
  have hw : withinP (k : Nat) (fs.length : Nat) = true := withinP_iff.2 ⟨by omega, by omega⟩
  have hlen := heightsP_len hh
  have hg2 := hg
  unfold goodP at hg2
  simp only [Bool.and_eq_true, Bool.not_eq_true'] at hg2
  obtain ⟨⟨_, g6⟩, g7⟩ := hg2
  rw [List.all_eq_true] at g7
  have hcl : fs[k].code.length ≤ 90000 := by
    apply Classical.byContradiction; intro hn; rw [ltB_t (by omega)] at g6; cases g6
  have hj : ∀ i ∈ fs[k].code, (i.1 == 7 || i.1 == 8) = true → 0 ≤ i.2.1 ∧ i.2.1 < (fs[k].code.length : Int) := by
    intro i hi h78
    have := g7 i hi
    obtain ⟨op, a, b⟩ := i
    simp only at h78 ⊢
    unfold formP at this
    simp only [Bool.or_eq_true, beq_iff_eq] at h78
    rcases h78 with rfl | rfl <;> simp at this <;> exact withinP_iff.1 this.1
  refine XCalls.of Tryz.func44 rfl (by kernel_rfl) ?_
  rw [Tryz.ntmps44]
  have hgc := good_calls (h.new (.cells (prV pid 5 fs main) 50)) pid 5 fs main fs[k] (hf.fr (Fr.new _ _)) hz hg
  have hv := SF.v_eq fs[k]
  unfold prV at hgc ⊢
  rw [hv] at hgc
  simp [-Int.natCast_add, isM, xappendM, rowsIn]
  refine XW.drawB mixed (L := List.range 16) (B := [0, 0, 2, 6, 15, 31, 63, 127, 127, 383, 127, 1919, 3967, 8191, 16383, 32767]) (by kernel_rfl) (by kernel_rfl) ?_
  simp only [List.range, List.range.loop, List.map_cons, List.map_nil, item]
  simp only [annot, fillOf, findFill, findStore, srcOf, List.getD_cons_succ, List.getD_cons_zero]
  simp [-Int.natCast_add, isM, xappendM, rowsIn, hk, hk', SF.v_eq]
  refine (swithin_calls _ (k : Nat) (fs.length : Nat)).mono ?_
  rintro _ h5 ⟨rfl, eh⟩
  rw [eh]
  clear eh h5
  simp [-Int.natCast_add, isM, xappendM, rowsIn, hw, hk, hk', SF.v_eq]
  refine hgc.mono ?_
  rintro _ h2 ⟨rfl, hF2⟩
  have o2 := (hF2.obj h.next (by simp only [H.new_next]; omega)).trans (H.new_self _ _)
  have hFb : Fr h h2 := (Fr.new _ _).trans hF2
  simp [-Int.natCast_add, isM, xappendM, rowsIn, hk, hk', SF.v_eq, o2]
  refine (heights_calls h2 fs[k].cv fs[k].code hcl (hf.code.fr hFb) f res hh).mono ?_
  rintro _ h3 ⟨hid, rfl, hF3, q1, q2, q3⟩
  simp [-Int.natCast_add, isM, xappendM, rowsIn]
  have htc := ticked_calls h3 fs[k].cv fs[k].code hcl ((hf.code.fr hFb).fr hF3) hid res q3 q2 hlen f ht hj
  rw [← hlen] at htc
  refine htc.mono ?_
  rintro _ h4 ⟨rfl, hF4⟩
  have := hFb.next
  simp [-Int.natCast_add, isM, xappendM, rowsIn]
  exact ⟨hid, rfl, (hFb.trans hF3).trans hF4, by omega, by have := hF4.next; omega, (hF4.arr hid q2).trans q3⟩
def VrJ (h0 : H) (f : SF) (q hid : Nat) (hh : List Int) (res : Int) : Nat → List V → H → Prop := fun m fr' h' => ∃ (i : Nat) (b : Int), m + i = hh.length + 1 ∧ i ≤ hh.length ∧ mostP (f.code.drop i) (hh.drop i) b = res ∧ Fr h0 h' ∧ q < h'.next ∧ h'.obj q = some (.cells f.v 56) ∧
  fr'.length = 63 ∧ ev fr' (.tmp 8) = .ptr q 0 ∧ ev fr' (.tmp 9) = .lit (.int .i64 b) ∧ ev fr' (.tmp 26) = .msl hid 0 hh.length 1 ∧ ev fr' (.tmp 27) = .lit (.int .i64 (hh.length : Nat)) ∧ ev fr' (.tmp 28) = .lit (.int .i64 (i : Nat))
theorem Virtual_calls (h : H) (pid psz : Nat) (fs : List SF) (main : Int) (hz : fs ≠ [] → psz = 5) (k : Nat) (hk : k < fs.length) (hf : SFAt h fs[k]) (f : Nat) (res : Int) (hv : virtP f (fs.map (·.params)) fs[k].consts.length fs[k].params fs[k].locals fs[k].code = some res) :
    XCalls e 26 [.agg (prV pid psz fs main), .lit (.int .i64 (k : Nat))] h (fun v h' => v = .tup [.lit (.int .i64 res), .lit (.int .i64 0)] ∧ Fr h h') := by
  unfold virtP at hv
  split at hv
  case isFalse => cases hv
  rename_i hg
  split at hv
  case h_1 => cases hv
  rename_i hh hhp
  split at hv
  case h_2 => cases hv
  rename_i htk
  split at hv
  case isTrue => cases hv
  rename_i hbig
  obtain rfl := Option.some.inj hv
  have hbig' : ltB 200 (wr (fs[k].locals + mostP fs[k].code hh 0)) = false := by simpa using hbig
  have z5 : psz = 5 := hz (by intro h0; rw [h0] at hk; cases hk)
  subst z5
  have hk' : (k : Int) < (fs.length : Int) := by omega
  have hlen := heightsP_len hhp
  refine XCalls.of Tryz.func26 rfl (by kernel_rfl) ?_
  rw [Tryz.ntmps26]
  have hc := Heights_calls (h.new (.cells (prV pid 5 fs main) 50)) pid 5 fs main hz k hk (hf.fr (Fr.new _ _)) hg f hh hhp htk
  have hsv := SF.v_eq fs[k]
  have hcode := hf.code
  have hcl := hf.len
  unfold prV at hc ⊢
  simp [-Int.natCast_add, isM, xappendM, rowsIn]
  refine hc.mono ?_
  rintro _ h2 ⟨hid, rfl, hF2, q1, q2, q3⟩
  have o2 := (hF2.obj h.next (by simp only [H.new_next]; omega)).trans (H.new_self _ _)
  have hFb : Fr h h2 := (Fr.new _ _).trans hF2
  simp only [H.new_next] at q1
  simp [-Int.natCast_add, isM, xappendM, rowsIn, hk, hk', SF.v_eq, o2]
  generalize hm : mostP fs[k].code hh 0 = most at hbig' ⊢
  refine XW.loopH (VrJ h2 fs[k] h2.next hid hh most) (hh.length + 1) ?_ ?_
  · refine ⟨0, 0, by omega, by omega, by simpa using hm, (Fr.new _ _).put (Nat.le_refl _) _, by simp only [H.put_next, H.new_next]; omega, H.put_same _ _ _, ?_⟩
    simp [-Int.natCast_add, isM, xappendM, rowsIn]
  rintro m fr' h' ⟨i, b, hmi, hi, hmo, hF, hq, ho, e0, e1, e2, e3, e4, e5⟩
  have ha := (hF.arr hid q2).trans q3
  obtain ⟨cid, cr, hcv, hcid, hcr⟩ := (hcode.fr hFb).fr hF
  rw [hsv, hcv] at ho
  rcases Nat.lt_or_ge i hh.length with hil | hil
  · have hil' : (i : Int) < (hh.length : Int) := by omega
    have hic : i < fs[k].code.length := by omega
    have hic' : (i : Int) < (fs[k].code.length : Int) := by omega
    have hw : IntKind.i64.wrap ((i : Int) + 1) = ((i + 1 : Nat) : Int) := wrapS (a := i) (b := 1) (by omega)
    rw [List.drop_eq_getElem_cons hil, List.drop_eq_getElem_cons hic, mostP] at hmo
    have hrowh : (hh.map intV)[i]? = some [.lit (.int .i64 hh[i])] := by rw [List.getElem?_map, List.getElem?_eq_getElem hil]; rfl
    have hrowc : (fs[k].code.map insV ++ cr)[i]? = some [.lit (.int .i64 fs[k].code[i].1), .lit (.int .i64 fs[k].code[i].2.1), .lit (.int .i64 fs[k].code[i].2.2)] := by
      rw [List.getElem?_append_left (by simpa using hic), List.getElem?_map, List.getElem?_eq_getElem hic]
      rfl
    generalize hyi : hh[i] = y at hrowh hmo
    have hlit : intV y = [.lit (.int .i64 y)] := rfl
    generalize hci : fs[k].code[i] = x at hrowc hmo
    have hlix : insV x = [.lit (.int .i64 x.1), .lit (.int .i64 x.2.1), .lit (.int .i64 x.2.2)] := rfl
    cases hy : leB 0 y
    · rw [hy] at hmo
      simp only [Bool.false_eq_true, if_false] at hmo
      simp [-Int.natCast_add, isM, xappendM, rowsIn, -List.map_append, e0, e1, e2, e3, e4, e5, hil, hil', ltB_t, ha, hrowh, hy, hyi, hlit]
      refine ⟨m - 1, by omega, i + 1, b, by omega, by omega, hmo, hF, hq, by rw [ho, hsv, hcv], ?_⟩
      simp [-Int.natCast_add, isM, xappendM, rowsIn, e0, e1, e2, e3, e4, e5, hw]
    · rw [hy] at hmo
      simp only [if_true] at hmo
      have hpc := pops_calls h' x
      simp only [insV] at hpc
      simp [-Int.natCast_add, isM, xappendM, rowsIn, -List.map_append, e0, e1, e2, e3, e4, e5, hil, hil', ltB_t, ha, hrowh, hy, hyi, hlit]
      refine XW.drawB mixed (L := [0, 1, 2, 3, 4, 5, 6, 7, 10, 11, 12, 13, 14, 8, 9, 15, 16, 17, 18]) (B := [0, 0, 0, 0, 8, 0, 56, 120, 248, 508, 0, 1024, 0, 7168, 15360, 32248, 65532, 131071, 262143]) (by kernel_rfl) (by kernel_rfl) ?_
      simp only [List.map_cons, List.map_nil, item]
      simp only [annot, fillOf, findFill, findStore, srcOf, List.getD_cons_succ, List.getD_cons_zero]
      simp [-Int.natCast_add, isM, xappendM, rowsIn, -List.map_append, e0, e1, e2, e3, e4, e5, ho, hic, hic', hcr, hrowc]
      refine hpc.mono ?_
      rintro _ h3 ⟨rfl, hF3⟩
      have ho3 := (hF3.obj h2.next hq).trans ho
      have hcr3 := (hF3.arr cid hcid).trans hcr
      have hpu := pushes_calls h3 x
      simp only [insV] at hpu
      simp [-Int.natCast_add, isM, xappendM, rowsIn, -List.map_append, e0, e1, e2, e3, e4, e5, ho3, hic, hic', hcr3, hrowc]
      refine hpu.mono ?_
      rintro _ h4 ⟨rfl, hF4⟩
      simp [-Int.natCast_add, isM, xappendM, rowsIn, -List.map_append, e0, e1, e2, e3, e4, e5]
      refine ⟨m - 1, by omega, i + 1, _, by omega, by omega, hmo, (hF.trans hF3).trans hF4, by have := hF3.next; have := hF4.next; omega, by rw [(hF4.obj h2.next (by have := hF3.next; omega)).trans ho3, hsv, hcv], ?_⟩
      simp [-Int.natCast_add, isM, xappendM, rowsIn, e0, e1, e2, e3, e4, e5, hw, maxI, wr]
  · have hie : i = hh.length := by omega
    have hlf : ltB (i : Int) (hh.length : Int) = false := ltB_f (by omega)
    rw [List.drop_of_length_le (by omega), List.drop_of_length_le (by omega)] at hmo
    unfold mostP at hmo
    subst hmo
    unfold wr at hbig' ⊢
    simp [-Int.natCast_add, isM, xappendM, rowsIn, -List.map_append, e0, e1, e2, e3, e4, e5, hlf, ho, hbig']
    exact hFb.trans hF
end Go.Proofs.YtjofmihdeblbmaaGreatDoor.Xa
namespace Go.Proofs.YtjofmihdeblbmaaGreatDoor.Xa
open Go Go.RowKit
set_option linter.unusedVariables false
set_option linter.unusedSimpArgs false
set_option maxRecDepth 100000
set_option maxHeartbeats 2000000
/-! what lies in memory: a row that is not empty has a number -/
def Real (v : V) : Prop := ∃ κ c, VRel κ v c
theorem XCalls.real {E : Env} {f : FuncId} {args : List V} {h : H} {Q : V → H → Prop} (c : XCalls E f args h Q) : XCalls E f args h (fun v h' => Q v h' ∧ Real v) :=
  ⟨c.1, fun κ w cargs hI R ha => (c.2 κ w cargs hI R ha).mono fun e w' ⟨κ', v, cc, h', h1, h2, h3, h4, h5⟩ => ⟨κ', v, cc, h', h1, h2, h3, h4, h5, ⟨_, _, by assumption⟩⟩⟩
theorem VRels.real {κ : Kp} {vs : List V} {cs : List Value} (h : VRels κ vs cs) : ∀ v ∈ vs, Real v := by
  intro v hv
  obtain ⟨i, hi⟩ := List.mem_iff_getElem?.1 hv
  obtain ⟨c, _, h2⟩ := h.get hi
  exact ⟨κ, c, h2⟩
theorem Real.tup {vs : List V} (h : Real (.tup vs)) : ∀ v ∈ vs, Real v := by
  obtain ⟨κ, c, h⟩ := h
  cases h with
  | tup h => exact h.real
theorem Real.rows {id sz : Nat} {xs : List (List V)} (h : Real (.slc id sz xs)) : (xs ≠ [] → id ≠ 0) ∧ ∀ x ∈ xs, ∀ v ∈ x, Real v := by
  obtain ⟨κ, c, h⟩ := h
  cases h with
  | nil => exact ⟨fun h => absurd rfl h, fun x hx => by simp at hx⟩
  | slc h hsz h1 hc hr hid hrow =>
    refine ⟨fun _ => by omega, fun x hx => ?_⟩
    obtain ⟨i, hi⟩ := List.mem_iff_getElem?.1 hx
    obtain ⟨c, _, h2⟩ := h.get hi
    exact h2.real
structure SG where
  name : ByteArray
  params : Int
  locals : Int
  consts : List (Int × Int)
  code : List Ins
def SF.sg (f : SF) : SG := ⟨f.name, f.params, f.locals, f.consts, f.code⟩
def gFn (f : Nat) (ticks : Int) (F : FnN) (r : FunR) : Option GS := match gStmt f ⟨ticks, false, [], [], r.calls⟩ F.body with
  | some s => if gOk s then some (gPut (gConst s 0 0) (10, 0, 0)) else none
  | none => none
/-- the functions' code, one by one; none within: too big -/
def gFns (f : Nat) : Int → List FnN → List FunR → List SG → Option (Option (List SG))
  | _, [], _, acc => some (some acc)
  | t, F :: l, r :: rs, acc => match gFn f t F r with
    | none => none
    | some s => if s.big || ltB 1000 (s.code.length : Nat) || ltB 4095 s.ticks then some none else gFns f s.ticks l rs (acc ++ [⟨F.name, F.params.length, r.locals, s.consts, s.code⟩])
  | _, _ :: _, [], _ => none
def mainIx : List FnN → Nat → Int → Int
  | [], _, m => m
  | F :: l, k, m => mainIx l (k + 1) (if eqB F.name mainB then (k : Nat) else m)
structure GenR where
  at_ : Int
  e : Int
  fns : List SG
  main : Int
def virtS (f : Nat) (ps : List Int) (F : SG) : Option Int := virtP f ps F.consts.length F.params F.locals F.code
def progG (f : Nat) (ts : List FnN) (rs : List FunR) : Option GenR := match gFns f 0 ts rs [] with
  | none => none
  | some none => some ⟨0, 5, [], 0⟩
  | some (some gs) => if gs.all (fun F => (virtS f (gs.map (·.params)) F).isSome) then some ⟨0, 0, gs, mainIx ts 0 0⟩ else none
def genR (f : Nat) (r : SrcR) : Option GenR := if r.e == 0 then progG f r.l r.f else some ⟨r.at_, r.e, [], 0⟩
theorem FrG.fr {c : GC} {h0 h h' : H} (x : FrG c h h') (y : Fr h0 h) (hm : h0.next ≤ c.m) (hw : c.m < c.w) : Fr h0 h' :=
  ⟨Nat.le_trans y.next x.next, fun j hj => (x.obj j (Nat.lt_of_lt_of_le hj y.next) (by omega) (by omega)).trans (y.obj j hj), fun j hj => (x.ext j (by omega)).trans (y.ext j hj), fun j hj => (x.arr j (by omega)).trans (y.arr j hj)⟩
theorem CodeV.r {h : H} {lo : Nat} {v : V} {l : List Ins} (x : CodeV h lo v l) (hl : l ≠ []) : CodeR h v l := by
  rcases x with ⟨_, h0⟩ | ⟨id, r, h1, h2, h3, h4⟩
  · exact absurd h0 hl
  · exact ⟨id, r, h1, h3, h4⟩
theorem SFAt.keep {h h' : H} {f : SF} (x : SFAt h f) (e1 : h.next ≤ h'.next) (e2 : ∀ j, j < h.next → h'.arr j = h.arr j) : SFAt h' f := by
  obtain ⟨⟨id, r, h1, h2, h3⟩, x2, x3, x4, x5⟩ := x
  exact ⟨⟨id, r, h1, by omega, (e2 id h2).trans h3⟩, x2, x3, x4, x5⟩
def PvJ (h0 : H) (q2 q6 n : Nat) : Nat → List V → H → Prop := fun m fr' h' => ∃ i : Nat, m + i = n + 1 ∧ i ≤ n ∧ Fr h0 h' ∧
  fr'.length = 119 ∧ ev fr' (.tmp 2) = .ptr q2 0 ∧ ev fr' (.tmp 6) = .ptr q6 0 ∧ ev fr' (.tmp 104) = .lit (.int .i64 (n : Nat)) ∧ ev fr' (.tmp 105) = .lit (.int .i64 (i : Nat))
structure PgI (h0 : H) (q2 q6 q7 : Nat) (ticks : Int) (sfs : List SF) (fid fsz : Nat) (mn : Int) (h' : H) : Prop where
  fr : Fr h0 h'
  o2 : h'.obj q2 = some (.cells [.slc 0 0 [], .lit (.int .i64 0)] 50)
  o6 : h'.obj q6 = some (.cells [.slc fid fsz (sfs.map SF.v), .lit (.int .i64 mn)] 50)
  o7 : h'.obj q7 = some (.cells [.lit (.int .i64 ticks), .lit (.bool false)] 141)
  own : Own h' fid fsz sfs.length 5 h0.next
  sf : ∀ f ∈ sfs, SFAt h' f
  l2 : h0.next ≤ q2 ∧ q2 < q6
  l6 : q6 < q7
  l7 : q7 < h'.next
def PgJ (h0 : H) (q2 q6 q7 : Nat) (f : Nat) (rv ov : V) (ts : List FnT) (os : List FunT) (res : Option (List SG)) (main : Int) : Nat → List V → H → Prop := fun m fr' h' => ∃ (k : Nat) (ticks : Int) (sfs : List SF) (fid fsz : Nat) (mn : Int), m + k = ts.length + 1 ∧ k ≤ ts.length ∧
  gFns f ticks ((ts.drop k).map FnT.fn) ((os.drop k).map FunT.r) (sfs.map SF.sg) = some res ∧ sfs.length = k ∧ mainIx ((ts.drop k).map FnT.fn) k mn = main ∧ PgI h0 q2 q6 q7 ticks sfs fid fsz mn h' ∧
  fr'.length = 119 ∧ ev fr' (.tmp 2) = .ptr q2 0 ∧ ev fr' (.tmp 4) = ov ∧ ev fr' (.tmp 6) = .ptr q6 0 ∧ ev fr' (.tmp 7) = .ptr q7 0 ∧ ev fr' (.tmp 25) = rv ∧ ev fr' (.tmp 26) = .lit (.int .i64 (ts.length : Nat)) ∧ ev fr' (.tmp 27) = .lit (.int .i64 (k : Nat))
def PrgP (h : H) (r : GenR) (v : V) (h' : H) : Prop := Fr h h' ∧ ∃ fid fsz, ∃ sfs : List SF, v = .agg (prV fid fsz sfs r.main) ∧ sfs.map SF.sg = r.fns ∧ (sfs ≠ [] → fsz = 5) ∧ ∀ f ∈ sfs, SFAt h' f
def PgQ (h : H) (r : GenR) : V → H → Prop := fun v h' => ∃ u, v = .tup [u, .lit (.int .i64 r.e)] ∧ PrgP h r u h'
attribute [local simp] hid2 hid3 hid4 xcode_skip xcode_region xcode_draw xcode_loop xcode_seq xcode_cond xcode_block xcode_scope xcode_exit xcode_ret xops_nil xops_cons xd_nil xd_cons xstep_eq annot fillOf findFill findStore srcOf kcls cls qval qvalN xwant dstAt want1 xdo xop ev_const ev_global ev_func ev_zero ev_succ ev_undefs ev_hit ev_miss put_none put_len undefs_len xnil xfieldAddr fieldOf eT emtb seqQ blockQ xload xstore splice V.storable V.one V.cells mk xbinop xbin xun xbuiltin xindexAddr nilOr xindex xint cv cv1 retQ xres_tmp xres_cell xres_nil xresult xbuild xfill xbuildSlice xrows Nat.testBit places xfield item sideOk pendOk pendOf tyT1 tyT2 tyT3 tyT4 tyT5 tyT9 tyT22 tyT23 tyT24 tyT25 tyT26 tyT30 tyT34 tyT39 tyT41 tyT47 tyT48 tyT50 tyT53 tyT54 tyT56 tyT58 tyT63 tyT70 tyT76 tyT78 tyT80 tyT84 tyT87 tyT89 tyT96 tyT98 tyT100 tyT102 tyT108 tyT110 tyT112 tyT113 tyT115 tyT119 tyT121 tyT124 tyT138 tyT139 tyT141 tyT142 tyT143 tyT145 tyT147 tyT149 tyT155 tyT158 tyT164 tyT179 tyT186 tyT188 tyT189 tyT194 tyT197 tyT200 tyT216 tyT242 tyT245 H.put_get H.new_get H.row_obj H.grow_obj H.bump_obj H.newArr_obj H.putArr_obj H.moveArr_obj H.put_arr H.new_arr H.row_arr H.grow_arr H.bump_arr H.newArr_get H.putArr_get H.moveArr_get H.put_ext H.new_ext H.newArr_ext H.putArr_ext H.moveArr_ext H.bump_ext H.row_get H.grow_get H.new_next H.row_next H.bump_next H.put_next H.grow_next H.newArr_next H.putArr_next H.moveArr_next H.app_next H.app_obj H.app_arr H.app_get bne emT emM xapp_em xmakeSlice xslice xlookup xmapUpdate keyShape
theorem gprog_calls (f f2 : Nat) (h : H) (id sz : Nat) (ts : List FnT) (hz : ts ≠ [] → sz = 7) (htok : ∀ t ∈ ts, t.ok) (hlen : ts.length ≤ 1000) (hpl : ∀ t ∈ ts, t.params.length ≤ 1000000) (rs : List FunR) (hc : checkR f2 (ts.map FnT.fn) = some (rs, 0)) (r : GenR) (hr : progG f (ts.map FnT.fn) rs = some r) :
    XCalls e 43 [.slc id sz (ts.map FnT.v)] h (PgQ h r) := by
  refine XCalls.of Tryz.func43 rfl (by kernel_rfl) ?_
  rw [Tryz.ntmps43]
  simp [-Int.natCast_add, isM, xappendM, rowsIn]
  refine (check_calls f2 _ id sz ts hz htok hlen hpl (rs, 0) hc).real.mono ?_
  rintro _ h1 ⟨⟨hF1, oid, osz, os, rfl, rfl, hok, hoz⟩, hreal⟩
  have hr0 := (hreal.tup (.slc oid osz (os.map FunT.v)) (by simp)).rows
  have hcalls : ∀ t ∈ os, t.r.calls ≠ [] → t.cz = 1 ∧ t.ci ≠ 0 := by
    intro t ht hne
    refine ⟨(hok t ht).2 hne, ?_⟩
    have := hr0.2 (FunT.v t) (List.mem_map.2 ⟨t, ht, rfl⟩) (.slc t.ci t.cz (t.r.calls.map intV)) (by simp [FunT.v, sfV])
    exact this.rows.1 (by simpa using hne)
  clear hreal hr0
  have o2 := (hF1.obj h.next (by simp only [H.new_next]; omega)).trans (H.new_self _ _)
  have hn1 := hF1.next
  simp only [H.new_next] at hn1
  simp [-Int.natCast_add, isM, xappendM, rowsIn]
  unfold progG at hr
  obtain ⟨R, hR⟩ : ∃ R, gFns f 0 (ts.map FnT.fn) (os.map FunT.r) [] = R := ⟨_, rfl⟩
  rw [hR] at hr
  cases R with
  | none => cases hr
  | some res =>
  refine XW.loopH (PgJ h h.next h1.next (h1.next + 1) f (.slc id sz (ts.map FnT.v)) (.slc oid osz (os.map FunT.v)) ts os res (mainIx (ts.map FnT.fn) 0 0)) (ts.length + 1) ?_ ?_
  · refine ⟨0, 0, [], 0, 0, 0, by omega, by omega, by simpa using hR, rfl, by simp, ⟨(((Fr.new _ _).trans hF1).new1 _).new1 _, ?_, ?_, ?_, Own.nil _ _ _, by simp, ⟨Nat.le_refl _, by omega⟩, by omega, by simp only [H.new_next]; omega⟩, ?_⟩
    · simp only [H.new_get, H.new_next]
      rw [if_neg (by omega), if_neg (by omega)]
      exact o2
    · simp [H.new_get, H.new_next]
    · simp [H.new_get, H.new_next]
    · simp [-Int.natCast_add, isM, xappendM, rowsIn]
  clear hR
  rintro m fr' h' ⟨k, ticks, sfs, fid, fsz, mn, hmk, hk, hG, hsl, hmain, ⟨hF, p2, p6, p7, pO, pS, l2, l6, l7⟩, e0, e1, e2, e3, e4, e5, e6, e7⟩
  generalize h1.next = q6 at l2 l6 l7 p6 p7 e3 e4
  generalize hq7 : q6 + 1 = q7 at l6 l7 p7 e4
  generalize hq2 : h.next = q2 at l2 p2 e1
  rcases Nat.lt_or_ge k ts.length with hkl | hkl
  · have hkl' : (k : Int) < (ts.length : Int) := by omega
    have z7 := hz (by intro h0; rw [h0] at hkl; cases hkl)
    subst z7
    have hw : IntKind.i64.wrap ((k : Int) + 1) = ((k + 1 : Nat) : Int) := wrapS (a := k) (b := 1) (by omega)
    rw [List.drop_eq_getElem_cons hkl, List.map_cons] at hG hmain
    have hko : k < os.length := by
      apply Classical.byContradiction
      intro hn
      rw [show os.drop k = [] from List.drop_of_length_le (by omega)] at hG
      simp [gFns] at hG
    rw [List.drop_eq_getElem_cons hko, List.map_cons] at hG
    have hko' : (k : Int) < (os.length : Int) := by omega
    have z3 := hoz (by intro h0; rw [h0] at hko; cases hko)
    subst z3
    have hct := hcalls os[k] (List.getElem_mem hko)
    unfold gFns at hG
    split at hG
    case h_1 => cases hG
    rename_i s2 hs2
    unfold gFn at hs2
    split at hs2
    case h_2 => cases hs2
    rename_i s1 hs1
    split at hs2
    case isFalse => cases hs2
    rename_i hok1
    obtain rfl := Option.some.inj hs2
    have hvt : FnT.v ts[k] = .lit (.string ts[k].name) :: .slc ts[k].pid ts[k].psz (ts[k].params.map strV) :: ts[k].body.v := rfl
    have hvo : FunT.v os[k] = [.lit (.int .i64 os[k].r.locals), .slc os[k].si os[k].sz (os[k].r.slots.map intV), .slc os[k].ci os[k].cz (os[k].r.calls.map intV)] := rfl
    have htb := TN.v_eq ts[k].body
    simp [-Int.natCast_add, isM, xappendM, rowsIn, -List.map_append, e0, e1, e2, e3, e4, e5, e6, e7, hkl, hkl', ltB_t, hvt, htb]
    refine XW.drawB mixed (L := List.range 19) (B := [0, 0, 0, 6, 14, 0, 32, 0, 128, 384, 0, 0, 3072, 7168, 15360, 32736, 65535, 131071, 262143]) (by kernel_rfl) (by kernel_rfl) ?_
    simp only [List.range, List.range.loop, List.map_cons, List.map_nil, item]
    simp only [annot, fillOf, findFill, findStore, srcOf, List.getD_cons_succ, List.getD_cons_zero]
    have n1 : q2 ≠ h'.next := by omega
    have n2 : q6 ≠ h'.next := by omega
    have n3 : q7 ≠ h'.next := by omega
    simp [-Int.natCast_add, isM, xappendM, rowsIn, -List.map_append, e0, e1, e2, e3, e4, e5, e6, e7, hko, hko', hvo, n1, n2, n3]
    have hFA : ∀ o o' o'', Fr h' ((((h'.new o).put h'.next o')).new o'') := fun o o' o'' => ((Fr.new _ _).put (Nat.le_refl _) _).new1 _
    have hP : ∀ o o', GnP ⟨h'.next + 1, q7, ts[k].name, (ts[k].params.length : Nat), os[k].r.locals, os[k].r.locals, os[k].si, os[k].sz, os[k].r.slots⟩ ⟨ticks, false, [], [], os[k].r.calls⟩ (.slc 0 0 []) (.slc 0 0 [])
        ((((h'.new o).put h'.next o')).new (.cells [.ptr q7 0, .lit (.string ts[k].name), .lit (.int .i64 (ts[k].params.length : Nat)), .lit (.int .i64 os[k].r.locals), .slc 0 0 [], .slc 0 0 [], .lit (.int .i64 os[k].r.locals), .slc os[k].si os[k].sz (os[k].r.slots.map intV), .slc os[k].ci os[k].cz (os[k].r.calls.map intV), .slc 0 0 [], .slc 0 0 []] 145)) := by
      intro o o'
      refine ⟨0, 0, .slc 0 0 [], os[k].ci, os[k].cz, ⟨?_, ?_, ?_, ?_, Own.nil _ _ _, .inl ⟨rfl, rfl⟩, hct⟩⟩
      · simp [H.new_get, H.put_next, H.new_next]
      · rw [(hFA o o' _).obj q7 l7]; exact p7
      · simp only [H.new_next, H.put_next]; omega
      · show q7 < h'.next + 1; omega
    have hst := fun o o' => gst_all f _ _ _ _ _ ts[k].body s1 ⟨_, _, _, rfl⟩ ⟨_, _, _, rfl⟩ (hP o o') (by intro p hp; cases hp) hs1
    rw [htb] at hst
    refine (hst _ _).mono ?_
    rintro _ h2 ⟨rfl, hP2, hK2, hG2⟩
    have hF2 : Fr h h2 := hG2.fr (hF.trans (hFA _ _ _)) (by show h.next ≤ q7; omega) (by show q7 < h'.next + 1; omega)
    have hn2 := hG2.next
    simp only [H.new_next, H.put_next] at hn2
    have oa := hG2.obj h'.next (by simp only [H.new_next, H.put_next]; omega) (by show h'.next ≠ h'.next + 1; omega) (by show h'.next ≠ q7; omega)
    simp [H.new_get, H.put_get, H.put_next, H.new_next] at oa
    have o2a := (hG2.obj q2 (by simp only [H.new_next, H.put_next]; omega) (by show q2 ≠ h'.next + 1; omega) (by show q2 ≠ q7; omega)).trans (((hFA _ _ _).obj q2 (by omega)).trans p2)
    have o6a := (hG2.obj q6 (by simp only [H.new_next, H.put_next]; omega) (by show q6 ≠ h'.next + 1; omega) (by show q6 ≠ q7; omega)).trans (((hFA _ _ _).obj q6 (by omega)).trans p6)
    have hfid : fid < h'.next := by rcases pO with ⟨_, q, _⟩ | ⟨_, q, _⟩ <;> omega
    have oOa := Own.of_ext pO (show h'.next ≤ h2.next by omega) ((hG2.ext fid (by show fid < h'.next + 1; omega)).trans ((hFA _ _ _).ext fid hfid))
    have arr2 : ∀ j, j < h'.next → h2.arr j = h'.arr j := fun j hj => (hG2.arr j (by show j < h'.next + 1; omega)).trans ((hFA _ _ _).arr j hj)
    clear hst hP p2 p6 p7 pO hG2
    simp [-Int.natCast_add, isM, xappendM, rowsIn, -List.map_append, e0, e1, e2, e3, e4, e5, e6, e7]
    refine (vnil_calls h2).mono ?_
    rintro _ h3 ⟨rfl, hF3⟩
    have hn3 := hF3.next
    unfold gOk at hok1
    simp only [Bool.and_eq_true, decide_eq_true_eq] at hok1
    simp [-Int.natCast_add, isM, xappendM, rowsIn, -List.map_append, e0, e1, e2, e3, e4, e5, e6, e7]
    refine (gkonst_calls _ h3 s1 _ _ (hP2.fr hF3) hK2 (by omega) (by omega) 0 0 (.inl ⟨rfl, rfl⟩)).mono ?_
    rintro _ h4 ⟨rfl, hP4, hG4⟩
    have hn4 := hG4.next
    have hcl : (gConst s1 0 0).code.length = s1.code.length + 1 := by unfold gConst; split <;> simp [gPut]
    have hkl2 : (gConst s1 0 0).consts.length ≤ s1.consts.length + 1 := by unfold gConst; split <;> simp [gPut]
    have hK4 := ks_const hK2 (k := 0) (n := 0) (.inl ⟨rfl, rfl⟩)
    simp [-Int.natCast_add, isM, xappendM, rowsIn, -List.map_append, e0, e1, e2, e3, e4, e5, e6, e7]
    refine (gput_calls _ h4 _ _ _ hP4 (by omega) 10 0 0).mono ?_
    rintro _ h5 ⟨rfl, hP5, hG5⟩
    have hn5 := hG5.next
    have hF5 : Fr h h5 := hG5.fr (hG4.fr (hF2.trans hF3) (by show h.next ≤ q7; omega) (by show q7 < h'.next + 1; omega)) (by show h.next ≤ q7; omega) (by show q7 < h'.next + 1; omega)
    have keep : ∀ j, j < h2.next → j ≠ h'.next + 1 → j ≠ q7 → h5.obj j = h2.obj j := fun j h1 h2' h3' => (hG5.obj j (by omega) h2' h3').trans ((hG4.obj j (by omega) h2' h3').trans (hF3.obj j h1))
    have oa5 := (keep h'.next (by omega) (by omega) (by omega)).trans oa
    have o25 := (keep q2 (by omega) (by omega) (by omega)).trans o2a
    have o65 := (keep q6 (by omega) (by omega) (by omega)).trans o6a
    have oO5 := Own.of_ext oOa (show h2.next ≤ h5.next by omega) ((hG5.ext fid (by show fid < h'.next + 1; omega)).trans ((hG4.ext fid (by show fid < h'.next + 1; omega)).trans (hF3.ext fid (by omega))))
    have pS5 : ∀ F ∈ sfs, SFAt h5 F := fun F hF' => (pS F hF').keep (by omega) (fun j hj => (hG5.arr j (by show j < h'.next + 1; omega)).trans ((hG4.arr j (by show j < h'.next + 1; omega)).trans ((hF3.arr j (by omega)).trans (arr2 j hj))))
    obtain ⟨kid5, ksz5, cv5, ci5, cz5, x5⟩ := hP5
    have ow5 := x5.objw
    have om5 := x5.objm
    have hsf : SFAt h5 ⟨ts[k].name, (ts[k].params.length : Nat), os[k].r.locals, kid5, ksz5, (gConst s1 0 0).consts, cv5, (gPut (gConst s1 0 0) (10, 0, 0)).code⟩ := by
      refine ⟨x5.code.r (by simp [gPut]), fun hne => ?_, hK4, by simp [gPut]; omega, by simp; omega⟩
      rcases x5.consts with ⟨q, _⟩ | ⟨_, _, q, _⟩
      · exact absurd (List.length_eq_zero_iff.1 q) hne
      · exact q
    clear keep hG5 hG4 arr2 oa o2a o6a oOa pS
    have n4 : q6 ≠ h'.next := by omega
    have n5 : q6 ≠ h'.next + 1 := by omega
    have n6 : q6 ≠ q7 := by omega
    have n7 : h'.next + 1 ≠ q6 := by omega
    have n8 : q7 ≠ q6 := by omega
    have n9 : h5.next ≠ 0 := by omega
    obtain ⟨idc, rc, rfl, _, _⟩ := x5.code.r (show (gPut (gConst s1 0 0) (10, 0, 0)).code ≠ [] by simp [gPut])
    have hgl : (gPut (gConst s1 0 0) (10, 0, 0)).code.length = s1.code.length + 2 := by simp [gPut]; omega
    rw [hgl] at ow5 hG
    generalize hSS : gPut (gConst s1 0 0) (10, 0, 0) = S at *
    have hSc : S.consts = (gConst s1 0 0).consts := by rw [← hSS]; rfl
    rw [← hSc] at hsf
    simp only [mainIx] at hmain
    rw [show (FnT.fn ts[k]).name = ts[k].name from rfl] at hmain
    generalize hmn : (if eqB ts[k].name mainB then ((k : Nat) : Int) else mn) = mn5 at hmain
    have n10 : q2 ≠ q6 := by omega
    have n11 : q2 ≠ q7 := by omega
    have n12 : q7 ≠ q2 := by omega
    obtain ⟨nf, hnf⟩ : ∃ nf : SF, nf = ⟨ts[k].name, (ts[k].params.length : Nat), os[k].r.locals, kid5, ksz5, S.consts, .msl idc 0 (s1.code.length + 2) 3, S.code⟩ := ⟨_, rfl⟩
    have hsvs : sfs.map SF.v ++ [[.lit (.string ts[k].name), .lit (.int .i64 (ts[k].params.length : Nat)), .lit (.int .i64 os[k].r.locals), .slc kid5 ksz5 (S.consts.map kV), .msl idc 0 (s1.code.length + 2) 3]] = (sfs ++ [nf]).map SF.v := by
      rw [List.map_append, hnf]; rfl
    have hsg : (sfs ++ [nf]).map SF.sg = sfs.map SF.sg ++ [⟨(FnT.fn ts[k]).name, ((FnT.fn ts[k]).params.length : Nat), (FunT.r os[k]).locals, S.consts, S.code⟩] := by
      rw [List.map_append, hnf]; rfl
    have hsf2 : ∀ h6 : H, h5.next ≤ h6.next → (∀ j, j < h5.next → h6.arr j = h5.arr j) → ∀ F ∈ sfs ++ [nf], SFAt h6 F := by
      intro h6 g1 g2 F hF6
      rcases List.mem_append.1 hF6 with hF6 | hF6
      · exact (pS5 F hF6).keep g1 g2
      · rw [List.mem_singleton.1 hF6, hnf]
        have := hsf.keep g1 g2
        rw [hgl] at this
        exact this
    have hOl := oO5.low
    cases hmb : eqB ts[k].name mainB
    · rw [hmb] at hmn
      unfold eqB mainB at hmb
      simp at hmn
      subst hmn
      have hap : ∀ x, xappend e 48 (.slc fid fsz (sfs.map SF.v)) (.slc h5.next 5 [x]) (h5.row 1) = some (.slc (h5.next + 1) 5 (sfs.map SF.v ++ [x]), (h5.row 1).app fid (sfs.length + 1)) := by
        intro x
        rw [xapp_own 48 (w := 5) rfl rfl rfl rfl (by decide) (lo := h.next) ?a1 ?a2 ?a3 ?a4 ?a5]
        case a1 => rw [List.length_map]; exact oO5.of_ext (by simp only [H.row_next, H.put_next]; omega) (by rw [H.row_get, if_neg (by first | omega | (simp only [H.put_next]; omega))] <;> rfl)
        case a2 => omega
        case a3 => simp
        case a4 => simp; omega
        case a5 => simp [maxLen]; omega
        simp [H.row_next, H.put_next]
      simp [-Int.natCast_add, isM, xappendM, rowsIn, -List.map_append, e0, e1, e2, e3, e4, e5, e6, e7, oa5, bytes_list, hmb, o65]
      refine XW.drawB mixed (L := List.range 10) (B := [0, 1, 0, 4, 12, 28, 60, 127, 255, 511]) (by kernel_rfl) (by kernel_rfl) ?_
      simp only [List.range, List.range.loop, List.map_cons, List.map_nil, item]
      simp only [annot, fillOf, findFill, findStore, srcOf, List.getD_cons_succ, List.getD_cons_zero]
      cases b1 : S.big
      · cases b2 : ltB 1000 ((s1.code.length + 2 : Nat) : Int)
        · cases b3 : ltB 4095 S.ticks
          · rw [b1, b2, b3] at hG
            simp only [Bool.or_false, Bool.false_eq_true, if_false] at hG
            simp (maxSteps := 2000000) [-Int.natCast_add, isM, xappendM, rowsIn, -List.map_append, e0, e1, e2, e3, e4, e5, e6, e7, o65, ow5, om5, o25, n6, n7, n8, n9, n10, n11, n12, hap, b1, b2, b3]
            rw [hsvs]
            refine ⟨m - 1, by omega, k + 1, S.ticks, sfs ++ [nf], h5.next + 1, 5, mn, by omega, by omega, by rw [hsg]; exact hG, by simp [hsl], hmain, ⟨?_, ?_, ?_, ?_, ?_, ?_, ⟨by omega, by omega⟩, l6, ?_⟩, ?_⟩
            · exact (((hF5.row1 1).app hOl _).put (by omega) _).put (by omega) _
            · rw [H.put_ne _ _ n11, H.put_ne _ _ n10, H.app_obj, H.row_obj]; exact o25
            · rw [H.put_ne _ _ n6, H.put_same]
            · rw [H.put_same]
            · refine Own.of_ext (h := (h5.row 1).app fid (sfs.length + 1)) ?_ (by simp only [H.put_next]; omega) (by simp only [H.put_ext])
              have := Own.app (h := h5.row 1) (id := fid) (k := sfs.length + 1) (w := 5) (lo := h.next) (by simp only [H.row_next, H.put_next]; omega) (by simp only [H.row_next]; omega)
              simp only [H.row_next, H.put_next] at this
              simpa using this
            · exact hsf2 _ (by simp only [H.put_next, H.app_next, H.row_next]; omega) (fun j hj => by simp only [H.put_arr, H.app_arr, H.row_arr])
            · simp only [H.put_next, H.app_next, H.row_next]; omega
            · simp [-Int.natCast_add, isM, xappendM, rowsIn, e0, e1, e2, e3, e4, e5, e6, e7, hw]
          · rw [b1, b2, b3] at hG
            simp only [Bool.or_true, if_true] at hG
            obtain rfl := Option.some.inj hG
            simp (maxSteps := 2000000) [-Int.natCast_add, isM, xappendM, rowsIn, -List.map_append, e0, e1, e2, e3, e4, e5, e6, e7, o65, ow5, om5, o25, n6, n7, n8, n9, n10, n11, n12, hap, b1, b2, b3]
            obtain rfl := Option.some.inj hr
            exact ⟨_, rfl, ((((hF5.row1 1).app hOl _).put (by omega) _).put (by omega) _).put (by omega) _, 0, 0, [], rfl, rfl, fun h0 => absurd rfl h0, fun F hF => by cases hF⟩
        · rw [b1, b2] at hG
          simp only [Bool.or_true, Bool.true_or, if_true] at hG
          obtain rfl := Option.some.inj hG
          simp (maxSteps := 2000000) [-Int.natCast_add, isM, xappendM, rowsIn, -List.map_append, e0, e1, e2, e3, e4, e5, e6, e7, o65, ow5, om5, o25, n6, n7, n8, n9, n10, n11, n12, hap, b1, b2]
          obtain rfl := Option.some.inj hr
          exact ⟨_, rfl, ((((hF5.row1 1).app hOl _).put (by omega) _).put (by omega) _).put (by omega) _, 0, 0, [], rfl, rfl, fun h0 => absurd rfl h0, fun F hF => by cases hF⟩
      · rw [b1] at hG
        simp only [Bool.true_or, if_true] at hG
        obtain rfl := Option.some.inj hG
        simp (maxSteps := 2000000) [-Int.natCast_add, isM, xappendM, rowsIn, -List.map_append, e0, e1, e2, e3, e4, e5, e6, e7, o65, ow5, om5, o25, n6, n7, n8, n9, n10, n11, n12, hap, b1]
        obtain rfl := Option.some.inj hr
        exact ⟨_, rfl, ((((hF5.row1 1).app hOl _).put (by omega) _).put (by omega) _).put (by omega) _, 0, 0, [], rfl, rfl, fun h0 => absurd rfl h0, fun F hF => by cases hF⟩
    · rw [hmb] at hmn
      unfold eqB mainB at hmb
      simp at hmn
      subst hmn
      have hap : ∀ x, xappend e 48 (.slc fid fsz (sfs.map SF.v)) (.slc h5.next 5 [x]) ((h5.put q6 (.cells [.slc fid fsz (sfs.map SF.v), .lit (.int .i64 (k : Nat))] 50)).row 1) = some (.slc (h5.next + 1) 5 (sfs.map SF.v ++ [x]), ((h5.put q6 (.cells [.slc fid fsz (sfs.map SF.v), .lit (.int .i64 (k : Nat))] 50)).row 1).app fid (sfs.length + 1)) := by
        intro x
        rw [xapp_own 48 (w := 5) rfl rfl rfl rfl (by decide) (lo := h.next) ?a1 ?a2 ?a3 ?a4 ?a5]
        case a1 => rw [List.length_map]; exact oO5.of_ext (by simp only [H.row_next, H.put_next]; omega) (by rw [H.row_get, if_neg (by first | omega | (simp only [H.put_next]; omega))] <;> rfl)
        case a2 => omega
        case a3 => simp
        case a4 => simp; omega
        case a5 => simp [maxLen]; omega
        simp [H.row_next, H.put_next]
      simp [-Int.natCast_add, isM, xappendM, rowsIn, -List.map_append, e0, e1, e2, e3, e4, e5, e6, e7, oa5, bytes_list, hmb, o65]
      refine XW.drawB mixed (L := List.range 10) (B := [0, 1, 0, 4, 12, 28, 60, 127, 255, 511]) (by kernel_rfl) (by kernel_rfl) ?_
      simp only [List.range, List.range.loop, List.map_cons, List.map_nil, item]
      simp only [annot, fillOf, findFill, findStore, srcOf, List.getD_cons_succ, List.getD_cons_zero]
      cases b1 : S.big
      · cases b2 : ltB 1000 ((s1.code.length + 2 : Nat) : Int)
        · cases b3 : ltB 4095 S.ticks
          · rw [b1, b2, b3] at hG
            simp only [Bool.or_false, Bool.false_eq_true, if_false] at hG
            simp (maxSteps := 2000000) [-Int.natCast_add, isM, xappendM, rowsIn, -List.map_append, e0, e1, e2, e3, e4, e5, e6, e7, o65, ow5, om5, o25, n6, n7, n8, n9, n10, n11, n12, hap, b1, b2, b3]
            rw [hsvs]
            refine ⟨m - 1, by omega, k + 1, S.ticks, sfs ++ [nf], h5.next + 1, 5, ((k : Nat) : Int), by omega, by omega, by rw [hsg]; exact hG, by simp [hsl], hmain, ⟨?_, ?_, ?_, ?_, ?_, ?_, ⟨by omega, by omega⟩, l6, ?_⟩, ?_⟩
            · exact ((((hF5.put (show h.next ≤ q6 by omega) _).row1 1).app hOl _).put (by omega) _).put (by omega) _
            · rw [H.put_ne _ _ n11, H.put_ne _ _ n10, H.app_obj, H.row_obj]; rw [H.put_ne _ _ n10]; exact o25
            · rw [H.put_ne _ _ n6, H.put_same]
            · rw [H.put_same]
            · refine Own.of_ext (h := ((h5.put q6 (.cells [.slc fid fsz (sfs.map SF.v), .lit (.int .i64 (k : Nat))] 50)).row 1).app fid (sfs.length + 1)) ?_ (by simp only [H.put_next]; omega) (by simp only [H.put_ext])
              have := Own.app (h := (h5.put q6 (.cells [.slc fid fsz (sfs.map SF.v), .lit (.int .i64 (k : Nat))] 50)).row 1) (id := fid) (k := sfs.length + 1) (w := 5) (lo := h.next) (by simp only [H.row_next, H.put_next]; omega) (by simp only [H.row_next]; omega)
              simp only [H.row_next, H.put_next] at this
              simpa using this
            · exact hsf2 _ (by simp only [H.put_next, H.app_next, H.row_next]; omega) (fun j hj => by simp only [H.put_arr, H.app_arr, H.row_arr])
            · simp only [H.put_next, H.app_next, H.row_next]; omega
            · simp [-Int.natCast_add, isM, xappendM, rowsIn, e0, e1, e2, e3, e4, e5, e6, e7, hw]
          · rw [b1, b2, b3] at hG
            simp only [Bool.or_true, if_true] at hG
            obtain rfl := Option.some.inj hG
            simp (maxSteps := 2000000) [-Int.natCast_add, isM, xappendM, rowsIn, -List.map_append, e0, e1, e2, e3, e4, e5, e6, e7, o65, ow5, om5, o25, n6, n7, n8, n9, n10, n11, n12, hap, b1, b2, b3]
            obtain rfl := Option.some.inj hr
            exact ⟨_, rfl, (((((hF5.put (show h.next ≤ q6 by omega) _).row1 1).app hOl _).put (by omega) _).put (by omega) _).put (by omega) _, 0, 0, [], rfl, rfl, fun h0 => absurd rfl h0, fun F hF => by cases hF⟩
        · rw [b1, b2] at hG
          simp only [Bool.or_true, Bool.true_or, if_true] at hG
          obtain rfl := Option.some.inj hG
          simp (maxSteps := 2000000) [-Int.natCast_add, isM, xappendM, rowsIn, -List.map_append, e0, e1, e2, e3, e4, e5, e6, e7, o65, ow5, om5, o25, n6, n7, n8, n9, n10, n11, n12, hap, b1, b2]
          obtain rfl := Option.some.inj hr
          exact ⟨_, rfl, (((((hF5.put (show h.next ≤ q6 by omega) _).row1 1).app hOl _).put (by omega) _).put (by omega) _).put (by omega) _, 0, 0, [], rfl, rfl, fun h0 => absurd rfl h0, fun F hF => by cases hF⟩
      · rw [b1] at hG
        simp only [Bool.true_or, if_true] at hG
        obtain rfl := Option.some.inj hG
        simp (maxSteps := 2000000) [-Int.natCast_add, isM, xappendM, rowsIn, -List.map_append, e0, e1, e2, e3, e4, e5, e6, e7, o65, ow5, om5, o25, n6, n7, n8, n9, n10, n11, n12, hap, b1]
        obtain rfl := Option.some.inj hr
        exact ⟨_, rfl, (((((hF5.put (show h.next ≤ q6 by omega) _).row1 1).app hOl _).put (by omega) _).put (by omega) _).put (by omega) _, 0, 0, [], rfl, rfl, fun h0 => absurd rfl h0, fun F hF => by cases hF⟩
  · have hke : k = ts.length := by omega
    have hlf : ltB (k : Int) (ts.length : Int) = false := ltB_f (by omega)
    rw [show ts.drop k = [] from List.drop_of_length_le (by omega)] at hG hmain
    simp only [List.map_nil, gFns, mainIx] at hG hmain
    obtain rfl := Option.some.inj hG
    subst hmain
    simp only at hr
    split at hr
    case isFalse => cases hr
    rename_i hall
    obtain rfl := Option.some.inj hr
    have hps : (sfs.map SF.sg).map (·.params) = sfs.map (·.params) := by rw [List.map_map]; rfl
    rw [hps] at hall
    rw [List.all_eq_true] at hall
    have hz5 : sfs ≠ [] → fsz = 5 := by
      intro hne
      rcases pO with ⟨q, _⟩ | ⟨_, _, q, _⟩
      · exact absurd (List.length_eq_zero_iff.1 q) hne
      · exact q
    simp [-Int.natCast_add, isM, xappendM, rowsIn, -List.map_append, e0, e1, e2, e3, e4, e5, e6, e7, hlf, p6]
    refine XW.loopH (PvJ h' q2 q6 sfs.length) (sfs.length + 1) ?_ ?_
    · refine ⟨0, by omega, by omega, Fr.refl _, ?_⟩
      simp [-Int.natCast_add, isM, xappendM, rowsIn, e0, e1, e2, e3, e4, e5, e6, e7]
    clear e0 e1 e2 e3 e4 e5 e6 e7 hlf
    rintro m' fr' h'' ⟨i, hmi, hi, hFv, e0, e1, e2, e3, e4⟩
    have p6' := (hFv.obj q6 (by omega)).trans p6
    have p2' := (hFv.obj q2 (by omega)).trans p2
    rcases Nat.lt_or_ge i sfs.length with hil | hil
    · have hil' : (i : Int) < (sfs.length : Int) := by omega
      have hw : IntKind.i64.wrap ((i : Int) + 1) = ((i + 1 : Nat) : Int) := wrapS (a := i) (b := 1) (by omega)
      have hv := hall (SF.sg sfs[i]) (List.mem_map.2 ⟨_, List.getElem_mem hil, rfl⟩)
      obtain ⟨res, hres⟩ := Option.isSome_iff_exists.1 hv
      have hvc := Virtual_calls h'' fid fsz sfs (mainIx (ts.map FnT.fn) 0 0) hz5 i hil ((pS _ (List.getElem_mem hil)).fr hFv) f res hres
      unfold prV at hvc
      simp [-Int.natCast_add, isM, xappendM, rowsIn, -List.map_append, e0, e1, e2, e3, e4, hil, hil', ltB_t, p6']
      refine hvc.mono ?_
      rintro _ h3 ⟨rfl, hF3⟩
      simp [-Int.natCast_add, isM, xappendM, rowsIn, -List.map_append, e0, e1, e2, e3, e4]
      refine ⟨m' - 1, by omega, i + 1, by omega, by omega, hFv.trans hF3, ?_⟩
      simp [-Int.natCast_add, isM, xappendM, rowsIn, e0, e1, e2, e3, e4, hw]
    · have hlf : ltB (i : Int) (sfs.length : Int) = false := ltB_f (by omega)
      simp [-Int.natCast_add, isM, xappendM, rowsIn, -List.map_append, e0, e1, e2, e3, e4, hlf, p6', p2']
      exact ⟨_, rfl, (hF.trans hFv).put (by omega) _, fid, fsz, sfs, rfl, rfl, hz5, fun F hF' => (pS F hF').keep (by simp only [H.put_next]; exact hFv.next) (fun j hj => by rw [H.put_arr]; exact hFv.arr j hj)⟩
end Go.Proofs.YtjofmihdeblbmaaGreatDoor.Xa
namespace Go.Proofs.YtjofmihdeblbmaaGreatDoor.Xa
open Go Go.RowKit
set_option linter.unusedVariables false
set_option linter.unusedSimpArgs false
set_option maxRecDepth 100000
set_option maxHeartbeats 2000000
theorem srcT_ok {f : Nat} {b : ByteArray} {sr : SrcR} (h : srcT f b = some sr) (he : sr.e = 0) : checkR f sr.l = some (sr.f, 0) ∧ sr.l.length ≤ 1000 ∧ ∀ F ∈ sr.l, F.params.length ≤ 1000000 := by
  unfold srcT at h
  split at h
  case h_1 => cases h
  rename_i p hp
  split at h
  case isFalse => cases h
  rename_i hg
  unfold srcR at h
  split at h
  · split at h
    case h_2 => cases h
    rename_i q hq
    split at h
    · rename_i hq0
      obtain rfl := Option.some.inj h
      have hq0' : q.2 = 0 := by simpa using hq0
      obtain ⟨q1, q2⟩ := q
      simp only at hq0'
      subst hq0'
      exact ⟨hq, hg.1, fun F hF => by simpa using List.all_eq_true.1 hg.2 F hF⟩
    · rename_i hq0
      obtain rfl := Option.some.inj h
      exact absurd (by simpa using he) hq0
  · rename_i hp0
    obtain rfl := Option.some.inj h
    exact absurd (by simpa using he) hp0
def GsQ (h : H) (r : GenR) : V → H → Prop := fun v h' => ∃ u, v = .tup [u, .lit (.int .i64 r.at_), .lit (.int .i64 r.e)] ∧ PrgP h r u h'
theorem PrgP.pre {h0 h : H} {r : GenR} {u : V} {h' : H} (x : PrgP h r u h') (y : Fr h0 h) : PrgP h0 r u h' := by
  obtain ⟨x1, x2⟩ := x
  exact ⟨y.trans x1, x2⟩
attribute [local simp] hid2 hid3 hid4 xcode_skip xcode_region xcode_draw xcode_loop xcode_seq xcode_cond xcode_block xcode_scope xcode_exit xcode_ret xops_nil xops_cons xd_nil xd_cons xstep_eq annot fillOf findFill findStore srcOf kcls cls qval qvalN xwant dstAt want1 xdo xop ev_const ev_global ev_func ev_zero ev_succ ev_undefs ev_hit ev_miss put_none put_len undefs_len xnil xfieldAddr fieldOf eT emtb seqQ blockQ xload xstore splice V.storable V.one V.cells mk xbinop xbin xun xbuiltin xindexAddr nilOr xindex xint cv cv1 retQ xres_tmp xres_cell xres_nil xresult xbuild xfill xbuildSlice xrows Nat.testBit places xfield item sideOk pendOk pendOf tyT1 tyT2 tyT3 tyT4 tyT5 tyT9 tyT22 tyT23 tyT24 tyT25 tyT26 tyT30 tyT34 tyT39 tyT41 tyT47 tyT48 tyT50 tyT53 tyT54 tyT56 tyT58 tyT63 tyT70 tyT76 tyT78 tyT80 tyT84 tyT87 tyT89 tyT96 tyT98 tyT100 tyT102 tyT108 tyT110 tyT112 tyT113 tyT115 tyT119 tyT121 tyT124 tyT138 tyT139 tyT141 tyT142 tyT143 tyT145 tyT147 tyT149 tyT155 tyT158 tyT164 tyT179 tyT186 tyT188 tyT189 tyT194 tyT197 tyT200 tyT216 tyT242 tyT245 H.put_get H.new_get H.row_obj H.grow_obj H.bump_obj H.newArr_obj H.putArr_obj H.moveArr_obj H.put_arr H.new_arr H.row_arr H.grow_arr H.bump_arr H.newArr_get H.putArr_get H.moveArr_get H.put_ext H.new_ext H.newArr_ext H.putArr_ext H.moveArr_ext H.bump_ext H.row_get H.grow_get H.new_next H.row_next H.bump_next H.put_next H.grow_next H.newArr_next H.putArr_next H.moveArr_next H.app_next H.app_obj H.app_arr H.app_get bne emT emM xapp_em xmakeSlice xslice xlookup xmapUpdate keyShape
theorem gsrc_calls (f f2 : Nat) (hf : f ≤ 1000000) (h : H) (b : ByteArray) (sr : SrcR) (hs : srcT f b = some sr) (r : GenR) (hr : genR f2 sr = some r) : XCalls e 24 [.lit (.string b)] h (GsQ h r) := by
  refine XCalls.of Tryz.func24 rfl (by kernel_rfl) ?_
  rw [Tryz.ntmps24]
  simp [-Int.natCast_add, isM, xappendM, rowsIn]
  refine (srcT_calls f hf _ b sr hs).mono ?_
  rintro _ h1 ⟨hF1, id, sz, oid, osz, ts, os, rfl, hts, hos, tok, ook, tz, oz⟩
  have hn1 := hF1.next
  simp only [H.new_next] at hn1
  have o2 := (hF1.obj h.next (by simp only [H.new_next]; omega)).trans (H.new_self _ _)
  have hF01 := (Fr.new h (.cells [.slc 0 0 [], .lit (.int .i64 0)] 50)).trans hF1
  unfold genR at hr
  cases he : (sr.e == 0)
  · rw [he] at hr
    simp only [Bool.false_eq_true, if_false] at hr
    obtain rfl := Option.some.inj hr
    simp [-Int.natCast_add, isM, xappendM, rowsIn, he, o2]
    exact ⟨_, rfl, hF01.put (Nat.le_refl _) _, 0, 0, [], rfl, rfl, fun h0 => absurd rfl h0, fun F hF => by cases hF⟩
  · rw [he] at hr
    simp only [if_true] at hr
    have he' : sr.e = 0 := by simpa using he
    obtain ⟨c1, c2, c3⟩ := srcT_ok hs he'
    rw [← hts, ← hos] at hr
    rw [← hts, ← hos] at c1
    rw [← hts] at c2 c3
    rw [hos] at hr c1
    simp [-Int.natCast_add, isM, xappendM, rowsIn, he, o2, he']
    refine (gprog_calls f2 f h1 id sz ts tz tok (by simpa using c2) (fun t ht => c3 (FnT.fn t) (List.mem_map.2 ⟨t, ht, rfl⟩)) sr.f c1 r hr).mono ?_
    rintro _ h2 ⟨u, rfl, hP⟩
    have hat : r.at_ = 0 := by
      unfold progG at hr
      split at hr
      · cases hr
      · obtain rfl := Option.some.inj hr; rfl
      · split at hr
        · obtain rfl := Option.some.inj hr; rfl
        · cases hr
    obtain ⟨hF2, fid, fsz, sfs, rfl, g1, g2, g3⟩ := hP
    have o22 := (hF2.obj h.next (by omega)).trans o2
    unfold prV
    simp [-Int.natCast_add, isM, xappendM, rowsIn, o22, hat]
    exact ⟨.agg (prV fid fsz sfs r.main), by rw [hat]; rfl, ((hF01.trans hF2).put (Nat.le_refl _) _).put (Nat.le_refl _) _, fid, fsz, sfs, rfl, g1, g2, fun F hF => (g3 F hF).keep (Nat.le_refl _) (fun j hj => rfl)⟩
end Go.Proofs.YtjofmihdeblbmaaGreatDoor.Xa
