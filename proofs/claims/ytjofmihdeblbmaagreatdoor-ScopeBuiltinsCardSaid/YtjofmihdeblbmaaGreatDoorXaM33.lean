/- XA, joined: XaAw XaBn. -/
import Derived.Test.YtjofmihdeblbmaaGreatDoorXaM32
/- XA: awake, the reference's Builtin. -/
namespace Go.Proofs.YtjofmihdeblbmaaGreatDoor.Xa
open Go Go.RowKit
set_option linter.unusedVariables false
set_option linter.unusedSimpArgs false
set_option maxRecDepth 100000
set_option maxHeartbeats 1000000
def chk {α : Type} (o : Option α) (q : α → Bool) : Bool := match o with
  | some r => q r
  | none => false
theorem opt_of {α : Type} {o : Option α} {q : α → Bool} (h : chk o q = true) : ∃ r, o = some r ∧ q r = true := by
  cases o with
  | none => cases h
  | some r => exact ⟨r, rfl, h⟩
theorem aw1_src' : chk (srcT 40 aw1) (fun r => r.e == 11) = true := by decide +kernel
theorem aw1_R : ∃ r, srcT 40 aw1 = some r ∧ r.e = 11 := by
  obtain ⟨r, h1, h2⟩ := opt_of aw1_src'
  exact ⟨r, h1, by simpa using h2⟩
def aw2_ok (r : SrcR) : Bool := r.e == 0 && match r.f with | [f] => f.locals == 1 && f.slots.length == 3 | _ => false
theorem aw2_src' : chk (srcT 40 aw2) aw2_ok = true := by decide +kernel
theorem aw2_R : ∃ r f, srcT 40 aw2 = some r ∧ r.e = 0 ∧ r.f = [f] ∧ f.locals = 1 ∧ f.slots.length = 3 := by
  obtain ⟨r, h1, h2⟩ := opt_of aw2_src'
  unfold aw2_ok at h2
  simp only [Bool.and_eq_true] at h2
  obtain ⟨h2, h3⟩ := h2
  split at h3
  case h_2 => cases h3
  rename_i f hf
  simp only [Bool.and_eq_true, beq_iff_eq] at h3
  exact ⟨r, f, h1, by simpa using h2, hf, h3.1, h3.2⟩
attribute [local simp] hid2 hid3 hid4 xcode_skip xcode_region xcode_draw xcode_loop xcode_seq xcode_cond xcode_block xcode_scope xcode_exit xcode_ret xops_nil xops_cons xd_nil xd_cons xstep_eq annot fillOf findFill findStore srcOf kcls cls qval qvalN xwant dstAt want1 xdo xop ev_const ev_global ev_func ev_zero ev_succ ev_undefs ev_hit ev_miss put_none put_len undefs_len xnil xfieldAddr fieldOf eT emtb seqQ blockQ xload xstore splice V.storable V.one V.cells mk xbinop xbin xun xbuiltin xindexAddr nilOr xindex xint cv cv1 retQ xres_tmp xres_cell xres_nil xresult xbuild xfill xbuildSlice xrows Nat.testBit places xfield item sideOk pendOk pendOf tyT1 tyT2 tyT3 tyT4 tyT5 tyT9 tyT22 tyT23 tyT24 tyT25 tyT26 tyT30 tyT34 tyT39 tyT41 tyT47 tyT48 tyT50 tyT53 tyT54 tyT56 tyT58 tyT63 tyT70 tyT76 tyT78 tyT80 tyT84 tyT87 tyT89 tyT96 tyT98 tyT100 tyT102 tyT108 tyT110 tyT112 tyT113 tyT115 tyT119 tyT121 tyT124 tyT138 tyT139 tyT141 tyT142 tyT143 tyT145 tyT147 tyT149 tyT155 tyT158 tyT164 tyT179 tyT186 tyT188 tyT189 tyT194 tyT197 tyT200 tyT216 tyT242 tyT245 H.put_get H.new_get H.row_obj H.grow_obj H.bump_obj H.newArr_obj H.putArr_obj H.moveArr_obj H.put_arr H.new_arr H.row_arr H.grow_arr H.bump_arr H.newArr_get H.putArr_get H.moveArr_get H.put_ext H.new_ext H.newArr_ext H.putArr_ext H.moveArr_ext H.bump_ext H.row_get H.grow_get H.new_next H.row_next H.bump_next H.put_next H.grow_next H.newArr_next H.putArr_next H.moveArr_next H.app_next H.app_obj H.app_arr H.app_get bne emT emM xapp_em xmakeSlice xslice xlookup xmapUpdate keyShape
theorem awake_calls (h : H) : XCalls e 15 [] h (fun v h' => v = .lit (.bool true) ∧ Fr h h') := by
  obtain ⟨r1, ha, ha1⟩ := aw1_R
  obtain ⟨r2, f, hb, hb1, hb2, hb3, hb4⟩ := aw2_R
  refine XCalls.of Tryz.func15 rfl (by kernel_rfl) ?_
  rw [Tryz.ntmps15]
  simp [-Int.natCast_add, isM, xappendM, rowsIn]
  refine (srcT_calls 40 (by decide) _ aw1 r1 ha).mono ?_
  rintro _ h1 ⟨hF, id, sz, oid, osz, ts, os, rfl, _⟩
  simp [-Int.natCast_add, isM, xappendM, rowsIn, ha1]
  refine (srcT_calls 40 (by decide) _ aw2 r2 hb).mono ?_
  rintro _ h2 ⟨hF2, id2, sz2, oid2, osz2, ts2, os2, rfl, q1, q2, q3, q4, q5, q6⟩
  rw [hb2] at q2
  obtain ⟨o, rfl, rfl⟩ : ∃ o, os2 = [o] ∧ o.r = f := by
    cases os2 with
    | nil => cases q2
    | cons o l => cases l with
      | nil => exact ⟨o, rfl, by simpa using q2⟩
      | cons => simp at q2
  have q6' := q6 (by simp)
  simp [-Int.natCast_add, isM, xappendM, rowsIn, hb1]
  refine (builtin_calls _ _).mono ?_
  rintro _ h' ⟨rfl, eh⟩
  rw [eh]
  clear eh h'
  have hbi : builtinR ⟨#[99, 120]⟩ = (14, 2, true) := by decide +kernel
  rw [hbi]
  unfold triV FunT.v sfV
  simp [-Int.natCast_add, isM, xappendM, rowsIn, hb1, hb3, hb4, q6', ha1]
  exact hF.trans hF2
theorem builtin4_calls (h : H) (nm : ByteArray) : XCalls e 17 [.lit (.string nm)] h (fun v h' => v = triV (builtinR nm) ∧ h' = h) := by
  refine XCalls.of Tryz.func17 rfl (by kernel_rfl) ?_
  rw [Tryz.ntmps17]
  unfold builtinR eqB triV
  cases g1 : (nm.data.toList == [112, 117, 115, 104])
  · cases g2 : (nm.data.toList == [99, 120])
    · cases g3 : (nm.data.toList == [108, 101, 110])
      · cases g4 : (nm.data.toList == [114, 101])
        · cases g5 : (nm.data.toList == [105, 109])
          · cases g6 : (nm.data.toList == [99, 111, 110, 106])
            · simp [-Int.natCast_add, isM, xappendM, rowsIn, bytes_list, g1, g2, g3, g4, g5, g6] <;> simp_all
            · simp [-Int.natCast_add, isM, xappendM, rowsIn, bytes_list, g1, g2, g3, g4, g5, g6] <;> simp_all
          · simp [-Int.natCast_add, isM, xappendM, rowsIn, bytes_list, g1, g2, g3, g4, g5] <;> simp_all
        · simp [-Int.natCast_add, isM, xappendM, rowsIn, bytes_list, g1, g2, g3, g4] <;> simp_all
      · simp [-Int.natCast_add, isM, xappendM, rowsIn, bytes_list, g1, g2, g3] <;> simp_all
    · simp [-Int.natCast_add, isM, xappendM, rowsIn, bytes_list, g1, g2] <;> simp_all
  · simp [-Int.natCast_add, isM, xappendM, rowsIn, bytes_list, g1] <;> simp_all
end Go.Proofs.YtjofmihdeblbmaaGreatDoor.Xa
/- XA: ScopeBuiltins; from a contract to a call in any world. -/
namespace Go.Proofs.YtjofmihdeblbmaaGreatDoor.Xa
open Go Go.RowKit
set_option linter.unusedVariables false
set_option linter.unusedSimpArgs false
set_option maxRecDepth 100000
set_option maxHeartbeats 1000000
def H.none : H := ⟨1, fun _ => Option.none, fun _ => Option.none, fun _ => Option.none⟩
def Kp.none (w : World) : Kp := ⟨w, 1, fun _ => Option.none, fun _ => Option.none, fun _ => Option.none, fun _ => Option.none, fun _ => Option.none⟩
theorem Rel.none (P : Program) (w : World) : Rel P (Kp.none w) H.none w where
  next := rfl
  pos := by decide
  below := Below.refl _ _
  obj := fun _ _ h => by cases h
  objb := fun _ _ h => by cases h
  inj := fun _ _ _ h => by cases h
  rt := fun _ _ h => by cases h
  row := fun _ _ h => by cases h
  ext := fun _ _ h => by cases h
  extinj := fun _ _ _ _ _ _ h => by cases h
  free := fun _ _ => ⟨rfl, rfl, rfl⟩
  hole := fun _ _ h => by cases h
  arr := fun _ _ h => by cases h
  arrb := fun _ _ h => by cases h
  arrinj := fun _ _ _ _ _ _ h => by cases h
  arro := fun _ _ _ h => by cases h
theorem XCalls.calls {f : FuncId} {args : List V} {Q : V → H → Prop} (c : XCalls e f args H.none Q) (cargs : Array Value) (w : World) (hI : Inv w) (ha : VRels (Kp.none w) args cargs.toList) :
    Calls Tryz.prog f cargs w fun e' w' => ∃ κ v cv h', e' = .returned cv ∧ VRel κ v cv ∧ Q v h' ∧ Below w.heap.size w w' := by
  refine (c.2 (Kp.none w) w cargs hI (Rel.none _ w) ha).mono ?_
  rintro e' w' ⟨κ, v, cv, h', h1, h2, h3, h4, h5⟩
  refine ⟨κ, v, cv, h', h1, h3, h5, ?_⟩
  have := h4.below
  rw [h2.w0] at this
  exact this
theorem XCalls.true_ {f : FuncId} {args : List V} {Q : H → Prop} (c : XCalls e f args H.none (fun v h' => v = .lit (.bool true) ∧ Q h')) (cargs : Array Value) (w : World) (hI : Inv w) (ha : VRels (Kp.none w) args cargs.toList) :
    Calls Tryz.prog f cargs w fun e' w' => e' = .returned (.bool true) ∧ Below w.heap.size w w' := by
  refine (c.calls cargs w hI ha).mono ?_
  rintro e' w' ⟨κ, v, cv, h', rfl, hv, ⟨rfl, _⟩, hB⟩
  cases hv
  exact ⟨rfl, hB⟩
def nmL (s : ByteArray) : List ByteArray := [s, ⟨#[112, 117, 115, 104]⟩, ⟨#[99, 120]⟩, ⟨#[108, 101, 110]⟩, ⟨#[114, 101]⟩, ⟨#[105, 109]⟩, ⟨#[99, 111, 110, 106]⟩, ⟨#[109, 97, 105, 110]⟩]
def BnJ (s : ByteArray) (h : H) (id : Nat) : Nat → List V → H → Prop := fun m fr' h' => ∃ i, m + i = 9 ∧ i ≤ 8 ∧ Fr h h' ∧ fr'.length = 51 ∧ ev fr' (.tmp 3) = .slc id 1 ((nmL s).map strV) ∧ ev fr' (.tmp 4) = .lit (.int .i64 (i : Nat))
attribute [local simp] hid2 hid3 hid4 xcode_skip xcode_region xcode_draw xcode_loop xcode_seq xcode_cond xcode_block xcode_scope xcode_exit xcode_ret xops_nil xops_cons xd_nil xd_cons xstep_eq annot fillOf findFill findStore srcOf kcls cls qval qvalN xwant dstAt want1 xdo xop ev_const ev_global ev_func ev_zero ev_succ ev_undefs ev_hit ev_miss put_none put_len undefs_len xnil xfieldAddr fieldOf eT emtb seqQ blockQ xload xstore splice V.storable V.one V.cells mk xbinop xbin xun xbuiltin xindexAddr nilOr xindex xint cv cv1 retQ xres_tmp xres_cell xres_nil xresult xbuild xfill xbuildSlice xrows Nat.testBit places xfield item sideOk pendOk pendOf tyT1 tyT2 tyT3 tyT4 tyT5 tyT9 tyT22 tyT23 tyT24 tyT25 tyT26 tyT30 tyT34 tyT39 tyT41 tyT47 tyT48 tyT50 tyT53 tyT54 tyT56 tyT58 tyT63 tyT70 tyT76 tyT78 tyT80 tyT84 tyT87 tyT89 tyT96 tyT98 tyT100 tyT102 tyT108 tyT110 tyT112 tyT113 tyT115 tyT119 tyT121 tyT124 tyT138 tyT139 tyT141 tyT142 tyT143 tyT145 tyT147 tyT149 tyT155 tyT158 tyT164 tyT179 tyT186 tyT188 tyT189 tyT194 tyT197 tyT200 tyT216 tyT242 tyT245 H.put_get H.new_get H.row_obj H.grow_obj H.bump_obj H.newArr_obj H.putArr_obj H.moveArr_obj H.put_arr H.new_arr H.row_arr H.grow_arr H.bump_arr H.newArr_get H.putArr_get H.moveArr_get H.put_ext H.new_ext H.newArr_ext H.putArr_ext H.moveArr_ext H.bump_ext H.row_get H.grow_get H.new_next H.row_next H.bump_next H.put_next H.grow_next H.newArr_next H.putArr_next H.moveArr_next H.app_next H.app_obj H.app_arr H.app_get bne emT emM xapp_em xmakeSlice xslice xlookup xmapUpdate keyShape
theorem scopeBuiltins_calls (h : H) (s : ByteArray) : XCalls e 4 [.lit (.string s)] h (fun v h' => v = .lit (.bool true) ∧ Fr h h') := by
  refine XCalls.of Tryz.func4 rfl (by kernel_rfl) ?_
  rw [Tryz.ntmps4]
  simp [-Int.natCast_add, isM, xappendM, rowsIn]
  refine XW.loopH (BnJ s h h.next) 9 ?_ ?_
  · refine ⟨0, by omega, by omega, ?_, ?_⟩
    · repeat' first | exact Fr.refl _ | assumption | refine Fr.put ?_ (by omega) _ | refine Fr.new1 ?_ _ | refine Fr.row1 ?_ _ | refine Fr.bump1 ?_ | refine Fr.app ?_ (by first | assumption | omega) _ | refine Fr.grow ?_ (by omega) _ | refine Fr.newArr1 ?_ _ | refine Fr.putArr ?_ (by omega) _ | refine Fr.moveArr ?_ (by omega) _ | refine Fr.trans ?_ (by assumption)
    · simp [-Int.natCast_add, isM, xappendM, rowsIn, nmL, strV]
  · rintro m fr' h' ⟨i, hm, hi, hF, e0, e1, e2⟩
    have hl : (nmL s).length = 8 := rfl
    by_cases hlt : i < 8
    · have hlt' : (i : Int) < 8 := by omega
      obtain ⟨x, hx⟩ : ∃ x, (nmL s)[i]? = some x := ⟨(nmL s)[i]'(by omega), List.getElem?_eq_getElem _⟩
      have hx2 : (nmL s)[i]'(by omega) = x := by
        have := List.getElem?_eq_getElem (l := nmL s) (i := i) (by omega)
        rw [hx] at this
        exact (Option.some.inj this).symm
      simp [-Int.natCast_add, isM, xappendM, rowsIn, e0, e1, e2, hl, hlt, hlt', ltB_t, hx, hx2, strV]
      refine (builtin_calls _ _).mono ?_
      rintro _ h1 ⟨rfl, eh⟩
      rw [eh]
      clear eh h1
      unfold triV
      simp [-Int.natCast_add, isM, xappendM, rowsIn, e0, e1, e2, hl, hlt, hlt', ltB_t, hx, hx2, strV]
      refine (builtin4_calls _ _).mono ?_
      rintro _ h1 ⟨rfl, eh⟩
      rw [eh]
      clear eh h1
      unfold triV
      simp [-Int.natCast_add, isM, xappendM, rowsIn, e0, e1, e2, hl, hlt, hlt', ltB_t, hx, hx2, strV]
      have hw : IntKind.i64.wrap ((i : Int) + 1) = ((i + 1 : Nat) : Int) := wrap_add (a := i) (b := 1) (by omega)
      refine ⟨m - 1, by omega, i + 1, by omega, by omega, hF, ?_⟩
      simp [-Int.natCast_add, isM, xappendM, rowsIn, e0, e1, e2, hw]
    · obtain rfl : i = 8 := by omega
      simp [-Int.natCast_add, isM, xappendM, rowsIn, e0, e1, e2, hl, ltB_f]
      refine (awake_calls _).mono ?_
      rintro _ h1 ⟨rfl, hF1⟩
      simp [-Int.natCast_add, isM, xappendM, rowsIn, e0, e1, e2]
      exact hF.trans hF1
end Go.Proofs.YtjofmihdeblbmaaGreatDoor.Xa
