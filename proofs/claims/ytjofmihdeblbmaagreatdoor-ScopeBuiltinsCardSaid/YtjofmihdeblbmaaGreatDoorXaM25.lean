/- XA, joined: XaS7 XaS8 XaQ3 XaQ4. -/
import Derived.Test.YtjofmihdeblbmaaGreatDoorXaM24
/- XA, part S7: a result told in other words; begin, as far as Tokens is known. -/
namespace Go.Proofs.YtjofmihdeblbmaaGreatDoor.Xa
open Go Go.RowKit
set_option linter.unusedVariables false
set_option linter.unusedSimpArgs false
set_option maxRecDepth 100000
set_option maxHeartbeats 1000000
theorem XCalls.conv {E : Env} {f : FuncId} {args : List V} {h : H} {Q Q' : V → H → Prop} (c : XCalls E f args h Q) (hq : ∀ v h', Q v h' → ∃ v', Q' v' h' ∧ ∀ κ cc, VRel κ v cc → VRel κ v' cc) : XCalls E f args h Q' :=
  ⟨c.1, fun κ w cargs hI R ha => (c.2 κ w cargs hI R ha).mono fun e w' ⟨κ', v, cc, h', h1, h2, h3, h4, h5⟩ =>
    let ⟨v', q1, q2⟩ := hq v h' h5
    ⟨κ', v', cc, h', h1, h2, q2 κ' cc h3, h4, q1⟩⟩
/-- a nil row has no size -/
theorem nil_any {κ : Kp} {sz : Nat} {cc : Value} (h : VRel κ (.slc 0 0 []) cc) : VRel κ (.slc 0 sz []) cc := by
  generalize hv : V.slc 0 0 [] = v at h
  cases h <;> cases hv
  · exact .nil sz
  · rename_i h0 _ _ _ _ _ _
    all_goals omega
def TokP (h : H) (toks : List Tok) (a ee : Int) : V → H → Prop := fun v h' => ∃ tid, v = .tup [.slc tid 4 (toks.map Tok.v), .lit (.int .i64 a), .lit (.int .i64 ee)] ∧ Fr h h'
def BegP (h : H) (b : ByteArray) (toks : List Tok) (a ee : Int) : V → H → Prop := fun v h' => ∃ c h1, v = .ptr (PC.p c) 0 ∧ c.toks = toks ∧ c.long = b.size ∧ h' = c.at_ h1 ⟨0, 0, a, ee⟩ ∧ Fr h h1 ∧ h.next ≤ c.p ∧ c.p < h1.next
attribute [local simp] hid2 hid3 hid4 xcode_skip xcode_region xcode_draw xcode_loop xcode_seq xcode_cond xcode_block xcode_scope xcode_exit xcode_ret xops_nil xops_cons xd_nil xd_cons xstep_eq annot fillOf findFill findStore srcOf kcls cls qval qvalN xwant dstAt want1 xdo xop ev_const ev_global ev_func ev_zero ev_succ ev_undefs ev_hit ev_miss put_none put_len undefs_len xnil xfieldAddr fieldOf eT emtb seqQ blockQ xload xstore splice V.storable V.one V.cells mk xbinop xbin xun xbuiltin xindexAddr nilOr xindex xint cv cv1 retQ xres_tmp xres_cell xres_nil xresult xbuild xfill xbuildSlice xrows Nat.testBit places xfield item sideOk pendOk pendOf tyT1 tyT2 tyT3 tyT4 tyT5 tyT9 tyT22 tyT23 tyT24 tyT25 tyT26 tyT30 tyT34 tyT39 tyT41 tyT47 tyT48 tyT50 tyT53 tyT54 tyT56 tyT58 tyT63 tyT70 tyT76 tyT78 tyT80 tyT84 tyT87 tyT89 tyT96 tyT98 tyT100 tyT102 tyT108 tyT110 tyT112 tyT113 tyT115 tyT119 tyT121 tyT124 tyT138 tyT139 tyT141 tyT142 tyT143 tyT145 tyT147 tyT149 tyT155 tyT158 tyT164 tyT179 tyT186 tyT188 tyT189 tyT194 tyT197 tyT200 tyT216 tyT242 tyT245 isM bne PC.at_obj PC.put_at PC.at_at PC.at_eq H.put_same H.put_put Tok.v PC.at_next PC.at_ext PC.at_row PC.at_bump PC.at_grow PC.at_new PC.at_put PC.at_obj_ne H.new_self H.new_ne H.row_obj H.put_next TN.v_len TN.v_take TN.v_drop
theorem begin_calls (h : H) (b : ByteArray) (toks : List Tok) (a ee : Int) (ht : XCalls e 72 [.lit (.string b)] h (TokP h toks a ee)) : XCalls e 40 [.lit (.string b)] h (BegP h b toks a ee) := by
  refine XCalls.of Tryz.func40 rfl (by kernel_rfl) ?_
  rw [Tryz.ntmps40]
  simp [-Int.natCast_add]
  refine ht.mono ?_
  rintro _ h2 ⟨tid, rfl, hF⟩
  simp [-Int.natCast_add]
  refine ⟨⟨h2.next, tid, toks, b.size⟩, h2.new (PC.obj ⟨h2.next, tid, toks, b.size⟩ ⟨0, 0, a, ee⟩), rfl, rfl, rfl, ?_, hF.trans (Fr.new _ _), hF.next, Nat.lt_succ_self _⟩
  exact (H.put_self (H.new_self _ _)).symm
end Go.Proofs.YtjofmihdeblbmaaGreatDoor.Xa
/- XA, part S8: Expr, as far as Tokens is known. -/
namespace Go.Proofs.YtjofmihdeblbmaaGreatDoor.Xa
open Go Go.RowKit
set_option linter.unusedVariables false
set_option linter.unusedSimpArgs false
set_option maxRecDepth 100000
set_option maxHeartbeats 1000000
def endS (c : PC) (s : PS) : PS := if s.e == 0 && decide (s.i < c.toks.length) then wrongS c s 10 else s
def EP (h : H) (nd : Nd) (a ee : Int) : V → H → Prop := fun v h' => Fr h h' ∧ ∃ T : TN, T.nd = nd ∧ v = .tup [.agg T.v, .lit (.int .i64 a), .lit (.int .i64 ee)]
attribute [local simp] hid2 hid3 hid4 xcode_skip xcode_region xcode_draw xcode_loop xcode_seq xcode_cond xcode_block xcode_scope xcode_exit xcode_ret xops_nil xops_cons xd_nil xd_cons xstep_eq annot fillOf findFill findStore srcOf kcls cls qval qvalN xwant dstAt want1 xdo xop ev_const ev_global ev_func ev_zero ev_succ ev_undefs ev_hit ev_miss put_none put_len undefs_len xnil xfieldAddr fieldOf eT emtb seqQ blockQ xload xstore splice V.storable V.one V.cells mk xbinop xbin xun xbuiltin xindexAddr nilOr xindex xint cv cv1 retQ xres_tmp xres_cell xres_nil xresult xbuild xfill xbuildSlice xrows Nat.testBit places xfield item sideOk pendOk pendOf tyT1 tyT2 tyT3 tyT4 tyT5 tyT9 tyT22 tyT23 tyT24 tyT25 tyT26 tyT30 tyT34 tyT39 tyT41 tyT47 tyT48 tyT50 tyT53 tyT54 tyT56 tyT58 tyT63 tyT70 tyT76 tyT78 tyT80 tyT84 tyT87 tyT89 tyT96 tyT98 tyT100 tyT102 tyT108 tyT110 tyT112 tyT113 tyT115 tyT119 tyT121 tyT124 tyT138 tyT139 tyT141 tyT142 tyT143 tyT145 tyT147 tyT149 tyT155 tyT158 tyT164 tyT179 tyT186 tyT188 tyT189 tyT194 tyT197 tyT200 tyT216 tyT242 tyT245 isM bne PC.at_obj PC.put_at PC.at_at PC.at_eq H.put_same H.put_put Tok.v PC.at_next PC.at_ext PC.at_row PC.at_bump PC.at_grow PC.at_new PC.at_put PC.at_obj_ne H.new_self H.new_ne H.row_obj H.put_next TN.v_len TN.v_take TN.v_drop
theorem expr_calls (f : Nat) (hf : f ≤ 1000000) (h : H) (b : ByteArray) (toks : List Tok) (htk : toks.length ≤ 1000000) (a ee : Int) (nd : Nd) (s1 s2 : PS) (hs : ∀ p tid, pLevel f ⟨p, tid, toks, b.size⟩ ⟨0, 0, a, ee⟩ 1 = some (nd, s1)) (he : ∀ p tid, endS ⟨p, tid, toks, b.size⟩ s1 = s2)
    (ht : ∀ h, XCalls e 72 [.lit (.string b)] h (TokP h toks a ee)) :
    XCalls e 22 [.lit (.string b)] h (EP h (if s2.e == 0 then nd else nd0) (if s2.e == 0 then 0 else s2.at_) s2.e) := by
  refine XCalls.of Tryz.func22 rfl (by kernel_rfl) ?_
  rw [Tryz.ntmps22]
  simp [-Int.natCast_add]
  refine (begin_calls _ b toks a ee (ht _)).mono ?_
  rintro _ _ ⟨c, h1, rfl, hct, hcl, rfl, hF, hcp, hp⟩
  have hc : c.ok := ⟨by rw [hct]; exact htk⟩
  have hceq : (⟨c.p, c.tid, toks, b.size⟩ : PC) = c := by cases c; simp_all
  have hs' := hs c.p c.tid
  have hE := he c.p c.tid
  rw [hceq] at hs' hE
  clear hs he hceq
  have hle : h.next ≤ c.p := Nat.le_of_lt hcp
  have l1 : h.next < h1.next := Nat.lt_of_lt_of_le (Nat.lt_succ_self _) hF.next
  have n1 : h.next ≠ c.p := by have : (h.new (.cells [] 0)).next ≤ c.p := hcp; have : h.next + 1 ≤ c.p := this; omega
  simp [-Int.natCast_add]
  refine ((ex f hf).level c h1 _ 1 nd s1 hc hp hs').mono ?_
  rintro _ _ ⟨h2, hF2, rfl, T, rfl, rfl⟩
  have o2 := (hF2.obj h.next l1).trans (hF.obj h.next (Nat.lt_succ_self _))
  rw [H.new_self] at o2
  simp [-Int.natCast_add, n1, o2]
  refine XW.drawH mixed (L := List.range 17) (by kernel_rfl) ?_
  simp only [List.range, List.range.loop, List.map_cons, List.map_nil, item]
  simp only [annot, fillOf, findFill, findStore, srcOf, List.getD_cons_succ, List.getD_cons_zero]
  unfold endS at hE
  have fin : Fr h (h2.put h.next (.cells T.v 41)) := ((((Fr.new _ _).trans hF).trans hF2)).put (Nat.le_refl _) _
  cases h0 : (s1.e == 0)
  · have h0' : ¬ s1.e = 0 := by simpa using h0
    simp [h0'] at hE
    subst hE
    simp [-Int.natCast_add, h0, h0', n1]
    refine XW.drawB mixed (L := List.range 12) (B := [0, 0, 2, 6, 14, 0, 32, 96, 224, 1, 543, 2047]) (by kernel_rfl) (by kernel_rfl) ?_
    simp only [List.range, List.range.loop, List.map_cons, List.map_nil, item]
    simp only [annot, fillOf, findFill, findStore, srcOf, List.getD_cons_succ, List.getD_cons_zero]
    simp [-Int.natCast_add, h0, h0', n1]
    exact ⟨Fr.put (Fr.put (((Fr.new _ _).trans hF).trans hF2) (Nat.le_refl _) _) hle _, .leaf 0 0 ⟨#[]⟩ 0, rfl, rfl⟩
  · have h0' : s1.e = 0 := by simpa using h0
    rcases Nat.lt_or_ge s1.i c.toks.length with hi | hi
    · simp [h0', hi] at hE
      subst hE
      have hwe : (wrongS c s1 10).e = 10 := by unfold wrongS; rw [if_pos h0]
      have hwe2 : ((wrongS c s1 10).e == 0) = false := by rw [hwe]; rfl
      simp [-Int.natCast_add, h0, h0', n1, hi, ltB_t]
      refine (wrong_calls c _ s1 10).mono ?_
      rintro _ _ ⟨rfl, rfl⟩
      simp [-Int.natCast_add, n1, hwe2, hwe]
      refine XW.drawB mixed (L := List.range 12) (B := [0, 0, 2, 6, 14, 0, 32, 96, 224, 1, 543, 2047]) (by kernel_rfl) (by kernel_rfl) ?_
      simp only [List.range, List.range.loop, List.map_cons, List.map_nil, item]
      simp only [annot, fillOf, findFill, findStore, srcOf, List.getD_cons_succ, List.getD_cons_zero]
      simp [-Int.natCast_add, n1, hwe2, hwe]
      exact ⟨Fr.put (Fr.put (((Fr.new _ _).trans hF).trans hF2) (Nat.le_refl _) _) hle _, .leaf 0 0 ⟨#[]⟩ 0, rfl, rfl⟩
    · simp [h0', Nat.not_lt.2 hi] at hE
      subst hE
      simp [-Int.natCast_add, h0, h0', n1, hi, ltB_f]
      exact ⟨Fr.put (Fr.put (((Fr.new _ _).trans hF).trans hF2) (Nat.le_refl _) _) hle _, T, rfl, rfl⟩
end Go.Proofs.YtjofmihdeblbmaaGreatDoor.Xa
/- XA, part Q3: Program, as plain functions. -/
namespace Go.Proofs.YtjofmihdeblbmaaGreatDoor.Xa
open Go Go.RowKit
set_option linter.unusedVariables false
/-- the loop: functions so far, whether one has too many parameters -/
def pProgL (f : Nat) : Nat → PC → PS → Bool → List FnN → Option (List FnN × Bool × PS)
  | 0, _, _, _, _ => none
  | m + 1, c, s, many, acc => if s.e == 0 && decide (s.i < c.toks.length) then match pFun f c s with
      | some (fn, s1) => pProgL f m c s1 (many || decide (8 < fn.params.length)) (acc ++ [fn])
      | none => none
    else some (acc, many, s)
/-- what Program tells: functions, where, which error -/
def progR (r : List FnN × Bool × PS) : List FnN × Int × Int :=
  if r.2.2.e == 0 then if r.2.1 || decide (16 < r.1.length) then ([], 0, 65) else (r.1, 0, 0) else ([], r.2.2.at_, r.2.2.e)
end Go.Proofs.YtjofmihdeblbmaaGreatDoor.Xa
/- XA, part Q4: Program, as far as Tokens is known. -/
namespace Go.Proofs.YtjofmihdeblbmaaGreatDoor.Xa
open Go Go.RowKit
set_option linter.unusedVariables false
set_option linter.unusedSimpArgs false
set_option maxRecDepth 100000
set_option maxHeartbeats 1000000
def FnT.ok (t : FnT) : Prop := (t.params = [] ∧ t.pid = 0 ∧ t.psz = 0) ∨ (t.pid ≠ 0 ∧ t.psz = 1)
def FnsV (l : List FnN) (id sz : Nat) (ts : List FnT) : Prop := ts.map FnT.fn = l ∧ (∀ t ∈ ts, t.ok) ∧ (ts ≠ [] → sz = 7)
def ProgP (h : H) (r : List FnN × Int × Int) : V → H → Prop := fun v h' => Fr h h' ∧ ∃ id sz ts, v = .tup [.slc id sz (ts.map FnT.v), .lit (.int .i64 r.2.1), .lit (.int .i64 r.2.2)] ∧ FnsV r.1 id sz ts
theorem XCalls.args {E : Env} {f : FuncId} {args args' : List V} {h : H} {Q : V → H → Prop} (c : XCalls E f args' h Q) (hc : ∀ κ cs, VRels κ args cs → VRels κ args' cs) : XCalls E f args h Q :=
  ⟨c.1, fun κ w cargs hI R ha => c.2 κ w cargs hI R (hc _ _ ha)⟩
attribute [local simp] hid2 hid3 hid4 xcode_skip xcode_region xcode_draw xcode_loop xcode_seq xcode_cond xcode_block xcode_scope xcode_exit xcode_ret xops_nil xops_cons xd_nil xd_cons xstep_eq annot fillOf findFill findStore srcOf kcls cls qval qvalN xwant dstAt want1 xdo xop ev_const ev_global ev_func ev_zero ev_succ ev_undefs ev_hit ev_miss put_none put_len undefs_len xnil xfieldAddr fieldOf eT emtb seqQ blockQ xload xstore splice V.storable V.one V.cells mk xbinop xbin xun xbuiltin xindexAddr nilOr xindex xint cv cv1 retQ xres_tmp xres_cell xres_nil xresult xbuild xfill xbuildSlice xrows Nat.testBit places xfield item sideOk pendOk pendOf tyT1 tyT2 tyT3 tyT4 tyT5 tyT9 tyT22 tyT23 tyT24 tyT25 tyT26 tyT30 tyT34 tyT39 tyT41 tyT47 tyT48 tyT50 tyT53 tyT54 tyT56 tyT58 tyT63 tyT70 tyT76 tyT78 tyT80 tyT84 tyT87 tyT89 tyT96 tyT98 tyT100 tyT102 tyT108 tyT110 tyT112 tyT113 tyT115 tyT119 tyT121 tyT124 tyT138 tyT139 tyT141 tyT142 tyT143 tyT145 tyT147 tyT149 tyT155 tyT158 tyT164 tyT179 tyT186 tyT188 tyT189 tyT194 tyT197 tyT200 tyT216 tyT242 tyT245
theorem clipf_calls (h : H) (id : Nat) (xs : List (List V)) (h0 : id = 0 → xs = []) :
    XCalls e 50 [.slc id 7 xs] h (fun v h' => Fr h h' ∧ ∃ id', v = .slc id' 7 xs) := by
  refine XCalls.of Tryz.func50 rfl (by kernel_rfl) ?_
  rw [Tryz.ntmps50]
  by_cases hid : id = 0
  · have := h0 hid
    subst this hid
    simp [-Int.natCast_add, H.put_get, H.new_get, H.row_obj, H.grow_obj, H.bump_obj, H.newArr_obj, H.putArr_obj, H.moveArr_obj, H.put_arr, H.new_arr, H.row_arr, H.grow_arr, H.bump_arr, H.newArr_get, H.putArr_get, H.moveArr_get, H.put_ext, H.new_ext, H.newArr_ext, H.putArr_ext, H.moveArr_ext, H.bump_ext, H.row_get, H.grow_get, H.new_next, H.row_next, H.bump_next, H.put_next, H.grow_next, H.newArr_next, H.putArr_next, H.moveArr_next, H.app_next, H.app_obj, H.app_arr, H.app_get, bne, emT, emM, xapp_em, xmakeSlice, xslice, xlookup, xmapUpdate, keyShape, isM, xappendM, rowsIn]
    exact Fr.refl _
  · simp [-Int.natCast_add, H.put_get, H.new_get, H.row_obj, H.grow_obj, H.bump_obj, H.newArr_obj, H.putArr_obj, H.moveArr_obj, H.put_arr, H.new_arr, H.row_arr, H.grow_arr, H.bump_arr, H.newArr_get, H.putArr_get, H.moveArr_get, H.put_ext, H.new_ext, H.newArr_ext, H.putArr_ext, H.moveArr_ext, H.bump_ext, H.row_get, H.grow_get, H.new_next, H.row_next, H.bump_next, H.put_next, H.grow_next, H.newArr_next, H.putArr_next, H.moveArr_next, H.app_next, H.app_obj, H.app_arr, H.app_get, bne, emT, emM, xapp_em, xmakeSlice, xslice, xlookup, xmapUpdate, keyShape, isM, xappendM, rowsIn, hid]
    exact Fr.bump _
theorem FnT.v_par (T : FnT) : List.take 1 (FnT.v T).tail = [.slc T.pid T.psz (T.params.map strV)] := by exact (_root_.id rfl)
def ProgJ (f : Nat) (c : PC) (h h1 : H) (r : List FnN × Bool × PS) : Nat → List V → H → Prop := fun m fr' h' => ∃ (s1 : PS) (ts : List FnT) (id sz : Nat) (many : Bool) (h4 : H), m + ts.length ≤ f ∧ pProgL f m c s1 many (ts.map FnT.fn) = some r ∧ h' = c.at_ h4 s1 ∧ Fr h1 h4 ∧ (∀ t ∈ ts, t.ok) ∧ Own h4 id sz ts.length 7 h1.next ∧
  fr'.length = 61 ∧ ev fr' (.tmp 2) = .slc id sz (ts.map FnT.v) ∧ ev fr' (.tmp 3) = .lit (.int .i64 0) ∧ ev fr' (.tmp 4) = .lit (.int .i64 0) ∧ ev fr' (.tmp 5) = .ptr c.p 0 ∧ ev fr' (.tmp 6) = .lit (.bool many)
theorem program_calls (f : Nat) (hf : f ≤ 1000000) (h : H) (b : ByteArray) (toks : List Tok) (htk : toks.length ≤ 1000000) (a ee : Int) (r : List FnN × Bool × PS) (hs : ∀ p tid, pProgL f f ⟨p, tid, toks, b.size⟩ ⟨0, 0, a, ee⟩ false [] = some r)
    (ht : ∀ h, XCalls e 72 [.lit (.string b)] h (TokP h toks a ee)) :
    XCalls e 28 [.lit (.string b)] h (ProgP h (progR r)) := by
  refine XCalls.of Tryz.func28 rfl (by kernel_rfl) ?_
  rw [Tryz.ntmps28]
  simp [-Int.natCast_add, isM, bne, PC.at_obj, PC.put_at, PC.at_at, PC.at_eq, H.put_same, H.put_put, Tok.v, PC.at_next, PC.at_ext, PC.at_row, PC.at_bump, PC.at_grow, PC.at_new, PC.at_put, PC.at_obj_ne, H.new_self, H.new_ne, H.row_obj, H.put_next, TN.v_len, TN.v_take, TN.v_drop]
  refine (begin_calls _ b toks a ee (ht _)).mono ?_
  rintro _ _ ⟨c, h1, rfl, hct, hcl, rfl, hF, hcp, hp⟩
  have hc : c.ok := ⟨by rw [hct]; exact htk⟩
  have hceq : (⟨c.p, c.tid, toks, b.size⟩ : PC) = c := by cases c; simp_all
  have hs' := hs c.p c.tid
  rw [hceq] at hs'
  clear hs hceq
  simp [-Int.natCast_add, isM, bne, PC.at_obj, PC.put_at, PC.at_at, PC.at_eq, H.put_same, H.put_put, Tok.v, PC.at_next, PC.at_ext, PC.at_row, PC.at_bump, PC.at_grow, PC.at_new, PC.at_put, PC.at_obj_ne, H.new_self, H.new_ne, H.row_obj, H.put_next, TN.v_len, TN.v_take, TN.v_drop]
  refine XW.loopH (ProgJ f c h h1 r) f ?_ ?_
  · refine ⟨_, [], 0, 0, false, h1, by simp, hs', rfl, Fr.refl _, by simp, .inl ⟨rfl, rfl, rfl⟩, ?_⟩
    simp [-Int.natCast_add, isM, bne, PC.at_obj, PC.put_at, PC.at_at, PC.at_eq, H.put_same, H.put_put, Tok.v, PC.at_next, PC.at_ext, PC.at_row, PC.at_bump, PC.at_grow, PC.at_new, PC.at_put, PC.at_obj_ne, H.new_self, H.new_ne, H.row_obj, H.put_next, TN.v_len, TN.v_take, TN.v_drop]
  · rintro m fr' h' ⟨s1, ts, id, sz, many, h4, hm, hs, rfl, hF4, hok, hid, e0, e1, e2, e3, e4, e5⟩
    have p4 : c.p < h4.next := Nat.lt_of_lt_of_le hp hF4.next
    have l4 : h1.next ≤ h4.next := hF4.next
    cases m with
    | zero => unfold pProgL at hs; cases hs
    | succ m =>
    unfold pProgL at hs
    simp [-Int.natCast_add, isM, bne, PC.at_obj, PC.put_at, PC.at_at, PC.at_eq, H.put_same, H.put_put, Tok.v, PC.at_next, PC.at_ext, PC.at_row, PC.at_bump, PC.at_grow, PC.at_new, PC.at_put, PC.at_obj_ne, H.new_self, H.new_ne, H.row_obj, H.put_next, TN.v_len, TN.v_take, TN.v_drop, e0, e1, e2, e3, e4, e5]
    refine XW.drawH mixed (L := List.range 17) (by kernel_rfl) ?_
    simp only [List.range, List.range.loop, List.map_cons, List.map_nil, item]
    simp only [annot, fillOf, findFill, findStore, srcOf, List.getD_cons_succ, List.getD_cons_zero]
    by_cases hgo : (s1.e == 0) = true ∧ s1.i < c.toks.length
    · obtain ⟨he1, hi1⟩ := hgo
      have hz1 : s1.e = 0 := by simpa using he1
      simp [he1, hi1] at hs
      split at hs
      case h_2 => cases hs
      rename_i fn s2 hfun
      simp [-Int.natCast_add, isM, bne, PC.at_obj, PC.put_at, PC.at_at, PC.at_eq, H.put_same, H.put_put, Tok.v, PC.at_next, PC.at_ext, PC.at_row, PC.at_bump, PC.at_grow, PC.at_new, PC.at_put, PC.at_obj_ne, H.new_self, H.new_ne, H.row_obj, H.put_next, TN.v_len, TN.v_take, TN.v_drop, e0, e1, e2, e3, e4, e5, hz1, hi1, ltB_t]
      refine (fun_calls f hf c h4 s1 fn s2 hc p4 hfun).mono ?_
      rintro _ _ ⟨h5, hF5, rfl, T, rfl, rfl, hT⟩
      have l5 : h4.next ≤ h5.next := hF5.next
      have n5 : h5.next ≠ c.p := by omega
      have p5 : c.p < h5.next := Nat.lt_of_lt_of_le p4 hF5.next
      have hlen : ts.length < 1000000 := by omega
      have hlen2 : (ts ++ [T]).length = ts.length + 1 := by simp
      have hok2 : ∀ t ∈ ts ++ [T], t.ok := fun t ht => by
        rcases List.mem_append.1 ht with ht | ht
        · exact hok t ht
        · rw [List.mem_singleton.1 ht]; exact hT
      have hF6 : Fr h4 (((h5.new (.cells [.lit (.string ⟨#[]⟩), .slc 0 0 [], .lit (.int .i64 0), .lit (.int .i64 0), .lit (.string ⟨#[]⟩), .lit (.int .i64 0), .slc 0 0 []] 70)).put h5.next (.cells T.v 70)).row 1) := by
        repeat' first | exact Fr.refl _ | assumption | refine Fr.put ?_ (by omega) _ | refine Fr.new1 ?_ _ | refine Fr.row1 ?_ _ | refine Fr.bump1 ?_ | refine Fr.app ?_ (by first | assumption | omega) _ | refine Fr.grow ?_ (by omega) _ | refine Fr.newArr1 ?_ _ | refine Fr.putArr ?_ (by omega) _ | refine Fr.moveArr ?_ (by omega) _ | refine Fr.trans ?_ (by assumption)
      have hO : Own (((h5.new (.cells [.lit (.string ⟨#[]⟩), .slc 0 0 [], .lit (.int .i64 0), .lit (.int .i64 0), .lit (.string ⟨#[]⟩), .lit (.int .i64 0), .slc 0 0 []] 70)).put h5.next (.cells T.v 70)).row 1) id sz (ts.map FnT.v).length 7 h1.next := by
        rw [List.length_map]; exact hid.mono hF6
      have hFr : Fr h1 ((((h5.new (.cells [.lit (.string ⟨#[]⟩), .slc 0 0 [], .lit (.int .i64 0), .lit (.int .i64 0), .lit (.string ⟨#[]⟩), .lit (.int .i64 0), .slc 0 0 []] 70)).put h5.next (.cells T.v 70)).row 1).app id (ts.length + 1)) := (hF4.trans hF6).app hid.low _
      have hap : ∀ k, (c.at_ (((h5.new (.cells [.lit (.string ⟨#[]⟩), .slc 0 0 [], .lit (.int .i64 0), .lit (.int .i64 0), .lit (.string ⟨#[]⟩), .lit (.int .i64 0), .slc 0 0 []] 70)).put h5.next (.cells T.v 70)).row 1) s2).app id k = c.at_ ((((h5.new (.cells [.lit (.string ⟨#[]⟩), .slc 0 0 [], .lit (.int .i64 0), .lit (.int .i64 0), .lit (.string ⟨#[]⟩), .lit (.int .i64 0), .slc 0 0 []] 70)).put h5.next (.cells T.v 70)).row 1).app id k) s2 := fun k => PC.at_app _ _ _ _ _
      cases many
      · simp [-Int.natCast_add, isM, bne, PC.at_obj, PC.put_at, PC.at_at, PC.at_eq, H.put_same, H.put_put, Tok.v, PC.at_next, PC.at_ext, PC.at_row, PC.at_bump, PC.at_grow, PC.at_new, PC.at_put, PC.at_obj_ne, H.new_self, H.new_ne, H.row_obj, H.put_next, TN.v_len, TN.v_take, TN.v_drop, e0, e1, e2, e3, e4, e5, n5, p5, FnT.v_len, FnT.v_take, FnT.v_drop, FnT.v_par]
        rw [xapp_own 24 (w := 7) rfl rfl rfl rfl (by decide) (lo := h1.next) ?a1 ?a2 ?a3 ?a4 ?a5]
        case a1 => exact hO
        case a2 => simp [H.new_next]
        case a3 => simp
        case a4 => simp; omega
        case a5 => simp [maxLen]; omega
        simp
        refine ⟨m, by omega, s2, ts ++ [T], h5.next + 1 + 1, 7, decide (8 < T.params.length), _, by rw [hlen2]; omega, ?_, hap _, hFr, hok2, ?_, ?_⟩
        · rw [List.map_append]; exact hs
        · rw [hlen2]
          exact Own.app (by simp [H.row_next, H.put_next, H.new_next]; omega) (by simp [H.row_next])
        · simp [-Int.natCast_add, isM, bne, PC.at_obj, PC.put_at, PC.at_at, PC.at_eq, H.put_same, H.put_put, Tok.v, PC.at_next, PC.at_ext, PC.at_row, PC.at_bump, PC.at_grow, PC.at_new, PC.at_put, PC.at_obj_ne, H.new_self, H.new_ne, H.row_obj, H.put_next, TN.v_len, TN.v_take, TN.v_drop, e0, e1, e2, e3, e4, e5, ltB, H.row_next, H.put_next, H.new_next]
          omega
      · simp [-Int.natCast_add, isM, bne, PC.at_obj, PC.put_at, PC.at_at, PC.at_eq, H.put_same, H.put_put, Tok.v, PC.at_next, PC.at_ext, PC.at_row, PC.at_bump, PC.at_grow, PC.at_new, PC.at_put, PC.at_obj_ne, H.new_self, H.new_ne, H.row_obj, H.put_next, TN.v_len, TN.v_take, TN.v_drop, e0, e1, e2, e3, e4, e5, n5, p5, FnT.v_len, FnT.v_take, FnT.v_drop, FnT.v_par]
        rw [xapp_own 24 (w := 7) rfl rfl rfl rfl (by decide) (lo := h1.next) ?a1 ?a2 ?a3 ?a4 ?a5]
        case a1 => exact hO
        case a2 => simp [H.new_next]
        case a3 => simp
        case a4 => simp; omega
        case a5 => simp [maxLen]; omega
        simp
        refine ⟨m, by omega, s2, ts ++ [T], h5.next + 1 + 1, 7, true, _, by rw [hlen2]; omega, ?_, hap _, hFr, hok2, ?_, ?_⟩
        · rw [List.map_append]; exact hs
        · rw [hlen2]
          exact Own.app (by simp [H.row_next, H.put_next, H.new_next]; omega) (by simp [H.row_next])
        · simp [-Int.natCast_add, isM, bne, PC.at_obj, PC.put_at, PC.at_at, PC.at_eq, H.put_same, H.put_put, Tok.v, PC.at_next, PC.at_ext, PC.at_row, PC.at_bump, PC.at_grow, PC.at_new, PC.at_put, PC.at_obj_ne, H.new_self, H.new_ne, H.row_obj, H.put_next, TN.v_len, TN.v_take, TN.v_drop, e0, e1, e2, e3, e4, e5, H.row_next, H.put_next, H.new_next]
    · have hno : ¬ (((s1.e == 0) && decide (s1.i < c.toks.length)) = true) := by simpa using hgo
      rw [if_neg (by simpa using hno)] at hs
      obtain rfl := Option.some.inj hs
      by_cases hz : (s1.e == 0) = true
      · have hi1 : ¬ s1.i < c.toks.length := fun hq => hgo ⟨hz, hq⟩
        have hz1 : s1.e = 0 := by simpa using hz
        have hi2 : c.toks.length ≤ s1.i := by omega
        have hfin : Fr h (c.at_ h4 s1) := (hF.trans hF4).put hcp _
        cases many
        · by_cases hmx : 16 < ts.length
          · have hmx' : (16 : Int) < ts.length := by omega
            simp [-Int.natCast_add, isM, bne, PC.at_obj, PC.put_at, PC.at_at, PC.at_eq, H.put_same, H.put_put, Tok.v, PC.at_next, PC.at_ext, PC.at_row, PC.at_bump, PC.at_grow, PC.at_new, PC.at_put, PC.at_obj_ne, H.new_self, H.new_ne, H.row_obj, H.put_next, TN.v_len, TN.v_take, TN.v_drop, e0, e1, e2, e3, e4, e5, hz1, hi2, ltB_f, ltB_t, hmx']
            exact ⟨hfin, 0, 0, [], by simp [progR, hz1, hmx, FnsV]⟩
          · have hmx' : (ts.length : Int) ≤ 16 := by omega
            simp [-Int.natCast_add, isM, bne, PC.at_obj, PC.put_at, PC.at_at, PC.at_eq, H.put_same, H.put_put, Tok.v, PC.at_next, PC.at_ext, PC.at_row, PC.at_bump, PC.at_grow, PC.at_new, PC.at_put, PC.at_obj_ne, H.new_self, H.new_ne, H.row_obj, H.put_next, TN.v_len, TN.v_take, TN.v_drop, e0, e1, e2, e3, e4, e5, hz1, hi2, ltB_f, ltB_t, hmx']
            have hcl : XCalls e 50 [.slc id sz (ts.map FnT.v)] (c.at_ h4 s1) (fun v h' => Fr (c.at_ h4 s1) h' ∧ ∃ id', v = .slc id' 7 (ts.map FnT.v)) := by
              rcases hid with ⟨g1, rfl, rfl⟩ | ⟨g1, g2, rfl, g4, g5⟩
              · obtain rfl : ts = [] := by simpa using g1
                refine (clipf_calls _ 0 [] (fun _ => rfl)).args fun κ cs hr => ?_
                cases hr with
                | cons hr ht => exact .cons (nil_any hr) ht
              · exact clipf_calls _ id _ (fun h0 => absurd h0 g5)
            refine hcl.mono ?_
            rintro _ h9 ⟨hF9, id', rfl⟩
            simp [-Int.natCast_add, isM, bne, PC.at_obj, PC.put_at, PC.at_at, PC.at_eq, H.put_same, H.put_put, Tok.v, PC.at_next, PC.at_ext, PC.at_row, PC.at_bump, PC.at_grow, PC.at_new, PC.at_put, PC.at_obj_ne, H.new_self, H.new_ne, H.row_obj, H.put_next, TN.v_len, TN.v_take, TN.v_drop, e0, e1, e2, e3, e4, e5]
            exact ⟨hfin.trans hF9, id', 7, ts, by simp [progR, hz1, hmx, FnsV]; exact hok⟩
        · simp [-Int.natCast_add, isM, bne, PC.at_obj, PC.put_at, PC.at_at, PC.at_eq, H.put_same, H.put_put, Tok.v, PC.at_next, PC.at_ext, PC.at_row, PC.at_bump, PC.at_grow, PC.at_new, PC.at_put, PC.at_obj_ne, H.new_self, H.new_ne, H.row_obj, H.put_next, TN.v_len, TN.v_take, TN.v_drop, e0, e1, e2, e3, e4, e5, hz1, hi2, ltB_f, ltB_t]
          exact ⟨hfin, 0, 0, [], by simp [progR, hz1, FnsV]⟩
      · have hz0 : ¬ s1.e = 0 := by simpa using hz
        have hzb : (s1.e == 0) = false := by simpa using hz0
        have hfin : Fr h (c.at_ h4 s1) := (hF.trans hF4).put hcp _
        simp [-Int.natCast_add, isM, bne, PC.at_obj, PC.put_at, PC.at_at, PC.at_eq, H.put_same, H.put_put, Tok.v, PC.at_next, PC.at_ext, PC.at_row, PC.at_bump, PC.at_grow, PC.at_new, PC.at_put, PC.at_obj_ne, H.new_self, H.new_ne, H.row_obj, H.put_next, TN.v_len, TN.v_take, TN.v_drop, e0, e1, e2, e3, e4, e5, hz0, hzb]
        refine XW.drawH mixed (L := List.range 11) (by kernel_rfl) ?_
        simp only [List.range, List.range.loop, List.map_cons, List.map_nil, item]
        simp only [annot, fillOf, findFill, findStore, srcOf, List.getD_cons_succ, List.getD_cons_zero]
        simp [-Int.natCast_add, isM, bne, PC.at_obj, PC.put_at, PC.at_at, PC.at_eq, H.put_same, H.put_put, Tok.v, PC.at_next, PC.at_ext, PC.at_row, PC.at_bump, PC.at_grow, PC.at_new, PC.at_put, PC.at_obj_ne, H.new_self, H.new_ne, H.row_obj, H.put_next, TN.v_len, TN.v_take, TN.v_drop, e0, e1, e2, e3, e4, e5, hz0, hzb]
        exact ⟨hfin, 0, 0, [], by simp [progR, hz0, FnsV]⟩
end Go.Proofs.YtjofmihdeblbmaaGreatDoor.Xa
