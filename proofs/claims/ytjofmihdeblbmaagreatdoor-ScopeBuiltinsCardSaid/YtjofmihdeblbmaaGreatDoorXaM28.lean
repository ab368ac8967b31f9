/- XA, joined: XaSc3. -/
import Derived.Test.YtjofmihdeblbmaaGreatDoorXaM27
import Derived.Test.YtjofmihdeblbmaaGreatDoorXaM25
/- XA: scope: call; At. -/

namespace Go.Proofs.YtjofmihdeblbmaaGreatDoor.Xa
open Go Go.RowKit
set_option linter.unusedVariables false
set_option linter.unusedSimpArgs false
set_option maxRecDepth 100000
set_option maxHeartbeats 1000000
theorem eqB_iff (a b : ByteArray) : eqB a b = true ↔ a = b := by
  unfold eqB
  rw [beq_iff_eq]
  obtain ⟨⟨x⟩⟩ := a
  obtain ⟨⟨y⟩⟩ := b
  simp
theorem beq_eqB (a b : ByteArray) : (a == b) = eqB a b := by
  cases h : eqB a b
  · cases h2 : (a == b)
    · rfl
    · rw [(eqB_iff a b).2 ((MapKept.bytes_beq a b).1 h2)] at h; cases h
  · exact (MapKept.bytes_beq a b).2 ((eqB_iff a b).1 h)
abbrev Fns := List (ByteArray × Int)
def fnKV (p : ByteArray × Int) : Value × V := (.string p.1, .lit (.int .i64 p.2))
def fnIx (fns : Fns) (nm : ByteArray) : Option Int := (fns.find? (fun p => eqB nm p.1)).map (fun p => p.2)
theorem xfind_fns (nm : ByteArray) : ∀ (fns : Fns) (i : Nat), ∃ j, xfindK (.string nm) (fns.map fnKV) i = some ((fnIx fns nm).map fun k => (j, .lit (.int .i64 k)))
  | [], i => ⟨0, rfl⟩
  | p :: fns, i => by
    unfold fnIx
    simp only [List.map_cons, xfindK, fnKV, sameV, beq_eqB, List.find?_cons]
    cases h : eqB nm p.1
    · obtain ⟨j, hj⟩ := xfind_fns nm fns (i + 1)
      refine ⟨j, ?_⟩
      unfold fnIx at hj
      exact hj
    · exact ⟨i, rfl⟩
structure FnsAt (c : CC) (h : H) (lid lsz : Nat) (ts : List FnT) (fns : Fns) : Prop where
  fv : c.fv = .slc lid lsz (ts.map FnT.v)
  lt : c.fid < c.p
  map : h.obj c.fid = some (.map 9 3 (fns.map fnKV))
  sz : ts ≠ [] → lsz = 7
theorem FnsAt.mono {c : CC} {h h' : H} {lid lsz : Nat} {ts : List FnT} {fns : Fns} (x : FnsAt c h lid lsz ts fns) (f : FrC c.p h h') (hp : c.p < h.next) : FnsAt c h' lid lsz ts fns :=
  ⟨x.fv, x.lt, (f.obj c.fid (Nat.lt_trans x.lt hp) (Nat.ne_of_lt x.lt)).trans x.map, x.sz⟩
/-- what a call comes to: the number, how many operands; none: nothing is known of the name -/
def callN (ts : List FnN) (fns : Fns) (nm : ByteArray) : Option (Int × Int) :=
  if (builtinR nm).2.2 then some (wr ((builtinR nm).1 + 1000), (builtinR nm).2.1) else
  match fnIx fns nm with
  | some k => match ts[k.toNat]? with
    | some f => some (k, (f.params.length : Int))
    | none => none
  | none => none
def callC (ts : List FnN) (fns : Fns) (s : CS) (nm : ByteArray) (n : Nat) : CS :=
  match callN ts fns nm with
  | none => wrongC s 11
  | some (k, a) =>
    let s1 := if a == (n : Int) then s else wrongC s 12
    { s1 with calls := s1.calls ++ [k] }
/-- the map's numbers are functions' -/
def FnsOk (ts : List FnN) (fns : Fns) : Prop := ∀ nm k, fnIx fns nm = some k → 0 ≤ k ∧ k.toNat < ts.length ∧ k < 1000
def TN.kind : TN → Int | .leaf k _ _ _ => k | .mk k _ _ _ _ _ => k
def TN.op : TN → Int | .leaf _ o _ _ => o | .mk _ o _ _ _ _ => o
def TN.str : TN → ByteArray | .leaf _ _ s _ => s | .mk _ _ s _ _ _ => s
def TN.num : TN → Int | .leaf _ _ _ n => n | .mk _ _ _ n _ _ => n
def TN.kid : TN → Nat | .leaf _ _ _ _ => 0 | .mk _ _ _ _ id _ => id
def TN.ksz : TN → Nat | .leaf _ _ _ _ => 0 | .mk _ _ _ _ _ _ => 5
def TN.kl : TN → List TN | .leaf _ _ _ _ => [] | .mk _ _ _ _ _ l => l
theorem TN.v_eq (t : TN) : t.v = [.lit (.int .i64 t.kind), .lit (.int .i64 t.op), .lit (.string t.str), .lit (.int .i64 t.num), .slc t.kid t.ksz (t.kl.map TN.v)] := by
  cases t <;> simp [TN.v, TN.kind, TN.op, TN.str, TN.num, TN.kid, TN.ksz, TN.kl, TN.vs_map]
theorem TN.nd_eq (t : TN) : t.nd = .mk t.kind t.op t.str t.num (t.kl.map TN.nd) := by
  cases t <;> simp [TN.nd, TN.kind, TN.op, TN.str, TN.num, TN.kl, TN.nds_map]
theorem TN.ksz5 (t : TN) (h : t.kl ≠ []) : t.ksz = 5 := by cases t <;> simp_all [TN.kl, TN.ksz]
def Nd.kind : Nd → Int | .mk k _ _ _ _ => k
def Nd.op : Nd → Int | .mk _ o _ _ _ => o
def Nd.str : Nd → ByteArray | .mk _ _ s _ _ => s
def Nd.num : Nd → Int | .mk _ _ _ n _ => n
def Nd.kids : Nd → List Nd | .mk _ _ _ _ l => l
theorem callc_tail {c : CC} {h : H} {s : CS} {nv : V} {si sz ci cz : Nat} (hs : CkAt c h s nv si sz ci cz) (k : Int) :
    CkAt c (((h.row 1).app ci (s.calls.length + 1)).put c.p (.cells [.map c.fid, c.fv, nv, .lit (.int .i64 s.loops), .lit (.int .i64 s.locals), .slc si sz (s.slots.map intV), .slc (h.next + 1) 1 ((s.calls ++ [k]).map intV), .lit (.int .i64 s.e)] 115)) { s with calls := s.calls ++ [k] } nv si sz (h.next + 1) 1 ∧
    FrC c.p h (((h.row 1).app ci (s.calls.length + 1)).put c.p (.cells [.map c.fid, c.fv, nv, .lit (.int .i64 s.loops), .lit (.int .i64 s.locals), .slc si sz (s.slots.map intV), .slc (h.next + 1) 1 ((s.calls ++ [k]).map intV), .lit (.int .i64 s.e)] 115)) := by
  have hlt := hs.lt
  have hlow := hs.calls.low
  refine ⟨⟨by rw [H.put_get, if_pos rfl], by simp [H.put_next, H.app_next, H.row_next]; omega, hs.names.of_arr (by rw [H.put_arr, H.app_arr, H.row_arr]) (by simp [H.put_next, H.app_next, H.row_next]; omega), ?_, ?_, ?_⟩, ?_⟩
  · exact (hs.slots.mono (Fr.row h 1)).app_ne (j := ci) (k := s.calls.length + 1) (fun q => hs.apart q.symm)
  · have := Own.app (h := h.row 1) (id := ci) (k := s.calls.length + 1) (w := 1) (lo := c.p + 1) (by rw [H.row_next]; omega) (by rw [H.row_next]; omega)
    simpa [Own, H.put_next, H.put_ext, H.row_next] using this
  · intro q
    rcases hs.slots with ⟨_, h1, _⟩ | ⟨_, h1, _⟩ <;> omega
  · have e1 : (h.row 1).next = h.next + 1 := rfl
    repeat' first | exact FrC.refl _ _ | assumption | refine FrC.put1 ?_ _ | refine FrC.row1 ?_ (by omega) _ | refine FrC.new1 ?_ (by omega) _ | refine FrC.app1 ?_ (by omega) (by first | assumption | omega) _ | refine FrC.putNe ?_ (by omega) _ | refine FrC.trans ?_ (by assumption)
theorem CkAt.fr {c : CC} {h h' : H} {s : CS} {nv : V} {si sz ci cz : Nat} (x : CkAt c h s nv si sz ci cz) (f : Fr h h') : CkAt c h' s nv si sz ci cz := by
  refine ⟨(f.obj _ x.lt).trans x.obj, Nat.lt_of_lt_of_le x.lt f.next, ?_, x.slots.mono f, x.calls.mono f, x.apart⟩
  rcases x.names with y | ⟨id, a, g1, g2, g3, g4, g5⟩
  · exact .inl y
  · exact .inr ⟨id, a, g1, g2, Nat.lt_of_lt_of_le g3 f.next, (f.arr id g3).trans g4, g5⟩
theorem wrongC_calls_len (s : CS) (er : Int) : (wrongC s er).calls = s.calls := by unfold wrongC; split <;> rfl
theorem callN_builtin {ts : List FnN} {fns : Fns} {nm : ByteArray} (h : (builtinR nm).2.2 = true) : callN ts fns nm = some (wr ((builtinR nm).1 + 1000), (builtinR nm).2.1) := by unfold callN; rw [if_pos h]
attribute [local simp] hid2 hid3 hid4 xcode_skip xcode_region xcode_draw xcode_loop xcode_seq xcode_cond xcode_block xcode_scope xcode_exit xcode_ret xops_nil xops_cons xd_nil xd_cons xstep_eq annot fillOf findFill findStore srcOf kcls cls qval qvalN xwant dstAt want1 xdo xop ev_const ev_global ev_func ev_zero ev_succ ev_undefs ev_hit ev_miss put_none put_len undefs_len xnil xfieldAddr fieldOf eT emtb seqQ blockQ xload xstore splice V.storable V.one V.cells mk xbinop xbin xun xbuiltin xindexAddr nilOr xindex xint cv cv1 retQ xres_tmp xres_cell xres_nil xresult xbuild xfill xbuildSlice xrows Nat.testBit places xfield item sideOk pendOk pendOf tyT1 tyT2 tyT3 tyT4 tyT5 tyT9 tyT22 tyT23 tyT24 tyT25 tyT26 tyT30 tyT34 tyT39 tyT41 tyT47 tyT48 tyT50 tyT53 tyT54 tyT56 tyT58 tyT63 tyT70 tyT76 tyT78 tyT80 tyT84 tyT87 tyT89 tyT96 tyT98 tyT100 tyT102 tyT108 tyT110 tyT112 tyT113 tyT115 tyT119 tyT121 tyT124 tyT138 tyT139 tyT141 tyT142 tyT143 tyT145 tyT147 tyT149 tyT155 tyT158 tyT164 tyT179 tyT186 tyT188 tyT189 tyT194 tyT197 tyT200 tyT216 tyT242 tyT245 H.put_get H.new_get H.row_obj H.grow_obj H.bump_obj H.newArr_obj H.putArr_obj H.moveArr_obj H.put_arr H.new_arr H.row_arr H.grow_arr H.bump_arr H.newArr_get H.putArr_get H.moveArr_get H.put_ext H.new_ext H.newArr_ext H.putArr_ext H.moveArr_ext H.bump_ext H.row_get H.grow_get H.new_next H.row_next H.bump_next H.put_next H.grow_next H.newArr_next H.putArr_next H.moveArr_next H.app_next H.app_obj H.app_arr H.app_get bne emT emM xapp_em xmakeSlice xslice xlookup xmapUpdate keyShape
theorem call_calls (c : CC) (h : H) (s : CS) (nv : V) (si sz ci cz : Nat) (hs : CkAt c h s nv si sz ci cz) (hl : s.calls.length ≤ 1000000) (lid lsz : Nat) (ts : List FnT) (fns : Fns) (hf : FnsAt c h lid lsz ts fns) (hok : FnsOk (ts.map FnT.fn) fns) (htok : ∀ t ∈ ts, t.ok) (hts : ts.length ≤ 1000000) (T : TN) (hT : T.kl.length ≤ 1000000) :
    XCalls e 156 [.ptr c.p 0, .agg T.v] h (CkP c h (callC (ts.map FnT.fn) fns s T.str T.kl.length) (fun v => v = .tup [])) := by
  rw [TN.v_eq]
  refine XCalls.of Tryz.func156 rfl (by kernel_rfl) ?_
  rw [Tryz.ntmps156]
  have ho := hs.obj
  have hlt := hs.lt
  have hml := hf.map
  obtain ⟨n1, n2, n3, n4⟩ := ne4 hlt
  have n5 : c.fid ≠ h.next := by have := hf.lt; omega
  simp [-Int.natCast_add, isM, xappendM, rowsIn]
  refine (builtin_calls _ _).mono ?_
  rintro _ h' ⟨rfl, eh⟩
  rw [eh]
  clear eh h'
  unfold triV
  simp [-Int.natCast_add, isM, xappendM, rowsIn, ho]
  refine XW.drawB mixed (L := List.range 12) (B := [0, 1, 3, 7, 0, 16, 63, 127, 255, 255, 511, 2047]) (by kernel_rfl) (by kernel_rfl) ?_
  simp only [List.range, List.range.loop, List.map_cons, List.map_nil, item]
  simp only [annot, fillOf, findFill, findStore, srcOf, List.getD_cons_succ, List.getD_cons_zero]
  obtain ⟨j, hj⟩ := xfind_fns T.str fns 0
  unfold callC
  have hFr : Fr h (h.new (.cells [.lit (.int .i64 T.kind), .lit (.int .i64 T.op), .lit (.string T.str), .lit (.int .i64 T.num), .slc T.kid T.ksz (T.kl.map TN.v)] 41)) := Fr.new _ _
  have hsB := hs.fr hFr
  have hFB : FrC c.p h (h.new (.cells [.lit (.int .i64 T.kind), .lit (.int .i64 T.op), .lit (.string T.str), .lit (.int .i64 T.num), .slc T.kid T.ksz (T.kl.map TN.v)] 41)) := hFr.c (by omega)
  cases hb : (builtinR T.str).2.2
  · cases hx : fnIx fns T.str with
    | none =>
      rw [hx] at hj
      simp only [Option.map_none] at hj
      have hcn : callN (ts.map FnT.fn) fns T.str = none := by unfold callN; rw [hb, hx]; rfl
      rw [hcn]
      simp [-Int.natCast_add, isM, xappendM, rowsIn, ho, n1, n2, n5, hml, hj, hb]
      refine (wrongC_calls c _ s nv si sz ci cz hsB 11).mono ?_
      rintro _ h1 ⟨rfl, hs1, hF1⟩
      simp [-Int.natCast_add, isM, xappendM, rowsIn]
      exact ⟨rfl, ⟨_, _, _, _, _, hs1⟩, hFB.trans hF1⟩
    | some k =>
      rw [hx] at hj
      simp only [Option.map_some] at hj
      obtain ⟨k0, k1, k2⟩ := hok _ _ hx
      rw [List.length_map] at k1
      have hcn : callN (ts.map FnT.fn) fns T.str = some (k, (ts[k.toNat].params.length : Int)) := by
        unfold callN
        rw [hb, hx]
        simp [k1, FnT.fn]
      rw [hcn]
      have hfv := hf.fv
      have hk3 : k < (ts.length : Int) := by omega
      have hl7 : lsz = 7 := hf.sz (by intro h0; rw [h0] at k1; simp at k1)
      subst hl7
      cases ha : ((ts[k.toNat].params.length : Int) == (T.kl.length : Int))
      · have ha' := beq_eq_false_iff_ne.1 ha
        simp [-Int.natCast_add, isM, xappendM, rowsIn, ho, n1, n2, n5, hml, hj, hb, hfv, k0, hk3, k1, FnT.v_par, FnT.v_len, ha]
        refine (wrongC_calls c _ s nv si sz ci cz hsB 12).mono ?_
        rintro _ h1 ⟨rfl, hs1, hF1⟩
        have ho1 := hs1.obj
        have hlt1 := hs1.lt
        obtain ⟨m1, m2, m3, m4⟩ := ne4 hlt1
        have hcl := wrongC_calls_len s 12
        simp [-Int.natCast_add, isM, xappendM, rowsIn, ho1, m1, m2]
        rw [xapp_own 23 (w := 1) rfl rfl rfl rfl (by decide) (lo := c.p + 1) ?a1 ?a2 ?a3 ?a4 ?a5]
        case a1 => rw [List.length_map]; exact hs1.calls.mono (Fr.row _ 1)
        case a2 => first | (simp; done) | (simp; omega)
        case a3 => simp
        case a4 => first | (simp [hcl]; done) | (simp [hcl]; omega)
        case a5 => first | (simp [maxLen, hcl]; done) | (simp [maxLen, hcl]; omega)
        obtain ⟨t1, t2⟩ := callc_tail hs1 k
        simp only [List.map_append, List.map_cons, List.map_nil, intV] at t1 t2
        simp [-Int.natCast_add, isM, xappendM, rowsIn, ho1, m1, m2, ha']
        exact ⟨rfl, ⟨_, _, _, _, _, t1⟩, (hFB.trans hF1).trans t2⟩
      · simp [-Int.natCast_add, isM, xappendM, rowsIn, ho, n1, n2, n5, hml, hj, hb, hfv, k0, hk3, k1, FnT.v_par, FnT.v_len, ha]
        rw [xapp_own 23 (w := 1) rfl rfl rfl rfl (by decide) (lo := c.p + 1) ?a1 ?a2 ?a3 ?a4 ?a5]
        case a1 => rw [List.length_map]; exact hsB.calls.mono (Fr.row _ 1)
        case a2 => first | (simp; done) | (simp; omega)
        case a3 => simp
        case a4 => first | (simp; done) | (simp; omega)
        case a5 => first | (simp [maxLen]; done) | (simp [maxLen]; omega)
        obtain ⟨t1, t2⟩ := callc_tail hsB k
        simp only [List.map_append, List.map_cons, List.map_nil, intV] at t1 t2
        simp [-Int.natCast_add, isM, xappendM, rowsIn, ho, n1, n2]
        exact ⟨rfl, ⟨_, _, _, _, _, t1⟩, hFB.trans t2⟩
  · rw [callN_builtin hb]
    have hjj : ∃ o, xfindK (.string T.str) (fns.map fnKV) 0 = some o := ⟨_, hj⟩
    cases hx : fnIx fns T.str with
    | none =>
      rw [hx] at hj
      simp only [Option.map_none] at hj
      cases ha : ((builtinR T.str).2.1 == (T.kl.length : Int))
      · have ha' := beq_eq_false_iff_ne.1 ha
        simp [-Int.natCast_add, isM, xappendM, rowsIn, ho, n1, n2, n5, hml, hj, hb, wr, ha]
        refine (wrongC_calls c _ s nv si sz ci cz hsB 12).mono ?_
        rintro _ h1 ⟨rfl, hs1, hF1⟩
        have ho1 := hs1.obj
        have hlt1 := hs1.lt
        obtain ⟨m1, m2, m3, m4⟩ := ne4 hlt1
        have hcl := wrongC_calls_len s 12
        simp [-Int.natCast_add, isM, xappendM, rowsIn, ho1, m1, m2]
        rw [xapp_own 23 (w := 1) rfl rfl rfl rfl (by decide) (lo := c.p + 1) ?a1 ?a2 ?a3 ?a4 ?a5]
        case a1 => rw [List.length_map]; exact hs1.calls.mono (Fr.row _ 1)
        case a2 => first | (simp; done) | (simp; omega)
        case a3 => simp
        case a4 => first | (simp [hcl]; done) | (simp [hcl]; omega)
        case a5 => first | (simp [maxLen, hcl]; done) | (simp [maxLen, hcl]; omega)
        obtain ⟨t1, t2⟩ := callc_tail hs1 (wr ((builtinR T.str).1 + 1000))
        simp only [List.map_append, List.map_cons, List.map_nil, intV] at t1 t2
        simp [-Int.natCast_add, isM, xappendM, rowsIn, ho1, m1, m2, ha']
        exact ⟨rfl, ⟨_, _, _, _, _, t1⟩, (hFB.trans hF1).trans t2⟩
      · simp [-Int.natCast_add, isM, xappendM, rowsIn, ho, n1, n2, n5, hml, hj, hb, wr, ha]
        rw [xapp_own 23 (w := 1) rfl rfl rfl rfl (by decide) (lo := c.p + 1) ?a1 ?a2 ?a3 ?a4 ?a5]
        case a1 => rw [List.length_map]; exact hsB.calls.mono (Fr.row _ 1)
        case a2 => first | (simp; done) | (simp; omega)
        case a3 => simp
        case a4 => first | (simp; done) | (simp; omega)
        case a5 => first | (simp [maxLen]; done) | (simp [maxLen]; omega)
        obtain ⟨t1, t2⟩ := callc_tail hsB (wr ((builtinR T.str).1 + 1000))
        simp only [List.map_append, List.map_cons, List.map_nil, intV] at t1 t2
        simp [-Int.natCast_add, isM, xappendM, rowsIn, ho, n1, n2]
        exact ⟨rfl, ⟨_, _, _, _, _, t1⟩, hFB.trans t2⟩
    | some k =>
      rw [hx] at hj
      simp only [Option.map_some] at hj
      cases ha : ((builtinR T.str).2.1 == (T.kl.length : Int))
      · have ha' := beq_eq_false_iff_ne.1 ha
        simp [-Int.natCast_add, isM, xappendM, rowsIn, ho, n1, n2, n5, hml, hj, hb, wr, ha]
        refine (wrongC_calls c _ s nv si sz ci cz hsB 12).mono ?_
        rintro _ h1 ⟨rfl, hs1, hF1⟩
        have ho1 := hs1.obj
        have hlt1 := hs1.lt
        obtain ⟨m1, m2, m3, m4⟩ := ne4 hlt1
        have hcl := wrongC_calls_len s 12
        simp [-Int.natCast_add, isM, xappendM, rowsIn, ho1, m1, m2]
        rw [xapp_own 23 (w := 1) rfl rfl rfl rfl (by decide) (lo := c.p + 1) ?a1 ?a2 ?a3 ?a4 ?a5]
        case a1 => rw [List.length_map]; exact hs1.calls.mono (Fr.row _ 1)
        case a2 => first | (simp; done) | (simp; omega)
        case a3 => simp
        case a4 => first | (simp [hcl]; done) | (simp [hcl]; omega)
        case a5 => first | (simp [maxLen, hcl]; done) | (simp [maxLen, hcl]; omega)
        obtain ⟨t1, t2⟩ := callc_tail hs1 (wr ((builtinR T.str).1 + 1000))
        simp only [List.map_append, List.map_cons, List.map_nil, intV] at t1 t2
        simp [-Int.natCast_add, isM, xappendM, rowsIn, ho1, m1, m2, ha']
        exact ⟨rfl, ⟨_, _, _, _, _, t1⟩, (hFB.trans hF1).trans t2⟩
      · simp [-Int.natCast_add, isM, xappendM, rowsIn, ho, n1, n2, n5, hml, hj, hb, wr, ha]
        rw [xapp_own 23 (w := 1) rfl rfl rfl rfl (by decide) (lo := c.p + 1) ?a1 ?a2 ?a3 ?a4 ?a5]
        case a1 => rw [List.length_map]; exact hsB.calls.mono (Fr.row _ 1)
        case a2 => first | (simp; done) | (simp; omega)
        case a3 => simp
        case a4 => first | (simp; done) | (simp; omega)
        case a5 => first | (simp [maxLen]; done) | (simp [maxLen]; omega)
        obtain ⟨t1, t2⟩ := callc_tail hsB (wr ((builtinR T.str).1 + 1000))
        simp only [List.map_append, List.map_cons, List.map_nil, intV] at t1 t2
        simp [-Int.natCast_add, isM, xappendM, rowsIn, ho, n1, n2]
        exact ⟨rfl, ⟨_, _, _, _, _, t1⟩, hFB.trans t2⟩
end Go.Proofs.YtjofmihdeblbmaaGreatDoor.Xa
