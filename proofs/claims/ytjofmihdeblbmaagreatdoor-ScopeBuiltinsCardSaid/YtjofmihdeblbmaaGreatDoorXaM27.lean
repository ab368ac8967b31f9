/- XA, joined: XaSc1 XaSc2. -/
import Derived.Test.YtjofmihdeblbmaaGreatDoorXaM26
/- XA: scope: Builtin, wrong, use, let, call. -/
namespace Go.Proofs.YtjofmihdeblbmaaGreatDoor.Xa
open Go Go.RowKit
set_option linter.unusedVariables false
set_option linter.unusedSimpArgs false
set_option maxRecDepth 100000
set_option maxHeartbeats 1000000
section
variable {p : Nat} {h0 h : H}
theorem FrC.put1 (x : FrC p h0 h) (o : Obj) : FrC p h0 (h.put p o) := ⟨x.next, fun j hj hp => by rw [H.put_get, if_neg hp]; exact x.obj j hj hp, x.ext, x.arr⟩
theorem FrC.putNe (x : FrC p h0 h) {q : Nat} (hq : h0.next ≤ q) (o : Obj) : FrC p h0 (h.put q o) := ⟨x.next, fun j hj hp => by rw [H.put_get, if_neg (by omega)]; exact x.obj j hj hp, x.ext, x.arr⟩
theorem FrC.row1 (x : FrC p h0 h) (hp : p ≤ h.next) (n : Nat) : FrC p h0 (h.row n) := ⟨Nat.le_succ_of_le x.next, x.obj, fun j hj => by rw [H.row_get, if_neg (by omega)]; exact x.ext j hj, x.arr⟩
theorem FrC.new1 (x : FrC p h0 h) (hp : h0.next ≤ h.next) (o : Obj) : FrC p h0 (h.new o) := ⟨Nat.le_succ_of_le x.next, fun j hj hq => by rw [H.new_get, if_neg (by omega)]; exact x.obj j hj hq, x.ext, x.arr⟩
theorem FrC.app1 (x : FrC p h0 h) (hp : p ≤ h.next) {id : Nat} (hid : id = 0 ∨ p + 1 ≤ id) (n : Nat) : FrC p h0 (h.app id n) :=
  ⟨by rw [H.app_next]; exact Nat.le_succ_of_le x.next, by rw [H.app_obj]; exact x.obj, fun j hj => by rw [H.app_get, if_neg (by omega), if_neg (by omega)]; exact x.ext j hj, by rw [H.app_arr]; exact x.arr⟩
theorem Fr.c {h' : H} (x : Fr h h') (hp : p ≤ h.next) : FrC p h h' := ⟨x.next, fun j hj _ => x.obj j hj, fun j hj => x.ext j (by omega), fun j hj => x.arr j (by omega)⟩
theorem NamesV.of_arr {h h' : H} {lo : Nat} {nv : V} {ns : List Kn} (x : NamesV h lo nv ns) (e : h'.arr = h.arr) (en : h.next ≤ h'.next) : NamesV h' lo nv ns := by
  rcases x with x | ⟨id, a, g1, g2, g3, g4, g5⟩
  · exact .inl x
  · exact .inr ⟨id, a, g1, g2, Nat.lt_of_lt_of_le g3 en, by rw [e]; exact g4, g5⟩
end
def eqB (a b : ByteArray) : Bool := a.data.toList == b.data.toList
theorem eqB_old (a b : ByteArray) : eqB a b = (a.toList == b.toList) := by rw [beqL]; rfl
def builtinR (nm : ByteArray) : Int × Int × Bool :=
  if eqB nm ⟨#[112, 117, 115, 104]⟩ then (13, 2, true) else if eqB nm ⟨#[99, 120]⟩ then (14, 2, true) else if eqB nm ⟨#[108, 101, 110]⟩ then (17, 1, true)
  else if eqB nm ⟨#[114, 101]⟩ then (18, 1, true) else if eqB nm ⟨#[105, 109]⟩ then (19, 1, true) else if eqB nm ⟨#[99, 111, 110, 106]⟩ then (20, 1, true) else (0, 0, false)
def triV (r : Int × Int × Bool) : V := .tup [.lit (.int .i64 r.1), .lit (.int .i64 r.2.1), .lit (.bool r.2.2)]
attribute [local simp] hid2 hid3 hid4 xcode_skip xcode_region xcode_draw xcode_loop xcode_seq xcode_cond xcode_block xcode_scope xcode_exit xcode_ret xops_nil xops_cons xd_nil xd_cons xstep_eq annot fillOf findFill findStore srcOf kcls cls qval qvalN xwant dstAt want1 xdo xop ev_const ev_global ev_func ev_zero ev_succ ev_undefs ev_hit ev_miss put_none put_len undefs_len xnil xfieldAddr fieldOf eT emtb seqQ blockQ xload xstore splice V.storable V.one V.cells mk xbinop xbin xun xbuiltin xindexAddr nilOr xindex xint cv cv1 retQ xres_tmp xres_cell xres_nil xresult xbuild xfill xbuildSlice xrows Nat.testBit places xfield item sideOk pendOk pendOf tyT1 tyT2 tyT3 tyT4 tyT5 tyT9 tyT22 tyT23 tyT24 tyT25 tyT26 tyT30 tyT34 tyT39 tyT41 tyT47 tyT48 tyT50 tyT53 tyT54 tyT56 tyT58 tyT63 tyT70 tyT76 tyT78 tyT80 tyT84 tyT87 tyT89 tyT96 tyT98 tyT100 tyT102 tyT108 tyT110 tyT112 tyT113 tyT115 tyT119 tyT121 tyT124 tyT138 tyT139 tyT141 tyT142 tyT143 tyT145 tyT147 tyT149 tyT155 tyT158 tyT164 tyT179 tyT186 tyT188 tyT189 tyT194 tyT197 tyT200 tyT216 tyT242 tyT245 H.put_get H.new_get H.row_obj H.grow_obj H.bump_obj H.newArr_obj H.putArr_obj H.moveArr_obj H.put_arr H.new_arr H.row_arr H.grow_arr H.bump_arr H.newArr_get H.putArr_get H.moveArr_get H.put_ext H.new_ext H.newArr_ext H.putArr_ext H.moveArr_ext H.bump_ext H.row_get H.grow_get H.new_next H.row_next H.bump_next H.put_next H.grow_next H.newArr_next H.putArr_next H.moveArr_next H.app_next H.app_obj H.app_arr H.app_get bne emT emM xapp_em xmakeSlice xslice xlookup xmapUpdate keyShape
theorem builtin_calls (h : H) (nm : ByteArray) : XCalls e 16 [.lit (.string nm)] h (fun v h' => v = triV (builtinR nm) ∧ h' = h) := by
  refine XCalls.of Tryz.func16 rfl (by kernel_rfl) ?_
  rw [Tryz.ntmps16]
  unfold builtinR eqB triV
  cases g1 : (nm.data.toList == [112, 117, 115, 104])
  · cases g2 : (nm.data.toList == [99, 120])
    · cases g3 : (nm.data.toList == [108, 101, 110])
      · cases g4 : (nm.data.toList == [114, 101])
        · cases g5 : (nm.data.toList == [105, 109])
          · cases g6 : (nm.data.toList == [99, 111, 110, 106])
            · simp [-Int.natCast_add, isM, xappendM, rowsIn, bytes_list, g1, g2, g3, g4, g5, g6] <;> simp_all
            · simp [-Int.natCast_add, isM, xappendM, rowsIn, bytes_list, g1, g2, g3, g4, g5, g6] <;> simp_all
          · simp [-Int.natCast_add, isM, xappendM, rowsIn, bytes_list, g1, g2, g3, g4, g5] <;> simp_all
        · simp [-Int.natCast_add, isM, xappendM, rowsIn, bytes_list, g1, g2, g3, g4] <;> simp_all
      · simp [-Int.natCast_add, isM, xappendM, rowsIn, bytes_list, g1, g2, g3] <;> simp_all
    · simp [-Int.natCast_add, isM, xappendM, rowsIn, bytes_list, g1, g2] <;> simp_all
  · simp [-Int.natCast_add, isM, xappendM, rowsIn, bytes_list, g1] <;> simp_all
def wrongC (s : CS) (er : Int) : CS := if s.e == 0 then { s with e := er } else s
def CkP (c : CC) (h : H) (s' : CS) (vp : V → Prop) : V → H → Prop := fun v h' => vp v ∧ Ck c h' s' ∧ FrC c.p h h'
theorem wrongC_calls (c : CC) (h : H) (s : CS) (nv : V) (si sz ci cz : Nat) (hs : CkAt c h s nv si sz ci cz) (er : Int) :
    XCalls e 157 [.ptr c.p 0, .lit (.int .i64 er)] h (fun v h' => v = .tup [] ∧ CkAt c h' (wrongC s er) nv si sz ci cz ∧ FrC c.p h h') := by
  refine XCalls.of Tryz.func157 rfl (by kernel_rfl) ?_
  rw [Tryz.ntmps157]
  unfold wrongC
  have ho := hs.obj
  cases he : (s.e == 0)
  · simp [-Int.natCast_add, isM, xappendM, rowsIn, ho, he]
    exact ⟨hs, FrC.refl _ _⟩
  · simp [-Int.natCast_add, isM, xappendM, rowsIn, ho, he]
    exact ⟨⟨by rw [H.put_get, if_pos rfl], hs.lt, hs.names, hs.slots, hs.calls, hs.apart⟩, (FrC.refl _ _).put1 _⟩
def useC (s : CS) (nm : ByteArray) : CS :=
  let s1 := if (findR s.names nm).2 then s else wrongC s 11
  { s1 with slots := s1.slots ++ [(findR s.names nm).1] }
theorem use_tail {c : CC} {h : H} {s : CS} {nv : V} {si sz ci cz : Nat} (hs : CkAt c h s nv si sz ci cz) (k : Int) :
    CkAt c (((h.row 1).app si (s.slots.length + 1)).put c.p (.cells [.map c.fid, c.fv, nv, .lit (.int .i64 s.loops), .lit (.int .i64 s.locals), .slc (h.next + 1) 1 ((s.slots ++ [k]).map intV), .slc ci cz (s.calls.map intV), .lit (.int .i64 s.e)] 115)) { s with slots := s.slots ++ [k] } nv (h.next + 1) 1 ci cz ∧
    FrC c.p h (((h.row 1).app si (s.slots.length + 1)).put c.p (.cells [.map c.fid, c.fv, nv, .lit (.int .i64 s.loops), .lit (.int .i64 s.locals), .slc (h.next + 1) 1 ((s.slots ++ [k]).map intV), .slc ci cz (s.calls.map intV), .lit (.int .i64 s.e)] 115)) := by
  have hlt := hs.lt
  have hlow := hs.slots.low
  refine ⟨⟨by rw [H.put_get, if_pos rfl], by simp [H.put_next, H.app_next, H.row_next]; omega, hs.names.of_arr (by rw [H.put_arr, H.app_arr, H.row_arr]) (by simp [H.put_next, H.app_next, H.row_next]; omega), ?_, ?_, ?_⟩, ?_⟩
  · have := Own.app (h := h.row 1) (id := si) (k := s.slots.length + 1) (w := 1) (lo := c.p + 1) (by rw [H.row_next]; omega) (by rw [H.row_next]; omega)
    simpa [Own, H.put_next, H.put_ext, H.row_next] using this
  · have := (hs.calls.mono (Fr.row h 1)).app_ne (j := si) (k := s.slots.length + 1) (fun q => by rw [← q]; exact hs.apart q)
    exact this
  · intro q
    rcases hs.calls with ⟨_, h1, _⟩ | ⟨_, h1, _⟩ <;> omega
  · have e1 : (h.row 1).next = h.next + 1 := rfl
    repeat' first | exact FrC.refl _ _ | assumption | refine FrC.put1 ?_ _ | refine FrC.row1 ?_ (by omega) _ | refine FrC.new1 ?_ (by omega) _ | refine FrC.app1 ?_ (by omega) (by first | assumption | omega) _ | refine FrC.putNe ?_ (by omega) _ | refine FrC.trans ?_ (by assumption)
theorem use_calls (c : CC) (h : H) (s : CS) (nv : V) (si sz ci cz : Nat) (hs : CkAt c h s nv si sz ci cz) (hn : s.names.length ≤ 1000000) (hl : s.slots.length ≤ 1000000) (nm : ByteArray) :
    XCalls e 155 [.ptr c.p 0, .lit (.string nm)] h (CkP c h (useC s nm) (fun v => v = .tup [])) := by
  refine XCalls.of Tryz.func155 rfl (by kernel_rfl) ?_
  rw [Tryz.ntmps155]
  have ho := hs.obj
  simp [-Int.natCast_add, isM, xappendM, rowsIn]
  refine (cfind_calls c h s nv si sz ci cz hs hn nm).mono ?_
  rintro _ h' ⟨rfl, eh⟩
  rw [eh]
  clear eh h'
  unfold useC
  cases hf : (findR s.names nm).2
  · simp [-Int.natCast_add, isM, xappendM, rowsIn, hf]
    refine (wrongC_calls c h s nv si sz ci cz hs 11).mono ?_
    rintro _ h1 ⟨rfl, hs1, hF1⟩
    have ho1 := hs1.obj
    simp [-Int.natCast_add, isM, xappendM, rowsIn, ho1]
    have hsl : (wrongC s 11).slots = s.slots := by unfold wrongC; split <;> rfl
    rw [xapp_own 23 (w := 1) rfl rfl rfl rfl (by decide) (lo := c.p + 1) ?a1 ?a2 ?a3 ?a4 ?a5]
    case a1 => rw [List.length_map]; exact hs1.slots.mono (Fr.row h1 1)
    case a2 => have := hs1.lt; omega
    case a3 => simp
    case a4 => simp [hsl]; omega
    case a5 => simp [maxLen, hsl]; omega
    obtain ⟨t1, t2⟩ := use_tail hs1 (findR s.names nm).1
    simp only [List.map_append, List.map_cons, List.map_nil, intV] at t1 t2
    simp [-Int.natCast_add, isM, xappendM, rowsIn, ho1]
    exact ⟨rfl, ⟨_, _, _, _, _, t1⟩, hF1.trans t2⟩
  · simp [-Int.natCast_add, isM, xappendM, rowsIn, hf, ho]
    rw [xapp_own 23 (w := 1) rfl rfl rfl rfl (by decide) (lo := c.p + 1) ?a1 ?a2 ?a3 ?a4 ?a5]
    case a1 => rw [List.length_map]; exact hs.slots.mono (Fr.row h 1)
    case a2 => have := hs.lt; omega
    case a3 => simp
    case a4 => simp; omega
    case a5 => simp [maxLen]; omega
    obtain ⟨t1, t2⟩ := use_tail hs (findR s.names nm).1
    simp only [List.map_append, List.map_cons, List.map_nil, intV] at t1 t2
    simp [-Int.natCast_add, isM, xappendM, rowsIn, ho]
    exact ⟨rfl, ⟨_, _, _, _, _, t1⟩, t2⟩
end Go.Proofs.YtjofmihdeblbmaaGreatDoor.Xa
/- XA: scope: let. -/
namespace Go.Proofs.YtjofmihdeblbmaaGreatDoor.Xa
open Go Go.RowKit
set_option linter.unusedVariables false
set_option linter.unusedSimpArgs false
set_option maxRecDepth 100000
set_option maxHeartbeats 1000000
attribute [local simp] hid2 hid3 hid4 xcode_skip xcode_region xcode_draw xcode_loop xcode_seq xcode_cond xcode_block xcode_scope xcode_exit xcode_ret xops_nil xops_cons xd_nil xd_cons xstep_eq annot fillOf findFill findStore srcOf kcls cls qval qvalN xwant dstAt want1 xdo xop ev_const ev_global ev_func ev_zero ev_succ ev_undefs ev_hit ev_miss put_none put_len undefs_len xnil xfieldAddr fieldOf eT emtb seqQ blockQ xload xstore splice V.storable V.one V.cells mk xbinop xbin xun xbuiltin xindexAddr nilOr xindex xint cv cv1 retQ xres_tmp xres_cell xres_nil xresult xbuild xfill xbuildSlice xrows Nat.testBit places xfield item sideOk pendOk pendOf tyT1 tyT2 tyT3 tyT4 tyT5 tyT9 tyT22 tyT23 tyT24 tyT25 tyT26 tyT30 tyT34 tyT39 tyT41 tyT47 tyT48 tyT50 tyT53 tyT54 tyT56 tyT58 tyT63 tyT70 tyT76 tyT78 tyT80 tyT84 tyT87 tyT89 tyT96 tyT98 tyT100 tyT102 tyT108 tyT110 tyT112 tyT113 tyT115 tyT119 tyT121 tyT124 tyT138 tyT139 tyT141 tyT142 tyT143 tyT145 tyT147 tyT149 tyT155 tyT158 tyT164 tyT179 tyT186 tyT188 tyT189 tyT194 tyT197 tyT200 tyT216 tyT242 tyT245 H.put_get H.new_get H.row_obj H.grow_obj H.bump_obj H.newArr_obj H.putArr_obj H.moveArr_obj H.put_arr H.new_arr H.row_arr H.grow_arr H.bump_arr H.newArr_get H.putArr_get H.moveArr_get H.put_ext H.new_ext H.newArr_ext H.putArr_ext H.moveArr_ext H.bump_ext H.row_get H.grow_get H.new_next H.row_next H.bump_next H.put_next H.grow_next H.newArr_next H.putArr_next H.moveArr_next H.app_next H.app_obj H.app_arr H.app_get bne emT emM xapp_em xmakeSlice xslice xlookup xmapUpdate keyShape
theorem names_app {h : H} {lo : Nat} {nv : V} {ns : List Kn} (hN : NamesV h lo nv ns) (hl : ns.length ≤ 1000000) (hlo : lo ≤ h.next) (k : Kn) :
    ∃ h3, xappendM (em [113]) 113 nv (.msl h.next 0 1 2) (h.newArr ⟨[knV k], 2, 164⟩) = some (.msl (h.next + 1) 0 (ns.length + 1) 2, h3) ∧ h3.obj = h.obj ∧ h3.ext = h.ext ∧ h3.next = h.next + 2 ∧
      NamesV h3 lo (.msl (h.next + 1) 0 (ns.length + 1) 2) (ns ++ [k]) ∧ (∀ j, j < lo → h3.arr j = h.arr j) := by
  have hT : tyT 113 = some ty113 := rfl
  have hE : tyT 164 = some ty164 := rfl
  rcases hN with ⟨rfl, rfl⟩ | ⟨id, a, rfl, g1, hid, g2, g3, g4, g5, g6⟩
  · refine ⟨(h.newArr ⟨[knV k], 2, 164⟩).newArr ⟨[knV k], 2, 164⟩, ?_, rfl, rfl, rfl, .inr ⟨h.next + 1, ⟨[knV k], 2, 164⟩, by simp, by omega, by simp [H.newArr_next], by simp [H.newArr_get, H.newArr_next], rfl, rfl, by simp, by simp⟩, fun j hj => ?_⟩
    · simp [-Int.natCast_add, isM, xappendM, rowsIn, hT, hE, knV, maxLen]
    · rw [H.newArr_get, if_neg (by rw [H.newArr_next]; omega), H.newArr_get, if_neg (by omega)]
  · refine ⟨(h.newArr ⟨[knV k], 2, 164⟩).moveArr id ⟨ns.map knV ++ [knV k], 2, 164⟩, ?_, rfl, rfl, rfl, .inr ⟨h.next + 1, ⟨ns.map knV ++ [knV k], 2, 164⟩, by simp, by omega, by simp [H.newArr_next, H.moveArr_next], by simp [H.moveArr_get, H.newArr_next], rfl, rfl, by simp, by simp [List.take_of_length_le]⟩, fun j hj => ?_⟩
    · have n1 : id ≠ h.next := by omega
      simp [-Int.natCast_add, isM, xappendM, rowsIn, hT, hE, knV, maxLen, n1, g2, g4, g5, g6]
      omega
    · rw [H.moveArr_get, if_neg (by rw [H.newArr_next]; omega), if_neg (by omega), H.newArr_get, if_neg (by omega)]
theorem isM_names {h : H} {lo : Nat} {nv : V} {ns : List Kn} (hN : NamesV h lo nv ns) : isM (em [113]) 113 nv = true := by
  rcases hN with ⟨rfl, _⟩ | ⟨id, a, rfl, _⟩ <;> rfl
def letC (s : CS) (nm : ByteArray) : CS :=
  let s1 := if (findR s.names nm).2 then wrongC s 11 else s
  { s1 with slots := s1.slots ++ [s1.locals], names := s1.names ++ [(nm, s1.locals)], locals := wr (s1.locals + 1) }
theorem let_calls (c : CC) (h : H) (s : CS) (nv : V) (si sz ci cz : Nat) (hs : CkAt c h s nv si sz ci cz) (hn : s.names.length ≤ 1000000) (hl : s.slots.length ≤ 1000000) (nm : ByteArray) :
    XCalls e 154 [.ptr c.p 0, .lit (.string nm)] h (CkP c h (letC s nm) (fun v => v = .tup [])) := by
  refine XCalls.ofM [113] ?_
  refine XCalls.of Tryz.func154 rfl (by kernel_rfl) ?_
  rw [Tryz.ntmps154]
  have ho := hs.obj
  simp [-Int.natCast_add, isM, xappendM, rowsIn]
  refine ((cfind_calls c h s nv si sz ci cz hs hn nm).mono ?_).toM
  rintro _ h' ⟨rfl, eh⟩
  rw [eh]
  clear eh h'
  unfold letC
  cases hf : (findR s.names nm).2
  · simp [-Int.natCast_add, isM, xappendM, rowsIn, hf, ho]
    refine XW.drawB mixed (L := List.range 17) (B := [0, 0, 2, 6, 14, 30, 0, 64, 192, 448, 960, 1984, 4094, 8191, 16383, 32767, 65535]) (by kernel_rfl) (by kernel_rfl) ?_
    simp only [List.range, List.range.loop, List.map_cons, List.map_nil, item]
    simp only [annot, fillOf, findFill, findStore, srcOf, List.getD_cons_succ, List.getD_cons_zero]
    simp [-Int.natCast_add, isM, xappendM, rowsIn, ho]
    rw [xapp_own 23 (w := 1) rfl rfl rfl rfl (by decide) (lo := c.p + 1) ?a1 ?a2 ?a3 ?a4 ?a5]
    case a1 => rw [List.length_map]; exact hs.slots.mono (Fr.row h 1)
    case a2 => have := hs.lt; omega
    case a3 => simp
    case a4 => simp; omega
    case a5 => simp [maxLen]; omega
    obtain ⟨t1, t2⟩ := use_tail hs s.locals
    simp only [List.map_append, List.map_cons, List.map_nil, intV] at t1 t2
    have hM := isM_names hs.names
    generalize hG : (((h.row 1).app si (s.slots.length + 1)).put c.p (.cells [.map c.fid, c.fv, nv, .lit (.int .i64 s.loops), .lit (.int .i64 s.locals), .slc (h.next + 1) 1 (s.slots.map intV ++ [[.lit (.int .i64 s.locals)]]), .slc ci cz (s.calls.map intV), .lit (.int .i64 s.e)] 115)) = G at t1 t2
    have hq := t1.obj
    simp only [List.map_append, List.map_cons, List.map_nil, intV] at hq
    obtain ⟨h3, x1, x2, x3, x4, x5, x6⟩ := names_app t1.names hn (by have := t1.lt; omega) (nm, s.locals)
    simp [-Int.natCast_add, isM, xappendM, rowsIn, ho, hG]
    refine XW.drawB mixed (L := List.range 17) (B := [0, 0, 2, 6, 14, 0, 0, 64, 192, 448, 960, 2016, 4064, 8190, 16383, 32767, 65535]) (by kernel_rfl) (by kernel_rfl) ?_
    simp only [List.range, List.range.loop, List.map_cons, List.map_nil, item]
    simp only [annot, fillOf, findFill, findStore, srcOf, List.getD_cons_succ, List.getD_cons_zero]
    simp only [knV] at x1
    simp [-Int.natCast_add, hM, hq, x1, x2]
    refine ⟨rfl, ⟨_, _, _, _, _, ⟨by rw [H.put_get, if_pos rfl]; simp [intV, wr], by simp [H.put_next, x4]; have := t1.lt; omega, x5.of_arr rfl (Nat.le_refl _), t1.slots.of_ext (by simp [H.put_next, x4]) (by simp [H.put_ext, x3]), t1.calls.of_ext (by simp [H.put_next, x4]) (by simp [H.put_ext, x3]), t1.apart⟩⟩, ?_⟩
    exact ((t2.trans ⟨by rw [x4]; omega, fun j _ _ => by rw [x2], fun j _ => by rw [x3], fun j hj => x6 j (by omega)⟩).put1 _).put1 _
  · simp [-Int.natCast_add, isM, xappendM, rowsIn, hf, ho]
    refine ((wrongC_calls c h s nv si sz ci cz hs 11).mono ?_).toM
    rintro _ h1 ⟨rfl, hs1, hF1⟩
    have hsl : (wrongC s 11).slots = s.slots := by unfold wrongC; split <;> rfl
    have hsn : (wrongC s 11).names = s.names := by unfold wrongC; split <;> rfl
    have hl1 : (wrongC s 11).slots.length ≤ 1000000 := by rw [hsl]; exact hl
    have hn1 : (wrongC s 11).names.length ≤ 1000000 := by rw [hsn]; exact hn
    have ho1 := hs1.obj
    simp [-Int.natCast_add, isM, xappendM, rowsIn, ho1]
    refine XW.drawB mixed (L := List.range 17) (B := [0, 0, 2, 6, 14, 30, 0, 64, 192, 448, 960, 1984, 4094, 8191, 16383, 32767, 65535]) (by kernel_rfl) (by kernel_rfl) ?_
    simp only [List.range, List.range.loop, List.map_cons, List.map_nil, item]
    simp only [annot, fillOf, findFill, findStore, srcOf, List.getD_cons_succ, List.getD_cons_zero]
    simp [-Int.natCast_add, isM, xappendM, rowsIn, ho1]
    rw [xapp_own 23 (w := 1) rfl rfl rfl rfl (by decide) (lo := c.p + 1) ?a1 ?a2 ?a3 ?a4 ?a5]
    case a1 => rw [List.length_map]; exact hs1.slots.mono (Fr.row h1 1)
    case a2 => have := hs1.lt; omega
    case a3 => simp
    case a4 => simp; omega
    case a5 => simp [maxLen]; omega
    obtain ⟨t1, t2⟩ := use_tail hs1 (wrongC s 11).locals
    simp only [List.map_append, List.map_cons, List.map_nil, intV] at t1 t2
    have hM := isM_names hs1.names
    generalize hG : (((h1.row 1).app si ((wrongC s 11).slots.length + 1)).put c.p (.cells [.map c.fid, c.fv, nv, .lit (.int .i64 (wrongC s 11).loops), .lit (.int .i64 (wrongC s 11).locals), .slc (h1.next + 1) 1 ((wrongC s 11).slots.map intV ++ [[.lit (.int .i64 (wrongC s 11).locals)]]), .slc ci cz ((wrongC s 11).calls.map intV), .lit (.int .i64 (wrongC s 11).e)] 115)) = G at t1 t2
    have hq := t1.obj
    simp only [List.map_append, List.map_cons, List.map_nil, intV] at hq
    obtain ⟨h3, x1, x2, x3, x4, x5, x6⟩ := names_app t1.names hn1 (by have := t1.lt; omega) (nm, (wrongC s 11).locals)
    simp [-Int.natCast_add, isM, xappendM, rowsIn, ho1, hG]
    refine XW.drawB mixed (L := List.range 17) (B := [0, 0, 2, 6, 14, 0, 0, 64, 192, 448, 960, 2016, 4064, 8190, 16383, 32767, 65535]) (by kernel_rfl) (by kernel_rfl) ?_
    simp only [List.range, List.range.loop, List.map_cons, List.map_nil, item]
    simp only [annot, fillOf, findFill, findStore, srcOf, List.getD_cons_succ, List.getD_cons_zero]
    simp only [knV] at x1
    simp [-Int.natCast_add, hM, hq, x1, x2]
    refine ⟨rfl, ⟨_, _, _, _, _, ⟨by rw [H.put_get, if_pos rfl]; simp [intV, wr], by simp [H.put_next, x4]; have := t1.lt; omega, x5.of_arr rfl (Nat.le_refl _), t1.slots.of_ext (by simp [H.put_next, x4]) (by simp [H.put_ext, x3]), t1.calls.of_ext (by simp [H.put_next, x4]) (by simp [H.put_ext, x3]), t1.apart⟩⟩, ?_⟩
    exact (((hF1.trans t2).trans ⟨by rw [x4]; omega, fun j _ _ => by rw [x2], fun j _ => by rw [x3], fun j hj => x6 j (by omega)⟩).put1 _).put1 _
end Go.Proofs.YtjofmihdeblbmaaGreatDoor.Xa
