/- XA, joined: XaSc5. -/
import Derived.Test.YtjofmihdeblbmaaGreatDoorXaM29
/- XA: scope: all of the checker's functions; fun. -/
namespace Go.Proofs.YtjofmihdeblbmaaGreatDoor.Xa
open Go Go.RowKit
set_option linter.unusedVariables false
set_option linter.unusedSimpArgs false
set_option maxRecDepth 100000
set_option maxHeartbeats 1000000
theorem node_all (x : CE) (hx : x.ok) : ∀ f g, g ≤ f → CNode x g
  | 0, g, hg => by
    obtain rfl : g = 0 := by omega
    intro h s T s' hs hf hr
    unfold nodeC at hr
    cases hr
  | f + 1, g, hg => by
    rcases Nat.lt_or_ge g (f + 1) with h1 | h1
    · exact node_all x hx f g (by omega)
    · obtain rfl : g = f + 1 := by omega
      exact node_step x hx f (all_step x f (node_all x hx f)) (node_all x hx f f (Nat.le_refl f))
def parC : CS → List ByteArray → Option (CS × Bool)
  | s, [] => some (s, true)
  | s, p :: ps => if !decide (s.names.length ≤ 1000000) then none else if (findR s.names p).2 then some (s, false) else parC { s with names := s.names ++ [(p, s.locals)], locals := wr (s.locals + 1) } ps
/-- fun's result: locals, slots, calls, error -/
structure FunR where
  locals : Int
  slots : List Int
  calls : List Int
  e : Int
def funEnd (s : CS) : FunR := ⟨s.locals, s.slots, s.calls, if s.e == 0 && ltB 64 s.locals then 65 else s.e⟩
def funK (ts : List FnN) (fns : Fns) (f : Nat) (b : Nd) : CS × Bool → Option FunR
  | (s1, true) => match nodeC ts fns f s1 b with
    | some s2 => some (funEnd s2)
    | none => none
  | (_, false) => some ⟨0, [], [], 11⟩
def funC (ts : List FnN) (fns : Fns) (f : Nat) (s : CS) (F : FnN) : Option FunR :=
  match parC s F.params with
  | some r => funK ts fns f F.body r
  | none => none
def sfV (locals : Int) (si sz ci cz : Nat) (slots calls : List Int) : List V := [.lit (.int .i64 locals), .slc si sz (slots.map intV), .slc ci cz (calls.map intV)]
/-- a row of numbers -/
def rowOk (sz : Nat) (l : List Int) : Prop := l ≠ [] → sz = 1
def FunP (c : CC) (h : H) (r : FunR) : V → H → Prop := fun v h' => FrC c.p h h' ∧ ∃ si sz ci cz, v = .tup [.agg (sfV r.locals si sz ci cz r.slots r.calls), .lit (.int .i64 r.e)] ∧ rowOk sz r.slots ∧ rowOk cz r.calls
theorem Own.ok {h : H} {id sz lo : Nat} {l : List Int} (x : Own h id sz l.length 1 lo) : rowOk sz l := by
  intro h0
  rcases x with ⟨h1, _⟩ | ⟨_, _, h1, _⟩
  · exact absurd (List.length_eq_zero_iff.1 h1) h0
  · exact h1
def ParJ (x : CE) (F : FnT) (h0 : H) (q3 q4 : Nat) (r : CS × Bool) : Nat → List V → H → Prop := fun m fr' h' => ∃ (s : CS) (k : Nat), m = F.params.length - k ∧ k ≤ F.params.length ∧ Ck x.c h' s ∧ FrC x.c.p h0 h' ∧ parC s (F.params.drop k) = some r ∧
  fr'.length = 79 ∧ ev fr' (.tmp 0) = .ptr x.c.p 0 ∧ ev fr' (.tmp 3) = .ptr q3 0 ∧ ev fr' (.tmp 4) = .ptr q4 0 ∧ ev fr' (.tmp 11) = .slc F.pid F.psz (F.params.map strV) ∧ ev fr' (.tmp 12) = .lit (.int .i64 (F.params.length : Nat)) ∧ ev fr' (.tmp 13) = .lit (.int .i64 (k : Nat)) ∧ ev fr' (.tmp 5) = .lit (.int .i64 0)
theorem FnT.v_eq (F : FnT) : F.v = [.lit (.string F.name), .slc F.pid F.psz (F.params.map strV), .lit (.int .i64 F.body.kind), .lit (.int .i64 F.body.op), .lit (.string F.body.str), .lit (.int .i64 F.body.num), .slc F.body.kid F.body.ksz (F.body.kl.map TN.v)] := by
  unfold FnT.v
  rw [TN.v_eq]
attribute [local simp] hid2 hid3 hid4 xcode_skip xcode_region xcode_draw xcode_loop xcode_seq xcode_cond xcode_block xcode_scope xcode_exit xcode_ret xops_nil xops_cons xd_nil xd_cons xstep_eq annot fillOf findFill findStore srcOf kcls cls qval qvalN xwant dstAt want1 xdo xop ev_const ev_global ev_func ev_zero ev_succ ev_undefs ev_hit ev_miss put_none put_len undefs_len xnil xfieldAddr fieldOf eT emtb seqQ blockQ xload xstore splice V.storable V.one V.cells mk xbinop xbin xun xbuiltin xindexAddr nilOr xindex xint cv cv1 retQ xres_tmp xres_cell xres_nil xresult xbuild xfill xbuildSlice xrows Nat.testBit places xfield item sideOk pendOk pendOf tyT1 tyT2 tyT3 tyT4 tyT5 tyT9 tyT22 tyT23 tyT24 tyT25 tyT26 tyT30 tyT34 tyT39 tyT41 tyT47 tyT48 tyT50 tyT53 tyT54 tyT56 tyT58 tyT63 tyT70 tyT76 tyT78 tyT80 tyT84 tyT87 tyT89 tyT96 tyT98 tyT100 tyT102 tyT108 tyT110 tyT112 tyT113 tyT115 tyT119 tyT121 tyT124 tyT138 tyT139 tyT141 tyT142 tyT143 tyT145 tyT147 tyT149 tyT155 tyT158 tyT164 tyT179 tyT186 tyT188 tyT189 tyT194 tyT197 tyT200 tyT216 tyT242 tyT245 H.put_get H.new_get H.row_obj H.grow_obj H.bump_obj H.newArr_obj H.putArr_obj H.moveArr_obj H.put_arr H.new_arr H.row_arr H.grow_arr H.bump_arr H.newArr_get H.putArr_get H.moveArr_get H.put_ext H.new_ext H.newArr_ext H.putArr_ext H.moveArr_ext H.bump_ext H.row_get H.grow_get H.new_next H.row_next H.bump_next H.put_next H.grow_next H.newArr_next H.putArr_next H.moveArr_next H.app_next H.app_obj H.app_arr H.app_get bne emT emM xapp_em xmakeSlice xslice xlookup xmapUpdate keyShape
theorem cfun_calls (x : CE) (hx : x.ok) (f : Nat) (h : H) (s : CS) (F : FnT) (hF0 : F.ok) (hpl : F.params.length ≤ 1000000) (r : FunR) (hs : Ck x.c h s) (hf : FnsAt x.c h x.lid x.lsz x.ts x.fns) (hr : funC (x.ts.map FnT.fn) x.fns f s F.fn = some r) :
    XCalls e 57 [.ptr x.c.p 0, .agg F.v] h (FunP x.c h r) := by
  rw [FnT.v_eq]
  refine XCalls.ofM [113] ?_
  refine XCalls.of Tryz.func57 rfl (by kernel_rfl) ?_
  rw [Tryz.ntmps57]
  have hlt : x.c.p < h.next := by obtain ⟨nv, si, sz, ci, cz, h⟩ := hs; exact h.lt
  obtain ⟨n1, n2, n3, n4⟩ := ne4 hlt
  unfold funC at hr
  simp [-Int.natCast_add, isM, xappendM, rowsIn]
  obtain ⟨r0, hpar⟩ : ∃ r0, parC s F.params = some r0 := by
    split at hr
    · exact ⟨_, by assumption⟩
    · cases hr
  have hr' : funK (x.ts.map FnT.fn) x.fns f F.body.nd r0 = some r := by
    have hp2 : parC s F.fn.params = some r0 := hpar
    rw [hp2] at hr
    exact hr
  clear hr
  have hFr : Fr h ((h.new (.cells [.lit (.string F.name), .slc F.pid F.psz (F.params.map strV), .lit (.int .i64 F.body.kind), .lit (.int .i64 F.body.op), .lit (.string F.body.str), .lit (.int .i64 F.body.num), .slc F.body.kid F.body.ksz (F.body.kl.map TN.v)] 70)).new (.cells [.lit (.int .i64 0), .slc 0 0 [], .slc 0 0 []] 30)) := by
    repeat' first | exact Fr.refl _ | assumption | refine Fr.put ?_ (by omega) _ | refine Fr.new1 ?_ _ | refine Fr.row1 ?_ _ | refine Fr.bump1 ?_ | refine Fr.app ?_ (by first | assumption | omega) _ | refine Fr.grow ?_ (by omega) _ | refine Fr.newArr1 ?_ _ | refine Fr.putArr ?_ (by omega) _ | refine Fr.moveArr ?_ (by omega) _ | refine Fr.trans ?_ (by assumption)
  have hFC := hFr.c (p := x.c.p) (Nat.le_of_lt hlt)
  obtain ⟨nv0, si0, sz0, ci0, cz0, hsA⟩ := hs
  have hbox : ∀ {h1 : H}, FrC x.c.p ((h.new (.cells [.lit (.string F.name), .slc F.pid F.psz (F.params.map strV), .lit (.int .i64 F.body.kind), .lit (.int .i64 F.body.op), .lit (.string F.body.str), .lit (.int .i64 F.body.num), .slc F.body.kid F.body.ksz (F.body.kl.map TN.v)] 70)).new (.cells [.lit (.int .i64 0), .slc 0 0 [], .slc 0 0 []] 30)) h1 → h1.obj h.next = some (.cells [.lit (.string F.name), .slc F.pid F.psz (F.params.map strV), .lit (.int .i64 F.body.kind), .lit (.int .i64 F.body.op), .lit (.string F.body.str), .lit (.int .i64 F.body.num), .slc F.body.kid F.body.ksz (F.body.kl.map TN.v)] 70) ∧ h1.obj (h.next + 1) = some (.cells [.lit (.int .i64 0), .slc 0 0 [], .slc 0 0 []] 30) ∧ x.c.p < h1.next ∧ h.next + 2 ≤ h1.next := fun hF => by
    have hn := hF.next
    simp only [H.new_next] at hn
    refine ⟨(hF.obj _ (by simp [H.new_next]; omega) n2).trans ?_, (hF.obj _ (by simp [H.new_next]) (n4 1)).trans ?_, by omega, hn⟩
    · simp [H.new_get, H.new_next]
    · simp [H.new_get, H.new_next]
  refine XW.loopH (ParJ x F ((h.new (.cells [.lit (.string F.name), .slc F.pid F.psz (F.params.map strV), .lit (.int .i64 F.body.kind), .lit (.int .i64 F.body.op), .lit (.string F.body.str), .lit (.int .i64 F.body.num), .slc F.body.kid F.body.ksz (F.body.kl.map TN.v)] 70)).new (.cells [.lit (.int .i64 0), .slc 0 0 [], .slc 0 0 []] 30)) h.next (h.next + 1) r0) F.params.length ?_ ?_
  · refine ⟨s, 0, rfl, Nat.zero_le _, ⟨_, _, _, _, _, hsA.fr hFr⟩, FrC.refl _ _, by simpa using hpar, ?_⟩
    simp [-Int.natCast_add, isM, xappendM, rowsIn]
  · clear hpar hsA s
    rintro m fr' h' ⟨s, k, rfl, hk, ⟨nv, si, sz, ci, cz, hs⟩, hF, hr, e0, e1, e2, e3, e4, e5, e6, e7⟩
    obtain ⟨b1, b2, b3, b4⟩ := hbox hF
    obtain ⟨m1, m2, m3, m4⟩ := ne4 b3
    have ho := hs.obj
    rcases Nat.lt_or_ge k F.params.length with hi | hi
    · have hi' : (k : Int) < (F.params.length : Nat) := by omega
      have hsz : F.psz = 1 := by
        rcases hF0 with ⟨h1, _⟩ | ⟨_, h1⟩
        · rw [h1] at hi; cases hi
        · exact h1
      rw [List.drop_eq_getElem_cons hi] at hr
      unfold parC at hr
      split at hr
      · cases hr
      rename_i hnl
      have hn : s.names.length ≤ 1000000 := by simpa using hnl
      simp [-Int.natCast_add, isM, xappendM, rowsIn, e0, e1, e2, e3, e4, e5, e6, e7, ltB_t, hi, hi', hsz, strV]
      refine ((cfind_calls x.c h' s nv si sz ci cz hs hn _).mono ?_).toM
      rintro _ h'' ⟨rfl, eh⟩
      rw [eh]
      clear eh h''
      cases hfd : (findR s.names F.params[k]).2
      · simp only [hfd, Bool.false_eq_true, if_false] at hr
        have hM := isM_names hs.names
        obtain ⟨h3, x1, x2, x3, x4, x5, x6⟩ := names_app hs.names hn (by omega) (F.params[k], s.locals)
        simp only [knV] at x1
        simp [-Int.natCast_add, isM, e0, e1, e2, e3, e4, e5, e6, e7, hfd, ho]
        refine XW.drawB mixed (L := List.range 17) (B := [0, 0, 2, 6, 14, 0, 0, 64, 192, 448, 960, 2016, 4064, 8190, 16383, 32767, 65535]) (by kernel_rfl) (by kernel_rfl) ?_
        simp only [List.range, List.range.loop, List.map_cons, List.map_nil, item]
        simp only [annot, fillOf, findFill, findStore, srcOf, List.getD_cons_succ, List.getD_cons_zero]
        simp [-Int.natCast_add, e0, e1, e2, e3, e4, e5, e6, e7, hM, ho, x1, x2]
        have hw := wrap_succ (i := k) (by omega)
        refine ⟨F.params.length - (k + 1), by omega, { s with names := s.names ++ [(F.params[k], s.locals)], locals := wr (s.locals + 1) }, k + 1, rfl, hi, ⟨.msl (h'.next + 1) 0 (s.names.length + 1) 2, si, sz, ci, cz, ⟨by rw [H.put_get, if_pos rfl]; simp [wr], by simp [H.put_next, x4]; omega, ?_, hs.slots.of_ext (by simp [H.put_next, x4]) (by simp [H.put_ext, x3]), hs.calls.of_ext (by simp [H.put_next, x4]) (by simp [H.put_ext, x3]), hs.apart⟩⟩, ?_, hr, ?_⟩
        · exact x5.of_arr rfl (Nat.le_refl _)
        · exact ((hF.trans ⟨by rw [x4]; omega, fun j _ _ => by rw [x2], fun j _ => by rw [x3], fun j hj => x6 j (by omega)⟩).put1 _).put1 _
        · simp [-Int.natCast_add, isM, xappendM, rowsIn, e0, e1, e2, e3, e4, e5, e6, e7, hw]
      · simp only [hfd, if_true] at hr
        obtain rfl := Option.some.inj hr
        obtain rfl := Option.some.inj hr'
        simp [-Int.natCast_add, isM, xappendM, rowsIn, e0, e1, e2, e3, e4, e5, e6, e7, hfd, b1, b2, m1, m2]
        exact ⟨(hFC.trans hF).putNe (by omega) _, 0, 0, 0, 0, rfl, by simp [rowOk], by simp [rowOk]⟩
    · have hi' : (F.params.length : Int) ≤ (k : Int) := by omega
      rw [List.drop_of_length_le hi] at hr
      unfold parC at hr
      obtain rfl := Option.some.inj hr
      have hr2 : (match nodeC (x.ts.map FnT.fn) x.fns f s F.body.nd with | some s2 => some (funEnd s2) | none => none) = some r := hr'
      clear hr'
      split at hr2
      case h_2 => cases hr2
      rename_i s2 hn2
      obtain rfl := Option.some.inj hr2
      simp [-Int.natCast_add, isM, xappendM, rowsIn, e0, e1, e2, e3, e4, e5, e6, e7, ltB_f, hi', b1, b2]
      have hnode := node_all x hx f f (Nat.le_refl f) h' s F.body s2 ⟨_, _, _, _, _, hs⟩ ((hf.mono hFC hlt).mono hF (by simp [H.new_next]; omega)) hn2
      rw [TN.v_eq] at hnode
      refine (hnode.mono ?_).toM
      rintro _ h2 ⟨rfl, ⟨nv2, si2, sz2, ci2, cz2, hs2⟩, hF2⟩
      obtain ⟨d1, d2, d3, d4⟩ := hbox (hF.trans hF2)
      obtain ⟨m1, m2, m3, m4⟩ := ne4 d3
      have ho2 := hs2.obj
      have hpq : x.c.p ≠ h.next + 1 := n3 1
      have hpq' : h.next + 1 ≠ x.c.p := n4 1
      have hend : ∀ ee : Int, ee = (funEnd s2).e → FunP x.c h (funEnd s2) (.tup [.agg [.lit (.int .i64 s2.locals), .slc si2 sz2 (s2.slots.map intV), .slc ci2 cz2 (s2.calls.map intV)], .lit (.int .i64 ee)]) (h2.put (h.next + 1) (.cells [.lit (.int .i64 s2.locals), .slc si2 sz2 (s2.slots.map intV), .slc ci2 cz2 (s2.calls.map intV)] 30)) ∧
          FunP x.c h (funEnd s2) (.tup [.agg [.lit (.int .i64 s2.locals), .slc si2 sz2 (s2.slots.map intV), .slc ci2 cz2 (s2.calls.map intV)], .lit (.int .i64 ee)]) ((h2.put x.c.p (.cells [.map x.c.fid, x.c.fv, nv2, .lit (.int .i64 s2.loops), .lit (.int .i64 s2.locals), .slc si2 sz2 (s2.slots.map intV), .slc ci2 cz2 (s2.calls.map intV), .lit (.int .i64 65)] 115)).put (h.next + 1) (.cells [.lit (.int .i64 s2.locals), .slc si2 sz2 (s2.slots.map intV), .slc ci2 cz2 (s2.calls.map intV)] 30)) := fun ee he => by
        subst he
        exact ⟨⟨((hFC.trans hF).trans hF2).putNe (by omega) _, _, _, _, _, rfl, hs2.slots.ok, hs2.calls.ok⟩, ⟨(((hFC.trans hF).trans hF2).put1 _).putNe (by omega) _, _, _, _, _, rfl, hs2.slots.ok, hs2.calls.ok⟩⟩
      cases he2 : (s2.e == 0)
      · have he2' : (funEnd s2).e = s2.e := by simp [funEnd, he2]
        have he3 : ¬ s2.e = 0 := by simpa using he2
        simp [-Int.natCast_add, isM, xappendM, rowsIn, e0, e1, e2, e3, e4, e5, e6, e7, ho2, he2, d1, d2, hpq, hpq']
        refine XW.drawB mixed (L := List.range 10) (B := [0, 1, 3, 7, 0, 16, 48, 112, 15, 511]) (by kernel_rfl) (by kernel_rfl) ?_
        simp only [List.range, List.range.loop, List.map_cons, List.map_nil, item]
        simp only [annot, fillOf, findFill, findStore, srcOf, List.getD_cons_succ, List.getD_cons_zero]
        simp [-Int.natCast_add, isM, xappendM, rowsIn, e0, e1, e2, e3, e4, e5, e6, e7, ho2, he2, d1, d2, hpq, hpq']
        exact (hend s2.e he2'.symm).1
      · have hz2 : s2.e = 0 := by simpa using he2
        cases hl2 : ltB 64 s2.locals
        · have he2' : (funEnd s2).e = s2.e := by simp [funEnd, he2, hl2]
          simp [-Int.natCast_add, isM, xappendM, rowsIn, e0, e1, e2, e3, e4, e5, e6, e7, ho2, he2, hz2, hl2, d1, d2, hpq, hpq']
          refine XW.drawB mixed (L := List.range 10) (B := [0, 1, 3, 7, 0, 16, 48, 112, 15, 511]) (by kernel_rfl) (by kernel_rfl) ?_
          simp only [List.range, List.range.loop, List.map_cons, List.map_nil, item]
          simp only [annot, fillOf, findFill, findStore, srcOf, List.getD_cons_succ, List.getD_cons_zero]
          simp [-Int.natCast_add, isM, xappendM, rowsIn, e0, e1, e2, e3, e4, e5, e6, e7, ho2, he2, hl2, d1, d2, hpq, hpq']
          exact (hend s2.e he2'.symm).1
        · have he2' : (funEnd s2).e = 65 := by simp [funEnd, he2, hl2]
          simp [-Int.natCast_add, isM, xappendM, rowsIn, e0, e1, e2, e3, e4, e5, e6, e7, ho2, he2, hz2, hl2, d1, d2, hpq, hpq']
          refine XW.drawB mixed (L := List.range 10) (B := [0, 1, 3, 7, 0, 16, 48, 112, 15, 511]) (by kernel_rfl) (by kernel_rfl) ?_
          simp only [List.range, List.range.loop, List.map_cons, List.map_nil, item]
          simp only [annot, fillOf, findFill, findStore, srcOf, List.getD_cons_succ, List.getD_cons_zero]
          simp [-Int.natCast_add, isM, xappendM, rowsIn, e0, e1, e2, e3, e4, e5, e6, e7, ho2, he2, hl2, d1, d2, hpq, hpq']
          exact (hend 65 he2'.symm).2
end Go.Proofs.YtjofmihdeblbmaaGreatDoor.Xa
