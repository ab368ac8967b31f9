/- XA, joined: XaSc4. -/
import Derived.Test.YtjofmihdeblbmaaGreatDoorXaM28
/- XA: scope: node, all; At. -/
namespace Go.Proofs.YtjofmihdeblbmaaGreatDoor.Xa
open Go Go.RowKit
set_option linter.unusedVariables false
set_option linter.unusedSimpArgs false
set_option maxRecDepth 100000
set_option maxHeartbeats 1000000
def TN.kid_n (T : TN) (i : Nat) : TN := (T.kl[i]?).getD (.leaf 0 0 ⟨#[]⟩ 0)
def Nd.kid (n : Nd) (i : Nat) : Nd := (n.kids[i]?).getD nd0
theorem TN.nd_kids (T : TN) : T.nd.kids = T.kl.map TN.nd := by rw [TN.nd_eq]; rfl
theorem kid_nd (T : TN) (i : Nat) : (T.kid_n i).nd = T.nd.kid i := by
  unfold TN.kid_n Nd.kid
  rw [TN.nd_kids, List.getElem?_map]
  cases T.kl[i]? <;> rfl
attribute [local simp] hid2 hid3 hid4 xcode_skip xcode_region xcode_draw xcode_loop xcode_seq xcode_cond xcode_block xcode_scope xcode_exit xcode_ret xops_nil xops_cons xd_nil xd_cons xstep_eq annot fillOf findFill findStore srcOf kcls cls qval qvalN xwant dstAt want1 xdo xop ev_const ev_global ev_func ev_zero ev_succ ev_undefs ev_hit ev_miss put_none put_len undefs_len xnil xfieldAddr fieldOf eT emtb seqQ blockQ xload xstore splice V.storable V.one V.cells mk xbinop xbin xun xbuiltin xindexAddr nilOr xindex xint cv cv1 retQ xres_tmp xres_cell xres_nil xresult xbuild xfill xbuildSlice xrows Nat.testBit places xfield item sideOk pendOk pendOf tyT1 tyT2 tyT3 tyT4 tyT5 tyT9 tyT22 tyT23 tyT24 tyT25 tyT26 tyT30 tyT34 tyT39 tyT41 tyT47 tyT48 tyT50 tyT53 tyT54 tyT56 tyT58 tyT63 tyT70 tyT76 tyT78 tyT80 tyT84 tyT87 tyT89 tyT96 tyT98 tyT100 tyT102 tyT108 tyT110 tyT112 tyT113 tyT115 tyT119 tyT121 tyT124 tyT138 tyT139 tyT141 tyT142 tyT143 tyT145 tyT147 tyT149 tyT155 tyT158 tyT164 tyT179 tyT186 tyT188 tyT189 tyT194 tyT197 tyT200 tyT216 tyT242 tyT245 H.put_get H.new_get H.row_obj H.grow_obj H.bump_obj H.newArr_obj H.putArr_obj H.moveArr_obj H.put_arr H.new_arr H.row_arr H.grow_arr H.bump_arr H.newArr_get H.putArr_get H.moveArr_get H.put_ext H.new_ext H.newArr_ext H.putArr_ext H.moveArr_ext H.bump_ext H.row_get H.grow_get H.new_next H.row_next H.bump_next H.put_next H.grow_next H.newArr_next H.putArr_next H.moveArr_next H.app_next H.app_obj H.app_arr H.app_get bne emT emM xapp_em xmakeSlice xslice xlookup xmapUpdate keyShape
theorem at_calls (h : H) (T : TN) (i : Nat) (hi : i < 1000000) : XCalls e 107 [.agg T.v, .lit (.int .i64 (i : Nat))] h (fun v h' => v = .agg (T.kid_n i).v ∧ Fr h h') := by
  have hv := TN.v_eq T
  rw [hv]
  refine XCalls.of Tryz.func107 rfl (by kernel_rfl) ?_
  rw [Tryz.ntmps107]
  unfold TN.kid_n
  by_cases hlt : i < T.kl.length
  · have hlt' : (i : Int) < (T.kl.length : Int) := by omega
    have h5 : T.ksz = 5 := T.ksz5 (by intro h0; rw [h0] at hlt; cases hlt)
    simp [-Int.natCast_add, isM, xappendM, rowsIn, ltB_t, hlt', hlt, h5, TN.v_len, TN.v_take, TN.v_drop]
    repeat' first | exact Fr.refl _ | assumption | refine Fr.put ?_ (by omega) _ | refine Fr.new1 ?_ _ | refine Fr.row1 ?_ _ | refine Fr.bump1 ?_ | refine Fr.app ?_ (by first | assumption | omega) _ | refine Fr.grow ?_ (by omega) _ | refine Fr.newArr1 ?_ _ | refine Fr.putArr ?_ (by omega) _ | refine Fr.moveArr ?_ (by omega) _ | refine Fr.trans ?_ (by assumption)
  · have hlt' : (T.kl.length : Int) ≤ (i : Int) := by omega
    have hn : T.kl[i]? = none := by simp; omega
    simp [-Int.natCast_add, isM, xappendM, rowsIn, ltB_f, hlt', hn, TN.v]
    repeat' first | exact Fr.refl _ | assumption | refine Fr.put ?_ (by omega) _ | refine Fr.new1 ?_ _ | refine Fr.row1 ?_ _ | refine Fr.bump1 ?_ | refine Fr.app ?_ (by first | assumption | omega) _ | refine Fr.grow ?_ (by omega) _ | refine Fr.newArr1 ?_ _ | refine Fr.putArr ?_ (by omega) _ | refine Fr.moveArr ?_ (by omega) _ | refine Fr.trans ?_ (by assumption)
def okC (s : CS) : Bool := decide (s.names.length ≤ 1000000) && decide (s.slots.length ≤ 1000000) && decide (s.calls.length ≤ 1000000)
mutual
def nodeC (ts : List FnN) (fns : Fns) : Nat → CS → Nd → Option CS
  | 0, _, _ => none
  | f + 1, s, n =>
    if !(s.e == 0) then some s else if !(okC s && decide (n.kids.length ≤ 1000000)) then none else
    if n.kind == 1 then match allC ts fns f s n.kids with
      | some s1 => if s1.e == 0 then (if okC s1 then some (letC s1 n.str) else none) else some s1
      | none => none
    else if n.kind == 2 then allC ts fns f (useC s n.str) n.kids
    else if n.kind == 19 then some (useC s n.str)
    else if n.kind == 20 then match allC ts fns f s n.kids with
      | some s1 => if s1.e == 0 then (if okC s1 then some (callC ts fns s1 n.str n.kids.length) else none) else some s1
      | none => none
    else if n.kind == 10 then match allC ts fns f s n.kids with
      | some s1 => if s.names.length ≤ s1.names.length then some { s1 with names := s1.names.take s.names.length } else none
      | none => none
    else if n.kind == 4 then match nodeC ts fns f s (n.kid 0) with
      | some s1 => match nodeC ts fns f { s1 with loops := wr (s1.loops + 1) } (n.kid 1) with
        | some s2 => some { s2 with loops := wr (s2.loops - 1) }
        | none => none
      | none => none
    else if n.kind == 5 || n.kind == 6 then some (if s.loops == 0 then wrongC s 11 else s)
    else allC ts fns f s n.kids
def allC (ts : List FnN) (fns : Fns) : Nat → CS → List Nd → Option CS
  | 0, _, _ => none
  | f + 1, s, [] => some s
  | f + 1, s, n :: l => match nodeC ts fns f s n with
    | some s1 => allC ts fns f s1 l
    | none => none
end
def CkQ (c : CC) (h : H) (s' : CS) : V → H → Prop := fun v h' => v = .tup [] ∧ Ck c h' s' ∧ FrC c.p h h'
/-- what stays through a checker's work: the functions and their map -/
structure CE where
  c : CC
  lid : Nat
  lsz : Nat
  ts : List FnT
  fns : Fns
structure CE.ok (x : CE) : Prop where
  ok : FnsOk (x.ts.map FnT.fn) x.fns
  tok : ∀ t ∈ x.ts, t.ok
  len : x.ts.length ≤ 1000000
def CNode (x : CE) (f : Nat) : Prop := ∀ (h : H) (s : CS) (T : TN) (s' : CS), Ck x.c h s → FnsAt x.c h x.lid x.lsz x.ts x.fns → nodeC (x.ts.map FnT.fn) x.fns f s T.nd = some s' → XCalls e 103 [.ptr x.c.p 0, .agg T.v] h (CkQ x.c h s')
def CAll (x : CE) (f : Nat) : Prop := ∀ (h : H) (s : CS) (id sz : Nat) (l : List TN) (s' : CS), Ck x.c h s → FnsAt x.c h x.lid x.lsz x.ts x.fns → (l ≠ [] → sz = 5) → l.length ≤ 1000000 → allC (x.ts.map FnT.fn) x.fns f s (l.map TN.nd) = some s' → XCalls e 153 [.ptr x.c.p 0, .slc id sz (l.map TN.v)] h (CkQ x.c h s')
def AllJ (x : CE) (h0 : H) (l : List TN) (id sz : Nat) (s' : CS) : Nat → List V → H → Prop := fun m fr' h' => ∃ (s : CS) (k f : Nat), m = l.length - k ∧ k ≤ l.length ∧ Ck x.c h' s ∧ FrC x.c.p h0 h' ∧ allC (x.ts.map FnT.fn) x.fns f s ((l.drop k).map TN.nd) = some s' ∧ (∀ g, g ≤ f → CNode x g) ∧
  fr'.length = 16 ∧ ev fr' (.tmp 0) = .ptr x.c.p 0 ∧ ev fr' (.tmp 6) = .slc id sz (l.map TN.v) ∧ ev fr' (.tmp 7) = .lit (.int .i64 (l.length : Nat)) ∧ ev fr' (.tmp 8) = .lit (.int .i64 (k : Nat))
theorem all_step (x : CE) (f : Nat) (ih : ∀ g, g ≤ f → CNode x g) : CAll x f := by
  intro h s id sz l s' hs hf h5 hlen hr
  refine XCalls.of Tryz.func153 rfl (by kernel_rfl) ?_
  rw [Tryz.ntmps153]
  simp [-Int.natCast_add, isM, xappendM, rowsIn]
  have hlt : x.c.p < h.next := by obtain ⟨nv, si, sz, ci, cz, h⟩ := hs; exact h.lt
  refine XW.loopH (AllJ x h l id sz s') l.length ?_ ?_
  · refine ⟨s, 0, f, rfl, Nat.zero_le _, hs, FrC.refl _ _, by simpa using hr, ih, ?_⟩
    simp [-Int.natCast_add, isM, xappendM, rowsIn]
  · clear hr ih f hs s
    rintro m fr' h' ⟨s, k, f, rfl, hk, hs, hF, hr, ih, e0, e1, e2, e3, e4⟩
    have hlt' : x.c.p < h'.next := Nat.lt_of_lt_of_le hlt hF.next
    obtain ⟨n1, n2, n3, n4⟩ := ne4 hlt'
    cases f with
    | zero => unfold allC at hr; cases hr
    | succ f =>
    rcases Nat.lt_or_ge k l.length with hi | hi
    · have hi' : (k : Int) < (l.length : Nat) := by omega
      have hsz : sz = 5 := h5 (by intro h0; rw [h0] at hi; cases hi)
      subst hsz
      rw [List.drop_eq_getElem_cons hi, List.map_cons] at hr
      unfold allC at hr
      split at hr
      case h_2 => cases hr
      rename_i s1 hn
      simp [-Int.natCast_add, isM, xappendM, rowsIn, e0, e1, e2, e3, e4, ltB_t, hi, hi', TN.v_len, TN.v_take, TN.v_drop]
      have hFr : Fr h' ((h'.new (.cells [.lit (.int .i64 0), .lit (.int .i64 0), .lit (.string ⟨#[]⟩), .lit (.int .i64 0), .slc 0 0 []] 41)).put h'.next (.cells l[k].v 41)) := by
        repeat' first | exact Fr.refl _ | assumption | refine Fr.put ?_ (by omega) _ | refine Fr.new1 ?_ _ | refine Fr.row1 ?_ _ | refine Fr.bump1 ?_ | refine Fr.app ?_ (by first | assumption | omega) _ | refine Fr.grow ?_ (by omega) _ | refine Fr.newArr1 ?_ _ | refine Fr.putArr ?_ (by omega) _ | refine Fr.moveArr ?_ (by omega) _ | refine Fr.trans ?_ (by assumption)
      have hFC := hFr.c (Nat.le_of_lt hlt')
      obtain ⟨nv, si, sz, ci, cz, hsA⟩ := hs
      have hw := wrap_succ (i := k) (by omega)
      refine ((ih f (Nat.le_succ f)) _ s l[k] s1 ⟨_, _, _, _, _, hsA.fr hFr⟩ ((hf.mono hF hlt).mono hFC hlt') hn).mono ?_
      rintro _ h2 ⟨rfl, hs2, hF2⟩
      simp [-Int.natCast_add, isM, xappendM, rowsIn, e0, e1, e2, e3, e4, hw]
      refine ⟨l.length - (k + 1), by omega, s1, k + 1, f, rfl, hi, hs2, (hF.trans hFC).trans hF2, hr, fun g hg => ih g (Nat.le_succ_of_le hg), ?_⟩
      simp [-Int.natCast_add, isM, xappendM, rowsIn, e0, e1, e2, e3, e4]
    · have hi' : (l.length : Int) ≤ (k : Int) := by omega
      rw [List.drop_of_length_le hi] at hr
      unfold allC at hr
      obtain rfl := Option.some.inj hr
      simp [-Int.natCast_add, isM, xappendM, rowsIn, e0, e1, e2, e3, e4, ltB_f, hi']
      exact ⟨rfl, hs, hF⟩
theorem at_calls2 (h : H) (T : TN) (i : Nat) (hi : i < 1000000) : XCalls e 107 [.agg [.lit (.int .i64 T.kind), .lit (.int .i64 T.op), .lit (.string T.str), .lit (.int .i64 T.num), .slc T.kid T.ksz (T.kl.map TN.v)], .lit (.int .i64 (i : Nat))] h (fun v h' => v = .agg (T.kid_n i).v ∧ Fr h h') := by
  have := at_calls h T i hi
  rw [TN.v_eq T] at this
  exact this
theorem CkAt.setLoops {c : CC} {h : H} {s : CS} {nv : V} {si sz ci cz : Nat} (x : CkAt c h s nv si sz ci cz) (l : Int) : CkAt c (h.put c.p (.cells [.map c.fid, c.fv, nv, .lit (.int .i64 l), .lit (.int .i64 s.locals), .slc si sz (s.slots.map intV), .slc ci cz (s.calls.map intV), .lit (.int .i64 s.e)] 115)) { s with loops := l } nv si sz ci cz :=
  ⟨by rw [H.put_get, if_pos rfl], x.lt, x.names, x.slots, x.calls, x.apart⟩
theorem okC_names {s : CS} (h : okC s = true) : s.names.length ≤ 1000000 ∧ s.slots.length ≤ 1000000 ∧ s.calls.length ≤ 1000000 := by
  simpa [okC, and_assoc] using h
theorem wrongC_loops (s : CS) (er : Int) : (wrongC s er).names = s.names ∧ (wrongC s er).slots = s.slots ∧ (wrongC s er).loops = s.loops := by unfold wrongC; split <;> exact ⟨rfl, rfl, rfl⟩
theorem node_step (x : CE) (hx : x.ok) (f : Nat) (ia : CAll x f) (ih : CNode x f) : CNode x (f + 1) := by
  intro h s T s' hs hf hr
  have hb5 : T.kl ≠ [] → T.ksz = 5 := T.ksz5
  rw [TN.v_eq]
  refine XCalls.of Tryz.func103 rfl (by kernel_rfl) ?_
  rw [Tryz.ntmps103]
  obtain ⟨nv, si, sz, ci, cz, hsA⟩ := hs
  have hlt := hsA.lt
  obtain ⟨n1, n2, n3, n4⟩ := ne4 hlt
  have hFr : Fr h (h.new (.cells [.lit (.int .i64 T.kind), .lit (.int .i64 T.op), .lit (.string T.str), .lit (.int .i64 T.num), .slc T.kid T.ksz (T.kl.map TN.v)] 41)) := Fr.new _ _
  have hFC : FrC x.c.p h (h.new (.cells [.lit (.int .i64 T.kind), .lit (.int .i64 T.op), .lit (.string T.str), .lit (.int .i64 T.num), .slc T.kid T.ksz (T.kl.map TN.v)] 41)) := hFr.c (Nat.le_of_lt hlt)
  have hsB := hsA.fr hFr
  have hfB := hf.mono hFC hlt
  have ho := hsA.obj
  have hoB : (h.new (.cells [.lit (.int .i64 T.kind), .lit (.int .i64 T.op), .lit (.string T.str), .lit (.int .i64 T.num), .slc T.kid T.ksz (T.kl.map TN.v)] 41)).obj h.next = some (.cells [.lit (.int .i64 T.kind), .lit (.int .i64 T.op), .lit (.string T.str), .lit (.int .i64 T.num), .slc T.kid T.ksz (T.kl.map TN.v)] 41) := H.new_self _ _
  have hltB : h.next < (h.new (.cells [.lit (.int .i64 T.kind), .lit (.int .i64 T.op), .lit (.string T.str), .lit (.int .i64 T.num), .slc T.kid T.ksz (T.kl.map TN.v)] 41)).next := Nat.lt_succ_self _
  have hnd := TN.nd_eq T
  have hnk : T.nd.kind = T.kind := by rw [hnd]; rfl
  have hns : T.nd.str = T.str := by rw [hnd]; rfl
  have hkids := T.nd_kids
  unfold nodeC at hr
  rw [hnk, hns, hkids] at hr
  cases he : (s.e == 0)
  · simp [he] at hr
    subst hr
    simp [-Int.natCast_add, isM, xappendM, rowsIn, n1, n2, ho, he]
    exact ⟨rfl, ⟨_, _, _, _, _, hsB⟩, hFC⟩
  · simp only [he, Bool.not_true, Bool.false_eq_true, if_false] at hr
    split at hr
    · cases hr
    rename_i hok
    simp only [Bool.not_eq_true, Bool.not_eq_false', Bool.and_eq_true, decide_eq_true_eq, List.length_map] at hok
    obtain ⟨hokc, hkl⟩ := hok
    obtain ⟨o1, o2, o3⟩ := okC_names hokc
    have hh1 : ∀ {h1 : H}, FrC x.c.p (h.new (.cells [.lit (.int .i64 T.kind), .lit (.int .i64 T.op), .lit (.string T.str), .lit (.int .i64 T.num), .slc T.kid T.ksz (T.kl.map TN.v)] 41)) h1 → h1.obj h.next = some (.cells [.lit (.int .i64 T.kind), .lit (.int .i64 T.op), .lit (.string T.str), .lit (.int .i64 T.num), .slc T.kid T.ksz (T.kl.map TN.v)] 41) ∧ x.c.p < h1.next := fun hF => ⟨(hF.obj _ hltB n2).trans hoB, by have := hF.next; simp [H.new_next] at this; omega⟩
    cases k1 : (T.kind == 1)
    · simp only [k1, Bool.false_eq_true, if_false] at hr
      cases k2 : (T.kind == 2)
      · simp only [k2, Bool.false_eq_true, if_false] at hr
        cases k3 : (T.kind == 19)
        · simp only [k3, Bool.false_eq_true, if_false] at hr
          cases k4 : (T.kind == 20)
          · simp only [k4, Bool.false_eq_true, if_false] at hr
            cases k5 : (T.kind == 10)
            · simp only [k5, Bool.false_eq_true, if_false] at hr
              cases k6 : (T.kind == 4)
              · simp only [k6, Bool.false_eq_true, if_false] at hr
                cases k7 : (T.kind == 5)
                · cases k8 : (T.kind == 6)
                  · simp only [k7, k8, Bool.or_self, Bool.false_eq_true, if_false] at hr
                    simp [-Int.natCast_add, isM, xappendM, rowsIn, n1, n2, ho, he, k1, k2, k3, k4, k5, k6, k7, k8]
                    refine (ia _ s _ _ _ _ ⟨_, _, _, _, _, hsB⟩ hfB hb5 hkl hr).mono ?_
                    rintro _ h1 ⟨rfl, hs1, hF1⟩
                    simp [-Int.natCast_add, isM, xappendM, rowsIn]
                    exact ⟨rfl, hs1, hFC.trans hF1⟩
                  · simp only [k8, Bool.or_true, if_true] at hr
                    obtain rfl := Option.some.inj hr
                    cases hz : (s.loops == 0)
                    · simp [-Int.natCast_add, isM, xappendM, rowsIn, n1, n2, ho, he, k1, k2, k3, k4, k5, k6, k7, k8, hz]
                      exact ⟨rfl, ⟨_, _, _, _, _, hsB⟩, hFC⟩
                    · simp [-Int.natCast_add, isM, xappendM, rowsIn, n1, n2, ho, he, k1, k2, k3, k4, k5, k6, k7, k8, hz]
                      refine (wrongC_calls x.c _ s _ _ _ _ _ hsB 11).mono ?_
                      rintro _ h1 ⟨rfl, hs1, hF1⟩
                      simp [-Int.natCast_add, isM, xappendM, rowsIn]
                      exact ⟨rfl, ⟨_, _, _, _, _, hs1⟩, hFC.trans hF1⟩
                · simp only [k7, Bool.true_or, if_true] at hr
                  obtain rfl := Option.some.inj hr
                  cases hz : (s.loops == 0)
                  · simp [-Int.natCast_add, isM, xappendM, rowsIn, n1, n2, ho, he, k1, k2, k3, k4, k5, k6, k7, hz]
                    exact ⟨rfl, ⟨_, _, _, _, _, hsB⟩, hFC⟩
                  · simp [-Int.natCast_add, isM, xappendM, rowsIn, n1, n2, ho, he, k1, k2, k3, k4, k5, k6, k7, hz]
                    refine (wrongC_calls x.c _ s _ _ _ _ _ hsB 11).mono ?_
                    rintro _ h1 ⟨rfl, hs1, hF1⟩
                    simp [-Int.natCast_add, isM, xappendM, rowsIn]
                    exact ⟨rfl, ⟨_, _, _, _, _, hs1⟩, hFC.trans hF1⟩
              · simp only [k6, if_true] at hr
                split at hr
                case h_2 => cases hr
                rename_i s1 hn1
                split at hr
                case h_2 => cases hr
                rename_i s2 hn2
                obtain rfl := Option.some.inj hr
                rw [← kid_nd] at hn1 hn2
                simp [-Int.natCast_add, isM, xappendM, rowsIn, n1, n2, ho, he, k1, k2, k3, k4, k5, k6]
                refine (at_calls2 _ T 0 (by decide)).mono ?_
                rintro _ h1 ⟨rfl, hF1⟩
                have hFc1 := hF1.c (p := x.c.p) (by simp [H.new_next]; omega)
                simp [-Int.natCast_add, isM, xappendM, rowsIn]
                refine (ih _ s _ s1 ⟨_, _, _, _, _, hsB.fr hF1⟩ (hfB.mono hFc1 hsB.lt) hn1).mono ?_
                rintro _ h2 ⟨rfl, ⟨nv2, si2, sz2, ci2, cz2, hs2⟩, hF2⟩
                obtain ⟨q1, q2⟩ := hh1 (hFc1.trans hF2)
                have ho2 := hs2.obj
                have hL := hs2.setLoops (wr (s1.loops + 1))
                unfold wr at hL
                simp [-Int.natCast_add, isM, xappendM, rowsIn, n1, n2, q1, ho2]
                refine (at_calls2 _ T 1 (by decide)).mono ?_
                rintro _ h3 ⟨rfl, hF3⟩
                have hFp : FrC x.c.p h2 _ := (FrC.refl x.c.p h2).put1 (.cells [.map x.c.fid, x.c.fv, nv2, .lit (.int .i64 (IntKind.i64.wrap (s1.loops + 1))), .lit (.int .i64 s1.locals), .slc si2 sz2 (s1.slots.map intV), .slc ci2 cz2 (s1.calls.map intV), .lit (.int .i64 s1.e)] 115)
                have hFc3 := hF3.c (p := x.c.p) (by simp [H.put_next]; omega)
                simp [-Int.natCast_add, isM, xappendM, rowsIn]
                refine (ih _ _ _ s2 ⟨_, _, _, _, _, hL.fr hF3⟩ ((((hfB.mono hFc1 hsB.lt).mono hF2 (hsB.fr hF1).lt).mono hFp q2).mono hFc3 hL.lt) hn2).mono ?_
                rintro _ h4 ⟨rfl, ⟨nv4, si4, sz4, ci4, cz4, hs4⟩, hF4⟩
                have ho4 := hs4.obj
                simp [-Int.natCast_add, isM, xappendM, rowsIn, ho4]
                have hL4 := hs4.setLoops (wr (s2.loops - 1))
                unfold wr at hL4
                exact ⟨rfl, ⟨_, _, _, _, _, hL4⟩, (((((hFC.trans hFc1).trans hF2).trans hFp).trans hFc3).trans hF4).put1 _⟩
            · simp only [k5, if_true] at hr
              split at hr
              case h_2 => cases hr
              rename_i s1 hal
              split at hr
              case isFalse => cases hr
              rename_i hle
              obtain rfl := Option.some.inj hr
              rcases hsA.names with ⟨rfl, hn0⟩ | ⟨id, a, rfl, g1, g2, g3, g4, g5, g6, g7⟩
              · simp [-Int.natCast_add, isM, xappendM, rowsIn, n1, n2, ho, he, k1, k2, k3, k4, k5]
                refine (ia _ s _ _ _ _ ⟨_, _, _, _, _, hsB⟩ hfB hb5 hkl hal).mono ?_
                rintro _ h1 ⟨rfl, ⟨nv1, si1, sz1, ci1, cz1, hs1⟩, hF1⟩
                obtain ⟨q1, q2⟩ := hh1 hF1
                have ho1 := hs1.obj
                have fin : ∀ v, NamesV h1 (x.c.p + 1) v (s1.names.take s.names.length) → CkAt x.c (h1.put x.c.p (.cells [.map x.c.fid, x.c.fv, v, .lit (.int .i64 s1.loops), .lit (.int .i64 s1.locals), .slc si1 sz1 (s1.slots.map intV), .slc ci1 cz1 (s1.calls.map intV), .lit (.int .i64 s1.e)] 115)) { s1 with names := s1.names.take s.names.length } v si1 sz1 ci1 cz1 :=
                  fun v hv => ⟨by rw [H.put_get, if_pos rfl], hs1.lt, hv, hs1.slots, hs1.calls, hs1.apart⟩
                have hlt2 : (s1.names.take s.names.length).length = s.names.length := by rw [List.length_take]; omega
                rcases hs1.names with ⟨rfl, hm0⟩ | ⟨id1, a1, rfl, m1, m2, m3, m4, m5, m6, m7⟩
                · have hs0 : s.names = [] := by rw [hm0] at hle; exact List.length_eq_zero_iff.1 (Nat.le_zero.1 hle)
                  simp [-Int.natCast_add, isM, xappendM, rowsIn, n1, n2, q1, ho1, hs0]
                  have ff := fin (.slc 0 0 []) (.inl ⟨rfl, by rw [hs0]; simp⟩)
                  simp only [hs0, List.length_nil, List.take_zero] at ff
                  exact ⟨rfl, ⟨_, _, _, _, _, ff⟩, (hFC.trans hF1).put1 _⟩
                · have hle' : (s.names.length : Int) ≤ (s1.names.length : Nat) := by omega
                  simp [-Int.natCast_add, isM, xappendM, rowsIn, n1, n2, q1, ho1, m3, m4, m6, hle, hle', hn0]
                  have ff := fin (.msl id1 0 s.names.length 2) (.inr ⟨id1, a1, by rw [hlt2], m1, m2, m3, m4, m5, by rw [hlt2]; omega, by rw [hlt2, hn0]; simp⟩)
                  simp only [hn0, List.length_nil, List.take_zero] at ff
                  exact ⟨rfl, ⟨_, _, _, _, _, ff⟩, (hFC.trans hF1).put1 _⟩
              · simp [-Int.natCast_add, isM, xappendM, rowsIn, n1, n2, ho, he, k1, k2, k3, k4, k5]
                refine (ia _ s _ _ _ _ ⟨_, _, _, _, _, hsB⟩ hfB hb5 hkl hal).mono ?_
                rintro _ h1 ⟨rfl, ⟨nv1, si1, sz1, ci1, cz1, hs1⟩, hF1⟩
                obtain ⟨q1, q2⟩ := hh1 hF1
                have ho1 := hs1.obj
                have fin : ∀ v, NamesV h1 (x.c.p + 1) v (s1.names.take s.names.length) → CkAt x.c (h1.put x.c.p (.cells [.map x.c.fid, x.c.fv, v, .lit (.int .i64 s1.loops), .lit (.int .i64 s1.locals), .slc si1 sz1 (s1.slots.map intV), .slc ci1 cz1 (s1.calls.map intV), .lit (.int .i64 s1.e)] 115)) { s1 with names := s1.names.take s.names.length } v si1 sz1 ci1 cz1 :=
                  fun v hv => ⟨by rw [H.put_get, if_pos rfl], hs1.lt, hv, hs1.slots, hs1.calls, hs1.apart⟩
                have hlt2 : (s1.names.take s.names.length).length = s.names.length := by rw [List.length_take]; omega
                rcases hs1.names with ⟨rfl, hm0⟩ | ⟨id1, a1, rfl, m1, m2, m3, m4, m5, m6, m7⟩
                · have hs0 : s.names = [] := by rw [hm0] at hle; exact List.length_eq_zero_iff.1 (Nat.le_zero.1 hle)
                  simp [-Int.natCast_add, isM, xappendM, rowsIn, n1, n2, q1, ho1, hs0]
                  have ff := fin (.slc 0 0 []) (.inl ⟨rfl, by rw [hs0]; simp⟩)
                  simp only [hs0, List.length_nil, List.take_zero] at ff
                  exact ⟨rfl, ⟨_, _, _, _, _, ff⟩, (hFC.trans hF1).put1 _⟩
                · have hle' : (s.names.length : Int) ≤ (s1.names.length : Nat) := by omega
                  simp [-Int.natCast_add, isM, xappendM, rowsIn, n1, n2, q1, ho1, m3, m4, m6, hle, hle']
                  exact ⟨rfl, ⟨_, _, _, _, _, fin (.msl id1 0 s.names.length 2) (.inr ⟨id1, a1, by rw [hlt2], m1, m2, m3, m4, m5, by rw [hlt2]; omega, by rw [hlt2, List.map_take, ← m7, List.take_take, Nat.min_eq_left hle]⟩)⟩, (hFC.trans hF1).put1 _⟩
          · simp only [k4, if_true] at hr
            split at hr
            case h_2 => cases hr
            rename_i s1 hal
            simp [-Int.natCast_add, isM, xappendM, rowsIn, n1, n2, ho, he, k1, k2, k3, k4]
            refine (ia _ s _ _ _ _ ⟨_, _, _, _, _, hsB⟩ hfB hb5 hkl hal).mono ?_
            rintro _ h1 ⟨rfl, ⟨nv1, si1, sz1, ci1, cz1, hs1⟩, hF1⟩
            obtain ⟨q1, q2⟩ := hh1 hF1
            have ho1 := hs1.obj
            cases he1 : (s1.e == 0)
            · simp [he1] at hr
              subst hr
              simp [-Int.natCast_add, isM, xappendM, rowsIn, n1, n2, q1, ho1, he1]
              exact ⟨rfl, ⟨_, _, _, _, _, hs1⟩, hFC.trans hF1⟩
            · simp only [he1, if_true] at hr
              split at hr
              case isFalse => cases hr
              rename_i hokc1
              obtain ⟨p1, p2, p3⟩ := okC_names hokc1
              obtain rfl := Option.some.inj hr
              simp [-Int.natCast_add, isM, xappendM, rowsIn, n1, n2, q1, ho1, he1]
              have hcc := call_calls x.c h1 s1 _ _ _ _ _ hs1 p3 x.lid x.lsz x.ts x.fns (hfB.mono hF1 hsB.lt) hx.ok hx.tok hx.len T hkl
              rw [TN.v_eq] at hcc
              refine hcc.mono ?_
              rintro _ h2 ⟨rfl, hs2, hF2⟩
              simp [-Int.natCast_add, isM, xappendM, rowsIn]
              exact ⟨rfl, hs2, (hFC.trans hF1).trans hF2⟩
        · simp only [k3, if_true] at hr
          obtain rfl := Option.some.inj hr
          simp [-Int.natCast_add, isM, xappendM, rowsIn, n1, n2, ho, he, k1, k2, k3]
          refine (use_calls x.c _ s _ _ _ _ _ hsB o1 o2 _).mono ?_
          rintro _ h1 ⟨rfl, hs1, hF1⟩
          simp [-Int.natCast_add, isM, xappendM, rowsIn]
          exact ⟨rfl, hs1, hFC.trans hF1⟩
      · simp only [k2, if_true] at hr
        simp [-Int.natCast_add, isM, xappendM, rowsIn, n1, n2, ho, he, k1, k2]
        refine (use_calls x.c _ s _ _ _ _ _ hsB o1 o2 _).mono ?_
        rintro _ h1 ⟨rfl, hs1, hF1⟩
        obtain ⟨q1, q2⟩ := hh1 hF1
        simp [-Int.natCast_add, isM, xappendM, rowsIn, n1, n2, q1]
        refine (ia _ _ _ _ _ _ hs1 (hfB.mono hF1 hsB.lt) hb5 hkl hr).mono ?_
        rintro _ h2 ⟨rfl, hs2, hF2⟩
        simp [-Int.natCast_add, isM, xappendM, rowsIn]
        exact ⟨rfl, hs2, (hFC.trans hF1).trans hF2⟩
    · simp only [k1, if_true] at hr
      split at hr
      case h_2 => cases hr
      rename_i s1 hal
      simp [-Int.natCast_add, isM, xappendM, rowsIn, n1, n2, ho, he, k1]
      refine (ia _ s _ _ _ _ ⟨_, _, _, _, _, hsB⟩ hfB hb5 hkl hal).mono ?_
      rintro _ h1 ⟨rfl, ⟨nv1, si1, sz1, ci1, cz1, hs1⟩, hF1⟩
      obtain ⟨q1, q2⟩ := hh1 hF1
      have ho1 := hs1.obj
      cases he1 : (s1.e == 0)
      · simp [he1] at hr
        subst hr
        simp [-Int.natCast_add, isM, xappendM, rowsIn, n1, n2, q1, ho1, he1]
        exact ⟨rfl, ⟨_, _, _, _, _, hs1⟩, hFC.trans hF1⟩
      · simp only [he1, if_true] at hr
        split at hr
        case isFalse => cases hr
        rename_i hokc1
        obtain ⟨p1, p2, p3⟩ := okC_names hokc1
        obtain rfl := Option.some.inj hr
        simp [-Int.natCast_add, isM, xappendM, rowsIn, n1, n2, q1, ho1, he1]
        refine (let_calls x.c h1 s1 _ _ _ _ _ hs1 p1 p2 _).mono ?_
        rintro _ h2 ⟨rfl, hs2, hF2⟩
        simp [-Int.natCast_add, isM, xappendM, rowsIn]
        exact ⟨rfl, hs2, (hFC.trans hF1).trans hF2⟩
end Go.Proofs.YtjofmihdeblbmaaGreatDoor.Xa
