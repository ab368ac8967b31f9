/- XA: val at nil and ints: Nil, Int, Ok, Same, Copy. | XA: gen: the maker and the function under way; put, tick, ahead. | XA: gen: konst. | XA: gen: expressions (ints, twos, calls, lists). | XA: gen: statements (blocks, whiles, prints, dos). -/
import Derived.Test.YtjofmihdeblbmaaGreatDoorXaM33
import Derived.Test.YtjofmihdeblbmaaGreatDoorXaM37
namespace Go.Proofs.YtjofmihdeblbmaaGreatDoor.Xa
open Go Go.RowKit
set_option linter.unusedVariables false
set_option linter.unusedSimpArgs false
set_option maxRecDepth 100000
set_option maxHeartbeats 1000000
/-- nil (kind 0) or an int (kind 1) as a value's cells -/
def scV (k n : Int) : List V := [.lit (.int .i64 k), .lit (.int .i64 n), .lit (.complex .f64 0 0), .lit (.string ⟨#[]⟩), .slc 0 0 []]
def ScOk (k n : Int) : Prop := (k = 0 ∧ n = 0) ∨ k = 1
theorem ScOk.kind {k n : Int} (h : ScOk k n) : ltB k 0 = false ∧ ltB 4 k = false ∧ (k == 2) = false ∧ (k == 4) = false ∧ (k == 3) = false := by
  rcases h with ⟨rfl, _⟩ | rfl <;> decide
attribute [local simp] hid2 hid3 hid4 xcode_skip xcode_region xcode_draw xcode_loop xcode_seq xcode_cond xcode_block xcode_scope xcode_exit xcode_ret xops_nil xops_cons xd_nil xd_cons xstep_eq annot fillOf findFill findStore srcOf kcls cls qval qvalN xwant dstAt want1 xdo xop ev_const ev_global ev_func ev_zero ev_succ ev_undefs ev_hit ev_miss put_none put_len undefs_len xnil xfieldAddr fieldOf eT emtb seqQ blockQ xload xstore splice V.storable V.one V.cells mk xbinop xbin xun xbuiltin xindexAddr nilOr xindex xint cv cv1 retQ xres_tmp xres_cell xres_nil xresult xbuild xfill xbuildSlice xrows Nat.testBit places xfield item sideOk pendOk pendOf tyT1 tyT2 tyT3 tyT4 tyT5 tyT9 tyT22 tyT23 tyT24 tyT25 tyT26 tyT30 tyT34 tyT39 tyT41 tyT47 tyT48 tyT50 tyT53 tyT54 tyT56 tyT58 tyT63 tyT70 tyT76 tyT78 tyT80 tyT84 tyT87 tyT89 tyT96 tyT98 tyT100 tyT102 tyT108 tyT110 tyT112 tyT113 tyT115 tyT119 tyT121 tyT124 tyT138 tyT139 tyT141 tyT142 tyT143 tyT145 tyT147 tyT149 tyT155 tyT158 tyT164 tyT179 tyT186 tyT188 tyT189 tyT194 tyT197 tyT200 tyT216 tyT242 tyT245 H.put_get H.new_get H.row_obj H.grow_obj H.bump_obj H.newArr_obj H.putArr_obj H.moveArr_obj H.put_arr H.new_arr H.row_arr H.grow_arr H.bump_arr H.newArr_get H.putArr_get H.moveArr_get H.put_ext H.new_ext H.newArr_ext H.putArr_ext H.moveArr_ext H.bump_ext H.row_get H.grow_get H.new_next H.row_next H.bump_next H.put_next H.grow_next H.newArr_next H.putArr_next H.moveArr_next H.app_next H.app_obj H.app_arr H.app_get bne emT emM xapp_em xmakeSlice xslice xlookup xmapUpdate keyShape
theorem vnil_calls (h : H) : XCalls e 79 [] h (fun v h' => v = .agg (scV 0 0) ∧ Fr h h') := by
  refine XCalls.of Tryz.func79 rfl (by kernel_rfl) ?_
  rw [Tryz.ntmps79]
  simp [-Int.natCast_add, isM, xappendM, rowsIn, scV]
  repeat' first | exact Fr.refl _ | assumption | refine Fr.put ?_ (by omega) _ | refine Fr.new1 ?_ _ | refine Fr.row1 ?_ _ | refine Fr.bump1 ?_ | refine Fr.app ?_ (by first | assumption | omega) _ | refine Fr.grow ?_ (by omega) _ | refine Fr.newArr1 ?_ _ | refine Fr.putArr ?_ (by omega) _ | refine Fr.moveArr ?_ (by omega) _ | refine Fr.trans ?_ (by assumption)
theorem vint_calls (h : H) (n : Int) : XCalls e 212 [.lit (.int .i64 n)] h (fun v h' => v = .agg (scV 1 n) ∧ Fr h h') := by
  refine XCalls.of Tryz.func212 rfl (by kernel_rfl) ?_
  rw [Tryz.ntmps212]
  simp [-Int.natCast_add, isM, xappendM, rowsIn, scV]
  repeat' first | exact Fr.refl _ | assumption | refine Fr.put ?_ (by omega) _ | refine Fr.new1 ?_ _ | refine Fr.row1 ?_ _ | refine Fr.bump1 ?_ | refine Fr.app ?_ (by first | assumption | omega) _ | refine Fr.grow ?_ (by omega) _ | refine Fr.newArr1 ?_ _ | refine Fr.putArr ?_ (by omega) _ | refine Fr.moveArr ?_ (by omega) _ | refine Fr.trans ?_ (by assumption)
theorem vplain_calls (h : H) (k n : Int) (hk : ScOk k n) : XCalls e 215 [.agg (scV k n)] h (fun v h' => v = .lit (.bool true) ∧ Fr h h') := by
  obtain ⟨k1, k2, k3, k4, k5⟩ := hk.kind
  unfold scV
  refine XCalls.of Tryz.func215 rfl (by kernel_rfl) ?_
  rw [Tryz.ntmps215]
  rcases hk with ⟨rfl, rfl⟩ | rfl
  · simp [-Int.natCast_add, isM, xappendM, rowsIn]
    repeat' first | exact Fr.refl _ | assumption | refine Fr.put ?_ (by omega) _ | refine Fr.new1 ?_ _ | refine Fr.row1 ?_ _ | refine Fr.bump1 ?_ | refine Fr.app ?_ (by first | assumption | omega) _ | refine Fr.grow ?_ (by omega) _ | refine Fr.newArr1 ?_ _ | refine Fr.putArr ?_ (by omega) _ | refine Fr.moveArr ?_ (by omega) _ | refine Fr.trans ?_ (by assumption)
  · cases hn : (n == 0)
    · simp [-Int.natCast_add, isM, xappendM, rowsIn, hn]
      repeat' first | exact Fr.refl _ | assumption | refine Fr.put ?_ (by omega) _ | refine Fr.new1 ?_ _ | refine Fr.row1 ?_ _ | refine Fr.bump1 ?_ | refine Fr.app ?_ (by first | assumption | omega) _ | refine Fr.grow ?_ (by omega) _ | refine Fr.newArr1 ?_ _ | refine Fr.putArr ?_ (by omega) _ | refine Fr.moveArr ?_ (by omega) _ | refine Fr.trans ?_ (by assumption)
    · simp [-Int.natCast_add, isM, xappendM, rowsIn, hn]
      repeat' first | exact Fr.refl _ | assumption | refine Fr.put ?_ (by omega) _ | refine Fr.new1 ?_ _ | refine Fr.row1 ?_ _ | refine Fr.bump1 ?_ | refine Fr.app ?_ (by first | assumption | omega) _ | refine Fr.grow ?_ (by omega) _ | refine Fr.newArr1 ?_ _ | refine Fr.putArr ?_ (by omega) _ | refine Fr.moveArr ?_ (by omega) _ | refine Fr.trans ?_ (by assumption)
theorem vsound_calls (h : H) (k n : Int) (hk : ScOk k n) : XCalls e 181 [.agg (scV k n), .lit (.int .i64 0), .lit (.int .i64 1000)] h (fun v h' => v = .tup [.lit (.int .i64 1), .lit (.bool true)] ∧ Fr h h') := by
  obtain ⟨k1, k2, k3, k4, k5⟩ := hk.kind
  refine XCalls.of Tryz.func181 rfl (by kernel_rfl) ?_
  rw [Tryz.ntmps181]
  unfold scV
  simp [-Int.natCast_add, isM, xappendM, rowsIn, k1, k2, k4]
  refine (vplain_calls _ k n hk).mono ?_
  rintro _ h1 ⟨rfl, hF1⟩
  have ho := (hF1.obj h.next (Nat.lt_succ_self _)).trans (H.new_self _ _)
  simp [-Int.natCast_add, isM, xappendM, rowsIn, k1, k2, k4, ho, bsz, show leB 1000 0 = false from rfl]
  refine XW.loopH (fun m fr' h' => h' = h1 ∧ fr'.length = 78 ∧ ev fr' (.tmp 2) = .lit (.int .i64 1000) ∧ ev fr' (.tmp 8) = .lit (.int .i64 1) ∧ ev fr' (.tmp 48) = .lit (.int .i64 0) ∧ ev fr' (.tmp 49) = .lit (.int .i64 0)) 1 ?_ ?_
  · simp [-Int.natCast_add, isM, xappendM, rowsIn, show IntKind.i64.wrap 1 = 1 from rfl]
  · rintro m fr' h' ⟨rfl, e0, e1, e2, e3, e4⟩
    simp [-Int.natCast_add, isM, xappendM, rowsIn, e0, e1, e2, e3, e4, show ltB 0 0 = false from rfl, show leB 1 1000 = true from rfl]
    exact (Fr.new _ _).trans hF1
theorem vok_calls (h : H) (k n : Int) (hk : ScOk k n) : XCalls e 132 [.agg (scV k n)] h (fun v h' => v = .lit (.bool true) ∧ Fr h h') := by
  refine XCalls.of Tryz.func132 rfl (by kernel_rfl) ?_
  rw [Tryz.ntmps132]
  unfold scV
  simp [-Int.natCast_add, isM, xappendM, rowsIn]
  refine (vsound_calls _ k n hk).mono ?_
  rintro _ h1 ⟨rfl, hF1⟩
  simp [-Int.natCast_add, isM, xappendM, rowsIn]
  exact (Fr.new _ _).trans hF1
theorem vseen_calls (h : H) (k n : Int) (hk : ScOk k n) : XCalls e 183 [.agg (scV k n)] h (fun v h' => v = .agg (scV k n) ∧ Fr h h') := by
  refine XCalls.of Tryz.func183 rfl (by kernel_rfl) ?_
  rw [Tryz.ntmps183]
  unfold scV
  simp [-Int.natCast_add, isM, xappendM, rowsIn]
  refine (vok_calls _ k n hk).mono ?_
  rintro _ h1 ⟨rfl, hF1⟩
  have hn1 := hF1.next
  simp only [H.new_next] at hn1
  have ho := hF1.obj h.next (by simp only [H.new_next]; omega)
  have ho2 := hF1.obj (h.next + 1) (by simp only [H.new_next]; omega)
  simp [H.new_get, H.new_next] at ho ho2
  have n1 : h.next ≠ h.next + 1 := by omega
  simp [-Int.natCast_add, isM, xappendM, rowsIn, ho, ho2, n1]
  exact (((Fr.new _ _).new1 _).trans hF1).put (by omega) _
theorem veq_calls (h : H) : XCalls e 217 [.slc 0 0 [], .slc 0 0 [], .fn 182 []] h (fun v h' => v = .lit (.bool true) ∧ h' = h) := by
  refine XCalls.of Tryz.func217 rfl (by kernel_rfl) ?_
  rw [Tryz.ntmps217]
  simp [-Int.natCast_add, isM, xappendM, rowsIn]
  refine XW.loopH (fun m fr' h' => h' = h ∧ fr'.length = 32 ∧ ev fr' (.tmp 16) = .lit (.int .i64 0) ∧ ev fr' (.tmp 17) = .lit (.int .i64 0)) 1 ?_ ?_
  · simp [-Int.natCast_add, isM, xappendM, rowsIn]
  · rintro m fr' h' ⟨rfl, e0, e1, e2⟩
    simp [-Int.natCast_add, isM, xappendM, rowsIn, e0, e1, e2, show ltB 0 0 = false from rfl]
theorem valike_calls (h : H) (k n k' n' : Int) (hk : ScOk k n) (hk' : ScOk k' n') : XCalls e 182 [.agg (scV k n), .agg (scV k' n')] h (fun v h' => v = .lit (.bool (k == k' && n == n')) ∧ Fr h h') := by
  obtain ⟨k1, k2, k3, k4, k5⟩ := hk.kind
  refine XCalls.of Tryz.func182 rfl (by kernel_rfl) ?_
  rw [Tryz.ntmps182]
  unfold scV
  have fin : ∀ o o', Fr h ((h.new o).new o') := fun o o' => (Fr.new _ _).new1 _
  cases g1 : (k == k')
  · simp [-Int.natCast_add, isM, xappendM, rowsIn, g1]
    exact fin _ _
  · cases g2 : (n == n')
    · simp [-Int.natCast_add, isM, xappendM, rowsIn, g1, g2]
      exact fin _ _
    · simp [-Int.natCast_add, isM, xappendM, rowsIn, g1, g2, k3]
      refine (veq_calls _).mono ?_
      rintro _ h' ⟨rfl, eh⟩
      rw [eh]
      clear eh h'
      simp [-Int.natCast_add, isM, xappendM, rowsIn, g1, g2, k3]
      exact fin _ _
theorem vsame_calls (h : H) (k n k' n' : Int) (hk : ScOk k n) (hk' : ScOk k' n') : XCalls e 135 [.agg (scV k n), .agg (scV k' n')] h (fun v h' => v = .lit (.bool (k == k' && n == n')) ∧ Fr h h') := by
  refine XCalls.of Tryz.func135 rfl (by kernel_rfl) ?_
  rw [Tryz.ntmps135]
  unfold scV
  simp [-Int.natCast_add, isM, xappendM, rowsIn]
  refine XW.drawB mixed (L := [0, 2, 1, 3, 4, 5]) (B := [0, 1, 0, 7, 15, 31]) (by kernel_rfl) (by kernel_rfl) ?_
  simp only [List.map_cons, List.map_nil, item]
  simp only [annot, fillOf, findFill, findStore, srcOf, List.getD_cons_succ, List.getD_cons_zero]
  simp [-Int.natCast_add, isM, xappendM, rowsIn]
  refine (vseen_calls _ k n hk).mono ?_
  rintro _ h1 ⟨rfl, hF1⟩
  have hn1 := hF1.next
  simp only [H.new_next] at hn1
  have ho := hF1.obj h.next (by simp only [H.new_next]; omega)
  have ho2 := hF1.obj (h.next + 1) (by simp only [H.new_next]; omega)
  simp [H.new_get, H.new_next] at ho ho2
  simp [-Int.natCast_add, isM, xappendM, rowsIn, ho, ho2]
  refine (vseen_calls _ k' n' hk').mono ?_
  rintro _ h2 ⟨rfl, hF2⟩
  simp [-Int.natCast_add, isM, xappendM, rowsIn]
  refine (valike_calls _ k n k' n' hk hk').mono ?_
  rintro _ h3 ⟨rfl, hF3⟩
  simp [-Int.natCast_add, isM, xappendM, rowsIn]
  exact ((((Fr.new _ _).new1 _).trans hF1).trans hF2).trans hF3
theorem vcopied_calls (h : H) (k n : Int) (hk : ScOk k n) : XCalls e 218 [.agg (scV k n)] h (fun v h' => v = .agg (scV k n) ∧ Fr h h') := by
  obtain ⟨k1, k2, k3, k4, k5⟩ := hk.kind
  refine XCalls.of Tryz.func218 rfl (by kernel_rfl) ?_
  rw [Tryz.ntmps218]
  unfold scV
  simp [-Int.natCast_add, isM, xappendM, rowsIn, k4, show h.next ≠ h.next + 1 by omega]
  exact ((Fr.new _ _).new1 _).put (by omega) _
theorem vis_calls (h : H) (k n : Int) (hk : ScOk k n) : XCalls e 184 [.agg (scV k n)] h (fun v h' => v = .agg (scV k n) ∧ Fr h h') := by
  refine XCalls.of Tryz.func184 rfl (by kernel_rfl) ?_
  rw [Tryz.ntmps184]
  unfold scV
  simp [-Int.natCast_add, isM, xappendM, rowsIn]
  refine (vok_calls _ k n hk).mono ?_
  rintro _ h1 ⟨rfl, hF1⟩
  have hn1 := hF1.next
  simp only [H.new_next] at hn1
  have ho := hF1.obj h.next (by simp only [H.new_next]; omega)
  have ho2 := hF1.obj (h.next + 1) (by simp only [H.new_next]; omega)
  simp [H.new_get, H.new_next] at ho ho2
  simp [-Int.natCast_add, isM, xappendM, rowsIn, ho, ho2]
  refine (vcopied_calls _ k n hk).mono ?_
  rintro _ h2 ⟨rfl, hF2⟩
  have ho3 := (hF2.obj (h.next + 1) (by omega)).trans ho2
  unfold scV
  simp [-Int.natCast_add, isM, xappendM, rowsIn, ho3]
  exact ((((Fr.new _ _).new1 _).trans hF1).trans hF2).put (by omega) _
theorem vcopy_calls (h : H) (k n : Int) (hk : ScOk k n) : XCalls e 136 [.agg (scV k n)] h (fun v h' => v = .agg (scV k n) ∧ Fr h h') := by
  refine XCalls.of Tryz.func136 rfl (by kernel_rfl) ?_
  rw [Tryz.ntmps136]
  unfold scV
  simp [-Int.natCast_add, isM, xappendM, rowsIn]
  refine (vis_calls _ k n hk).mono ?_
  rintro _ h1 ⟨rfl, hF1⟩
  have ho2 := hF1.obj (h.next + 1) (by simp only [H.new_next]; omega)
  simp [H.new_get, H.new_next] at ho2
  unfold scV
  simp [-Int.natCast_add, isM, xappendM, rowsIn, ho2]
  exact (((Fr.new _ _).new1 _).trans hF1).put (by omega) _
end Go.Proofs.YtjofmihdeblbmaaGreatDoor.Xa
namespace Go.Proofs.YtjofmihdeblbmaaGreatDoor.Xa
open Go Go.RowKit
set_option linter.unusedVariables false
set_option linter.unusedSimpArgs false
set_option maxRecDepth 100000
set_option maxHeartbeats 1000000
abbrev Ins := Int × Int × Int
def insV (i : Ins) : List V := [.lit (.int .i64 i.1), .lit (.int .i64 i.2.1), .lit (.int .i64 i.2.2)]
/-- the function under way: what does not turn -/
structure GC where
  w : Nat
  m : Nat
  name : ByteArray
  params : Int
  locals : Int
  nloc : Int
  si : Nat
  sz : Nat
  slots : List Int
/-- .. and what does -/
structure GS where
  ticks : Int
  big : Bool
  consts : List (Int × Int)
  code : List Ins
  calls : List Int
def kV (p : Int × Int) : List V := scV p.1 p.2
/-- a row of instructions that is written in place -/
def CodeV (h : H) (lo : Nat) (v : V) (l : List Ins) : Prop :=
  (v = .slc 0 0 [] ∧ l = []) ∨ ∃ id r, v = .msl id 0 l.length 3 ∧ lo ≤ id ∧ id < h.next ∧ h.arr id = some ⟨l.map insV ++ r, 3, 58⟩
structure GnAt (c : GC) (h : H) (s : GS) (kid ksz : Nat) (cv : V) (ci cz : Nat) (bv gv : V) : Prop where
  objw : h.obj c.w = some (.cells [.ptr c.m 0, .lit (.string c.name), .lit (.int .i64 c.params), .lit (.int .i64 c.locals), .slc kid ksz (s.consts.map kV), cv, .lit (.int .i64 c.nloc), .slc c.si c.sz (c.slots.map intV), .slc ci cz (s.calls.map intV), bv, gv] 145)
  objm : h.obj c.m = some (.cells [.lit (.int .i64 s.ticks), .lit (.bool s.big)] 141)
  ltw : c.w < h.next
  ltm : c.m < c.w
  consts : Own h kid ksz s.consts.length 5 (c.w + 1)
  code : CodeV h (c.w + 1) cv s.code
  calls : s.calls ≠ [] → cz = 1 ∧ ci ≠ 0
structure FrG (c : GC) (h h' : H) : Prop where
  next : h.next ≤ h'.next
  obj : ∀ j, j < h.next → j ≠ c.w → j ≠ c.m → h'.obj j = h.obj j
  ext : ∀ j, j < c.w → h'.ext j = h.ext j
  arr : ∀ j, j < c.w → h'.arr j = h.arr j
theorem FrG.refl (c : GC) (h : H) : FrG c h h := ⟨Nat.le_refl _, fun _ _ _ _ => rfl, fun _ _ => rfl, fun _ _ => rfl⟩
theorem FrG.trans {c : GC} {a b d : H} (x : FrG c a b) (y : FrG c b d) : FrG c a d := ⟨Nat.le_trans x.next y.next, fun j h1 h2 h3 => (y.obj j (Nat.lt_of_lt_of_le h1 x.next) h2 h3).trans (x.obj j h1 h2 h3), fun j hj => (y.ext j hj).trans (x.ext j hj), fun j hj => (y.arr j hj).trans (x.arr j hj)⟩
theorem Fr.g {c : GC} {h h' : H} (x : Fr h h') (hw : c.w < h.next) : FrG c h h' := ⟨x.next, fun j h1 _ _ => x.obj j h1, fun j hj => x.ext j (Nat.lt_trans hj hw), fun j hj => x.arr j (Nat.lt_trans hj hw)⟩
def GnP (c : GC) (s : GS) (bv gv : V) (h : H) : Prop := ∃ kid ksz cv ci cz, GnAt c h s kid ksz cv ci cz bv gv
def GnQ (c : GC) (h : H) (s : GS) (bv gv : V) (vp : V → Prop) : V → H → Prop := fun v h' => vp v ∧ GnP c s bv gv h' ∧ FrG c h h'
theorem CodeV.fr {h h' : H} {lo : Nat} {v : V} {l : List Ins} (x : CodeV h lo v l) (f : Fr h h') : CodeV h' lo v l := by
  rcases x with x | ⟨id, r, h1, h2, h3, h4⟩
  · exact .inl x
  · exact .inr ⟨id, r, h1, h2, Nat.lt_of_lt_of_le h3 f.next, (f.arr id h3).trans h4⟩
theorem GnP.fr {c : GC} {s : GS} {bv gv : V} {h h' : H} (x : GnP c s bv gv h) (f : Fr h h') : GnP c s bv gv h' := by
  obtain ⟨kid, ksz, cv, ci, cz, x⟩ := x
  exact ⟨kid, ksz, cv, ci, cz, (f.obj c.w x.ltw).trans x.objw, (f.obj c.m (Nat.lt_trans x.ltm x.ltw)).trans x.objm, Nat.lt_of_lt_of_le x.ltw f.next, x.ltm, x.consts.mono f, x.code.fr f, x.calls⟩
theorem GnP.lt {c : GC} {s : GS} {bv gv : V} {h : H} (x : GnP c s bv gv h) : c.w < h.next ∧ c.m < c.w := by
  obtain ⟨kid, ksz, cv, ci, cz, x⟩ := x
  exact ⟨x.ltw, x.ltm⟩
attribute [local simp] hid2 hid3 hid4 xcode_skip xcode_region xcode_draw xcode_loop xcode_seq xcode_cond xcode_block xcode_scope xcode_exit xcode_ret xops_nil xops_cons xd_nil xd_cons xstep_eq annot fillOf findFill findStore srcOf kcls cls qval qvalN xwant dstAt want1 xdo xop ev_const ev_global ev_func ev_zero ev_succ ev_undefs ev_hit ev_miss put_none put_len undefs_len xnil xfieldAddr fieldOf eT emtb seqQ blockQ xload xstore splice V.storable V.one V.cells mk xbinop xbin xun xbuiltin xindexAddr nilOr xindex xint cv cv1 retQ xres_tmp xres_cell xres_nil xresult xbuild xfill xbuildSlice xrows Nat.testBit places xfield item sideOk pendOk pendOf tyT1 tyT2 tyT3 tyT4 tyT5 tyT9 tyT22 tyT23 tyT24 tyT25 tyT26 tyT30 tyT34 tyT39 tyT41 tyT47 tyT48 tyT50 tyT53 tyT54 tyT56 tyT58 tyT63 tyT70 tyT76 tyT78 tyT80 tyT84 tyT87 tyT89 tyT96 tyT98 tyT100 tyT102 tyT108 tyT110 tyT112 tyT113 tyT115 tyT119 tyT121 tyT124 tyT138 tyT139 tyT141 tyT142 tyT143 tyT145 tyT147 tyT149 tyT155 tyT158 tyT164 tyT179 tyT186 tyT188 tyT189 tyT194 tyT197 tyT200 tyT216 tyT242 tyT245 H.put_get H.new_get H.row_obj H.grow_obj H.bump_obj H.newArr_obj H.putArr_obj H.moveArr_obj H.put_arr H.new_arr H.row_arr H.grow_arr H.bump_arr H.newArr_get H.putArr_get H.moveArr_get H.put_ext H.new_ext H.newArr_ext H.putArr_ext H.moveArr_ext H.bump_ext H.row_get H.grow_get H.new_next H.row_next H.bump_next H.put_next H.grow_next H.newArr_next H.putArr_next H.moveArr_next H.app_next H.app_obj H.app_arr H.app_get bne emT emM xapp_em xmakeSlice xslice xlookup xmapUpdate keyShape
theorem code_app {h : H} {lo : Nat} {v : V} {l : List Ins} (hN : CodeV h lo v l) (hl : l.length ≤ 100000) (hlo : lo ≤ h.next) (hlo0 : 0 < lo) (k : Ins) :
    ∃ h3, xappendM (em [54]) 54 v (.msl h.next 0 1 3) (h.newArr ⟨[insV k], 3, 58⟩) = some (.msl (h.next + 1) 0 (l.length + 1) 3, h3) ∧ h3.obj = h.obj ∧ h3.ext = h.ext ∧ h3.next = h.next + 2 ∧
      CodeV h3 lo (.msl (h.next + 1) 0 (l.length + 1) 3) (l ++ [k]) ∧ (∀ j, j < lo → h3.arr j = h.arr j) := by
  have hT : tyT 54 = some ty54 := rfl
  have hE : tyT 58 = some ty58 := rfl
  rcases hN with ⟨rfl, rfl⟩ | ⟨id, r, rfl, g1, g2, g3⟩
  · refine ⟨(h.newArr ⟨[insV k], 3, 58⟩).newArr ⟨[insV k], 3, 58⟩, ?_, rfl, rfl, rfl, .inr ⟨h.next + 1, [], by simp, by omega, by simp [H.newArr_next], by simp [H.newArr_get, H.newArr_next]⟩, fun j hj => ?_⟩
    · simp [-Int.natCast_add, isM, xappendM, rowsIn, hT, hE, insV, maxLen]
    · rw [H.newArr_get, if_neg (by rw [H.newArr_next]; omega), H.newArr_get, if_neg (by omega)]
  · refine ⟨(h.newArr ⟨[insV k], 3, 58⟩).moveArr id ⟨l.map insV ++ [insV k], 3, 58⟩, ?_, rfl, rfl, rfl, .inr ⟨h.next + 1, [], by simp, by omega, by simp [H.newArr_next, H.moveArr_next], by simp [H.moveArr_get, H.newArr_next]⟩, fun j hj => ?_⟩
    · have n1 : id ≠ h.next := by omega
      simp [-Int.natCast_add, isM, xappendM, rowsIn, hT, hE, insV, maxLen, n1, g3]
      omega
    · rw [H.moveArr_get, if_neg (by rw [H.newArr_next]; omega), if_neg (by omega), H.newArr_get, if_neg (by omega)]
theorem isM_code {h : H} {lo : Nat} {v : V} {l : List Ins} (hN : CodeV h lo v l) : isM (em [54]) 54 v = true := by
  rcases hN with ⟨rfl, _⟩ | ⟨id, r, rfl, _⟩ <;> rfl
def gPut (s : GS) (i : Ins) : GS := { s with code := s.code ++ [i] }
theorem gput_calls (c : GC) (h : H) (s : GS) (bv gv : V) (hP : GnP c s bv gv h) (hl : s.code.length ≤ 100000) (op a b : Int) :
    XCalls e 80 [.ptr c.w 0, .lit (.int .i64 op), .lit (.int .i64 a), .lit (.int .i64 b)] h (GnQ c h (gPut s (op, a, b)) bv gv (fun v => v = .lit (.int .i64 (s.code.length : Nat)))) := by
  obtain ⟨kid, ksz, cv, ci, cz, x⟩ := hP
  refine XCalls.ofM [54] ?_
  refine XCalls.of Tryz.func80 rfl (by kernel_rfl) ?_
  rw [Tryz.ntmps80]
  have ho := x.objw
  have hM := isM_code x.code
  have ltw := x.ltw
  have ltm := x.ltm
  obtain ⟨h3, y1, y2, y3, y4, y5, y6⟩ := code_app x.code hl (by omega) (by omega) (op, a, b)
  simp only [insV] at y1
  have hw : IntKind.i64.wrap (((s.code.length + 1 : Nat) : Int) - 1) = (s.code.length : Int) := by
    rw [wrapD (by omega)]; omega
  simp [-Int.natCast_add, hM, ho, y1, y2, hw]
  refine ⟨rfl, ⟨kid, ksz, _, ci, cz, ⟨H.put_same _ _ _, ?_, ?_, ltm, ?_, y5, x.calls⟩⟩, ?_⟩
  · rw [H.put_ne _ _ (by omega), y2]; exact x.objm
  · rw [H.put_next, y4]; omega
  · exact x.consts.of_ext (by rw [H.put_next, y4]; omega) (by rw [H.put_ext, y3])
  · refine ⟨by rw [H.put_next, y4]; omega, fun j h1 h2 h4 => ?_, fun j hj => by rw [H.put_ext, y3], fun j hj => by rw [H.put_arr]; exact y6 j (by omega)⟩
    rw [H.put_ne _ _ h2, y2]
def gTick (s : GS) : GS := gPut { s with ticks := IntKind.i64.wrap (s.ticks + 1) } (12, IntKind.i64.wrap (s.ticks + 1), 0)
theorem gtick_calls (c : GC) (h : H) (s : GS) (bv gv : V) (hP : GnP c s bv gv h) (hl : s.code.length ≤ 100000) :
    XCalls e 179 [.ptr c.w 0] h (GnQ c h (gTick s) bv gv (fun v => v = .tup [])) := by
  obtain ⟨kid, ksz, cv, ci, cz, x⟩ := hP
  refine XCalls.of Tryz.func179 rfl (by kernel_rfl) ?_
  rw [Tryz.ntmps179]
  have ho := x.objw
  have hm := x.objm
  have ltw := x.ltw
  have ltm := x.ltm
  have nmw : c.m ≠ c.w := by omega
  have nwm : c.w ≠ c.m := by omega
  simp [-Int.natCast_add, isM, xappendM, rowsIn, ho, hm, nmw, nwm]
  have hP2 : GnP c { s with ticks := IntKind.i64.wrap (s.ticks + 1) } bv gv (h.put c.m (.cells [.lit (.int .i64 (IntKind.i64.wrap (s.ticks + 1))), .lit (.bool s.big)] 141)) :=
    ⟨kid, ksz, cv, ci, cz, ⟨(H.put_ne _ _ nwm).trans ho, H.put_same _ _ _, ltw, ltm, x.consts.of_ext (Nat.le_refl _) rfl, x.code, x.calls⟩⟩
  have hF : FrG c h (h.put c.m (.cells [.lit (.int .i64 (IntKind.i64.wrap (s.ticks + 1))), .lit (.bool s.big)] 141)) :=
    ⟨Nat.le_refl _, fun j _ _ h3 => H.put_ne _ _ h3, fun _ _ => rfl, fun _ _ => rfl⟩
  refine (gput_calls c _ _ bv gv hP2 hl 12 (IntKind.i64.wrap (s.ticks + 1)) 0).mono ?_
  rintro _ h3 ⟨rfl, hP3, hF3⟩
  simp [-Int.natCast_add, isM, xappendM, rowsIn]
  exact ⟨rfl, hP3, hF.trans hF3⟩
/-- the closure that turns a jump's aim: its boxes -/
def JmpV (c : GC) (h : H) (at_ : Nat) (v : V) : Prop := ∃ q1 q2, v = .fn 180 [.ptr q1 0, .ptr q2 0] ∧ c.w < q1 ∧ q1 < h.next ∧ c.w < q2 ∧ q2 < h.next ∧ h.obj q1 = some (.cells [.ptr c.w 0] 142) ∧ h.obj q2 = some (.cells [.lit (.int .i64 (at_ : Nat))] 3)
theorem gahead_calls (c : GC) (h : H) (s : GS) (bv gv : V) (hP : GnP c s bv gv h) (hl : s.code.length ≤ 100000) (op : Int) :
    XCalls e 129 [.ptr c.w 0, .lit (.int .i64 op)] h (fun v h' => JmpV c h' s.code.length v ∧ GnP c (gPut s (op, 0, 0)) bv gv h' ∧ FrG c h h') := by
  refine XCalls.of Tryz.func129 rfl (by kernel_rfl) ?_
  rw [Tryz.ntmps129]
  have lt := hP.lt
  simp [-Int.natCast_add, isM, xappendM, rowsIn]
  refine (gput_calls c _ s bv gv (hP.fr (Fr.new _ _)) hl op 0 0).mono ?_
  rintro _ h2 ⟨rfl, hP2, hF2⟩
  have hn2 := hF2.next
  simp only [H.new_next] at hn2
  have ho := hF2.obj h.next (by simp only [H.new_next]; omega) (by omega) (by omega)
  rw [H.new_self] at ho
  have n1 : h.next ≠ h2.next := by omega
  simp [-Int.natCast_add, isM, xappendM, rowsIn]
  have hF3 : ∀ o o', Fr h2 ((h2.new o).put h2.next o') := fun o o' => (Fr.new _ _).put (Nat.le_refl _) _
  refine ⟨⟨h.next, h2.next, rfl, by omega, by simp only [H.put_next, H.new_next]; omega, by omega, by simp only [H.put_next, H.new_next]; omega, ((hF3 _ _).obj _ (by omega)).trans ho, H.put_same _ _ _⟩, hP2.fr (hF3 _ _), ?_⟩
  exact (((Fr.new _ _).g lt.1).trans hF2).trans ((hF3 _ _).g hP2.lt.1)
def gAim (s : GS) (i : Nat) : GS := match s.code[i]? with
  | some x => { s with code := s.code.set i (x.1, ((s.code.length : Nat) : Int), x.2.2) }
  | none => s
theorem gjump_calls (c : GC) (h : H) (s : GS) (bv gv : V) (hP : GnP c s bv gv h) (i : Nat) (hi : i < s.code.length) (hl : s.code.length ≤ 100000) (q1 q2 : Nat) (o1 : h.obj q1 = some (.cells [.ptr c.w 0] 142)) (o2 : h.obj q2 = some (.cells [.lit (.int .i64 (i : Nat))] 3)) :
    XCalls e 180 [.ptr q1 0, .ptr q2 0] h (GnQ c h (gAim s i) bv gv (fun v => v = .tup [])) := by
  obtain ⟨kid, ksz, cv, ci, cz, x⟩ := hP
  refine XCalls.ofM [54] ?_
  refine XCalls.of Tryz.func180 rfl (by kernel_rfl) ?_
  rw [Tryz.ntmps180]
  have ho := x.objw
  have ltw := x.ltw
  have ltm := x.ltm
  rcases x.code with ⟨_, h0⟩ | ⟨id, r, hcv, g1, g2, g3⟩
  · rw [h0] at hi; cases hi
  subst hcv
  have hi' : (i : Int) < (s.code.length : Int) := by omega
  have hrl : i < (s.code.map insV ++ r).length := by simp; omega
  have hrow : (s.code.map insV ++ r)[i]? = some (insV s.code[i]) := by
    rw [List.getElem?_append_left (by simpa using hi), List.getElem?_map, List.getElem?_eq_getElem hi]
    rfl
  simp [-Int.natCast_add, isM, xappendM, rowsIn]
  refine XW.drawB mixed (L := List.range 15) (B := [0, 1, 3, 7, 15, 0, 0, 64, 192, 448, 960, 1984, 4095, 8191, 16383]) (by kernel_rfl) (by kernel_rfl) ?_
  simp only [List.range, List.range.loop, List.map_cons, List.map_nil, item]
  simp only [annot, fillOf, findFill, findStore, srcOf, List.getD_cons_succ, List.getD_cons_zero]
  simp [-Int.natCast_add, isM, xappendM, rowsIn, o1, o2, ho, hi, hi', g3, hrow, insV]
  have hg : gAim s i = { s with code := s.code.set i (s.code[i].1, ((s.code.length : Nat) : Int), s.code[i].2.2) } := by
    unfold gAim
    rw [List.getElem?_eq_getElem hi]
  rw [hg]
  refine ⟨rfl, ⟨kid, ksz, _, ci, cz, ⟨ho, x.objm, ltw, ltm, x.consts.of_ext (Nat.le_refl _) rfl, .inr ⟨id, r, by simp, by omega, g2, ?_⟩, x.calls⟩⟩, ⟨Nat.le_refl _, fun _ _ _ _ => rfl, fun _ _ => rfl, fun j hj => ?_⟩⟩
  · rw [H.putArr_get, if_pos rfl, List.map_set]
    rfl
  · rw [H.putArr_get, if_neg (by omega)]
end Go.Proofs.YtjofmihdeblbmaaGreatDoor.Xa
namespace Go.Proofs.YtjofmihdeblbmaaGreatDoor.Xa
open Go Go.RowKit
set_option linter.unusedVariables false
set_option linter.unusedSimpArgs false
set_option maxRecDepth 100000
set_option maxHeartbeats 1000000
def KsOk (l : List (Int × Int)) : Prop := ∀ p ∈ l, ScOk p.1 p.2
/-- the first that is the same -/
def kIdx : List (Int × Int) → Int → Int → Option Nat
  | [], _, _ => none
  | p :: l, k, n => if p.1 == k && p.2 == n then some 0 else (kIdx l k n).map (· + 1)
def kIdxI (l : List (Int × Int)) (k n : Int) : Int := match kIdx l k n with | some i => (i : Nat) | none => -1
attribute [local simp] hid2 hid3 hid4 xcode_skip xcode_region xcode_draw xcode_loop xcode_seq xcode_cond xcode_block xcode_scope xcode_exit xcode_ret xops_nil xops_cons xd_nil xd_cons xstep_eq annot fillOf findFill findStore srcOf kcls cls qval qvalN xwant dstAt want1 xdo xop ev_const ev_global ev_func ev_zero ev_succ ev_undefs ev_hit ev_miss put_none put_len undefs_len xnil xfieldAddr fieldOf eT emtb seqQ blockQ xload xstore splice V.storable V.one V.cells mk xbinop xbin xun xbuiltin xindexAddr nilOr xindex xint cv cv1 retQ xres_tmp xres_cell xres_nil xresult xbuild xfill xbuildSlice xrows Nat.testBit places xfield item sideOk pendOk pendOf tyT1 tyT2 tyT3 tyT4 tyT5 tyT9 tyT22 tyT23 tyT24 tyT25 tyT26 tyT30 tyT34 tyT39 tyT41 tyT47 tyT48 tyT50 tyT53 tyT54 tyT56 tyT58 tyT63 tyT70 tyT76 tyT78 tyT80 tyT84 tyT87 tyT89 tyT96 tyT98 tyT100 tyT102 tyT108 tyT110 tyT112 tyT113 tyT115 tyT119 tyT121 tyT124 tyT138 tyT139 tyT141 tyT142 tyT143 tyT145 tyT147 tyT149 tyT155 tyT158 tyT164 tyT179 tyT186 tyT188 tyT189 tyT194 tyT197 tyT200 tyT216 tyT242 tyT245
theorem konst1_calls (h : H) (k n k' n' : Int) (hk : ScOk k n) (hk' : ScOk k' n') (q : Nat) (hq : q < h.next) (o : h.obj q = some (.cells (scV k' n') 149)) :
    XCalls e 134 [.agg (scV k n), .ptr q 0] h (fun v h' => v = .lit (.bool (k == k' && n == n')) ∧ Fr h h') := by
  refine XCalls.of Tryz.func134 rfl (by kernel_rfl) ?_
  rw [Tryz.ntmps134]
  unfold scV at o ⊢
  have n1 : q ≠ h.next := by omega
  simp [-Int.natCast_add, H.put_get, H.new_get, H.row_obj, H.grow_obj, H.bump_obj, H.newArr_obj, H.putArr_obj, H.moveArr_obj, H.put_arr, H.new_arr, H.row_arr, H.grow_arr, H.bump_arr, H.newArr_get, H.putArr_get, H.moveArr_get, H.put_ext, H.new_ext, H.newArr_ext, H.putArr_ext, H.moveArr_ext, H.bump_ext, H.row_get, H.grow_get, H.new_next, H.row_next, H.bump_next, H.put_next, H.grow_next, H.newArr_next, H.putArr_next, H.moveArr_next, H.app_next, H.app_obj, H.app_arr, H.app_get, bne, emT, emM, xapp_em, xmakeSlice, xslice, xlookup, xmapUpdate, keyShape, isM, xappendM, rowsIn, o, n1]
  refine (vsame_calls _ k n k' n' hk hk').mono ?_
  rintro _ h1 ⟨rfl, hF1⟩
  simp [-Int.natCast_add, H.put_get, H.new_get, H.row_obj, H.grow_obj, H.bump_obj, H.newArr_obj, H.putArr_obj, H.moveArr_obj, H.put_arr, H.new_arr, H.row_arr, H.grow_arr, H.bump_arr, H.newArr_get, H.putArr_get, H.moveArr_get, H.put_ext, H.new_ext, H.newArr_ext, H.putArr_ext, H.moveArr_ext, H.bump_ext, H.row_get, H.grow_get, H.new_next, H.row_next, H.bump_next, H.put_next, H.grow_next, H.newArr_next, H.putArr_next, H.moveArr_next, H.app_next, H.app_obj, H.app_arr, H.app_get, bne, emT, emM, xapp_em, xmakeSlice, xslice, xlookup, xmapUpdate, keyShape, isM, xappendM, rowsIn]
  exact (Fr.new _ _).trans hF1
def KxJ (h : H) (q kid ksz : Nat) (l : List (Int × Int)) (k n : Int) : Nat → List V → H → Prop := fun m fr' h' => ∃ i : Nat, m + i = l.length + 1 ∧ i ≤ l.length ∧ Fr h h' ∧ kIdxI l k n = (match kIdx (l.drop i) k n with | some j => ((i + j : Nat) : Int) | none => -1) ∧
  fr'.length = 19 ∧ ev fr' (.tmp 0) = .slc kid ksz (l.map kV) ∧ ev fr' (.tmp 1) = .fn 134 [.ptr q 0] ∧ ev fr' (.tmp 7) = .lit (.int .i64 (l.length : Nat)) ∧ ev fr' (.tmp 8) = .lit (.int .i64 (i : Nat))
theorem index_calls (h : H) (kid ksz : Nat) (l : List (Int × Int)) (hl : KsOk l) (hz : l ≠ [] → ksz = 5) (hn : l.length ≤ 100000) (k n : Int) (hk : ScOk k n) (q : Nat) (hq : q < h.next) (o : h.obj q = some (.cells (scV k n) 149)) :
    XCalls e 133 [.slc kid ksz (l.map kV), .fn 134 [.ptr q 0]] h (fun v h' => v = .lit (.int .i64 (kIdxI l k n)) ∧ Fr h h') := by
  refine XCalls.of Tryz.func133 rfl (by kernel_rfl) ?_
  rw [Tryz.ntmps133]
  simp [-Int.natCast_add, H.put_get, H.new_get, H.row_obj, H.grow_obj, H.bump_obj, H.newArr_obj, H.putArr_obj, H.moveArr_obj, H.put_arr, H.new_arr, H.row_arr, H.grow_arr, H.bump_arr, H.newArr_get, H.putArr_get, H.moveArr_get, H.put_ext, H.new_ext, H.newArr_ext, H.putArr_ext, H.moveArr_ext, H.bump_ext, H.row_get, H.grow_get, H.new_next, H.row_next, H.bump_next, H.put_next, H.grow_next, H.newArr_next, H.putArr_next, H.moveArr_next, H.app_next, H.app_obj, H.app_arr, H.app_get, bne, emT, emM, xapp_em, xmakeSlice, xslice, xlookup, xmapUpdate, keyShape, isM, xappendM, rowsIn]
  refine XW.loopH (KxJ h q kid ksz l k n) (l.length + 1) ?_ ?_
  · refine ⟨0, by omega, by omega, Fr.refl _, ?_, ?_⟩
    · unfold kIdxI
      simp
    · simp [-Int.natCast_add, H.put_get, H.new_get, H.row_obj, H.grow_obj, H.bump_obj, H.newArr_obj, H.putArr_obj, H.moveArr_obj, H.put_arr, H.new_arr, H.row_arr, H.grow_arr, H.bump_arr, H.newArr_get, H.putArr_get, H.moveArr_get, H.put_ext, H.new_ext, H.newArr_ext, H.putArr_ext, H.moveArr_ext, H.bump_ext, H.row_get, H.grow_get, H.new_next, H.row_next, H.bump_next, H.put_next, H.grow_next, H.newArr_next, H.putArr_next, H.moveArr_next, H.app_next, H.app_obj, H.app_arr, H.app_get, bne, emT, emM, xapp_em, xmakeSlice, xslice, xlookup, xmapUpdate, keyShape, isM, xappendM, rowsIn]
  · rintro m fr' h' ⟨i, hm, hi, hF, hx, e0, e1, e2, e3, e4⟩
    rcases Nat.lt_or_ge i l.length with hlt | hlt
    · have hlt' : (i : Int) < (l.length : Int) := by omega
      have z5 := hz (by intro h0; rw [h0] at hlt; cases hlt)
      subst z5
      have hw : IntKind.i64.wrap ((i : Int) + 1) = ((i + 1 : Nat) : Int) := wrapS (a := i) (b := 1) (by omega)
      have hv : kV l[i] = scV l[i].1 l[i].2 := rfl
      have hlen : (kV l[i]).length = 5 := rfl
      have htk : List.take 5 (kV l[i]) = scV l[i].1 l[i].2 := rfl
      simp [-Int.natCast_add, H.put_get, H.new_get, H.row_obj, H.grow_obj, H.bump_obj, H.newArr_obj, H.putArr_obj, H.moveArr_obj, H.put_arr, H.new_arr, H.row_arr, H.grow_arr, H.bump_arr, H.newArr_get, H.putArr_get, H.moveArr_get, H.put_ext, H.new_ext, H.newArr_ext, H.putArr_ext, H.moveArr_ext, H.bump_ext, H.row_get, H.grow_get, H.new_next, H.row_next, H.bump_next, H.put_next, H.grow_next, H.newArr_next, H.putArr_next, H.moveArr_next, H.app_next, H.app_obj, H.app_arr, H.app_get, bne, emT, emM, xapp_em, xmakeSlice, xslice, xlookup, xmapUpdate, keyShape, isM, xappendM, rowsIn, e0, e1, e2, e3, e4, hlt, hlt', ltB_t, hlen, htk]
      refine (konst1_calls h' l[i].1 l[i].2 k n (hl _ (List.getElem_mem hlt)) hk q (Nat.lt_of_lt_of_le hq hF.next) ((hF.obj q hq).trans o)).mono ?_
      rintro _ h1 ⟨rfl, hF1⟩
      rw [List.drop_eq_getElem_cons hlt] at hx
      simp only [kIdx] at hx
      cases hb : (l[i].1 == k && l[i].2 == n)
      · simp only [hb, Bool.false_eq_true, if_false] at hx
        simp [-Int.natCast_add, H.put_get, H.new_get, H.row_obj, H.grow_obj, H.bump_obj, H.newArr_obj, H.putArr_obj, H.moveArr_obj, H.put_arr, H.new_arr, H.row_arr, H.grow_arr, H.bump_arr, H.newArr_get, H.putArr_get, H.moveArr_get, H.put_ext, H.new_ext, H.newArr_ext, H.putArr_ext, H.moveArr_ext, H.bump_ext, H.row_get, H.grow_get, H.new_next, H.row_next, H.bump_next, H.put_next, H.grow_next, H.newArr_next, H.putArr_next, H.moveArr_next, H.app_next, H.app_obj, H.app_arr, H.app_get, bne, emT, emM, xapp_em, xmakeSlice, xslice, xlookup, xmapUpdate, keyShape, isM, xappendM, rowsIn, e0, e1, e2, e3, e4, hb]
        refine ⟨m - 1, by omega, i + 1, by omega, by omega, hF.trans hF1, ?_, ?_⟩
        · rw [hx]
          cases kIdx (List.drop (i + 1) l) k n with
          | none => rfl
          | some j =>
            show ((i + (j + 1) : Nat) : Int) = ((i + 1 + j : Nat) : Int)
            rw [show i + (j + 1) = i + 1 + j by omega]
        · simp [-Int.natCast_add, H.put_get, H.new_get, H.row_obj, H.grow_obj, H.bump_obj, H.newArr_obj, H.putArr_obj, H.moveArr_obj, H.put_arr, H.new_arr, H.row_arr, H.grow_arr, H.bump_arr, H.newArr_get, H.putArr_get, H.moveArr_get, H.put_ext, H.new_ext, H.newArr_ext, H.putArr_ext, H.moveArr_ext, H.bump_ext, H.row_get, H.grow_get, H.new_next, H.row_next, H.bump_next, H.put_next, H.grow_next, H.newArr_next, H.putArr_next, H.moveArr_next, H.app_next, H.app_obj, H.app_arr, H.app_get, bne, emT, emM, xapp_em, xmakeSlice, xslice, xlookup, xmapUpdate, keyShape, isM, xappendM, rowsIn, e0, e1, e2, e3, e4, hw]
      · simp only [hb, if_true] at hx
        simp [-Int.natCast_add, H.put_get, H.new_get, H.row_obj, H.grow_obj, H.bump_obj, H.newArr_obj, H.putArr_obj, H.moveArr_obj, H.put_arr, H.new_arr, H.row_arr, H.grow_arr, H.bump_arr, H.newArr_get, H.putArr_get, H.moveArr_get, H.put_ext, H.new_ext, H.newArr_ext, H.putArr_ext, H.moveArr_ext, H.bump_ext, H.row_get, H.grow_get, H.new_next, H.row_next, H.bump_next, H.put_next, H.grow_next, H.newArr_next, H.putArr_next, H.moveArr_next, H.app_next, H.app_obj, H.app_arr, H.app_get, bne, emT, emM, xapp_em, xmakeSlice, xslice, xlookup, xmapUpdate, keyShape, isM, xappendM, rowsIn, e0, e1, e2, e3, e4, hb]
        refine ⟨by rw [hx]; simp, hF.trans hF1⟩
    · have hie : i = l.length := by omega
      have hlf : ltB (i : Int) (l.length : Int) = false := ltB_f (by omega)
      rw [List.drop_of_length_le (by omega)] at hx
      simp only [kIdx] at hx
      simp [-Int.natCast_add, H.put_get, H.new_get, H.row_obj, H.grow_obj, H.bump_obj, H.newArr_obj, H.putArr_obj, H.moveArr_obj, H.put_arr, H.new_arr, H.row_arr, H.grow_arr, H.bump_arr, H.newArr_get, H.putArr_get, H.moveArr_get, H.put_ext, H.new_ext, H.newArr_ext, H.putArr_ext, H.moveArr_ext, H.bump_ext, H.row_get, H.grow_get, H.new_next, H.row_next, H.bump_next, H.put_next, H.grow_next, H.newArr_next, H.putArr_next, H.moveArr_next, H.app_next, H.app_obj, H.app_arr, H.app_get, bne, emT, emM, xapp_em, xmakeSlice, xslice, xlookup, xmapUpdate, keyShape, isM, xappendM, rowsIn, e0, e1, e2, e3, e4, hlf]
      exact ⟨hx.symm, hF⟩
def gConst (s : GS) (k n : Int) : GS := match kIdx s.consts k n with
  | some i => gPut s (1, (i : Nat), 0)
  | none => gPut { s with consts := s.consts ++ [(k, n)] } (1, (s.consts.length : Nat), 0)
theorem kIdx_lt : ∀ (l : List (Int × Int)) (k n : Int) (i : Nat), kIdx l k n = some i → i < l.length
  | [], k, n, i, h => by cases h
  | p :: l, k, n, i, h => by
    unfold kIdx at h
    split at h
    · cases h; simp
    · cases hx : kIdx l k n with
      | none => rw [hx] at h; cases h
      | some j =>
        rw [hx] at h
        simp at h
        have := kIdx_lt l k n j hx
        simp
        omega
theorem gkonst_calls (c : GC) (h : H) (s : GS) (bv gv : V) (hP : GnP c s bv gv h) (hks : KsOk s.consts) (hl : s.code.length ≤ 100000) (hn : s.consts.length ≤ 100000) (k n : Int) (hk : ScOk k n) :
    XCalls e 78 [.ptr c.w 0, .agg (scV k n)] h (GnQ c h (gConst s k n) bv gv (fun v => v = .tup [])) := by
  have lt := hP.lt
  refine XCalls.of Tryz.func78 rfl (by kernel_rfl) ?_
  rw [Tryz.ntmps78]
  unfold scV
  simp [-Int.natCast_add, H.put_get, H.new_get, H.row_obj, H.grow_obj, H.bump_obj, H.newArr_obj, H.putArr_obj, H.moveArr_obj, H.put_arr, H.new_arr, H.row_arr, H.grow_arr, H.bump_arr, H.newArr_get, H.putArr_get, H.moveArr_get, H.put_ext, H.new_ext, H.newArr_ext, H.putArr_ext, H.moveArr_ext, H.bump_ext, H.row_get, H.grow_get, H.new_next, H.row_next, H.bump_next, H.put_next, H.grow_next, H.newArr_next, H.putArr_next, H.moveArr_next, H.app_next, H.app_obj, H.app_arr, H.app_get, bne, emT, emM, xapp_em, xmakeSlice, xslice, xlookup, xmapUpdate, keyShape, isM, xappendM, rowsIn]
  refine (vok_calls _ k n hk).mono ?_
  rintro _ h1 ⟨rfl, hF1⟩
  have hn1 := hF1.next
  simp only [H.new_next] at hn1
  have hP1 : GnP c s bv gv h1 := (hP.fr (Fr.new _ _)).fr hF1
  have hG1 : FrG c h h1 := ((Fr.new _ _).trans hF1).g lt.1
  have ob := hF1.obj h.next (by simp only [H.new_next]; omega)
  rw [H.new_self] at ob
  obtain ⟨kid, ksz, cv, ci, cz, x⟩ := hP1
  have ho := x.objw
  have hz : s.consts ≠ [] → ksz = 5 := by
    intro h0
    rcases x.consts with ⟨h2, _⟩ | ⟨_, _, h2, _⟩
    · exact absurd (List.length_eq_zero_iff.1 h2) h0
    · exact h2
  simp [-Int.natCast_add, H.put_get, H.new_get, H.row_obj, H.grow_obj, H.bump_obj, H.newArr_obj, H.putArr_obj, H.moveArr_obj, H.put_arr, H.new_arr, H.row_arr, H.grow_arr, H.bump_arr, H.newArr_get, H.putArr_get, H.moveArr_get, H.put_ext, H.new_ext, H.newArr_ext, H.putArr_ext, H.moveArr_ext, H.bump_ext, H.row_get, H.grow_get, H.new_next, H.row_next, H.bump_next, H.put_next, H.grow_next, H.newArr_next, H.putArr_next, H.moveArr_next, H.app_next, H.app_obj, H.app_arr, H.app_get, bne, emT, emM, xapp_em, xmakeSlice, xslice, xlookup, xmapUpdate, keyShape, isM, xappendM, rowsIn, ho]
  refine (index_calls h1 kid ksz s.consts hks hz hn k n hk h.next (by omega) ob).mono ?_
  rintro _ h2 ⟨rfl, hF2⟩
  have hn2 := hF2.next
  have ho2 := (hF2.obj c.w x.ltw).trans ho
  have ob2 := (hF2.obj h.next (by omega)).trans ob
  have hP2 : GnP c s bv gv h2 := GnP.fr ⟨kid, ksz, cv, ci, cz, x⟩ hF2
  have hG2 : FrG c h h2 := hG1.trans (hF2.g (by omega))
  unfold gConst kIdxI
  cases hx : kIdx s.consts k n with
  | some i =>
    have hlt : ltB ((i : Nat) : Int) 0 = false := ltB_f (by omega)
    simp [-Int.natCast_add, H.put_get, H.new_get, H.row_obj, H.grow_obj, H.bump_obj, H.newArr_obj, H.putArr_obj, H.moveArr_obj, H.put_arr, H.new_arr, H.row_arr, H.grow_arr, H.bump_arr, H.newArr_get, H.putArr_get, H.moveArr_get, H.put_ext, H.new_ext, H.newArr_ext, H.putArr_ext, H.moveArr_ext, H.bump_ext, H.row_get, H.grow_get, H.new_next, H.row_next, H.bump_next, H.put_next, H.grow_next, H.newArr_next, H.putArr_next, H.moveArr_next, H.app_next, H.app_obj, H.app_arr, H.app_get, bne, emT, emM, xapp_em, xmakeSlice, xslice, xlookup, xmapUpdate, keyShape, isM, xappendM, rowsIn, hlt]
    refine (gput_calls c h2 s bv gv hP2 hl 1 (i : Nat) 0).mono ?_
    rintro _ h3 ⟨rfl, hP3, hG3⟩
    simp [-Int.natCast_add, H.put_get, H.new_get, H.row_obj, H.grow_obj, H.bump_obj, H.newArr_obj, H.putArr_obj, H.moveArr_obj, H.put_arr, H.new_arr, H.row_arr, H.grow_arr, H.bump_arr, H.newArr_get, H.putArr_get, H.moveArr_get, H.put_ext, H.new_ext, H.newArr_ext, H.putArr_ext, H.moveArr_ext, H.bump_ext, H.row_get, H.grow_get, H.new_next, H.row_next, H.bump_next, H.put_next, H.grow_next, H.newArr_next, H.putArr_next, H.moveArr_next, H.app_next, H.app_obj, H.app_arr, H.app_get, bne, emT, emM, xapp_em, xmakeSlice, xslice, xlookup, xmapUpdate, keyShape, isM, xappendM, rowsIn]
    exact ⟨rfl, hP3, hG2.trans hG3⟩
  | none =>
    simp [-Int.natCast_add, H.put_get, H.new_get, H.row_obj, H.grow_obj, H.bump_obj, H.newArr_obj, H.putArr_obj, H.moveArr_obj, H.put_arr, H.new_arr, H.row_arr, H.grow_arr, H.bump_arr, H.newArr_get, H.putArr_get, H.moveArr_get, H.put_ext, H.new_ext, H.newArr_ext, H.putArr_ext, H.moveArr_ext, H.bump_ext, H.row_get, H.grow_get, H.new_next, H.row_next, H.bump_next, H.put_next, H.grow_next, H.newArr_next, H.putArr_next, H.moveArr_next, H.app_next, H.app_obj, H.app_arr, H.app_get, bne, emT, emM, xapp_em, xmakeSlice, xslice, xlookup, xmapUpdate, keyShape, isM, xappendM, rowsIn, show ltB (-1) 0 = true from rfl, ho2]
    refine XW.drawB mixed (L := [0, 1, 2, 3, 4, 5, 7, 8, 6, 9, 10, 12, 13, 14, 11, 15]) (B := [0, 1, 3, 7, 15, 0, 32, 31, 0, 511, 1023, 2047, 1023, 5119, 13311, 29695]) (by kernel_rfl) (by kernel_rfl) ?_
    simp only [List.map_cons, List.map_nil, item]
    simp only [annot, fillOf, findFill, findStore, srcOf, List.getD_cons_succ, List.getD_cons_zero]
    simp [-Int.natCast_add, isM, bne, PC.at_obj, PC.put_at, PC.at_at, PC.at_eq, H.put_same, H.put_put, Tok.v, PC.at_next, PC.at_ext, PC.at_row, PC.at_bump, PC.at_grow, PC.at_new, PC.at_put, PC.at_obj_ne, H.new_self, H.new_ne, H.row_obj, H.put_next, TN.v_len, TN.v_take, TN.v_drop, xsrc, xfillApp, xappF, xpure, ho2, ob2]
    refine (vcopy_calls h2 k n hk).mono ?_
    rintro _ h3 ⟨rfl, hF3⟩
    have hn3 := hF3.next
    have ho3 := (hF3.obj c.w (by have := x.ltw; omega)).trans ho2
    have ob3 := (hF3.obj h.next (by omega)).trans ob2
    have hP3 : GnP c s bv gv h3 := hP2.fr hF3
    have hG3 : FrG c h h3 := hG2.trans (hF3.g (by omega))
    have hO3 : Own h3 kid ksz s.consts.length 5 (c.w + 1) := (x.consts.mono hF2).mono hF3
    have m1 : (s.consts.length + 1) * 72 ≤ 140737488355328 := by omega
    have m2 : s.consts.length ≤ 9223372036854775806 := by omega
    have lw := x.ltw
    have lm := x.ltm
    have om3 := (hF3.obj c.m (by omega)).trans ((hF2.obj c.m (by omega)).trans x.objm)
    have hcd : CodeV h3 (c.w + 1) cv s.code := (x.code.fr hF2).fr hF3
    have hcz := x.calls
    have fin : ∀ (B : H) (kid' : Nat), B.obj = h3.obj → B.next = h3.next + 1 → (∀ j, j < c.w → B.ext j = h3.ext j) → B.arr = h3.arr → Own B kid' 5 (s.consts.length + 1) 5 (c.w + 1) →
        GnP c { s with consts := s.consts ++ [(k, n)] } bv gv (B.put c.w (.cells [.ptr c.m 0, .lit (.string c.name), .lit (.int .i64 c.params), .lit (.int .i64 c.locals), .slc kid' 5 ((s.consts ++ [(k, n)]).map kV), cv, .lit (.int .i64 c.nloc), .slc c.si c.sz (c.slots.map intV), .slc ci cz (s.calls.map intV), bv, gv] 145)) ∧
        FrG c h (B.put c.w (.cells [.ptr c.m 0, .lit (.string c.name), .lit (.int .i64 c.params), .lit (.int .i64 c.locals), .slc kid' 5 ((s.consts ++ [(k, n)]).map kV), cv, .lit (.int .i64 c.nloc), .slc c.si c.sz (c.slots.map intV), .slc ci cz (s.calls.map intV), bv, gv] 145)) := by
      intro B kid' b1 b2 b3 b4 b5
      refine ⟨⟨kid', 5, cv, ci, cz, ⟨H.put_same _ _ _, by rw [H.put_ne _ _ (by omega), b1]; exact om3, by rw [H.put_next, b2]; omega, lm, ?_, ?_, hcz⟩⟩, ?_⟩
      · have : (s.consts ++ [(k, n)]).length = s.consts.length + 1 := by simp
        rw [this]
        exact b5.of_ext (Nat.le_refl _) rfl
      · rcases hcd with y | ⟨id, r, y1, y2, y3, y4⟩
        · exact .inl y
        · exact .inr ⟨id, r, y1, y2, by rw [H.put_next, b2]; omega, by rw [H.put_arr, b4]; exact y4⟩
      · refine hG3.trans ⟨by rw [H.put_next, b2]; omega, fun j h1 h2 _ => by rw [H.put_ne _ _ h2, b1], fun j hj => by rw [H.put_ext]; exact b3 j hj, fun j hj => by rw [H.put_arr, b4]⟩
    have hke : ∀ l : List (Int × Int), (l ++ [(k, n)]).map kV = l.map kV ++ [[V.lit (.int .i64 k), V.lit (.int .i64 n), V.lit (.complex .f64 0 0), V.lit (.string ⟨#[]⟩), V.slc 0 0 []]] := fun l => by simp [kV, scV]
    unfold scV
    rcases hO3 with ⟨z1, rfl, rfl⟩ | ⟨z1, z2, rfl, z4, z5⟩
    · have hc0 : s.consts = [] := List.length_eq_zero_iff.1 z1
      obtain ⟨f1, f2⟩ := fin (h3.row 1) h3.next rfl rfl (fun j hj => H.row_ext_ne h3 1 (by omega)) rfl (.inr ⟨by omega, by rw [H.row_next]; omega, rfl, by rw [H.row_ext_self, hc0]; rfl, by omega⟩)
      rw [hke] at f1 f2
      rw [hc0] at ho2 ho3 f1 f2
      simp only [List.map_nil, List.nil_append] at f1 f2
      simp [-Int.natCast_add, isM, bne, PC.at_obj, PC.put_at, PC.at_at, PC.at_eq, H.put_same, H.put_put, Tok.v, PC.at_next, PC.at_ext, PC.at_row, PC.at_bump, PC.at_grow, PC.at_new, PC.at_put, PC.at_obj_ne, H.new_self, H.new_ne, H.row_obj, H.put_next, TN.v_len, TN.v_take, TN.v_drop, xsrc, xfillApp, xappF, xpure, ho2, ho3, ob2, ob3, hc0, maxLen, H.grow_obj]
      refine (gput_calls c _ _ bv gv f1 hl 1 0 0).mono ?_
      rintro _ h4 ⟨rfl, hP4, hG4⟩
      simp [-Int.natCast_add, H.put_get, H.new_get, H.row_obj, H.grow_obj, H.bump_obj, H.newArr_obj, H.putArr_obj, H.moveArr_obj, H.put_arr, H.new_arr, H.row_arr, H.grow_arr, H.bump_arr, H.newArr_get, H.putArr_get, H.moveArr_get, H.put_ext, H.new_ext, H.newArr_ext, H.putArr_ext, H.moveArr_ext, H.bump_ext, H.row_get, H.grow_get, H.new_next, H.row_next, H.bump_next, H.put_next, H.grow_next, H.newArr_next, H.putArr_next, H.moveArr_next, H.app_next, H.app_obj, H.app_arr, H.app_get, bne, emT, emM, xapp_em, xmakeSlice, xslice, xlookup, xmapUpdate, keyShape, isM, xappendM, rowsIn]
      exact ⟨rfl, by rw [hc0]; exact hP4, f2.trans hG4⟩
    · obtain ⟨f1, f2⟩ := fin (h3.grow kid (s.consts.length + 1)) h3.next (H.grow_obj _ _ _) (H.grow_next _ _ _) (fun j hj => by rw [H.grow_get, if_neg (by omega), if_neg (by omega)]) rfl (.inr ⟨by omega, by rw [H.grow_next]; omega, rfl, H.grow_ext_self _ _ _, by omega⟩)
      rw [hke] at f1 f2
      simp [-Int.natCast_add, isM, bne, PC.at_obj, PC.put_at, PC.at_at, PC.at_eq, H.put_same, H.put_put, Tok.v, PC.at_next, PC.at_ext, PC.at_row, PC.at_bump, PC.at_grow, PC.at_new, PC.at_put, PC.at_obj_ne, H.new_self, H.new_ne, H.row_obj, H.put_next, TN.v_len, TN.v_take, TN.v_drop, xsrc, xfillApp, xappF, xpure, ho2, ho3, ob2, ob3, z4, z5, maxLen, H.grow_obj, m1, m2]
      refine (gput_calls c _ _ bv gv f1 hl 1 (s.consts.length : Nat) 0).mono ?_
      rintro _ h4 ⟨rfl, hP4, hG4⟩
      simp [-Int.natCast_add, H.put_get, H.new_get, H.row_obj, H.grow_obj, H.bump_obj, H.newArr_obj, H.putArr_obj, H.moveArr_obj, H.put_arr, H.new_arr, H.row_arr, H.grow_arr, H.bump_arr, H.newArr_get, H.putArr_get, H.moveArr_get, H.put_ext, H.new_ext, H.newArr_ext, H.putArr_ext, H.moveArr_ext, H.bump_ext, H.row_get, H.grow_get, H.new_next, H.row_next, H.bump_next, H.put_next, H.grow_next, H.newArr_next, H.putArr_next, H.moveArr_next, H.app_next, H.app_obj, H.app_arr, H.app_get, bne, emT, emM, xapp_em, xmakeSlice, xslice, xlookup, xmapUpdate, keyShape, isM, xappendM, rowsIn]
      exact ⟨rfl, hP4, f2.trans hG4⟩
end Go.Proofs.YtjofmihdeblbmaaGreatDoor.Xa
namespace Go.Proofs.YtjofmihdeblbmaaGreatDoor.Xa
open Go Go.RowKit
set_option linter.unusedVariables false
set_option linter.unusedSimpArgs false
set_option maxRecDepth 100000
set_option maxHeartbeats 1000000
def gOk (s : GS) : Bool := decide (s.code.length ≤ 99000) && decide (s.consts.length ≤ 99000)
def gCallE (s : GS) (n : Nat) : Option GS := match s.calls with
  | k :: r => if ltB k 1000 then some (gPut (gTick { s with calls := r }) (9, k, (n : Nat)))
    else if n == 2 then some (gPut { s with calls := r } (5, IntKind.i64.wrap (k - 1000), 0))
    else some (gPut { s with calls := r } (6, IntKind.i64.wrap (k - 1000), 0))
  | [] => none
mutual
def gExpr : Nat → GS → Nd → Option GS
  | 0, _, _ => none
  | f + 1, s, n => if !gOk s then none else
    if n.kind == 15 then some (gConst s 1 n.num)
    else if n.kind == 11 then match gAllT f s n.kids with
      | some s1 => if gOk s1 then some (gPut s1 (5, n.op, 0)) else none
      | none => none
    else if n.kind == 20 then match gAllT f s n.kids with
      | some s1 => if gOk s1 then gCallE s1 n.kids.length else none
      | none => none
    else if n.kind == 21 then if n.kids.length ≤ 64 then match gAllT f s n.kids with
        | some s1 => if gOk s1 then some (gPut s1 (13, (n.kids.length : Nat), 0)) else none
        | none => none
      else none
    else none
def gAllT : Nat → GS → List Nd → Option GS
  | 0, _, _ => none
  | f + 1, s, l => if l.length ≤ 1000000 then gAll f s l else none
def gAll : Nat → GS → List Nd → Option GS
  | 0, _, _ => none
  | f + 1, s, [] => some s
  | f + 1, s, n :: l => match gExpr f s n with
    | some s1 => gAll f s1 l
    | none => none
end
def GnK (c : GC) (h : H) (s : GS) (bv gv : V) : V → H → Prop := fun v h' => v = .tup [] ∧ GnP c s bv gv h' ∧ KsOk s.consts ∧ FrG c h h'
def CGe (f : Nat) : Prop := ∀ (c : GC) (h : H) (s : GS) (bv gv : V) (T : TN) (s' : GS), GnP c s bv gv h → KsOk s.consts → gExpr f s T.nd = some s' → XCalls e 178 [.ptr c.w 0, .agg T.v] h (GnK c h s' bv gv)
def CGa (f : Nat) : Prop := ∀ (c : GC) (h : H) (s : GS) (bv gv : V) (id sz : Nat) (L : List TN) (s' : GS), GnP c s bv gv h → KsOk s.consts → (L ≠ [] → sz = 5) → gAllT f s (L.map TN.nd) = some s' → XCalls e 131 [.ptr c.w 0, .slc id sz (L.map TN.v)] h (GnK c h s' bv gv)
theorem ks_const {s : GS} {k n : Int} (h : KsOk s.consts) (hk : ScOk k n) : KsOk (gConst s k n).consts := by
  unfold gConst
  cases kIdx s.consts k n with
  | some i => exact h
  | none =>
    intro p hp
    simp only [gPut, List.mem_append, List.mem_singleton] at hp
    rcases hp with hp | rfl
    · exact h p hp
    · exact hk
def GaJ (f : Nat) (c : GC) (h : H) (bv gv : V) (id sz : Nat) (L : List TN) (s' : GS) : Nat → List V → H → Prop := fun m fr' h' => ∃ (k fu : Nat) (s : GS), m + k = L.length + 1 ∧ k ≤ L.length ∧ fu ≤ f ∧ gAll fu s ((L.drop k).map TN.nd) = some s' ∧ GnP c s bv gv h' ∧ KsOk s.consts ∧ FrG c h h' ∧
  fr'.length = 16 ∧ ev fr' (.tmp 0) = .ptr c.w 0 ∧ ev fr' (.tmp 6) = .slc id sz (L.map TN.v) ∧ ev fr' (.tmp 7) = .lit (.int .i64 (L.length : Nat)) ∧ ev fr' (.tmp 8) = .lit (.int .i64 (k : Nat))
attribute [local simp] hid2 hid3 hid4 xcode_skip xcode_region xcode_draw xcode_loop xcode_seq xcode_cond xcode_block xcode_scope xcode_exit xcode_ret xops_nil xops_cons xd_nil xd_cons xstep_eq annot fillOf findFill findStore srcOf kcls cls qval qvalN xwant dstAt want1 xdo xop ev_const ev_global ev_func ev_zero ev_succ ev_undefs ev_hit ev_miss put_none put_len undefs_len xnil xfieldAddr fieldOf eT emtb seqQ blockQ xload xstore splice V.storable V.one V.cells mk xbinop xbin xun xbuiltin xindexAddr nilOr xindex xint cv cv1 retQ xres_tmp xres_cell xres_nil xresult xbuild xfill xbuildSlice xrows Nat.testBit places xfield item sideOk pendOk pendOf tyT1 tyT2 tyT3 tyT4 tyT5 tyT9 tyT22 tyT23 tyT24 tyT25 tyT26 tyT30 tyT34 tyT39 tyT41 tyT47 tyT48 tyT50 tyT53 tyT54 tyT56 tyT58 tyT63 tyT70 tyT76 tyT78 tyT80 tyT84 tyT87 tyT89 tyT96 tyT98 tyT100 tyT102 tyT108 tyT110 tyT112 tyT113 tyT115 tyT119 tyT121 tyT124 tyT138 tyT139 tyT141 tyT142 tyT143 tyT145 tyT147 tyT149 tyT155 tyT158 tyT164 tyT179 tyT186 tyT188 tyT189 tyT194 tyT197 tyT200 tyT216 tyT242 tyT245 H.put_get H.new_get H.row_obj H.grow_obj H.bump_obj H.newArr_obj H.putArr_obj H.moveArr_obj H.put_arr H.new_arr H.row_arr H.grow_arr H.bump_arr H.newArr_get H.putArr_get H.moveArr_get H.put_ext H.new_ext H.newArr_ext H.putArr_ext H.moveArr_ext H.bump_ext H.row_get H.grow_get H.new_next H.row_next H.bump_next H.put_next H.grow_next H.newArr_next H.putArr_next H.moveArr_next H.app_next H.app_obj H.app_arr H.app_get bne emT emM xapp_em xmakeSlice xslice xlookup xmapUpdate keyShape
theorem gall_step (f : Nat) (hg : ∀ m, m ≤ f → CGe m) : CGa (f + 1) := by
  intro c h s bv gv id sz L s' hP hK hsz hs
  unfold gAllT at hs
  split at hs
  case isFalse => cases hs
  rename_i hL
  rw [List.length_map] at hL
  refine XCalls.of Tryz.func131 rfl (by kernel_rfl) ?_
  rw [Tryz.ntmps131]
  simp [-Int.natCast_add, isM, xappendM, rowsIn]
  refine XW.loopH (GaJ f c h bv gv id sz L s') (L.length + 1) ?_ ?_
  · refine ⟨0, f, s, by omega, by omega, Nat.le_refl _, by simpa using hs, hP, hK, FrG.refl _ _, ?_⟩
    simp [-Int.natCast_add, isM, xappendM, rowsIn]
  clear hs hP hK
  rintro m fr' h' ⟨k, fu, s1, hm, hk, hfu, hs, hP, hK, hG, e0, e1, e2, e3, e4⟩
  have lt := hP.lt
  cases fu with
  | zero => unfold gAll at hs; cases hs
  | succ fu =>
  rcases Nat.lt_or_ge k L.length with hi | hi
  · have hi' : (k : Int) < (L.length : Int) := by omega
    have z5 : sz = 5 := hsz (by intro h0; rw [h0] at hi; cases hi)
    subst z5
    have hw : IntKind.i64.wrap ((k : Int) + 1) = ((k + 1 : Nat) : Int) := by
      have : (k : Int) < 1000000 := by omega
      simp [IntKind.wrap, IntKind.bits, IntKind.signed]
      omega
    rw [List.drop_eq_getElem_cons hi, List.map_cons] at hs
    simp only [gAll] at hs
    split at hs
    case h_2 => cases hs
    rename_i s2 hs2
    have hFb : ∀ o o', Fr h' ((h'.new o).put h'.next o') := fun o o' => (Fr.new _ _).put (Nat.le_refl _) _
    simp [-Int.natCast_add, isM, xappendM, rowsIn, e0, e1, e2, e3, e4, hi, hi', ltB_t, TN.v_len, TN.v_take, TN.v_drop]
    refine (hg fu (by omega) c _ s1 bv gv L[k] s2 (hP.fr (hFb _ _)) hK hs2).mono ?_
    rintro _ h3 ⟨rfl, hP3, hK3, hG3⟩
    simp [-Int.natCast_add, isM, xappendM, rowsIn, e0, e1, e2, e3, e4]
    refine ⟨m - 1, by omega, k + 1, fu, s2, by omega, by omega, by omega, hs, hP3, hK3, (hG.trans ((hFb _ _).g lt.1)).trans hG3, ?_⟩
    simp [-Int.natCast_add, isM, xappendM, rowsIn, e0, e1, e2, e3, e4, hw]
  · have hlf : ltB (k : Int) (L.length : Int) = false := ltB_f (by omega)
    rw [List.drop_of_length_le (by omega)] at hs
    simp only [List.map_nil, gAll] at hs
    obtain rfl := Option.some.inj hs
    simp [-Int.natCast_add, isM, xappendM, rowsIn, e0, e1, e2, e3, e4, hlf]
    exact ⟨rfl, hP, hK, hG⟩
theorem gcall_calls (f : Nat) (ha : CGa f) (c : GC) (h : H) (s : GS) (bv gv : V) (T : TN) (s1 s' : GS) (hP : GnP c s bv gv h) (hK : KsOk s.consts) (h1 : gAllT f s T.nd.kids = some s1) (hok : gOk s1 = true) (h2 : gCallE s1 T.kl.length = some s') :
    XCalls e 214 [.ptr c.w 0, .agg T.v] h (GnK c h s' bv gv) := by
  have lt := hP.lt
  have hv := TN.v_eq T
  rw [TN.nd_kids] at h1
  rw [hv]
  refine XCalls.of Tryz.func214 rfl (by kernel_rfl) ?_
  rw [Tryz.ntmps214]
  simp [-Int.natCast_add, isM, xappendM, rowsIn]
  refine (ha c _ s bv gv T.kid T.ksz T.kl s1 (hP.fr (Fr.new _ _)) hK T.ksz5 h1).mono ?_
  rintro _ h3 ⟨rfl, hP3, hK3, hG3⟩
  have hn3 := hG3.next
  simp only [H.new_next] at hn3
  have ob := hG3.obj h.next (by simp only [H.new_next]; omega) (by omega) (by omega)
  rw [H.new_self] at ob
  simp only [gOk, Bool.and_eq_true, decide_eq_true_eq] at hok
  unfold gCallE at h2
  split at h2
  case h_2 => cases h2
  rename_i k r hkr
  obtain ⟨kid, ksz, cv, ci, cz, x⟩ := hP3
  obtain ⟨c1, c2⟩ := x.calls (by rw [hkr]; simp)
  subst c1
  have ho := x.objw
  rw [hkr] at ho
  have nbw : h.next ≠ c.w := by omega
  have nwb : c.w ≠ h.next := by omega
  have h1r : (1:Int) ≤ ((r.length + 1 : Nat) : Int) := by omega
  have htk : List.take r.length (r.map intV) = r.map intV := List.take_of_length_le (by simp)
  have hG3' : FrG c h h3 := ((Fr.new h _).g lt.1).trans hG3
  have lt3 := x.ltw
  have ltm := x.ltm
  have hP4 : ∀ b : H, b.obj = h3.obj → b.ext = h3.ext → b.arr = h3.arr → b.next = h3.next + 1 → GnP c { s1 with calls := r } bv gv (b.put c.w (.cells [.ptr c.m 0, .lit (.string c.name), .lit (.int .i64 c.params), .lit (.int .i64 c.locals), .slc kid ksz (s1.consts.map kV), cv, .lit (.int .i64 c.nloc), .slc c.si c.sz (c.slots.map intV), .slc h3.next 1 (r.map intV), bv, gv] 145)) ∧
      FrG c h (b.put c.w (.cells [.ptr c.m 0, .lit (.string c.name), .lit (.int .i64 c.params), .lit (.int .i64 c.locals), .slc kid ksz (s1.consts.map kV), cv, .lit (.int .i64 c.nloc), .slc c.si c.sz (c.slots.map intV), .slc h3.next 1 (r.map intV), bv, gv] 145)) := by
    intro b b1 b2 b3 b4
    refine ⟨⟨kid, ksz, cv, h3.next, 1, ⟨H.put_same _ _ _, ?_, by rw [H.put_next, b4]; omega, ltm, x.consts.of_ext (by rw [H.put_next, b4]; omega) (by rw [H.put_ext, b2]), ?_, fun _ => ⟨rfl, by omega⟩⟩⟩, hG3'.trans ⟨by rw [H.put_next, b4]; omega, fun j j1 j2 _ => ?_, fun j _ => by rw [H.put_ext, b2], fun j _ => by rw [H.put_arr, b3]⟩⟩
    · rw [H.put_ne _ _ (by omega), b1]; exact x.objm
    · rcases x.code with y | ⟨id, rr, y1, y2, y3, y4⟩
      · exact .inl y
      · exact .inr ⟨id, rr, y1, y2, by rw [H.put_next, b4]; omega, by rw [H.put_arr, b3]; exact y4⟩
    · rw [H.put_ne _ _ j2, b1]
  obtain ⟨hP5, hG5⟩ := hP4 h3.bump rfl rfl rfl rfl
  have hob : ∀ o, (h3.bump.put c.w o).obj h.next = h3.obj h.next := fun o => H.put_ne _ _ nbw
  have hik : intV k = [V.lit (.int .i64 k)] := rfl
  simp [-Int.natCast_add, isM, xappendM, rowsIn, ho, ob, c2, nbw, h1r, htk, hik]
  split
  case isTrue hk =>
    rw [if_pos hk] at h2
    obtain rfl := Option.some.inj h2
    refine (gtick_calls c _ _ bv gv hP5 (show s1.code.length ≤ 100000 by omega)).mono ?_
    rintro _ h6 ⟨rfl, hP6, hG6⟩
    have ob6 := (hG6.obj h.next (by simp only [H.put_next, H.bump]; omega) (by omega) (by omega)).trans ((hob _).trans ob)
    simp [-Int.natCast_add, isM, xappendM, rowsIn, ob6]
    refine (gput_calls c _ _ bv gv hP6 (by simp [gTick, gPut]; omega) 9 k (T.kl.length : Nat)).mono ?_
    rintro _ h7 ⟨rfl, hP7, hG7⟩
    simp [-Int.natCast_add, isM, xappendM, rowsIn]
    exact ⟨rfl, hP7, hK3, (hG5.trans hG6).trans hG7⟩
  case isFalse hk =>
    rw [if_neg hk] at h2
    split
    case isTrue hl =>
      have hl' : (T.kl.length == 2) = true := by simp; omega
      rw [if_pos hl'] at h2
      obtain rfl := Option.some.inj h2
      refine (gput_calls c _ _ bv gv hP5 (show s1.code.length ≤ 100000 by omega) 5 (IntKind.i64.wrap (k - 1000)) 0).mono ?_
      rintro _ h7 ⟨rfl, hP7, hG7⟩
      simp [-Int.natCast_add, isM, xappendM, rowsIn]
      exact ⟨rfl, hP7, hK3, hG5.trans hG7⟩
    case isFalse hl =>
      have hl' : ¬ (T.kl.length == 2) = true := by simp; omega
      rw [if_neg hl'] at h2
      obtain rfl := Option.some.inj h2
      refine (gput_calls c _ _ bv gv hP5 (show s1.code.length ≤ 100000 by omega) 6 (IntKind.i64.wrap (k - 1000)) 0).mono ?_
      rintro _ h7 ⟨rfl, hP7, hG7⟩
      simp [-Int.natCast_add, isM, xappendM, rowsIn]
      exact ⟨rfl, hP7, hK3, hG5.trans hG7⟩
theorem TN.gk (T : TN) : T.nd.kind = T.kind := by rw [TN.nd_eq]; rfl
theorem TN.go (T : TN) : T.nd.op = T.op := by rw [TN.nd_eq]; rfl
theorem TN.gn (T : TN) : T.nd.num = T.num := by rw [TN.nd_eq]; rfl
theorem TN.gl (T : TN) : T.nd.kids.length = T.kl.length := by rw [TN.nd_kids]; simp
theorem gexpr_step (f : Nat) (ha : ∀ m, m ≤ f → CGa m) : CGe (f + 1) := by
  intro c h s bv gv T s' hP hK hs
  have lt := hP.lt
  unfold gExpr at hs
  split at hs
  case isTrue => cases hs
  rename_i hok
  simp only [gOk, Bool.not_eq_true', Bool.not_eq_false, Bool.and_eq_true, decide_eq_true_eq] at hok
  have hv := TN.v_eq T
  rw [TN.gk, TN.go, TN.gn, TN.gl, TN.nd_kids] at hs
  rw [hv]
  refine XCalls.of Tryz.func178 rfl (by kernel_rfl) ?_
  rw [Tryz.ntmps178]
  split at hs
  case isTrue hk =>
    have hk' : T.kind = 15 := by simpa using hk
    obtain rfl := Option.some.inj hs
    simp [-Int.natCast_add, isM, xappendM, rowsIn, hk']
    refine (vint_calls _ T.num).mono ?_
    rintro _ h1 ⟨rfl, hF1⟩
    simp [-Int.natCast_add, isM, xappendM, rowsIn]
    have hF1' := (Fr.new h _).trans hF1
    refine (gkonst_calls c _ s bv gv (hP.fr hF1') hK (by omega) (by omega) 1 T.num (.inr rfl)).mono ?_
    rintro _ h2 ⟨rfl, hP2, hG2⟩
    simp [-Int.natCast_add, isM, xappendM, rowsIn]
    exact ⟨rfl, hP2, ks_const hK (.inr rfl), (hF1'.g lt.1).trans hG2⟩
  rename_i hk15
  have k15 : (T.kind == 15) = false := by simpa using hk15
  split at hs
  case isTrue hk =>
    have hk' : T.kind = 11 := by simpa using hk
    split at hs
    case h_2 => cases hs
    rename_i s1 hs1
    split at hs
    case isFalse => cases hs
    rename_i hok1
    simp only [gOk, Bool.and_eq_true, decide_eq_true_eq] at hok1
    obtain rfl := Option.some.inj hs
    simp [-Int.natCast_add, isM, xappendM, rowsIn, hk']
    refine (ha f (Nat.le_refl _) c _ s bv gv T.kid T.ksz T.kl s1 (hP.fr (Fr.new _ _)) hK T.ksz5 hs1).mono ?_
    rintro _ h3 ⟨rfl, hP3, hK3, hG3⟩
    have ob := hG3.obj h.next (by simp only [H.new_next]; omega) (by omega) (by omega)
    rw [H.new_self] at ob
    simp [-Int.natCast_add, isM, xappendM, rowsIn, ob]
    refine (gput_calls c _ _ bv gv hP3 (by omega) 5 T.op 0).mono ?_
    rintro _ h7 ⟨rfl, hP7, hG7⟩
    simp [-Int.natCast_add, isM, xappendM, rowsIn]
    exact ⟨rfl, hP7, hK3, (((Fr.new h _).g lt.1).trans hG3).trans hG7⟩
  rename_i hk11
  have k11 : (T.kind == 11) = false := by simpa using hk11
  split at hs
  case isTrue hk =>
    have hk' : T.kind = 20 := by simpa using hk
    split at hs
    case h_2 => cases hs
    rename_i s1 hs1
    split at hs
    case isFalse => cases hs
    rename_i hok1
    simp [-Int.natCast_add, isM, xappendM, rowsIn, hk']
    have hv2 := TN.v_eq T
    rw [hk'] at hv2
    rw [← hv2]
    refine (gcall_calls f (ha f (Nat.le_refl _)) c _ s bv gv T s1 s' (hP.fr (Fr.new _ _)) hK (by rw [TN.nd_kids]; exact hs1) hok1 hs).mono ?_
    rintro _ h3 ⟨rfl, hP3, hK3, hG3⟩
    simp [-Int.natCast_add, isM, xappendM, rowsIn]
    exact ⟨rfl, hP3, hK3, ((Fr.new h _).g lt.1).trans hG3⟩
  rename_i hk20
  have k20 : (T.kind == 20) = false := by simpa using hk20
  split at hs
  case isTrue hk =>
    have hk' : T.kind = 21 := by simpa using hk
    split at hs
    case isFalse => cases hs
    rename_i h64
    split at hs
    case h_2 => cases hs
    rename_i s1 hs1
    split at hs
    case isFalse => cases hs
    rename_i hok1
    simp only [gOk, Bool.and_eq_true, decide_eq_true_eq] at hok1
    obtain rfl := Option.some.inj hs
    have h64' : ltB 64 (T.kl.length : Nat) = false := ltB_f (by omega)
    simp [-Int.natCast_add, isM, xappendM, rowsIn, hk', h64']
    refine (ha f (Nat.le_refl _) c _ s bv gv T.kid T.ksz T.kl s1 (hP.fr (Fr.new _ _)) hK T.ksz5 hs1).mono ?_
    rintro _ h3 ⟨rfl, hP3, hK3, hG3⟩
    have ob := hG3.obj h.next (by simp only [H.new_next]; omega) (by omega) (by omega)
    rw [H.new_self] at ob
    simp [-Int.natCast_add, isM, xappendM, rowsIn, ob]
    refine (gput_calls c _ _ bv gv hP3 (by omega) 13 (T.kl.length : Nat) 0).mono ?_
    rintro _ h7 ⟨rfl, hP7, hG7⟩
    simp [-Int.natCast_add, isM, xappendM, rowsIn]
    exact ⟨rfl, hP7, hK3, (((Fr.new h _).g lt.1).trans hG3).trans hG7⟩
  case isFalse => cases hs
theorem gx_all : ∀ n f, f < n → CGe f ∧ CGa f := by
  intro n
  induction n with
  | zero => intro f hf; omega
  | succ n ih =>
    intro f hf
    cases f with
    | zero =>
      refine ⟨?_, ?_⟩
      · intro c h s bv gv T s' hP hK hs
        unfold gExpr at hs; cases hs
      · intro c h s bv gv id sz L s' hP hK hz hs
        unfold gAllT at hs; cases hs
    | succ f =>
      exact ⟨gexpr_step f (fun m hm => (ih m (by omega)).2), gall_step f (fun m hm => (ih m (by omega)).1)⟩
theorem ge_all (f : Nat) : CGe f := (gx_all (f + 1) f (by omega)).1
theorem ga_all (f : Nat) : CGa f := (gx_all (f + 1) f (by omega)).2
end Go.Proofs.YtjofmihdeblbmaaGreatDoor.Xa
namespace Go.Proofs.YtjofmihdeblbmaaGreatDoor.Xa
open Go Go.RowKit
set_option linter.unusedVariables false
set_option linter.unusedSimpArgs false
set_option maxRecDepth 100000
set_option maxHeartbeats 1000000
mutual
def gStmt : Nat → GS → Nd → Option GS
  | 0, _, _ => none
  | f + 1, s, n => if !gOk s then none else
    if n.kind == 10 then (if n.kids.length ≤ 1000000 then gBlk f s n.kids else none)
    else if n.kind == 4 then match gExpr f s (n.kid 0) with
      | some s1 => if !gOk s1 then none else match gStmt f (gPut s1 (8, 0, 0)) (n.kid 1) with
        | some s3 => if gOk s3 && decide (s1.code.length < s3.code.length) then some (gAim (gPut (gTick s3) (7, (s.code.length : Nat), 0)) s1.code.length) else none
        | none => none
      | none => none
    else if n.kind == 8 then match gAllT f s n.kids with
      | some s1 => if gOk s1 then some (gPut s1 (11, 0, 0)) else none
      | none => none
    else if n.kind == 9 then match gAllT f s n.kids with
      | some s1 => if gOk s1 then some (gPut s1 (4, 0, 0)) else none
      | none => none
    else none
def gBlk : Nat → GS → List Nd → Option GS
  | 0, _, _ => none
  | f + 1, s, [] => some s
  | f + 1, s, n :: l => match gStmt f s n with
    | some s1 => gBlk f s1 l
    | none => none
end
def IsR (v : V) : Prop := ∃ id sz xs, v = .slc id sz xs
def CGs (f : Nat) : Prop := ∀ (c : GC) (h : H) (s : GS) (bv gv : V) (T : TN) (s' : GS), IsR bv → IsR gv → GnP c s bv gv h → KsOk s.consts → gStmt f s T.nd = some s' → XCalls e 77 [.ptr c.w 0, .agg T.v] h (GnK c h s' bv gv)
theorem GnAt.ctl {c : GC} {h : H} {s : GS} {kid ksz : Nat} {cv : V} {ci cz : Nat} {bv gv : V} (x : GnAt c h s kid ksz cv ci cz bv gv) (bv' gv' : V) :
    GnAt c (h.put c.w (.cells [.ptr c.m 0, .lit (.string c.name), .lit (.int .i64 c.params), .lit (.int .i64 c.locals), .slc kid ksz (s.consts.map kV), cv, .lit (.int .i64 c.nloc), .slc c.si c.sz (c.slots.map intV), .slc ci cz (s.calls.map intV), bv', gv'] 145)) s kid ksz cv ci cz bv' gv' :=
  ⟨H.put_same _ _ _, (H.put_ne _ _ (Nat.ne_of_lt x.ltm)).trans x.objm, x.ltw, x.ltm, x.consts.of_ext (Nat.le_refl _) rfl, x.code, x.calls⟩
theorem GnAt.fr {c : GC} {h h' : H} {s : GS} {kid ksz : Nat} {cv : V} {ci cz : Nat} {bv gv : V} (x : GnAt c h s kid ksz cv ci cz bv gv) (f : Fr h h') : GnAt c h' s kid ksz cv ci cz bv gv :=
  ⟨(f.obj c.w x.ltw).trans x.objw, (f.obj c.m (Nat.lt_trans x.ltm x.ltw)).trans x.objm, Nat.lt_of_lt_of_le x.ltw f.next, x.ltm, x.consts.mono f, x.code.fr f, x.calls⟩
theorem FrG.ctl (c : GC) (h : H) (o : Obj) : FrG c h (h.put c.w o) := ⟨Nat.le_refl _, fun j _ h2 _ => H.put_ne _ _ h2, fun _ _ => rfl, fun _ _ => rfl⟩
theorem len_code {h : H} {lo : Nat} {v : V} {l : List Ins} (hN : CodeV h lo v l) (h' : H) : xbuiltin e .len [54] [v] h' = some (.lit (.int .i64 (l.length : Nat)), h') := by
  rcases hN with ⟨rfl, rfl⟩ | ⟨id, r, rfl, _⟩ <;> rfl
theorem aim_consts (s : GS) (i : Nat) : (gAim s i).consts = s.consts := by unfold gAim; split <;> rfl
def GwJ (c : GC) (h : H) (s : GS) (j : Nat) (bv gv row : V) (bg q1 q2 : Nat) (s5 : GS) : Nat → List V → H → Prop := fun m fr' h' => ∃ (k : Nat) (b' g' : V), m + k = 1 ∧ GnP c (if k = 0 then s else gAim s j) b' g' h' ∧ FrG c h h' ∧ q1 < h'.next ∧ q2 < h'.next ∧ h'.obj q1 = some (.cells [.ptr c.w 0] 142) ∧ h'.obj q2 = some (.cells [.lit (.int .i64 (j : Nat))] 3) ∧
  fr'.length = 87 ∧ ev fr' (.tmp 0) = .ptr c.w 0 ∧ ev fr' (.tmp 4) = bv ∧ ev fr' (.tmp 5) = gv ∧ ev fr' (.tmp 70) = row ∧ ev fr' (.tmp 71) = .lit (.int .i64 1) ∧ ev fr' (.tmp 72) = .lit (.int .i64 (k : Nat))
attribute [local simp] hid2 hid3 hid4 xcode_skip xcode_region xcode_draw xcode_loop xcode_seq xcode_cond xcode_block xcode_scope xcode_exit xcode_ret xops_nil xops_cons xd_nil xd_cons xstep_eq annot fillOf findFill findStore srcOf kcls cls qval qvalN xwant dstAt want1 xdo xop ev_const ev_global ev_func ev_zero ev_succ ev_undefs ev_hit ev_miss put_none put_len undefs_len xnil xfieldAddr fieldOf eT emtb seqQ blockQ xload xstore splice V.storable V.one V.cells mk xbinop xbin xun xbuiltin xindexAddr nilOr xindex xint cv cv1 retQ xres_tmp xres_cell xres_nil xresult xbuild xfill xbuildSlice xrows Nat.testBit places xfield item sideOk pendOk pendOf tyT1 tyT2 tyT3 tyT4 tyT5 tyT9 tyT22 tyT23 tyT24 tyT25 tyT26 tyT30 tyT34 tyT39 tyT41 tyT47 tyT48 tyT50 tyT53 tyT54 tyT56 tyT58 tyT63 tyT70 tyT76 tyT78 tyT80 tyT84 tyT87 tyT89 tyT96 tyT98 tyT100 tyT102 tyT108 tyT110 tyT112 tyT113 tyT115 tyT119 tyT121 tyT124 tyT138 tyT139 tyT141 tyT142 tyT143 tyT145 tyT147 tyT149 tyT155 tyT158 tyT164 tyT179 tyT186 tyT188 tyT189 tyT194 tyT197 tyT200 tyT216 tyT242 tyT245 H.put_get H.new_get H.row_obj H.grow_obj H.bump_obj H.newArr_obj H.putArr_obj H.moveArr_obj H.put_arr H.new_arr H.row_arr H.grow_arr H.bump_arr H.newArr_get H.putArr_get H.moveArr_get H.put_ext H.new_ext H.newArr_ext H.putArr_ext H.moveArr_ext H.bump_ext H.row_get H.grow_get H.new_next H.row_next H.bump_next H.put_next H.grow_next H.newArr_next H.putArr_next H.moveArr_next H.app_next H.app_obj H.app_arr H.app_get bne emT emM xapp_em xmakeSlice xslice xlookup xmapUpdate keyShape
theorem gwhile_calls (f : Nat) (hst : ∀ m, m ≤ f → CGs m) (c : GC) (h : H) (s : GS) (bv gv : V) (T : TN) (s1 s3 : GS) (hb : IsR bv) (hg : IsR gv) (hP : GnP c s bv gv h) (hK : KsOk s.consts) (hok : gOk s = true)
    (h1 : gExpr f s (T.nd.kid 0) = some s1) (hok1 : gOk s1 = true) (h3 : gStmt f (gPut s1 (8, 0, 0)) (T.nd.kid 1) = some s3) (hok3 : gOk s3 = true) (hlt : s1.code.length < s3.code.length) :
    XCalls e 128 [.ptr c.w 0, .agg T.v] h (GnK c h (gAim (gPut (gTick s3) (7, (s.code.length : Nat), 0)) s1.code.length) bv gv) := by
  simp only [gOk, Bool.and_eq_true, decide_eq_true_eq] at hok hok1 hok3
  obtain ⟨bi, bz, bl, rfl⟩ := hb
  obtain ⟨gi, gz, gl, rfl⟩ := hg
  have hv := TN.v_eq T
  rw [hv]
  refine XCalls.of Tryz.func128 rfl (by kernel_rfl) ?_
  rw [Tryz.ntmps128]
  obtain ⟨kid, ksz, cv, ci, cz, x⟩ := hP
  have ltw := x.ltw
  have ltm := x.ltm
  have ho := x.objw
  have nbw : h.next ≠ c.w := by omega
  have nwb : c.w ≠ h.next := by omega
  simp [-Int.natCast_add, isM, xappendM, rowsIn, nbw, nwb]
  refine XW.drawH mixed (L := List.range 10) (by kernel_rfl) ?_
  simp only [List.range, List.range.loop, List.map_cons, List.map_nil, item]
  simp only [annot, fillOf, findFill, findStore, srcOf, List.getD_cons_succ, List.getD_cons_zero]
  have hlen := len_code x.code
  have hx1 := x.fr (Fr.new h (.cells [.lit (.int .i64 T.kind), .lit (.int .i64 T.op), .lit (.string T.str), .lit (.int .i64 T.num), .slc T.kid T.ksz (T.kl.map TN.v)] 41))
  have hx2 := (hx1.ctl (.slc 0 0 []) (.slc gi gz gl)).ctl (.slc 0 0 []) (.slc 0 0 [])
  have hG1 := (((Fr.new h (.cells [.lit (.int .i64 T.kind), .lit (.int .i64 T.op), .lit (.string T.str), .lit (.int .i64 T.num), .slc T.kid T.ksz (T.kl.map TN.v)] 41)).g (c := c) ltw).trans (FrG.ctl c _ (.cells [.ptr c.m 0, .lit (.string c.name), .lit (.int .i64 c.params), .lit (.int .i64 c.locals), .slc kid ksz (s.consts.map kV), cv, .lit (.int .i64 c.nloc), .slc c.si c.sz (c.slots.map intV), .slc ci cz (s.calls.map intV), .slc 0 0 [], .slc gi gz gl] 145))).trans
    (FrG.ctl c _ (.cells [.ptr c.m 0, .lit (.string c.name), .lit (.int .i64 c.params), .lit (.int .i64 c.locals), .slc kid ksz (s.consts.map kV), cv, .lit (.int .i64 c.nloc), .slc c.si c.sz (c.slots.map intV), .slc ci cz (s.calls.map intV), .slc 0 0 [], .slc 0 0 []] 145))
  simp [-Int.natCast_add, isM, xappendM, rowsIn, ho, nbw, nwb, -xbuiltin, hlen]
  have at0 := fun h' => at_calls2 h' T 0 (by omega)
  have a0 : ((0 : Nat) : Int) = 0 := rfl
  have a1 : ((1 : Nat) : Int) = 1 := rfl
  have at1 := fun h' => at_calls2 h' T 1 (by omega)
  simp only [a0, a1] at at0 at1
  refine (at0 _).mono ?_
  rintro _ h2 ⟨rfl, hF2⟩
  have hn2 := hF2.next
  simp only [H.new_next, H.put_next] at hn2
  have ob2 := hF2.obj h.next (by simp only [H.new_next, H.put_next]; omega)
  rw [H.put_ne _ _ nbw, H.put_ne _ _ nbw, H.new_self] at ob2
  have hP2 : GnP c s _ _ h2 := ⟨kid, ksz, cv, ci, cz, hx2.fr hF2⟩
  have hG2 := hG1.trans (hF2.g hx2.ltw)
  simp [-Int.natCast_add, isM, xappendM, rowsIn]
  rw [← kid_nd] at h1 h3
  refine (ge_all f c _ s _ _ _ s1 hP2 hK h1).mono ?_
  rintro _ h4 ⟨rfl, hP4, hK4, hG4⟩
  have hn4 := hG4.next
  have ob4 := (hG4.obj h.next (by omega) (by omega) (by omega)).trans ob2
  have hG4' := hG2.trans hG4
  obtain ⟨kid4, ksz4, cv4, ci4, cz4, x4⟩ := hP4
  have ho4 := x4.objw
  simp [-Int.natCast_add, isM, xappendM, rowsIn]
  refine XW.drawB mixed (L := List.range 12) (B := [0, 0, 2, 6, 14, 0, 32, 96, 254, 511, 1023, 2047]) (by kernel_rfl) (by kernel_rfl) ?_
  simp only [List.range, List.range.loop, List.map_cons, List.map_nil, item]
  simp only [annot, fillOf, findFill, findStore, srcOf, List.getD_cons_succ, List.getD_cons_zero]
  simp [-Int.natCast_add, isM, xappendM, rowsIn, ho4]
  refine (gahead_calls c _ s1 _ _ ⟨kid4, ksz4, cv4, ci4, cz4, x4⟩ (by omega) 8).mono ?_
  rintro jv h5 ⟨⟨q1, q2, rfl, w1, w2, w3, w4, o1, o2⟩, hP5, hG5⟩
  have hn5 := hG5.next
  have ob5 := (hG5.obj h.next (by omega) (by omega) (by omega)).trans ob4
  have hG5' := hG4'.trans hG5
  obtain ⟨kid5, ksz5, cv5, ci5, cz5, x5⟩ := hP5
  have ho5 := x5.objw
  have n0 : h5.next ≠ 0 := by omega
  have n1 : h5.next ≠ c.w := by omega
  have n2 : c.w ≠ h5.next := by omega
  simp [-Int.natCast_add, isM, xappendM, rowsIn, ho4, ho5, ob5, nwb, nbw, n0, xappend, maxLen]
  have hx6 := (x5.fr ((Fr.row h5 1).row1 1)).ctl (.slc (h5.next + 1) 1 [[.fn 180 [.ptr q1 0, .ptr q2 0]]]) (.slc 0 0 [])
  have hG6 := (hG5'.trans (((Fr.row h5 1).row1 1).g (c := c) (by omega))).trans (FrG.ctl c _ (.cells [.ptr c.m 0, .lit (.string c.name), .lit (.int .i64 c.params), .lit (.int .i64 c.locals), .slc kid5 ksz5 ((gPut s1 (8, 0, 0)).consts.map kV), cv5, .lit (.int .i64 c.nloc), .slc c.si c.sz (c.slots.map intV), .slc ci5 cz5 ((gPut s1 (8, 0, 0)).calls.map intV), .slc (h5.next + 1) 1 [[.fn 180 [.ptr q1 0, .ptr q2 0]]], .slc 0 0 []] 145))
  refine (at1 _).mono ?_
  rintro _ h7 ⟨rfl, hF7⟩
  have hn7 := hF7.next
  simp only [H.row_next, H.put_next] at hn7
  have hx7 := hx6.fr hF7
  have hG7 := hG6.trans (hF7.g hx6.ltw)
  have o1' := (hF7.obj q1 (by simp only [H.row_next, H.put_next]; omega)).trans ((H.put_ne _ _ (by omega)).trans o1)
  have o2' := (hF7.obj q2 (by simp only [H.row_next, H.put_next]; omega)).trans ((H.put_ne _ _ (by omega)).trans o2)
  simp [-Int.natCast_add, isM, xappendM, rowsIn]
  refine (hst f (Nat.le_refl _) c _ _ _ _ _ s3 ⟨_, _, _, rfl⟩ ⟨_, _, _, rfl⟩ ⟨_, _, _, _, _, hx7⟩ hK4 h3).mono ?_
  rintro _ h8 ⟨rfl, hP8, hK8, hG8⟩
  have hn8 := hG8.next
  have o1'' := (hG8.obj q1 (by omega) (by omega) (by omega)).trans o1'
  have o2'' := (hG8.obj q2 (by omega) (by omega) (by omega)).trans o2'
  obtain ⟨kid8, ksz8, cv8, ci8, cz8, x8⟩ := hP8
  have ho8 := x8.objw
  simp [-Int.natCast_add, isM, xappendM, rowsIn, ho8]
  refine XW.loopH (fun m fr' h' => h' = h8 ∧ fr'.length = 87 ∧ ev fr' (.tmp 0) = .ptr c.w 0 ∧ ev fr' (.tmp 4) = .slc bi bz bl ∧ ev fr' (.tmp 5) = .slc gi gz gl ∧ ev fr' (.tmp 6) = .lit (.int .i64 (s.code.length : Nat)) ∧ ev fr' (.tmp 53) = .slc 0 0 [] ∧ ev fr' (.tmp 54) = .lit (.int .i64 0) ∧ ev fr' (.tmp 55) = .lit (.int .i64 0)) 1 ?_ ?_
  · simp [-Int.natCast_add, isM, xappendM, rowsIn]
  rintro m fr' h' ⟨rfl, e0, e1, e2, e3, e4, e5, e6, e7⟩
  simp [-Int.natCast_add, isM, xappendM, rowsIn, e0, e1, e2, e3, e4, e5, e6, e7, show ltB 0 0 = false from rfl]
  refine (gtick_calls c _ s3 _ _ ⟨_, _, _, _, _, x8⟩ (by omega)).mono ?_
  rintro _ h9 ⟨rfl, hP9, hG9⟩
  have hn9 := hG9.next
  simp [-Int.natCast_add, isM, xappendM, rowsIn, e0, e1, e2, e3, e4]
  refine (gput_calls c _ _ _ _ hP9 (by simp [gTick, gPut]; omega) 7 (s.code.length : Nat) 0).mono ?_
  rintro _ h10 ⟨rfl, hP10, hG10⟩
  have hn10 := hG10.next
  have hG10' := ((hG7.trans hG8).trans hG9).trans hG10
  have p1 := (hG10.obj q1 (by omega) (by omega) (by omega)).trans ((hG9.obj q1 (by omega) (by omega) (by omega)).trans o1'')
  have p2 := (hG10.obj q2 (by omega) (by omega) (by omega)).trans ((hG9.obj q2 (by omega) (by omega) (by omega)).trans o2'')
  obtain ⟨kid10, ksz10, cv10, ci10, cz10, x10⟩ := hP10
  have ho10 := x10.objw
  simp [-Int.natCast_add, isM, xappendM, rowsIn, e0, e1, e2, e3, e4, ho10]
  refine XW.loopH (GwJ c h (gPut (gTick s3) (7, (s.code.length : Nat), 0)) s1.code.length (.slc bi bz bl) (.slc gi gz gl) (.slc (h5.next + 1) 1 [[.fn 180 [.ptr q1 0, .ptr q2 0]]]) s.code.length q1 q2 s) 1 ?_ ?_
  · refine ⟨0, _, _, rfl, ⟨_, _, _, _, _, x10⟩, hG10', by omega, by omega, p1, p2, ?_⟩
    simp [-Int.natCast_add, isM, xappendM, rowsIn, e0, e1, e2, e3, e4]
  clear e0 e1 e2 e3 e4 e5 e6 e7
  rintro m fr' h' ⟨k, b', g', hm, hPk, hGk, l1, l2, r1, r2, e0, e1, e2, e3, e4, e5, e6⟩
  rcases Nat.lt_or_ge k 1 with hk | hk
  · obtain rfl : k = 0 := by omega
    simp only [if_pos] at hPk
    simp [-Int.natCast_add, isM, xappendM, rowsIn, e0, e1, e2, e3, e4, e5, e6, show ltB 0 1 = true from rfl]
    refine (gjump_calls c _ _ _ _ hPk s1.code.length (by simp [gTick, gPut]; omega) (by simp [gTick, gPut]; omega) q1 q2 r1 r2).mono ?_
    rintro _ h11 ⟨rfl, hP11, hG11⟩
    simp [-Int.natCast_add, isM, xappendM, rowsIn, e0, e1, e2, e3, e4, e5, e6]
    refine ⟨0, by omega, 1, b', g', rfl, by simpa using hP11, hGk.trans hG11, Nat.lt_of_lt_of_le l1 hG11.next, Nat.lt_of_lt_of_le l2 hG11.next, (hG11.obj q1 l1 (by omega) (by omega)).trans r1, (hG11.obj q2 l2 (by omega) (by omega)).trans r2, ?_⟩
    simp [-Int.natCast_add, isM, xappendM, rowsIn, e0, e1, e2, e3, e4, e5, e6, show IntKind.i64.wrap 1 = 1 from rfl]
  · obtain rfl : k = 1 := by omega
    simp only [Nat.one_ne_zero, if_false] at hPk
    obtain ⟨kid12, ksz12, cv12, ci12, cz12, x12⟩ := hPk
    have ho12 := x12.objw
    simp [-Int.natCast_add, isM, xappendM, rowsIn, e0, e1, e2, e3, e4, e5, e6, show ltB 1 1 = false from rfl, ho12]
    exact ⟨rfl, ⟨_, _, _, _, _, (x12.ctl (.slc bi bz bl) g').ctl (.slc bi bz bl) (.slc gi gz gl)⟩, by rw [aim_consts]; exact hK8, (hGk.trans (FrG.ctl c _ _)).trans (FrG.ctl c _ _)⟩
def GbJ (f : Nat) (c : GC) (h : H) (bv gv : V) (id sz : Nat) (L : List TN) (s' : GS) : Nat → List V → H → Prop := fun m fr' h' => ∃ (k fu : Nat) (s : GS), m + k = L.length + 1 ∧ k ≤ L.length ∧ fu ≤ f ∧ gBlk fu s ((L.drop k).map TN.nd) = some s' ∧ GnP c s bv gv h' ∧ KsOk s.consts ∧ FrG c h h' ∧
  fr'.length = 110 ∧ ev fr' (.tmp 0) = .ptr c.w 0 ∧ ev fr' (.tmp 12) = .slc id sz (L.map TN.v) ∧ ev fr' (.tmp 13) = .lit (.int .i64 (L.length : Nat)) ∧ ev fr' (.tmp 14) = .lit (.int .i64 (k : Nat))
theorem gstmt_step (f : Nat) (hst : ∀ m, m ≤ f → CGs m) : CGs (f + 1) := by
  intro c h s bv gv T s' hb hg hP hK hs
  have lt := hP.lt
  unfold gStmt at hs
  split at hs
  case isTrue => cases hs
  rename_i hokb
  have hok : gOk s = true := by simpa using hokb
  have hv := TN.v_eq T
  rw [TN.gk, TN.nd_kids] at hs
  rw [hv]
  refine XCalls.of Tryz.func77 rfl (by kernel_rfl) ?_
  rw [Tryz.ntmps77]
  split at hs
  case isTrue hk =>
    have hk' : T.kind = 10 := by simpa using hk
    split at hs
    case isFalse => cases hs
    rename_i hL
    rw [List.length_map] at hL
    have hsz := T.ksz5
    simp [-Int.natCast_add, isM, xappendM, rowsIn, hk']
    refine XW.loopH (GbJ f c h bv gv T.kid T.ksz T.kl s') (T.kl.length + 1) ?_ ?_
    · refine ⟨0, f, s, by omega, by omega, Nat.le_refl _, by simpa using hs, hP.fr (Fr.new _ _), hK, (Fr.new h _).g lt.1, ?_⟩
      simp [-Int.natCast_add, isM, xappendM, rowsIn]
    clear hs hP hK hokb hok
    rintro m fr' h' ⟨k, fu, s1, hm, hk1, hfu, hs, hP, hK, hG, e0, e1, e2, e3, e4⟩
    have lt' := hP.lt
    cases fu with
    | zero => unfold gBlk at hs; cases hs
    | succ fu =>
    rcases Nat.lt_or_ge k T.kl.length with hi | hi
    · have hi' : (k : Int) < (T.kl.length : Int) := by omega
      have z5 : T.ksz = 5 := hsz (by intro h0; rw [h0] at hi; cases hi)
      have hw : IntKind.i64.wrap ((k : Int) + 1) = ((k + 1 : Nat) : Int) := by
        have : (k : Int) < 1000000 := by omega
        simp [IntKind.wrap, IntKind.bits, IntKind.signed]
        omega
      rw [List.drop_eq_getElem_cons hi, List.map_cons] at hs
      simp only [gBlk] at hs
      split at hs
      case h_2 => cases hs
      rename_i s2 hs2
      have hFb : ∀ o o', Fr h' ((h'.new o).put h'.next o') := fun o o' => (Fr.new _ _).put (Nat.le_refl _) _
      simp [-Int.natCast_add, isM, xappendM, rowsIn, e0, e1, e2, e3, e4, hi, hi', ltB_t, z5, TN.v_len, TN.v_take, TN.v_drop]
      refine (hst fu (by omega) c _ s1 bv gv T.kl[k] s2 hb hg (hP.fr (hFb _ _)) hK hs2).mono ?_
      rintro _ h3 ⟨rfl, hP3, hK3, hG3⟩
      simp [-Int.natCast_add, isM, xappendM, rowsIn, e0, e1, e2, e3, e4]
      refine ⟨m - 1, by omega, k + 1, fu, s2, by omega, by omega, by omega, hs, hP3, hK3, (hG.trans ((hFb _ _).g lt'.1)).trans hG3, ?_⟩
      simp [-Int.natCast_add, isM, xappendM, rowsIn, e0, e1, e2, e3, e4, hw]
    · have hlf : ltB (k : Int) (T.kl.length : Int) = false := ltB_f (by omega)
      rw [List.drop_of_length_le (by omega)] at hs
      simp only [List.map_nil, gBlk] at hs
      obtain rfl := Option.some.inj hs
      simp [-Int.natCast_add, isM, xappendM, rowsIn, e0, e1, e2, e3, e4, hlf]
      exact ⟨rfl, hP, hK, hG⟩
  rename_i hk10
  have k10 : (T.kind == 10) = false := by simpa using hk10
  split at hs
  case isTrue hk =>
    have hk' : T.kind = 4 := by simpa using hk
    split at hs
    case h_2 => cases hs
    rename_i s1 hs1
    split at hs
    case isTrue => cases hs
    rename_i hok1
    split at hs
    case h_2 => cases hs
    rename_i s3 hs3
    split at hs
    case isFalse => cases hs
    rename_i hok3
    simp only [Bool.and_eq_true, decide_eq_true_eq] at hok3
    obtain rfl := Option.some.inj hs
    simp [-Int.natCast_add, isM, xappendM, rowsIn, hk']
    have hv2 := TN.v_eq T
    rw [hk'] at hv2
    rw [← hv2]
    refine (gwhile_calls f hst c _ s bv gv T s1 s3 hb hg (hP.fr (Fr.new _ _)) hK hok hs1 (by simpa using hok1) hs3 hok3.1 hok3.2).mono ?_
    rintro _ h3 ⟨rfl, hP3, hK3, hG3⟩
    simp [-Int.natCast_add, isM, xappendM, rowsIn]
    exact ⟨rfl, hP3, hK3, ((Fr.new h _).g lt.1).trans hG3⟩
  rename_i hk4
  have k4 : (T.kind == 4) = false := by simpa using hk4
  split at hs
  case isTrue hk =>
    have hk' : T.kind = 8 := by simpa using hk
    split at hs
    case h_2 => cases hs
    rename_i s1 hs1
    split at hs
    case isFalse => cases hs
    rename_i hok1
    simp only [gOk, Bool.and_eq_true, decide_eq_true_eq] at hok1
    obtain rfl := Option.some.inj hs
    simp [-Int.natCast_add, isM, xappendM, rowsIn, hk']
    refine (ga_all f c _ s bv gv T.kid T.ksz T.kl s1 (hP.fr (Fr.new _ _)) hK T.ksz5 hs1).mono ?_
    rintro _ h3 ⟨rfl, hP3, hK3, hG3⟩
    simp [-Int.natCast_add, isM, xappendM, rowsIn]
    refine (gput_calls c _ _ bv gv hP3 (by omega) 11 0 0).mono ?_
    rintro _ h7 ⟨rfl, hP7, hG7⟩
    simp [-Int.natCast_add, isM, xappendM, rowsIn]
    exact ⟨rfl, hP7, hK3, (((Fr.new h _).g lt.1).trans hG3).trans hG7⟩
  rename_i hk8
  have k8 : (T.kind == 8) = false := by simpa using hk8
  split at hs
  case isTrue hk =>
    have hk' : T.kind = 9 := by simpa using hk
    split at hs
    case h_2 => cases hs
    rename_i s1 hs1
    split at hs
    case isFalse => cases hs
    rename_i hok1
    simp only [gOk, Bool.and_eq_true, decide_eq_true_eq] at hok1
    obtain rfl := Option.some.inj hs
    simp [-Int.natCast_add, isM, xappendM, rowsIn, hk']
    refine (ga_all f c _ s bv gv T.kid T.ksz T.kl s1 (hP.fr (Fr.new _ _)) hK T.ksz5 hs1).mono ?_
    rintro _ h3 ⟨rfl, hP3, hK3, hG3⟩
    simp [-Int.natCast_add, isM, xappendM, rowsIn]
    refine (gput_calls c _ _ bv gv hP3 (by omega) 4 0 0).mono ?_
    rintro _ h7 ⟨rfl, hP7, hG7⟩
    simp [-Int.natCast_add, isM, xappendM, rowsIn]
    exact ⟨rfl, hP7, hK3, (((Fr.new h _).g lt.1).trans hG3).trans hG7⟩
  case isFalse => cases hs
theorem gs_all : ∀ n f, f < n → CGs f := by
  intro n
  induction n with
  | zero => intro f hf; omega
  | succ n ih =>
    intro f hf
    cases f with
    | zero =>
      intro c h s bv gv T s' hb hg hP hK hs
      unfold gStmt at hs; cases hs
    | succ f => exact gstmt_step f (fun m hm => ih m (by omega))
theorem gst_all (f : Nat) : CGs f := gs_all (f + 1) f (by omega)
end Go.Proofs.YtjofmihdeblbmaaGreatDoor.Xa
