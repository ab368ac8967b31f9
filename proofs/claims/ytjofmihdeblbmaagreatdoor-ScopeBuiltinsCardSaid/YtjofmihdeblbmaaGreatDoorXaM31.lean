/- XA, joined: XaSc6 XaSc7. -/
import Derived.Test.YtjofmihdeblbmaaGreatDoorXaM30
/- XA: scope: Check. -/
namespace Go.Proofs.YtjofmihdeblbmaaGreatDoor.Xa
open Go Go.RowKit
set_option linter.unusedVariables false
set_option linter.unusedSimpArgs false
set_option maxRecDepth 100000
set_option maxHeartbeats 1000000
def cs0 : CS := ⟨[], 0, 0, [], [], 0⟩
def fnsL : List FnN → Nat → Fns → Option Fns
  | [], _, acc => some acc
  | f :: l, i, acc => if (builtinR f.name).2.2 || (fnIx acc f.name).isSome then none else fnsL l (i + 1) (acc ++ [(f.name, (i : Int))])
def chkL (ts : List FnN) (fns : Fns) (f : Nat) : List FnN → List FunR → Option (List FunR × Int)
  | [], acc => some (acc, 0)
  | F :: l, acc => match funC ts fns f cs0 F with
    | some r => if r.e == 0 then chkL ts fns f l (acc ++ [r]) else some ([], r.e)
    | none => none
def mainB : ByteArray := ⟨#[109, 97, 105, 110]⟩
def checkEnd (ts : List FnN) (fns : Fns) (rs : List FunR) : Option (List FunR × Int) :=
  match fnIx fns mainB with
  | none => some ([], 11)
  | some k => match ts[k.toNat]? with
    | some F => if 0 < F.params.length then some ([], 12) else some (rs, 0)
    | none => none
def checkR (f : Nat) (ts : List FnN) : Option (List FunR × Int) :=
  match fnsL ts 0 [] with
  | none => some ([], 11)
  | some fns => match chkL ts fns f ts [] with
    | some (rs, e) => if e == 0 then checkEnd ts fns rs else some ([], e)
    | none => none
/-- what the map says of the functions -/
def FnsUp (fns : Fns) (n : Nat) : Prop := ∀ p ∈ fns, 0 ≤ p.2 ∧ p.2 < (n : Int)
theorem fnsL_up : ∀ (l : List FnN) (i : Nat) (acc r : Fns), FnsUp acc i → fnsL l i acc = some r → FnsUp r (i + l.length)
  | [], i, acc, r, h, hr => by
    unfold fnsL at hr
    obtain rfl := Option.some.inj hr
    exact h
  | f :: l, i, acc, r, h, hr => by
    unfold fnsL at hr
    split at hr
    · cases hr
    have := fnsL_up l (i + 1) _ r (fun p hp => by
      rcases List.mem_append.1 hp with hp | hp
      · have := h p hp; omega
      · rw [List.mem_singleton.1 hp]; simp only; omega) hr
    rw [List.length_cons, show i + (l.length + 1) = i + 1 + l.length by omega]
    exact this
theorem FnsUp.ok {fns : Fns} {ts : List FnN} (h : FnsUp fns ts.length) (hl : ts.length ≤ 1000) : FnsOk ts fns := by
  intro nm k hk
  unfold fnIx at hk
  obtain ⟨p, hp, rfl⟩ := Option.map_eq_some_iff.1 hk
  have := h p (List.mem_of_find?_eq_some hp)
  omega
structure FunT where
  r : FunR
  si : Nat
  sz : Nat
  ci : Nat
  cz : Nat
def FunT.v (t : FunT) : List V := sfV t.r.locals t.si t.sz t.ci t.cz t.r.slots t.r.calls
def FunT.ok (t : FunT) : Prop := rowOk t.sz t.r.slots ∧ rowOk t.cz t.r.calls
def ChkP (h : H) (r : List FunR × Int) : V → H → Prop := fun v h' => Fr h h' ∧ ∃ id sz, ∃ os : List FunT, v = .tup [.slc id sz (os.map FunT.v), .lit (.int .i64 r.2)] ∧ os.map FunT.r = r.1 ∧ (∀ t ∈ os, t.ok) ∧ (os ≠ [] → sz = 3)
theorem FrC.fr {p : Nat} {h0 h h' : H} (x : FrC p h h') (y : Fr h0 h) (hp : h0.next ≤ p) : Fr h0 h' :=
  ⟨Nat.le_trans y.next x.next, fun j hj => (x.obj j (Nat.lt_of_lt_of_le hj y.next) (by omega)).trans (y.obj j hj), fun j hj => (x.ext j (by omega)).trans (y.ext j hj), fun j hj => (x.arr j (by omega)).trans (y.arr j hj)⟩
theorem Own.frc {p : Nat} {h h' : H} {id sz n w lo : Nat} (x : Own h id sz n w lo) (f : FrC p h h') (hp : id < p) : Own h' id sz n w lo := by
  rcases x with x | ⟨h1, h2, h3, h4, h5⟩
  · exact .inl x
  · exact .inr ⟨h1, Nat.lt_of_lt_of_le h2 f.next, h3, (f.ext id hp).trans h4, h5⟩
def Chk1 (lid lsz : Nat) (ts : List FnT) (h0 : H) (r : Option Fns) : Nat → List V → H → Prop := fun m fr' h' => ∃ (k : Nat) (fns : Fns), m = ts.length - k ∧ k ≤ ts.length ∧ Fr h0 h' ∧ h'.obj h0.next = some (.map 9 3 (fns.map fnKV)) ∧ h0.next < h'.next ∧ fnsL ((ts.drop k).map FnT.fn) k fns = r ∧
  fr'.length = 92 ∧ ev fr' (.tmp 0) = .slc lid lsz (ts.map FnT.v) ∧ ev fr' (.tmp 2) = .slc 0 0 [] ∧ ev fr' (.tmp 3) = .lit (.int .i64 0) ∧ ev fr' (.tmp 4) = .map h0.next ∧ ev fr' (.tmp 21) = .slc lid lsz (ts.map FnT.v) ∧ ev fr' (.tmp 22) = .lit (.int .i64 (ts.length : Nat)) ∧ ev fr' (.tmp 23) = .lit (.int .i64 (k : Nat))
def Chk2 (f lid lsz : Nat) (ts : List FnT) (fns : Fns) (h0 : H) (r : List FunR × Int) : Nat → List V → H → Prop := fun m fr' h' => ∃ (k oid osz : Nat) (os : List FunT), m = ts.length - k ∧ k ≤ ts.length ∧ Fr h0 h' ∧ h'.obj h0.next = some (.map 9 3 (fns.map fnKV)) ∧ h0.next < h'.next ∧ chkL (ts.map FnT.fn) fns f ((ts.drop k).map FnT.fn) (os.map FunT.r) = some r ∧
  os.length = k ∧ Own h' oid osz os.length 3 (h0.next + 1) ∧ (∀ t ∈ os, t.ok) ∧
  fr'.length = 92 ∧ ev fr' (.tmp 0) = .slc lid lsz (ts.map FnT.v) ∧ ev fr' (.tmp 2) = .slc 0 0 [] ∧ ev fr' (.tmp 3) = .lit (.int .i64 0) ∧ ev fr' (.tmp 4) = .map h0.next ∧ ev fr' (.tmp 51) = .slc lid lsz (ts.map FnT.v) ∧ ev fr' (.tmp 52) = .lit (.int .i64 (ts.length : Nat)) ∧ ev fr' (.tmp 53) = .lit (.int .i64 (k : Nat)) ∧
  ev fr' (.tmp 12) = .slc oid osz (os.map FunT.v)
attribute [local simp] hid2 hid3 hid4 xcode_skip xcode_region xcode_draw xcode_loop xcode_seq xcode_cond xcode_block xcode_scope xcode_exit xcode_ret xops_nil xops_cons xd_nil xd_cons xstep_eq annot fillOf findFill findStore srcOf kcls cls qval qvalN xwant dstAt want1 xdo xop ev_const ev_global ev_func ev_zero ev_succ ev_undefs ev_hit ev_miss put_none put_len undefs_len xnil xfieldAddr fieldOf eT emtb seqQ blockQ xload xstore splice V.storable V.one V.cells mk xbinop xbin xun xbuiltin xindexAddr nilOr xindex xint cv cv1 retQ xres_tmp xres_cell xres_nil xresult xbuild xfill xbuildSlice xrows Nat.testBit places xfield item sideOk pendOk pendOf tyT1 tyT2 tyT3 tyT4 tyT5 tyT9 tyT22 tyT23 tyT24 tyT25 tyT26 tyT30 tyT34 tyT39 tyT41 tyT47 tyT48 tyT50 tyT53 tyT54 tyT56 tyT58 tyT63 tyT70 tyT76 tyT78 tyT80 tyT84 tyT87 tyT89 tyT96 tyT98 tyT100 tyT102 tyT108 tyT110 tyT112 tyT113 tyT115 tyT119 tyT121 tyT124 tyT138 tyT139 tyT141 tyT142 tyT143 tyT145 tyT147 tyT149 tyT155 tyT158 tyT164 tyT179 tyT186 tyT188 tyT189 tyT194 tyT197 tyT200 tyT216 tyT242 tyT245 H.put_get H.new_get H.row_obj H.grow_obj H.bump_obj H.newArr_obj H.putArr_obj H.moveArr_obj H.put_arr H.new_arr H.row_arr H.grow_arr H.bump_arr H.newArr_get H.putArr_get H.moveArr_get H.put_ext H.new_ext H.newArr_ext H.putArr_ext H.moveArr_ext H.bump_ext H.row_get H.grow_get H.new_next H.row_next H.bump_next H.put_next H.grow_next H.newArr_next H.putArr_next H.moveArr_next H.app_next H.app_obj H.app_arr H.app_get bne emT emM xapp_em xmakeSlice xslice xlookup xmapUpdate keyShape
theorem check_calls (f : Nat) (h : H) (lid lsz : Nat) (ts : List FnT) (hsz : ts ≠ [] → lsz = 7) (htok : ∀ t ∈ ts, t.ok) (hlen : ts.length ≤ 1000) (hpl : ∀ t ∈ ts, t.params.length ≤ 1000000) (r : List FunR × Int) (hr : checkR f (ts.map FnT.fn) = some r) :
    XCalls e 32 [.slc lid lsz (ts.map FnT.v)] h (ChkP h r) := by
  unfold checkR at hr
  obtain ⟨R1, hR1⟩ : ∃ R1, fnsL (ts.map FnT.fn) 0 [] = R1 := ⟨_, rfl⟩
  rw [hR1] at hr
  refine XCalls.of Tryz.func32 rfl (by kernel_rfl) ?_
  rw [Tryz.ntmps32]
  simp [-Int.natCast_add, isM, xappendM, rowsIn]
  refine XW.loopH (Chk1 lid lsz ts h R1) ts.length ?_ ?_
  · refine ⟨0, [], rfl, Nat.zero_le _, ?_, by simp [H.new_get], by simp [H.new_next], by simpa using hR1, ?_⟩
    · repeat' first | exact Fr.refl _ | assumption | refine Fr.put ?_ (by omega) _ | refine Fr.new1 ?_ _ | refine Fr.row1 ?_ _ | refine Fr.bump1 ?_ | refine Fr.app ?_ (by first | assumption | omega) _ | refine Fr.grow ?_ (by omega) _ | refine Fr.newArr1 ?_ _ | refine Fr.putArr ?_ (by omega) _ | refine Fr.moveArr ?_ (by omega) _ | refine Fr.trans ?_ (by assumption)
    · simp [-Int.natCast_add, isM, xappendM, rowsIn]
  · rintro m fr' h' ⟨k, fns, rfl, hk, hF, hmap, hlt, hfl, e0, e1, e2, e3, e4, e5, e6, e7⟩
    have n1 : h.next ≠ h'.next := by omega
    have n2 : h'.next ≠ h.next := by omega
    rcases Nat.lt_or_ge k ts.length with hi | hi
    · have hi' : (k : Int) < (ts.length : Nat) := by omega
      have h7 : lsz = 7 := hsz (by intro h0; rw [h0] at hi; cases hi)
      subst h7
      have hw := wrap_succ (i := k) (by omega)
      rw [List.drop_eq_getElem_cons hi, List.map_cons] at hfl
      unfold fnsL at hfl
      have hnm : (FnT.fn ts[k]).name = ts[k].name := rfl
      rw [hnm] at hfl
      obtain ⟨j, hj⟩ := xfind_fns ts[k].name fns 0
      have hv := FnT.v_eq ts[k]
      cases hx : fnIx fns ts[k].name with
      | none =>
        rw [hx] at hj hfl
        simp only [Option.map_none] at hj
        simp [-Int.natCast_add, isM, xappendM, rowsIn, e0, e1, e2, e3, e4, e5, e6, e7, ltB_t, hi, hi', hv, hmap, n1, n2, hj]
        refine (builtin_calls _ _).mono ?_
        rintro _ h'' ⟨rfl, eh⟩
        rw [eh]
        clear eh h''
        unfold triV
        have hFb : Fr h ((h'.new (.cells [.lit (.string ⟨#[]⟩), .slc 0 0 [], .lit (.int .i64 0), .lit (.int .i64 0), .lit (.string ⟨#[]⟩), .lit (.int .i64 0), .slc 0 0 []] 70)).put h'.next (.cells [.lit (.string ts[k].name), .slc ts[k].pid ts[k].psz (ts[k].params.map strV), .lit (.int .i64 ts[k].body.kind), .lit (.int .i64 ts[k].body.op), .lit (.string ts[k].body.str), .lit (.int .i64 ts[k].body.num), .slc ts[k].body.kid ts[k].body.ksz (ts[k].body.kl.map TN.v)] 70)) := by
          repeat' first | exact Fr.refl _ | assumption | refine Fr.put ?_ (by omega) _ | refine Fr.new1 ?_ _ | refine Fr.row1 ?_ _ | refine Fr.bump1 ?_ | refine Fr.app ?_ (by first | assumption | omega) _ | refine Fr.grow ?_ (by omega) _ | refine Fr.newArr1 ?_ _ | refine Fr.putArr ?_ (by omega) _ | refine Fr.moveArr ?_ (by omega) _ | refine Fr.trans ?_ (by assumption)
        cases hb : (builtinR ts[k].name).2.2
        · simp only [hb, Bool.false_or, Option.isSome_none, Bool.false_eq_true, if_false] at hfl
          simp [-Int.natCast_add, isM, xappendM, rowsIn, e0, e1, e2, e3, e4, e5, e6, e7, hb, hv, n1, n2, hmap, hj]
          refine ⟨ts.length - (k + 1), by omega, k + 1, fns ++ [(ts[k].name, (k : Int))], rfl, hi, hFb.put (by omega) _, by simp [H.put_get, fnKV], by simp [H.put_next, H.new_next]; omega, by simpa [FnT.fn] using hfl, ?_⟩
          simp [-Int.natCast_add, isM, xappendM, rowsIn, e0, e1, e2, e3, e4, e5, e6, e7, hw]
        · simp only [hb, Bool.true_or, if_true] at hfl
          have hr0 : r = ([], 11) := by
            rw [← hfl] at hr
            exact (Option.some.inj hr).symm
          subst hr0
          simp [-Int.natCast_add, isM, xappendM, rowsIn, e0, e1, e2, e3, e4, e5, e6, e7, hb]
          exact ⟨hFb, 0, 0, [], by simp⟩
      | some k2 =>
        rw [hx] at hj hfl
        simp only [Option.map_some] at hj
        simp only [Option.isSome_some, Bool.or_true, if_true] at hfl
        simp [-Int.natCast_add, isM, xappendM, rowsIn, e0, e1, e2, e3, e4, e5, e6, e7, ltB_t, hi, hi', hv, hmap, n1, n2, hj]
        refine (builtin_calls _ _).mono ?_
        rintro _ h'' ⟨rfl, eh⟩
        rw [eh]
        clear eh h''
        unfold triV
        have hFb : Fr h ((h'.new (.cells [.lit (.string ⟨#[]⟩), .slc 0 0 [], .lit (.int .i64 0), .lit (.int .i64 0), .lit (.string ⟨#[]⟩), .lit (.int .i64 0), .slc 0 0 []] 70)).put h'.next (.cells [.lit (.string ts[k].name), .slc ts[k].pid ts[k].psz (ts[k].params.map strV), .lit (.int .i64 ts[k].body.kind), .lit (.int .i64 ts[k].body.op), .lit (.string ts[k].body.str), .lit (.int .i64 ts[k].body.num), .slc ts[k].body.kid ts[k].body.ksz (ts[k].body.kl.map TN.v)] 70)) := by
          repeat' first | exact Fr.refl _ | assumption | refine Fr.put ?_ (by omega) _ | refine Fr.new1 ?_ _ | refine Fr.row1 ?_ _ | refine Fr.bump1 ?_ | refine Fr.app ?_ (by first | assumption | omega) _ | refine Fr.grow ?_ (by omega) _ | refine Fr.newArr1 ?_ _ | refine Fr.putArr ?_ (by omega) _ | refine Fr.moveArr ?_ (by omega) _ | refine Fr.trans ?_ (by assumption)
        cases hb : (builtinR ts[k].name).2.2
        · have hr0 : r = ([], 11) := by
            rw [← hfl] at hr
            exact (Option.some.inj hr).symm
          subst hr0
          simp [-Int.natCast_add, isM, xappendM, rowsIn, e0, e1, e2, e3, e4, e5, e6, e7, hb]
          exact ⟨hFb, 0, 0, [], by simp⟩
        · have hr0 : r = ([], 11) := by
            rw [← hfl] at hr
            exact (Option.some.inj hr).symm
          subst hr0
          simp [-Int.natCast_add, isM, xappendM, rowsIn, e0, e1, e2, e3, e4, e5, e6, e7, hb]
          exact ⟨hFb, 0, 0, [], by simp⟩
    · have hi' : (ts.length : Int) ≤ (k : Int) := by omega
      have hk' : k = ts.length := by omega
      rw [List.drop_of_length_le hi] at hfl
      unfold fnsL at hfl
      rw [List.map_nil] at hfl
      simp only at hfl
      have hup := fnsL_up (ts.map FnT.fn) 0 [] fns (fun p hp => by cases hp) (hR1.trans hfl.symm)
      rw [← hfl] at hr
      simp only [List.length_map, Nat.zero_add] at hup
      have hr2 : (match chkL (ts.map FnT.fn) fns f (ts.map FnT.fn) [] with | some (rs, e) => if e == 0 then checkEnd (ts.map FnT.fn) fns rs else some ([], e) | none => none) = some r := hr
      clear hr hfl
      obtain ⟨r1, hr1⟩ : ∃ r1, chkL (ts.map FnT.fn) fns f (ts.map FnT.fn) [] = some r1 := by
        split at hr2
        · exact ⟨_, by assumption⟩
        · cases hr2
      have hr3 : (if r1.2 == 0 then checkEnd (ts.map FnT.fn) fns r1.1 else some ([], r1.2)) = some r := by
        rw [hr1] at hr2
        exact hr2
      clear hr2
      have hok : FnsOk (ts.map FnT.fn) fns := FnsUp.ok (by simpa using hup) (by simpa using hlen)
      simp [-Int.natCast_add, isM, xappendM, rowsIn, e0, e1, e2, e3, e4, e5, e6, e7, ltB_f, hi']
      refine XW.loopH (Chk2 f lid lsz ts fns h r1) ts.length ?_ ?_
      · refine ⟨0, 0, 0, [], rfl, Nat.zero_le _, hF, hmap, hlt, by simpa using hr1, rfl, Own.nil _ _ _, by simp, ?_⟩
        simp [-Int.natCast_add, isM, xappendM, rowsIn, e0, e1, e2, e3, e4, e5, e6, e7]
      · clear hr1 hF hmap hlt
        rintro m fr'' h' ⟨k, oid, osz, os, rfl, hk, hF, hmap, hlt, hcl, hos, hO, hoks, e0, e1, e2, e3, e4, e5, e6, e7, e8⟩
        have n1 : h.next ≠ h'.next := by omega
        have n2 : h'.next ≠ h.next := by omega
        rcases Nat.lt_or_ge k ts.length with hi | hi
        · have hi' : (k : Int) < (ts.length : Nat) := by omega
          have h7 : lsz = 7 := hsz (by intro h0; rw [h0] at hi; cases hi)
          subst h7
          have hw := wrap_succ (i := k) (by omega)
          rw [List.drop_eq_getElem_cons hi, List.map_cons] at hcl
          unfold chkL at hcl
          split at hcl
          case h_2 => cases hcl
          rename_i r2 hfr
          have hv := FnT.v_eq ts[k]
          have hFA : Fr h' (((h'.new (.cells [.lit (.string ⟨#[]⟩), .slc 0 0 [], .lit (.int .i64 0), .lit (.int .i64 0), .lit (.string ⟨#[]⟩), .lit (.int .i64 0), .slc 0 0 []] 70)).put h'.next (.cells [.lit (.string ts[k].name), .slc ts[k].pid ts[k].psz (ts[k].params.map strV), .lit (.int .i64 ts[k].body.kind), .lit (.int .i64 ts[k].body.op), .lit (.string ts[k].body.str), .lit (.int .i64 ts[k].body.num), .slc ts[k].body.kid ts[k].body.ksz (ts[k].body.kl.map TN.v)] 70)).new (.cells [.map h.next, .slc lid 7 (ts.map FnT.v), .slc 0 0 [], .lit (.int .i64 0), .lit (.int .i64 0), .slc 0 0 [], .slc 0 0 [], .lit (.int .i64 0)] 115)) := by
            repeat' first | exact Fr.refl _ | assumption | refine Fr.put ?_ (by omega) _ | refine Fr.new1 ?_ _ | refine Fr.row1 ?_ _ | refine Fr.bump1 ?_ | refine Fr.app ?_ (by first | assumption | omega) _ | refine Fr.grow ?_ (by omega) _ | refine Fr.newArr1 ?_ _ | refine Fr.putArr ?_ (by omega) _ | refine Fr.moveArr ?_ (by omega) _ | refine Fr.trans ?_ (by assumption)
          have hcf := cfun_calls ⟨⟨h'.next + 1, h.next, .slc lid 7 (ts.map FnT.v)⟩, lid, 7, ts, fns⟩ ⟨hok, htok, by show ts.length ≤ 1000000; omega⟩ f (((h'.new (.cells [.lit (.string ⟨#[]⟩), .slc 0 0 [], .lit (.int .i64 0), .lit (.int .i64 0), .lit (.string ⟨#[]⟩), .lit (.int .i64 0), .slc 0 0 []] 70)).put h'.next (.cells [.lit (.string ts[k].name), .slc ts[k].pid ts[k].psz (ts[k].params.map strV), .lit (.int .i64 ts[k].body.kind), .lit (.int .i64 ts[k].body.op), .lit (.string ts[k].body.str), .lit (.int .i64 ts[k].body.num), .slc ts[k].body.kid ts[k].body.ksz (ts[k].body.kl.map TN.v)] 70)).new (.cells [.map h.next, .slc lid 7 (ts.map FnT.v), .slc 0 0 [], .lit (.int .i64 0), .lit (.int .i64 0), .slc 0 0 [], .slc 0 0 [], .lit (.int .i64 0)] 115)) cs0 ts[k] (htok _ (List.getElem_mem hi)) (hpl _ (List.getElem_mem hi)) r2
            ⟨.slc 0 0 [], 0, 0, 0, 0, ⟨by simp [H.new_get, H.put_next, H.new_next, cs0], by simp [H.put_next, H.new_next], .inl ⟨rfl, rfl⟩, Own.nil _ _ _, Own.nil _ _ _, fun _ => rfl⟩⟩
            ⟨rfl, by show h.next < h'.next + 1; omega, (hFA.obj _ hlt).trans hmap, fun _ => rfl⟩ hfr
          rw [hv] at hcf
          simp [-Int.natCast_add, isM, xappendM, rowsIn, e0, e1, e2, e3, e4, e5, e6, e7, e8, ltB_t, hi, hi', hv]
          refine hcf.mono ?_
          rintro _ h3 ⟨hFC, si, sz, ci, cz, rfl, hk1, hk2⟩
          have hn3 := hFC.next
          simp only [H.new_next, H.put_next] at hn3
          have hF3 : Fr h h3 := hFC.fr (hF.trans hFA) (by show h.next ≤ h'.next + 1; omega)
          have hmap3 : h3.obj h.next = some (.map 9 3 (fns.map fnKV)) := (hFC.obj h.next (by simp only [H.new_next, H.put_next]; omega) (by show h.next ≠ h'.next + 1; omega)).trans ((hFA.obj _ hlt).trans hmap)
          have hO3 : Own h3 oid osz os.length 3 (h.next + 1) := (hO.mono hFA).frc hFC (by
            show oid < h'.next + 1
            rcases hO with ⟨_, h0, _⟩ | ⟨_, h0, _⟩ <;> omega)
          have hlow := hO3.low
          unfold sfV
          cases he2 : (r2.e == 0)
          · have he3 : ¬ r2.e = 0 := by simpa using he2
            simp only [he2, Bool.false_eq_true, if_false] at hcl
            obtain rfl := Option.some.inj hcl
            dsimp only at hr3
            rw [if_neg (by simpa using he3)] at hr3
            obtain rfl := Option.some.inj hr3
            simp [-Int.natCast_add, isM, xappendM, rowsIn, e0, e1, e2, e3, e4, e5, e6, e7, e8, he2, he3]
            refine ⟨?_, 0, 0, [], by simp⟩
            repeat' first | exact Fr.refl _ | assumption | refine Fr.put ?_ (by omega) _ | refine Fr.new1 ?_ _ | refine Fr.row1 ?_ _ | refine Fr.bump1 ?_ | refine Fr.app ?_ (by first | assumption | omega) _ | refine Fr.grow ?_ (by omega) _ | refine Fr.newArr1 ?_ _ | refine Fr.putArr ?_ (by omega) _ | refine Fr.moveArr ?_ (by omega) _ | refine Fr.trans ?_ (by assumption)
          · have he3 : r2.e = 0 := by simpa using he2
            simp only [he2, if_true] at hcl
            simp [-Int.natCast_add, isM, xappendM, rowsIn, e0, e1, e2, e3, e4, e5, e6, e7, e8, he2, he3]
            rw [xapp_own 25 (w := 3) rfl rfl rfl rfl (by decide) (lo := h.next + 1) ?a1 ?a2 ?a3 ?a4 ?a5]
            case a1 => rw [List.length_map]; exact hO3.mono (((Fr.refl h3).new1 _).put (Nat.le_refl _) _ |>.row1 1)
            case a2 => simp
            case a3 => simp
            case a4 => simp; omega
            case a5 => simp [maxLen]; omega
            simp [-Int.natCast_add, isM, xappendM, rowsIn, e0, e1, e2, e3, e4, e5, e6, e7, e8]
            have hFz : Fr h (((h3.new (.cells [.lit (.int .i64 0), .slc 0 0 [], .slc 0 0 []] 30)).put h3.next (.cells [.lit (.int .i64 r2.locals), .slc si sz (r2.slots.map intV), .slc ci cz (r2.calls.map intV)] 30)).row 1) := by
              repeat' first | exact Fr.refl _ | assumption | refine Fr.put ?_ (by omega) _ | refine Fr.new1 ?_ _ | refine Fr.row1 ?_ _ | refine Fr.bump1 ?_ | refine Fr.app ?_ (by first | assumption | omega) _ | refine Fr.grow ?_ (by omega) _ | refine Fr.newArr1 ?_ _ | refine Fr.putArr ?_ (by omega) _ | refine Fr.moveArr ?_ (by omega) _ | refine Fr.trans ?_ (by assumption)
            have hlen2 : (os ++ [(⟨r2, si, sz, ci, cz⟩ : FunT)]).length = os.length + 1 := by simp
            refine ⟨ts.length - (k + 1), by omega, k + 1, h3.next + 1 + 1, 3, os ++ [⟨r2, si, sz, ci, cz⟩], rfl, hi, hFz.app (by omega) _, ?_, ?_, ?_, by rw [hlen2, hos], ?_, ?_, ?_⟩
            · rw [H.app_obj, H.row_obj, H.put_get, if_neg (by omega), H.new_get, if_neg (by omega)]; exact hmap3
            · simp [H.app_next, H.row_next, H.put_next, H.new_next]; omega
            · simpa using hcl
            · rw [hlen2]
              exact Own.app (by simp [H.row_next, H.put_next, H.new_next]; omega) (by simp [H.row_next])
            · intro t ht
              rcases List.mem_append.1 ht with ht | ht
              · exact hoks t ht
              · rw [List.mem_singleton.1 ht]; exact ⟨hk1, hk2⟩
            · simp [-Int.natCast_add, isM, xappendM, rowsIn, e0, e1, e2, e3, e4, e5, e6, e7, e8, hw, FunT.v, sfV]
        · have hi' : (ts.length : Int) ≤ (k : Int) := by omega
          rw [List.drop_of_length_le hi] at hcl
          rw [List.map_nil] at hcl
          have hcl2 : some (os.map FunT.r, (0 : Int)) = some r1 := hcl
          clear hcl
          obtain rfl := Option.some.inj hcl2
          have hr4 : checkEnd (ts.map FnT.fn) fns (os.map FunT.r) = some r := hr3
          clear hr3
          unfold checkEnd at hr4
          obtain ⟨j, hj⟩ := xfind_fns mainB fns 0
          unfold mainB at hj hr4
          have hsz3 : os ≠ [] → osz = 3 := fun h0 => by
            rcases hO with ⟨q, _⟩ | ⟨_, _, q, _⟩
            · exact absurd (List.length_eq_zero_iff.1 q) h0
            · exact q
          cases hx : fnIx fns ⟨#[109, 97, 105, 110]⟩ with
          | none =>
            rw [hx] at hj hr4
            simp only [Option.map_none] at hj
            obtain rfl := Option.some.inj hr4
            simp [-Int.natCast_add, isM, xappendM, rowsIn, e0, e1, e2, e3, e4, e5, e6, e7, e8, ltB_f, hi', hmap, hj]
            exact ⟨hF, 0, 0, [], by simp⟩
          | some k2 =>
            rw [hx] at hj hr4
            simp only [Option.map_some] at hj
            obtain ⟨g0, g1, g2⟩ := hok _ _ hx
            rw [List.length_map] at g1
            have h7 : lsz = 7 := hsz (by intro h0; rw [h0] at g1; cases g1)
            subst h7
            have g3 : k2 < (ts.length : Int) := by omega
            have hgn : (ts.map FnT.fn)[k2.toNat]? = some (FnT.fn ts[k2.toNat]) := by simp [g1]
            have hpn : (FnT.fn ts[k2.toNat]).params = ts[k2.toNat].params := rfl
            simp only [hgn, hpn] at hr4
            by_cases hp0 : 0 < ts[k2.toNat].params.length
            · rw [if_pos hp0] at hr4
              obtain rfl := Option.some.inj hr4
              have hp1 : ltB 0 (ts[k2.toNat].params.length : Int) = true := ltB_t (by omega)
              simp [-Int.natCast_add, isM, xappendM, rowsIn, e0, e1, e2, e3, e4, e5, e6, e7, e8, ltB_f, ltB_t, hi', hmap, hj, g0, g1, g3, FnT.v_par, FnT.v_len, hp1]
              exact ⟨hF, 0, 0, [], by simp⟩
            · rw [if_neg hp0] at hr4
              obtain rfl := Option.some.inj hr4
              have hp1 : ltB 0 (ts[k2.toNat].params.length : Int) = false := ltB_f (by omega)
              simp [-Int.natCast_add, isM, xappendM, rowsIn, e0, e1, e2, e3, e4, e5, e6, e7, e8, ltB_f, ltB_t, hi', hmap, hj, g0, g1, g3, FnT.v_par, FnT.v_len, hp1]
              exact ⟨hF, oid, osz, os, rfl, rfl, hoks, hsz3⟩
end Go.Proofs.YtjofmihdeblbmaaGreatDoor.Xa
/- XA: scope: Source, as far as Tokens is known. -/
namespace Go.Proofs.YtjofmihdeblbmaaGreatDoor.Xa
open Go Go.RowKit
set_option linter.unusedVariables false
set_option linter.unusedSimpArgs false
set_option maxRecDepth 100000
set_option maxHeartbeats 1000000
/-- what Source tells: functions, their names as numbers, where, which error -/
structure SrcR where
  l : List FnN
  f : List FunR
  at_ : Int
  e : Int
def srcR (f : Nat) (r : List FnN × Int × Int) : Option SrcR :=
  if r.2.2 == 0 then match checkR f r.1 with
    | some q => if q.2 == 0 then some ⟨r.1, q.1, 0, 0⟩ else some ⟨[], [], 0, q.2⟩
    | none => none
  else some ⟨[], [], r.2.1, r.2.2⟩
def SrcP (h : H) (r : SrcR) : V → H → Prop := fun v h' => Fr h h' ∧ ∃ id sz oid osz, ∃ ts : List FnT, ∃ os : List FunT, v = .tup [.slc id sz (ts.map FnT.v), .slc oid osz (os.map FunT.v), .lit (.int .i64 r.at_), .lit (.int .i64 r.e)] ∧
  ts.map FnT.fn = r.l ∧ os.map FunT.r = r.f ∧ (∀ t ∈ ts, t.ok) ∧ (∀ t ∈ os, t.ok) ∧ (ts ≠ [] → sz = 7) ∧ (os ≠ [] → osz = 3)
attribute [local simp] hid2 hid3 hid4 xcode_skip xcode_region xcode_draw xcode_loop xcode_seq xcode_cond xcode_block xcode_scope xcode_exit xcode_ret xops_nil xops_cons xd_nil xd_cons xstep_eq annot fillOf findFill findStore srcOf kcls cls qval qvalN xwant dstAt want1 xdo xop ev_const ev_global ev_func ev_zero ev_succ ev_undefs ev_hit ev_miss put_none put_len undefs_len xnil xfieldAddr fieldOf eT emtb seqQ blockQ xload xstore splice V.storable V.one V.cells mk xbinop xbin xun xbuiltin xindexAddr nilOr xindex xint cv cv1 retQ xres_tmp xres_cell xres_nil xresult xbuild xfill xbuildSlice xrows Nat.testBit places xfield item sideOk pendOk pendOf tyT1 tyT2 tyT3 tyT4 tyT5 tyT9 tyT22 tyT23 tyT24 tyT25 tyT26 tyT30 tyT34 tyT39 tyT41 tyT47 tyT48 tyT50 tyT53 tyT54 tyT56 tyT58 tyT63 tyT70 tyT76 tyT78 tyT80 tyT84 tyT87 tyT89 tyT96 tyT98 tyT100 tyT102 tyT108 tyT110 tyT112 tyT113 tyT115 tyT119 tyT121 tyT124 tyT138 tyT139 tyT141 tyT142 tyT143 tyT145 tyT147 tyT149 tyT155 tyT158 tyT164 tyT179 tyT186 tyT188 tyT189 tyT194 tyT197 tyT200 tyT216 tyT242 tyT245 H.put_get H.new_get H.row_obj H.grow_obj H.bump_obj H.newArr_obj H.putArr_obj H.moveArr_obj H.put_arr H.new_arr H.row_arr H.grow_arr H.bump_arr H.newArr_get H.putArr_get H.moveArr_get H.put_ext H.new_ext H.newArr_ext H.putArr_ext H.moveArr_ext H.bump_ext H.row_get H.grow_get H.new_next H.row_next H.bump_next H.put_next H.grow_next H.newArr_next H.putArr_next H.moveArr_next H.app_next H.app_obj H.app_arr H.app_get bne emT emM xapp_em xmakeSlice xslice xlookup xmapUpdate keyShape
theorem source_calls (f : Nat) (h : H) (b : ByteArray) (p : List FnN × Int × Int) (r : SrcR) (hr : srcR f p = some r) (hlen : p.1.length ≤ 1000) (hpl : ∀ F ∈ p.1, F.params.length ≤ 1000000)
    (hp : ∀ h, XCalls e 28 [.lit (.string b)] h (ProgP h p)) :
    XCalls e 13 [.lit (.string b)] h (SrcP h r) := by
  obtain ⟨p1, p2, p3⟩ := p
  unfold srcR at hr
  dsimp only at hr hlen hpl
  refine XCalls.of Tryz.func13 rfl (by kernel_rfl) ?_
  rw [Tryz.ntmps13]
  simp [-Int.natCast_add, isM, xappendM, rowsIn]
  refine (hp h).mono ?_
  rintro _ h1 ⟨hF, id, sz, ts, rfl, hts, htok, hsz⟩
  dsimp only at hts
  cases he : (p3 == 0)
  · have he' : ¬ p3 = 0 := by simpa using he
    simp only [he, Bool.false_eq_true, if_false] at hr
    obtain rfl := Option.some.inj hr
    simp [-Int.natCast_add, isM, xappendM, rowsIn, he, he']
    exact ⟨hF, 0, 0, 0, 0, [], [], by simp⟩
  · have he' : p3 = 0 := by simpa using he
    simp only [he, if_true] at hr
    split at hr
    case h_2 => cases hr
    rename_i q hq
    subst hts
    simp [-Int.natCast_add, isM, xappendM, rowsIn, he, he']
    refine (check_calls f h1 id sz ts hsz htok (by simpa using hlen) (fun t ht => hpl t.fn (List.mem_map_of_mem ht)) q hq).mono ?_
    rintro _ h2 ⟨hF2, oid, osz, os, rfl, hos, hook, hosz⟩
    cases hq2 : (q.2 == 0)
    · have hq' : ¬ q.2 = 0 := by simpa using hq2
      simp only [hq2, Bool.false_eq_true, if_false] at hr
      obtain rfl := Option.some.inj hr
      simp [-Int.natCast_add, isM, xappendM, rowsIn, hq2, hq']
      exact ⟨hF.trans hF2, 0, 0, 0, 0, [], [], by simp⟩
    · have hq' : q.2 = 0 := by simpa using hq2
      simp only [hq2, if_true] at hr
      obtain rfl := Option.some.inj hr
      simp [-Int.natCast_add, isM, xappendM, rowsIn, hq2, hq']
      exact ⟨hF.trans hF2, id, sz, oid, osz, ts, os, rfl, rfl, hos, htok, hook, hsz, hosz⟩
end Go.Proofs.YtjofmihdeblbmaaGreatDoor.Xa
