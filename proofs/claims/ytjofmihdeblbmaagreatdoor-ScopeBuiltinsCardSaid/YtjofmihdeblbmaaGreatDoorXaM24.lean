/- XA, joined: XaS5 XaS6. -/
import Derived.Test.YtjofmihdeblbmaaGreatDoorXaM22
import Derived.Test.YtjofmihdeblbmaaGreatDoorXaM23
/- XA, part S5: block; all of a statement's functions. -/
namespace Go.Proofs.YtjofmihdeblbmaaGreatDoor.Xa
open Go Go.RowKit
set_option linter.unusedVariables false
set_option linter.unusedSimpArgs false
set_option maxRecDepth 100000
set_option maxHeartbeats 1000000
theorem bl_within (f : Nat) (hf : f ≤ 1000000) (h1 : ∀ m, m ≤ f → CStat m) (c : PC) (hc : c.ok) (h : H) (hp : c.p < h.next) (s : PS) (hi : (s.e == 0) = true → s.i < c.toks.length) (q1 q4 : Nat) (n1 : q1 ≠ c.p) (n4 : q4 ≠ c.p) (l1 : q1 < h.next) (l4 : q4 < h.next) (hq : q1 ≠ q4)
    (o1 : h.obj q1 = some (.cells [.ptr c.p 0] 84)) (o4 : h.obj q4 = some (.cells [.lit (.int .i64 10), .lit (.int .i64 0), .lit (.string ⟨#[]⟩), .lit (.int .i64 0), .slc 0 0 []] 41))
    (nd : Nd) (s' : PS) (hs : (if (entS c s).e = 0 then match pBlockL f c (inS (entS c s) 1) [] with
        | some (l, s2) => some (Nd.mk 10 0 ⟨#[]⟩ 0 l, outS s2)
        | none => none
      else some (Nd.mk 10 0 ⟨#[]⟩ 0 [], entS c s)) = some (nd, s')) :
    XCalls e 123 [.ptr c.p 0, .fn 147 [.ptr q1 0, .ptr q4 0]] (c.at_ h s) (WPost c (TK h q4 nd s')) := by
  have hei := entS_i c s
  refine within_calls c h s _ _ _ (fun he => ?_) (fun he => ?_)
  · rw [if_pos he] at hs
    split at hs
    case h_2 => cases hs
    rename_i l s2 hl
    simp only [Option.some.injEq, Prod.mk.injEq] at hs
    obtain ⟨rfl, rfl⟩ := hs
    have hse : (s.e == 0) = true := by
      unfold entS wrongS at he
      split at he
      · split at he
        · cases he
        · simpa using he
      · simpa using he
    exact bl1 f hf h1 c hc h hp { entS c s with deep := wr ((entS c s).deep + 1) } (by show (entS c s).i < _; rw [hei]; exact hi hse) q1 q4 n1 n4 l1 l4 hq o1 o4 l s2 hl
  · rw [if_neg he] at hs
    simp only [Option.some.injEq, Prod.mk.injEq] at hs
    obtain ⟨rfl, rfl⟩ := hs
    exact ⟨rfl, h, .leaf 10 0 ⟨#[]⟩ 0, Fr.refl h, (H.put_self (o4.trans rfl)).symm, rfl⟩
attribute [local simp] hid2 hid3 hid4 xcode_skip xcode_region xcode_draw xcode_loop xcode_seq xcode_cond xcode_block xcode_scope xcode_exit xcode_ret xops_nil xops_cons xd_nil xd_cons xstep_eq annot fillOf findFill findStore srcOf kcls cls qval qvalN xwant dstAt want1 xdo xop ev_const ev_global ev_func ev_zero ev_succ ev_undefs ev_hit ev_miss put_none put_len undefs_len xnil xfieldAddr fieldOf eT emtb seqQ blockQ xload xstore splice V.storable V.one V.cells mk xbinop xbin xun xbuiltin xindexAddr nilOr xindex xint cv cv1 retQ xres_tmp xres_cell xres_nil xresult xbuild xfill xbuildSlice xrows Nat.testBit places xfield item sideOk pendOk pendOf tyT1 tyT2 tyT3 tyT4 tyT5 tyT9 tyT22 tyT23 tyT24 tyT25 tyT26 tyT30 tyT34 tyT39 tyT41 tyT47 tyT48 tyT50 tyT53 tyT54 tyT56 tyT58 tyT63 tyT70 tyT76 tyT78 tyT80 tyT84 tyT87 tyT89 tyT96 tyT98 tyT100 tyT102 tyT108 tyT110 tyT112 tyT113 tyT115 tyT119 tyT121 tyT124 tyT138 tyT139 tyT141 tyT142 tyT143 tyT145 tyT147 tyT149 tyT155 tyT158 tyT164 tyT179 tyT186 tyT188 tyT189 tyT194 tyT197 tyT200 tyT216 tyT242 tyT245 isM bne PC.at_obj PC.put_at PC.at_at PC.at_eq H.put_same H.put_put Tok.v PC.at_next PC.at_ext PC.at_row PC.at_bump PC.at_grow PC.at_new PC.at_put PC.at_obj_ne H.new_self H.new_ne H.row_obj H.put_next TN.v_len TN.v_take TN.v_drop
theorem block_step (f : Nat) (hf : f ≤ 1000000) (h1 : ∀ m, m ≤ f → CStat m) : CBlock (f + 1) := by
  intro c h s nd s' hc hp hs
  unfold pBlock at hs
  refine XCalls.of Tryz.func99 rfl (by kernel_rfl) ?_
  rw [Tryz.ntmps99]
  obtain ⟨a1, a2, a3, b1, b2, b3⟩ := new2 h c.p hp
  obtain ⟨d1, d2, d3, d4, d5, d6, d7, d8⟩ := new3 h
  simp [-Int.natCast_add, a1, a2, a3, b1, b2, b3, d1, d2, d3, d4, d5, d6, d7, hp, H.put_ne]
  refine (is_calls c _ s 6 _).mono ?_
  rintro _ _ ⟨rfl, rfl⟩
  cases g1 : isB c s 6 ⟨#[123]⟩
  · have hb : begS c s = wrongS c s 10 := by unfold begS; rw [g1]; rfl
    rw [hb] at hs
    simp [-Int.natCast_add, a1, a2, a3, b1, b2, b3, d1, d2, d3, d4, d5, d6, d7, hp, H.put_ne]
    refine (wrong_calls c _ s 10).mono ?_
    rintro _ _ ⟨rfl, rfl⟩
    simp [-Int.natCast_add, a1, a2, a3, b1, b2, b3, d1, d2, d3, d4, d5, d6, d7, hp, H.put_ne]
    refine (bl_within f hf h1 c hc _ ?_ (wrongS c s 10) ?_ _ _ b1 (b3 _ _) ?_ ?_ (d6 _ _) ?_ ?_ nd s' hs).mono ?_
    · exact a3 (.cells [] 0) (.cells [] 0) (.cells [] 0)
    · intro he
      unfold wrongS at he
      split at he
      · cases he
      · rename_i h0; exact absurd he h0
    · exact d8 (.cells [] 0) (.cells [] 0) (.cells [] 0)
    · exact Nat.lt_succ_self _
    · simp [H.put_ne, H.new_ne, H.new_self, d1, d2, d6]
    · simp [H.put_same]
    rintro _ _ ⟨rfl, h5, s5, rfl, rfl, h2, T, hF, rfl, rfl⟩
    have o2 := hF.obj ((h.new (.cells [.ptr c.p 0] 84)).next) (Nat.lt_succ_of_lt (d3 _ _))
    simp [H.put_ne, H.new_ne, H.new_self, d3, d7] at o2
    simp [-Int.natCast_add, b1, b2, b3, d7, H.put_ne, o2]
    exact ⟨_, ((((((Fr.new _ _).trans (Fr.new _ _)).trans (Fr.new _ _)).put (Nat.le_of_lt (d2 _ _)) _).trans hF).put (Nat.le_of_lt (d2 _ _)) _).put (Nat.le_of_lt (d1 _)) _, rfl, T, rfl, rfl⟩
  · have hb : begS c s = s := by unfold begS; rw [g1]; rfl
    rw [hb] at hs
    simp [-Int.natCast_add, a1, a2, a3, b1, b2, b3, d1, d2, d3, d4, d5, d6, d7, hp, H.put_ne]
    refine (bl_within f hf h1 c hc _ ?_ s (fun _ => isB_lt g1) _ _ b1 (b3 _ _) ?_ ?_ (d6 _ _) ?_ ?_ nd s' hs).mono ?_
    · exact a3 (.cells [] 0) (.cells [] 0) (.cells [] 0)
    · exact d8 (.cells [] 0) (.cells [] 0) (.cells [] 0)
    · exact Nat.lt_succ_self _
    · simp [H.put_ne, H.new_ne, H.new_self, d1, d2, d6]
    · simp [H.put_same]
    rintro _ _ ⟨rfl, h5, s5, rfl, rfl, h2, T, hF, rfl, rfl⟩
    have o2 := hF.obj ((h.new (.cells [.ptr c.p 0] 84)).next) (Nat.lt_succ_of_lt (d3 _ _))
    simp [H.put_ne, H.new_ne, H.new_self, d3, d7] at o2
    simp [-Int.natCast_add, b1, b2, b3, d7, H.put_ne, o2]
    exact ⟨_, ((((((Fr.new _ _).trans (Fr.new _ _)).trans (Fr.new _ _)).put (Nat.le_of_lt (d2 _ _)) _).trans hF).put (Nat.le_of_lt (d2 _ _)) _).put (Nat.le_of_lt (d1 _)) _, rfl, T, rfl, rfl⟩
structure St (f : Nat) : Prop where
  block : CBlock f
  iff : CIff f
  simple : CSimple f
  stat : CStat f
theorem st_zero : St 0 where
  block := fun c h s nd s' hc hp hs => by unfold pBlock at hs; cases hs
  iff := fun c h s nd s' hc hp hs => by unfold pIff at hs; cases hs
  simple := fun c h s nd s' hc hp hs => by unfold pSimple at hs; cases hs
  stat := fun c h s nd s' hc hp hs => by unfold pStat at hs; cases hs
theorem st_all : ∀ (f : Nat), f ≤ 1000000 → ∀ m, m ≤ f → St m
  | 0, _, m, hm => by obtain rfl : m = 0 := by omega
                      exact st_zero
  | f + 1, hf, m, hm => by
    have ih := st_all f (by omega)
    rcases Nat.lt_or_ge m (f + 1) with h1 | h1
    · exact ih m (by omega)
    · obtain rfl : m = f + 1 := by omega
      have i := ih f (Nat.le_refl f)
      have x := ex f (by omega)
      exact {
        block := block_step f (by omega) fun m hm => (ih m hm).stat
        iff := iff_step f x.level i.block i.iff
        simple := simple_step f x.level
        stat := stat_step f i.iff x.level i.block i.simple }
theorem st (f : Nat) (hf : f ≤ 1000000) : St f := st_all f hf f (Nat.le_refl f)
end Go.Proofs.YtjofmihdeblbmaaGreatDoor.Xa
/- XA, part S6: fun. -/
namespace Go.Proofs.YtjofmihdeblbmaaGreatDoor.Xa
open Go Go.RowKit
set_option linter.unusedVariables false
set_option linter.unusedSimpArgs false
set_option maxRecDepth 100000
set_option maxHeartbeats 1000000
theorem H.row_put (h : H) (q : Nat) (o : Obj) (n : Nat) : (h.put q o).row n = (h.row n).put q o := rfl
theorem H.grow_put (h : H) (q : Nat) (o : Obj) (id n : Nat) : (h.put q o).grow id n = (h.grow id n).put q o := rfl
structure FnN where
  name : ByteArray
  params : List ByteArray
  body : Nd
structure FnT where
  name : ByteArray
  pid : Nat
  psz : Nat
  params : List ByteArray
  body : TN
def strV (b : ByteArray) : List V := [.lit (.string b)]
def FnT.v (t : FnT) : List V := .lit (.string t.name) :: .slc t.pid t.psz (t.params.map strV) :: t.body.v
def FnT.fn (t : FnT) : FnN := ⟨t.name, t.params, t.body.nd⟩
def FnV (fn : FnN) (v : V) : Prop := ∃ t : FnT, v = .agg t.v ∧ t.fn = fn ∧ ((t.params = [] ∧ t.pid = 0 ∧ t.psz = 0) ∨ (t.pid ≠ 0 ∧ t.psz = 1))
theorem FnT.v_len (t : FnT) : t.v.length = 7 := by simp [FnT.v, TN.v_len]
theorem FnT.v_take (t : FnT) : t.v.take 7 = t.v := List.take_of_length_le (by rw [FnT.v_len]; decide)
theorem FnT.v_drop (t : FnT) : t.v.drop 7 = [] := List.drop_of_length_le (by rw [FnT.v_len]; decide)
def pParams : Nat → PC → PS → Bool → List ByteArray → Option (List ByteArray × PS)
  | 0, _, _, _, _ => none
  | f + 1, c, s, more, acc => if more && s.e == 0 then pParams f c (opS c (nameS c s) 6 ⟨#[44]⟩) (isB c (nameS c s) 6 ⟨#[44]⟩) (acc ++ [nameV c s]) else some (acc, wantS c s ⟨#[41]⟩)
def fnS (c : PC) (s : PS) : PS := if isB c s 2 ⟨#[102, 110]⟩ then opS c s 2 ⟨#[102, 110]⟩ else wrongS c s 10
def parS (c : PC) (s : PS) : PS := wantS c (nameS c (fnS c s)) ⟨#[40]⟩
def pPar (f : Nat) (c : PC) (s : PS) : Option (List ByteArray × PS) := if isB c s 6 ⟨#[41]⟩ then some ([], opS c s 6 ⟨#[41]⟩) else pParams f c s true []
def pFun (f : Nat) (c : PC) (s : PS) : Option (FnN × PS) := match pPar f c (parS c s) with
  | some (ps, s5) => match pBlock f c s5 with
    | some (b, s6) => some (⟨nameV c (fnS c s), ps, b⟩, s6)
    | none => none
  | none => none
def FunJ (f : Nat) (c : PC) (B : H) (q2 q3 : Nat) (nm : ByteArray) (l : List ByteArray) (s5 : PS) : Nat → List V → H → Prop := fun m fr' h' => ∃ ps s1 h4 id sz more, m + List.length ps ≤ f ∧ pParams m c s1 more ps = some (l, s5) ∧ h' = c.at_ (h4.put q3 (.cells [.lit (.string nm), .slc id sz (ps.map strV), .lit (.int .i64 0), .lit (.int .i64 0), .lit (.string ⟨#[]⟩), .lit (.int .i64 0), .slc 0 0 []] 70)) s1 ∧ Fr B h4 ∧ ((ps = [] ∧ id = 0 ∧ sz = 0) ∨ (B.next ≤ id ∧ id < h4.next ∧ sz = 1 ∧ h4.ext id = some ps.length)) ∧ fr'.length = 41 ∧ ev fr' (.tmp 0) = .ptr c.p 0 ∧ ev fr' (.tmp 2) = .ptr q2 0 ∧ ev fr' (.tmp 3) = .ptr q3 0 ∧ ev fr' (.tmp 4) = .lit (.bool more)
attribute [local simp] hid2 hid3 hid4 xcode_skip xcode_region xcode_draw xcode_loop xcode_seq xcode_cond xcode_block xcode_scope xcode_exit xcode_ret xops_nil xops_cons xd_nil xd_cons xstep_eq annot fillOf findFill findStore srcOf kcls cls qval qvalN xwant dstAt want1 xdo xop ev_const ev_global ev_func ev_zero ev_succ ev_undefs ev_hit ev_miss put_none put_len undefs_len xnil xfieldAddr fieldOf eT emtb seqQ blockQ xload xstore splice V.storable V.one V.cells mk xbinop xbin xun xbuiltin xindexAddr nilOr xindex xint cv cv1 retQ xres_tmp xres_cell xres_nil xresult xbuild xfill xbuildSlice xrows Nat.testBit places xfield item sideOk pendOk pendOf tyT1 tyT2 tyT3 tyT4 tyT5 tyT9 tyT22 tyT23 tyT24 tyT25 tyT26 tyT30 tyT34 tyT39 tyT41 tyT47 tyT48 tyT50 tyT53 tyT54 tyT56 tyT58 tyT63 tyT70 tyT76 tyT78 tyT80 tyT84 tyT87 tyT89 tyT96 tyT98 tyT100 tyT102 tyT108 tyT110 tyT112 tyT113 tyT115 tyT119 tyT121 tyT124 tyT138 tyT139 tyT141 tyT142 tyT143 tyT145 tyT147 tyT149 tyT155 tyT158 tyT164 tyT179 tyT186 tyT188 tyT189 tyT194 tyT197 tyT200 tyT216 tyT242 tyT245 isM bne PC.at_obj PC.put_at PC.at_at PC.at_eq H.put_same H.put_put Tok.v PC.at_next PC.at_ext PC.at_row PC.at_bump PC.at_grow PC.at_new PC.at_put PC.at_obj_ne H.new_self H.new_ne H.row_obj H.put_next TN.v_len TN.v_take TN.v_drop
theorem fun_calls (f : Nat) (hf : f ≤ 1000000) (c : PC) (h : H) (s : PS) (fn : FnN) (s' : PS) (hc : c.ok) (hp : c.p < h.next) (hs : pFun f c s = some (fn, s')) : XCalls e 49 [.ptr c.p 0] (c.at_ h s) (NPost c h s' (FnV fn)) := by
  unfold pFun at hs
  refine XCalls.of Tryz.func49 rfl (by kernel_rfl) ?_
  rw [Tryz.ntmps49]
  obtain ⟨a1, a2, a3, b1, b2, b3⟩ := new2 h c.p hp
  obtain ⟨d1, d2, d3, d4, d5, d6, d7, d8⟩ := new3 h
  split at hs
  case h_2 => cases hs
  rename_i ps s5 hpar
  split at hs
  case h_2 => cases hs
  rename_i b s6 hblk
  simp only [Option.some.injEq, Prod.mk.injEq] at hs
  obtain ⟨rfl, rfl⟩ := hs
  simp [-Int.natCast_add, a1, a2, b1, b2, d1, d3, d4, d5, hp, H.put_ne]
  refine (word_calls c hc _ s _).mono ?_
  rintro _ _ ⟨rfl, rfl⟩
  cases g1 : isB c s 2 ⟨#[102, 110]⟩
  · have hfn : fnS c s = wrongS c s 10 := by unfold fnS; rw [g1]; rfl
    unfold parS at hpar
    rw [hfn] at hpar ⊢
    simp [-Int.natCast_add, a1, a2, b1, b2, d1, d3, d4, d5, hp, H.put_ne, opS_false g1]
    refine (wrong_calls c _ s 10).mono ?_
    rintro _ _ ⟨rfl, rfl⟩
    simp [-Int.natCast_add, a1, a2, b1, b2, d1, d3, d4, d5, hp, H.put_ne]
    refine (name_calls c hc _ _).mono ?_
    rintro _ _ ⟨rfl, rfl⟩
    simp [-Int.natCast_add, a1, a2, b1, b2, d1, d3, d4, d5, hp, H.put_ne]
    refine (want_calls c hc _ _ _).mono ?_
    rintro _ _ ⟨rfl, rfl⟩
    simp [-Int.natCast_add, a1, a2, b1, b2, d1, d3, d4, d5, hp, H.put_ne]
    refine (op_calls c hc _ _ _).mono ?_
    rintro _ _ ⟨rfl, rfl⟩
    cases g2 : isB c (wantS c (nameS c (wrongS c s 10)) ⟨#[40]⟩) 6 ⟨#[41]⟩
    · unfold pPar at hpar
      rw [g2] at hpar
      simp only [opS_false g2]
      have hpar2 : pParams f c (wantS c (nameS c (wrongS c s 10)) ⟨#[40]⟩) true [] = some (ps, s5) := hpar
      clear hpar
      simp [-Int.natCast_add, a1, a2, b1, b2, d1, d3, d4, d5, hp, H.put_ne]
      refine XW.loopH (FunJ f c ((h.new (.cells [.lit (.string ⟨#[]⟩), .slc 0 0 [], .lit (.int .i64 0), .lit (.int .i64 0), .lit (.string ⟨#[]⟩), .lit (.int .i64 0), .slc 0 0 []] 70)).new (.cells [.lit (.string ⟨#[]⟩), .slc 0 0 [], .lit (.int .i64 0), .lit (.int .i64 0), .lit (.string ⟨#[]⟩), .lit (.int .i64 0), .slc 0 0 []] 70)) h.next (h.new (.cells [.lit (.string ⟨#[]⟩), .slc 0 0 [], .lit (.int .i64 0), .lit (.int .i64 0), .lit (.string ⟨#[]⟩), .lit (.int .i64 0), .slc 0 0 []] 70)).next (nameV c (wrongS c s 10)) ps s5) f ?_ ?_
      · refine ⟨[], _, _, 0, 0, true, Nat.le_refl _, hpar2, rfl, Fr.refl _, .inl ⟨rfl, rfl, rfl⟩, ?_⟩
        simp [-Int.natCast_add]
      · clear hpar2
        rintro m fr' h' ⟨qs, s1, h4, id, sz, more, hm, hs, rfl, hF, hid, e0, e1, e2, e3, e4⟩
        have p4 : c.p < h4.next := Nat.lt_of_lt_of_le (a2 _ _) hF.next
        cases m with
        | zero => unfold pParams at hs; cases hs
        | succ m =>
          unfold pParams at hs
          by_cases hgo : more = true ∧ (s1.e == 0) = true
          · obtain ⟨rfl, he1⟩ := hgo
            simp [he1] at hs
            simp [-Int.natCast_add, a1, a2, b1, b2, d1, d3, d4, d5, hp, H.put_ne, e0, e1, e2, e3, e4, H.row_put, H.grow_put, he1]
            refine XW.drawB mixed (L := List.range 8) (B := [0, 1, 0, 4, 12, 31, 63, 127]) (by kernel_rfl) (by kernel_rfl) ?_
            simp only [List.range, List.range.loop, List.map_cons, List.map_nil, item]
            simp only [annot, fillOf, findFill, findStore, srcOf, List.getD_cons_succ, List.getD_cons_zero]
            simp [-Int.natCast_add, a1, a2, b1, b2, d1, d3, d4, d5, hp, H.put_ne, e0, e1, e2, e3, e4, H.row_put, H.grow_put, H.put_ext]
            refine (name_calls c hc _ _).mono ?_
            rintro _ _ ⟨rfl, rfl⟩
            have n5 : h4.next ≠ 0 := by omega
            have m1 : (qs.length + 1) * 16 ≤ 140737488355328 := by omega
            have m2 : qs.length + 1 ≤ maxLen := by unfold maxLen; omega
            rcases hid with ⟨rfl, rfl, rfl⟩ | ⟨g3, g4, rfl, g5⟩
            · simp [-Int.natCast_add, a1, a2, b1, b2, d1, d3, d4, d5, hp, H.put_ne, e0, e1, e2, e3, e4, H.row_put, H.grow_put, H.put_ext, xappend, n5, maxLen, H.grow_obj]
              refine (op_calls c hc _ _ _).mono ?_
              rintro _ _ ⟨rfl, rfl⟩
              simp [-Int.natCast_add, e0, e1, e2, e3, e4, H.row_put, H.grow_put, H.put_ext]
              refine ⟨m, by omega, [nameV c s1], _, (h4.row 1).row 1, (h4.row 1).next, 1, _, by simp; simp at hm; omega, hs, ?_, (hF.trans (Fr.row _ _)).trans (Fr.row _ _), .inr ⟨(hF.trans (Fr.row _ _)).next, Nat.lt_succ_self _, rfl, H.row_ext_self _ _⟩, ?_⟩
              · first | rfl | simp [strV]
              · simp [-Int.natCast_add, e0, e1, e2, e3, e4, H.row_put, H.grow_put, H.put_ext]
            · have hid0 : id ≠ 0 := by have : ((h.new (.cells [.lit (.string ⟨#[]⟩), .slc 0 0 [], .lit (.int .i64 0), .lit (.int .i64 0), .lit (.string ⟨#[]⟩), .lit (.int .i64 0), .slc 0 0 []] 70)).new (.cells [.lit (.string ⟨#[]⟩), .slc 0 0 [], .lit (.int .i64 0), .lit (.int .i64 0), .lit (.string ⟨#[]⟩), .lit (.int .i64 0), .slc 0 0 []] 70)).next > 0 := Nat.succ_pos _; omega
              have g6 : (h4.row 1).ext id = some qs.length := by rw [H.row_ext_ne _ _ g4, g5]
              have g7 : ((h4.put (h.new (.cells [.lit (.string ⟨#[]⟩), .slc 0 0 [], .lit (.int .i64 0), .lit (.int .i64 0), .lit (.string ⟨#[]⟩), .lit (.int .i64 0), .slc 0 0 []] 70)).next (.cells [.lit (.string (nameV c (wrongS c s 10))), .slc id 1 (qs.map strV), .lit (.int .i64 0), .lit (.int .i64 0), .lit (.string ⟨#[]⟩), .lit (.int .i64 0), .slc 0 0 []] 70)).row 1).ext id = some qs.length := g6
              simp [-Int.natCast_add, a1, a2, b1, b2, d1, d3, d4, d5, hp, H.put_ne, e0, e1, e2, e3, e4, H.row_put, H.grow_put, H.put_ext, xappend, n5, hid0, g6, g7, m1, m2, H.grow_obj]
              have em : qs.map strV ++ [[V.lit (.string (nameV c s1))]] = (qs ++ [nameV c s1]).map strV := by simp [strV]
              rw [em]
              refine (op_calls c hc _ _ _).mono ?_
              rintro _ _ ⟨rfl, rfl⟩
              simp [-Int.natCast_add, e0, e1, e2, e3, e4, H.row_put, H.grow_put, H.put_ext]
              refine ⟨m, by omega, qs ++ [nameV c s1], _, (h4.row 1).grow id (qs.length + 1), (h4.row 1).next, 1, _, by simp; omega, hs, ?_, (hF.trans (Fr.row _ _)).grow g3 _, .inr ⟨(hF.trans (Fr.row _ _)).next, Nat.lt_succ_self _, rfl, by rw [H.grow_ext_self]; simp⟩, ?_⟩
              · first | rfl | simp [strV]
              · simp [-Int.natCast_add, e0, e1, e2, e3, e4, H.row_put, H.grow_put, H.put_ext]
          · have hgo' : (more && (s1.e == 0)) = false := by
              cases more <;> cases hq : (s1.e == 0) <;> simp_all
            simp only [hgo'] at hs
            obtain ⟨rfl, rfl⟩ : qs = ps ∧ wantS c s1 ⟨#[41]⟩ = s5 := by simpa using hs
            cases more
            · simp [-Int.natCast_add, a1, a2, b1, b2, d1, d3, d4, d5, hp, H.put_ne, e0, e1, e2, e3, e4, H.row_put, H.grow_put, H.put_ext]
              refine (want_calls c hc _ s1 _).mono ?_
              rintro _ _ ⟨rfl, rfl⟩
              simp [-Int.natCast_add, e0, e1, e2, e3, e4, H.row_put, H.grow_put, H.put_ext]
              refine ((st f hf).block c (h4.put (h.new (.cells [.lit (.string ⟨#[]⟩), .slc 0 0 [], .lit (.int .i64 0), .lit (.int .i64 0), .lit (.string ⟨#[]⟩), .lit (.int .i64 0), .slc 0 0 []] 70)).next _) _ b _ hc (Nat.lt_of_lt_of_le (a2 _ _) hF.next) hblk).mono ?_
              rintro _ _ ⟨h7, hF7, rfl, T, rfl, rfl⟩
              have o3 := hF7.obj (h.new (.cells [.lit (.string ⟨#[]⟩), .slc 0 0 [], .lit (.int .i64 0), .lit (.int .i64 0), .lit (.string ⟨#[]⟩), .lit (.int .i64 0), .slc 0 0 []] 70)).next (Nat.lt_of_lt_of_le (d3 _ _) hF.next)
              rw [H.put_same] at o3
              have o2 := hF7.obj h.next (Nat.lt_of_lt_of_le (d2 _ _) hF.next)
              rw [H.put_ne _ _ (d4 _), hF.obj h.next (d2 _ _), H.new_ne _ _ (d1 _), H.new_self] at o2
              simp [-Int.natCast_add, a1, a2, b1, b2, d1, d3, d4, d5, hp, H.put_ne, o2, o3, e0, e1, e2, e3, e4, H.row_put, H.grow_put, H.put_ext]
              refine ⟨_, ?_, rfl, ⟨(nameV c (wrongS c s 10)), id, sz, qs, T⟩, ?_, rfl, ?_⟩
              · exact ((((((Fr.new _ _).trans (Fr.new _ _)).trans hF).put (Nat.le_of_lt (d1 _)) _).trans hF7).put (Nat.le_of_lt (d1 _)) _).put (Nat.le_refl _) _
              · simp [FnT.v, strV]
              · rcases hid with ⟨rfl, rfl, rfl⟩ | ⟨g3, g4, rfl, g5⟩
                · exact .inl ⟨rfl, rfl, rfl⟩
                · exact .inr ⟨by have : ((h.new (.cells [.lit (.string ⟨#[]⟩), .slc 0 0 [], .lit (.int .i64 0), .lit (.int .i64 0), .lit (.string ⟨#[]⟩), .lit (.int .i64 0), .slc 0 0 []] 70)).new (.cells [.lit (.string ⟨#[]⟩), .slc 0 0 [], .lit (.int .i64 0), .lit (.int .i64 0), .lit (.string ⟨#[]⟩), .lit (.int .i64 0), .slc 0 0 []] 70)).next > 0 := Nat.succ_pos _; show id ≠ 0; omega, rfl⟩
            · have he1 : (s1.e == 0) = false := by cases hq : (s1.e == 0) <;> simp_all
              simp [-Int.natCast_add, a1, a2, b1, b2, d1, d3, d4, d5, hp, H.put_ne, e0, e1, e2, e3, e4, H.row_put, H.grow_put, he1]
              refine (want_calls c hc _ s1 _).mono ?_
              rintro _ _ ⟨rfl, rfl⟩
              simp [-Int.natCast_add, e0, e1, e2, e3, e4, H.row_put, H.grow_put, H.put_ext]
              refine ((st f hf).block c (h4.put (h.new (.cells [.lit (.string ⟨#[]⟩), .slc 0 0 [], .lit (.int .i64 0), .lit (.int .i64 0), .lit (.string ⟨#[]⟩), .lit (.int .i64 0), .slc 0 0 []] 70)).next _) _ b _ hc (Nat.lt_of_lt_of_le (a2 _ _) hF.next) hblk).mono ?_
              rintro _ _ ⟨h7, hF7, rfl, T, rfl, rfl⟩
              have o3 := hF7.obj (h.new (.cells [.lit (.string ⟨#[]⟩), .slc 0 0 [], .lit (.int .i64 0), .lit (.int .i64 0), .lit (.string ⟨#[]⟩), .lit (.int .i64 0), .slc 0 0 []] 70)).next (Nat.lt_of_lt_of_le (d3 _ _) hF.next)
              rw [H.put_same] at o3
              have o2 := hF7.obj h.next (Nat.lt_of_lt_of_le (d2 _ _) hF.next)
              rw [H.put_ne _ _ (d4 _), hF.obj h.next (d2 _ _), H.new_ne _ _ (d1 _), H.new_self] at o2
              simp [-Int.natCast_add, a1, a2, b1, b2, d1, d3, d4, d5, hp, H.put_ne, o2, o3, e0, e1, e2, e3, e4, H.row_put, H.grow_put, H.put_ext]
              refine ⟨_, ?_, rfl, ⟨(nameV c (wrongS c s 10)), id, sz, qs, T⟩, ?_, rfl, ?_⟩
              · exact ((((((Fr.new _ _).trans (Fr.new _ _)).trans hF).put (Nat.le_of_lt (d1 _)) _).trans hF7).put (Nat.le_of_lt (d1 _)) _).put (Nat.le_refl _) _
              · simp [FnT.v, strV]
              · rcases hid with ⟨rfl, rfl, rfl⟩ | ⟨g3, g4, rfl, g5⟩
                · exact .inl ⟨rfl, rfl, rfl⟩
                · exact .inr ⟨by have : ((h.new (.cells [.lit (.string ⟨#[]⟩), .slc 0 0 [], .lit (.int .i64 0), .lit (.int .i64 0), .lit (.string ⟨#[]⟩), .lit (.int .i64 0), .slc 0 0 []] 70)).new (.cells [.lit (.string ⟨#[]⟩), .slc 0 0 [], .lit (.int .i64 0), .lit (.int .i64 0), .lit (.string ⟨#[]⟩), .lit (.int .i64 0), .slc 0 0 []] 70)).next > 0 := Nat.succ_pos _; show id ≠ 0; omega, rfl⟩
    · unfold pPar at hpar
      rw [g2] at hpar
      simp at hpar
      obtain ⟨rfl, rfl⟩ := hpar
      simp [-Int.natCast_add, a1, a2, b1, b2, d1, d3, d4, d5, hp, H.put_ne]
      refine ((st f hf).block c (((h.new (.cells [.lit (.string ⟨#[]⟩), .slc 0 0 [], .lit (.int .i64 0), .lit (.int .i64 0), .lit (.string ⟨#[]⟩), .lit (.int .i64 0), .slc 0 0 []] 70)).new (.cells [.lit (.string ⟨#[]⟩), .slc 0 0 [], .lit (.int .i64 0), .lit (.int .i64 0), .lit (.string ⟨#[]⟩), .lit (.int .i64 0), .slc 0 0 []] 70)).put (h.new (.cells [.lit (.string ⟨#[]⟩), .slc 0 0 [], .lit (.int .i64 0), .lit (.int .i64 0), .lit (.string ⟨#[]⟩), .lit (.int .i64 0), .slc 0 0 []] 70)).next _) _ b _ hc (Nat.lt_of_lt_of_le (a2 _ _) (Fr.refl ((h.new (.cells [.lit (.string ⟨#[]⟩), .slc 0 0 [], .lit (.int .i64 0), .lit (.int .i64 0), .lit (.string ⟨#[]⟩), .lit (.int .i64 0), .slc 0 0 []] 70)).new (.cells [.lit (.string ⟨#[]⟩), .slc 0 0 [], .lit (.int .i64 0), .lit (.int .i64 0), .lit (.string ⟨#[]⟩), .lit (.int .i64 0), .slc 0 0 []] 70))).next) hblk).mono ?_
      rintro _ _ ⟨h7, hF7, rfl, T, rfl, rfl⟩
      have o3 := hF7.obj (h.new (.cells [.lit (.string ⟨#[]⟩), .slc 0 0 [], .lit (.int .i64 0), .lit (.int .i64 0), .lit (.string ⟨#[]⟩), .lit (.int .i64 0), .slc 0 0 []] 70)).next (Nat.lt_of_lt_of_le (d3 _ _) (Fr.refl ((h.new (.cells [.lit (.string ⟨#[]⟩), .slc 0 0 [], .lit (.int .i64 0), .lit (.int .i64 0), .lit (.string ⟨#[]⟩), .lit (.int .i64 0), .slc 0 0 []] 70)).new (.cells [.lit (.string ⟨#[]⟩), .slc 0 0 [], .lit (.int .i64 0), .lit (.int .i64 0), .lit (.string ⟨#[]⟩), .lit (.int .i64 0), .slc 0 0 []] 70))).next)
      rw [H.put_same] at o3
      have o2 := hF7.obj h.next (Nat.lt_of_lt_of_le (d2 _ _) (Fr.refl ((h.new (.cells [.lit (.string ⟨#[]⟩), .slc 0 0 [], .lit (.int .i64 0), .lit (.int .i64 0), .lit (.string ⟨#[]⟩), .lit (.int .i64 0), .slc 0 0 []] 70)).new (.cells [.lit (.string ⟨#[]⟩), .slc 0 0 [], .lit (.int .i64 0), .lit (.int .i64 0), .lit (.string ⟨#[]⟩), .lit (.int .i64 0), .slc 0 0 []] 70))).next)
      rw [H.put_ne _ _ (d4 _), (Fr.refl ((h.new (.cells [.lit (.string ⟨#[]⟩), .slc 0 0 [], .lit (.int .i64 0), .lit (.int .i64 0), .lit (.string ⟨#[]⟩), .lit (.int .i64 0), .slc 0 0 []] 70)).new (.cells [.lit (.string ⟨#[]⟩), .slc 0 0 [], .lit (.int .i64 0), .lit (.int .i64 0), .lit (.string ⟨#[]⟩), .lit (.int .i64 0), .slc 0 0 []] 70))).obj h.next (d2 _ _), H.new_ne _ _ (d1 _), H.new_self] at o2
      simp [-Int.natCast_add, a1, a2, b1, b2, d1, d3, d4, d5, hp, H.put_ne, o2, o3, d3]
      refine ⟨_, ?_, rfl, ⟨(nameV c (wrongS c s 10)), 0, 0, [], T⟩, ?_, rfl, .inl ⟨rfl, rfl, rfl⟩⟩
      · exact ((((((Fr.new _ _).trans (Fr.new _ _)).trans (Fr.refl ((h.new (.cells [.lit (.string ⟨#[]⟩), .slc 0 0 [], .lit (.int .i64 0), .lit (.int .i64 0), .lit (.string ⟨#[]⟩), .lit (.int .i64 0), .slc 0 0 []] 70)).new (.cells [.lit (.string ⟨#[]⟩), .slc 0 0 [], .lit (.int .i64 0), .lit (.int .i64 0), .lit (.string ⟨#[]⟩), .lit (.int .i64 0), .slc 0 0 []] 70)))).put (Nat.le_of_lt (d1 _)) _).trans hF7).put (Nat.le_of_lt (d1 _)) _).put (Nat.le_refl _) _
      · simp [FnT.v, strV]
  · have hfn : fnS c s = opS c s 2 ⟨#[102, 110]⟩ := by unfold fnS; rw [g1]; rfl
    unfold parS at hpar
    rw [hfn] at hpar ⊢
    simp [-Int.natCast_add, a1, a2, b1, b2, d1, d3, d4, d5, hp, H.put_ne]
    refine (name_calls c hc _ _).mono ?_
    rintro _ _ ⟨rfl, rfl⟩
    simp [-Int.natCast_add, a1, a2, b1, b2, d1, d3, d4, d5, hp, H.put_ne]
    refine (want_calls c hc _ _ _).mono ?_
    rintro _ _ ⟨rfl, rfl⟩
    simp [-Int.natCast_add, a1, a2, b1, b2, d1, d3, d4, d5, hp, H.put_ne]
    refine (op_calls c hc _ _ _).mono ?_
    rintro _ _ ⟨rfl, rfl⟩
    cases g2 : isB c (wantS c (nameS c (opS c s 2 ⟨#[102, 110]⟩)) ⟨#[40]⟩) 6 ⟨#[41]⟩
    · unfold pPar at hpar
      rw [g2] at hpar
      simp only [opS_false g2]
      have hpar2 : pParams f c (wantS c (nameS c (opS c s 2 ⟨#[102, 110]⟩)) ⟨#[40]⟩) true [] = some (ps, s5) := hpar
      clear hpar
      simp [-Int.natCast_add, a1, a2, b1, b2, d1, d3, d4, d5, hp, H.put_ne]
      refine XW.loopH (FunJ f c ((h.new (.cells [.lit (.string ⟨#[]⟩), .slc 0 0 [], .lit (.int .i64 0), .lit (.int .i64 0), .lit (.string ⟨#[]⟩), .lit (.int .i64 0), .slc 0 0 []] 70)).new (.cells [.lit (.string ⟨#[]⟩), .slc 0 0 [], .lit (.int .i64 0), .lit (.int .i64 0), .lit (.string ⟨#[]⟩), .lit (.int .i64 0), .slc 0 0 []] 70)) h.next (h.new (.cells [.lit (.string ⟨#[]⟩), .slc 0 0 [], .lit (.int .i64 0), .lit (.int .i64 0), .lit (.string ⟨#[]⟩), .lit (.int .i64 0), .slc 0 0 []] 70)).next (nameV c (opS c s 2 ⟨#[102, 110]⟩)) ps s5) f ?_ ?_
      · refine ⟨[], _, _, 0, 0, true, Nat.le_refl _, hpar2, rfl, Fr.refl _, .inl ⟨rfl, rfl, rfl⟩, ?_⟩
        simp [-Int.natCast_add]
      · clear hpar2
        rintro m fr' h' ⟨qs, s1, h4, id, sz, more, hm, hs, rfl, hF, hid, e0, e1, e2, e3, e4⟩
        have p4 : c.p < h4.next := Nat.lt_of_lt_of_le (a2 _ _) hF.next
        cases m with
        | zero => unfold pParams at hs; cases hs
        | succ m =>
          unfold pParams at hs
          by_cases hgo : more = true ∧ (s1.e == 0) = true
          · obtain ⟨rfl, he1⟩ := hgo
            simp [he1] at hs
            simp [-Int.natCast_add, a1, a2, b1, b2, d1, d3, d4, d5, hp, H.put_ne, e0, e1, e2, e3, e4, H.row_put, H.grow_put, he1]
            refine XW.drawB mixed (L := List.range 8) (B := [0, 1, 0, 4, 12, 31, 63, 127]) (by kernel_rfl) (by kernel_rfl) ?_
            simp only [List.range, List.range.loop, List.map_cons, List.map_nil, item]
            simp only [annot, fillOf, findFill, findStore, srcOf, List.getD_cons_succ, List.getD_cons_zero]
            simp [-Int.natCast_add, a1, a2, b1, b2, d1, d3, d4, d5, hp, H.put_ne, e0, e1, e2, e3, e4, H.row_put, H.grow_put, H.put_ext]
            refine (name_calls c hc _ _).mono ?_
            rintro _ _ ⟨rfl, rfl⟩
            have n5 : h4.next ≠ 0 := by omega
            have m1 : (qs.length + 1) * 16 ≤ 140737488355328 := by omega
            have m2 : qs.length + 1 ≤ maxLen := by unfold maxLen; omega
            rcases hid with ⟨rfl, rfl, rfl⟩ | ⟨g3, g4, rfl, g5⟩
            · simp [-Int.natCast_add, a1, a2, b1, b2, d1, d3, d4, d5, hp, H.put_ne, e0, e1, e2, e3, e4, H.row_put, H.grow_put, H.put_ext, xappend, n5, maxLen, H.grow_obj]
              refine (op_calls c hc _ _ _).mono ?_
              rintro _ _ ⟨rfl, rfl⟩
              simp [-Int.natCast_add, e0, e1, e2, e3, e4, H.row_put, H.grow_put, H.put_ext]
              refine ⟨m, by omega, [nameV c s1], _, (h4.row 1).row 1, (h4.row 1).next, 1, _, by simp; simp at hm; omega, hs, ?_, (hF.trans (Fr.row _ _)).trans (Fr.row _ _), .inr ⟨(hF.trans (Fr.row _ _)).next, Nat.lt_succ_self _, rfl, H.row_ext_self _ _⟩, ?_⟩
              · first | rfl | simp [strV]
              · simp [-Int.natCast_add, e0, e1, e2, e3, e4, H.row_put, H.grow_put, H.put_ext]
            · have hid0 : id ≠ 0 := by have : ((h.new (.cells [.lit (.string ⟨#[]⟩), .slc 0 0 [], .lit (.int .i64 0), .lit (.int .i64 0), .lit (.string ⟨#[]⟩), .lit (.int .i64 0), .slc 0 0 []] 70)).new (.cells [.lit (.string ⟨#[]⟩), .slc 0 0 [], .lit (.int .i64 0), .lit (.int .i64 0), .lit (.string ⟨#[]⟩), .lit (.int .i64 0), .slc 0 0 []] 70)).next > 0 := Nat.succ_pos _; omega
              have g6 : (h4.row 1).ext id = some qs.length := by rw [H.row_ext_ne _ _ g4, g5]
              have g7 : ((h4.put (h.new (.cells [.lit (.string ⟨#[]⟩), .slc 0 0 [], .lit (.int .i64 0), .lit (.int .i64 0), .lit (.string ⟨#[]⟩), .lit (.int .i64 0), .slc 0 0 []] 70)).next (.cells [.lit (.string (nameV c (opS c s 2 ⟨#[102, 110]⟩))), .slc id 1 (qs.map strV), .lit (.int .i64 0), .lit (.int .i64 0), .lit (.string ⟨#[]⟩), .lit (.int .i64 0), .slc 0 0 []] 70)).row 1).ext id = some qs.length := g6
              simp [-Int.natCast_add, a1, a2, b1, b2, d1, d3, d4, d5, hp, H.put_ne, e0, e1, e2, e3, e4, H.row_put, H.grow_put, H.put_ext, xappend, n5, hid0, g6, g7, m1, m2, H.grow_obj]
              have em : qs.map strV ++ [[V.lit (.string (nameV c s1))]] = (qs ++ [nameV c s1]).map strV := by simp [strV]
              rw [em]
              refine (op_calls c hc _ _ _).mono ?_
              rintro _ _ ⟨rfl, rfl⟩
              simp [-Int.natCast_add, e0, e1, e2, e3, e4, H.row_put, H.grow_put, H.put_ext]
              refine ⟨m, by omega, qs ++ [nameV c s1], _, (h4.row 1).grow id (qs.length + 1), (h4.row 1).next, 1, _, by simp; omega, hs, ?_, (hF.trans (Fr.row _ _)).grow g3 _, .inr ⟨(hF.trans (Fr.row _ _)).next, Nat.lt_succ_self _, rfl, by rw [H.grow_ext_self]; simp⟩, ?_⟩
              · first | rfl | simp [strV]
              · simp [-Int.natCast_add, e0, e1, e2, e3, e4, H.row_put, H.grow_put, H.put_ext]
          · have hgo' : (more && (s1.e == 0)) = false := by
              cases more <;> cases hq : (s1.e == 0) <;> simp_all
            simp only [hgo'] at hs
            obtain ⟨rfl, rfl⟩ : qs = ps ∧ wantS c s1 ⟨#[41]⟩ = s5 := by simpa using hs
            cases more
            · simp [-Int.natCast_add, a1, a2, b1, b2, d1, d3, d4, d5, hp, H.put_ne, e0, e1, e2, e3, e4, H.row_put, H.grow_put, H.put_ext]
              refine (want_calls c hc _ s1 _).mono ?_
              rintro _ _ ⟨rfl, rfl⟩
              simp [-Int.natCast_add, e0, e1, e2, e3, e4, H.row_put, H.grow_put, H.put_ext]
              refine ((st f hf).block c (h4.put (h.new (.cells [.lit (.string ⟨#[]⟩), .slc 0 0 [], .lit (.int .i64 0), .lit (.int .i64 0), .lit (.string ⟨#[]⟩), .lit (.int .i64 0), .slc 0 0 []] 70)).next _) _ b _ hc (Nat.lt_of_lt_of_le (a2 _ _) hF.next) hblk).mono ?_
              rintro _ _ ⟨h7, hF7, rfl, T, rfl, rfl⟩
              have o3 := hF7.obj (h.new (.cells [.lit (.string ⟨#[]⟩), .slc 0 0 [], .lit (.int .i64 0), .lit (.int .i64 0), .lit (.string ⟨#[]⟩), .lit (.int .i64 0), .slc 0 0 []] 70)).next (Nat.lt_of_lt_of_le (d3 _ _) hF.next)
              rw [H.put_same] at o3
              have o2 := hF7.obj h.next (Nat.lt_of_lt_of_le (d2 _ _) hF.next)
              rw [H.put_ne _ _ (d4 _), hF.obj h.next (d2 _ _), H.new_ne _ _ (d1 _), H.new_self] at o2
              simp [-Int.natCast_add, a1, a2, b1, b2, d1, d3, d4, d5, hp, H.put_ne, o2, o3, e0, e1, e2, e3, e4, H.row_put, H.grow_put, H.put_ext]
              refine ⟨_, ?_, rfl, ⟨(nameV c (opS c s 2 ⟨#[102, 110]⟩)), id, sz, qs, T⟩, ?_, rfl, ?_⟩
              · exact ((((((Fr.new _ _).trans (Fr.new _ _)).trans hF).put (Nat.le_of_lt (d1 _)) _).trans hF7).put (Nat.le_of_lt (d1 _)) _).put (Nat.le_refl _) _
              · simp [FnT.v, strV]
              · rcases hid with ⟨rfl, rfl, rfl⟩ | ⟨g3, g4, rfl, g5⟩
                · exact .inl ⟨rfl, rfl, rfl⟩
                · exact .inr ⟨by have : ((h.new (.cells [.lit (.string ⟨#[]⟩), .slc 0 0 [], .lit (.int .i64 0), .lit (.int .i64 0), .lit (.string ⟨#[]⟩), .lit (.int .i64 0), .slc 0 0 []] 70)).new (.cells [.lit (.string ⟨#[]⟩), .slc 0 0 [], .lit (.int .i64 0), .lit (.int .i64 0), .lit (.string ⟨#[]⟩), .lit (.int .i64 0), .slc 0 0 []] 70)).next > 0 := Nat.succ_pos _; show id ≠ 0; omega, rfl⟩
            · have he1 : (s1.e == 0) = false := by cases hq : (s1.e == 0) <;> simp_all
              simp [-Int.natCast_add, a1, a2, b1, b2, d1, d3, d4, d5, hp, H.put_ne, e0, e1, e2, e3, e4, H.row_put, H.grow_put, he1]
              refine (want_calls c hc _ s1 _).mono ?_
              rintro _ _ ⟨rfl, rfl⟩
              simp [-Int.natCast_add, e0, e1, e2, e3, e4, H.row_put, H.grow_put, H.put_ext]
              refine ((st f hf).block c (h4.put (h.new (.cells [.lit (.string ⟨#[]⟩), .slc 0 0 [], .lit (.int .i64 0), .lit (.int .i64 0), .lit (.string ⟨#[]⟩), .lit (.int .i64 0), .slc 0 0 []] 70)).next _) _ b _ hc (Nat.lt_of_lt_of_le (a2 _ _) hF.next) hblk).mono ?_
              rintro _ _ ⟨h7, hF7, rfl, T, rfl, rfl⟩
              have o3 := hF7.obj (h.new (.cells [.lit (.string ⟨#[]⟩), .slc 0 0 [], .lit (.int .i64 0), .lit (.int .i64 0), .lit (.string ⟨#[]⟩), .lit (.int .i64 0), .slc 0 0 []] 70)).next (Nat.lt_of_lt_of_le (d3 _ _) hF.next)
              rw [H.put_same] at o3
              have o2 := hF7.obj h.next (Nat.lt_of_lt_of_le (d2 _ _) hF.next)
              rw [H.put_ne _ _ (d4 _), hF.obj h.next (d2 _ _), H.new_ne _ _ (d1 _), H.new_self] at o2
              simp [-Int.natCast_add, a1, a2, b1, b2, d1, d3, d4, d5, hp, H.put_ne, o2, o3, e0, e1, e2, e3, e4, H.row_put, H.grow_put, H.put_ext]
              refine ⟨_, ?_, rfl, ⟨(nameV c (opS c s 2 ⟨#[102, 110]⟩)), id, sz, qs, T⟩, ?_, rfl, ?_⟩
              · exact ((((((Fr.new _ _).trans (Fr.new _ _)).trans hF).put (Nat.le_of_lt (d1 _)) _).trans hF7).put (Nat.le_of_lt (d1 _)) _).put (Nat.le_refl _) _
              · simp [FnT.v, strV]
              · rcases hid with ⟨rfl, rfl, rfl⟩ | ⟨g3, g4, rfl, g5⟩
                · exact .inl ⟨rfl, rfl, rfl⟩
                · exact .inr ⟨by have : ((h.new (.cells [.lit (.string ⟨#[]⟩), .slc 0 0 [], .lit (.int .i64 0), .lit (.int .i64 0), .lit (.string ⟨#[]⟩), .lit (.int .i64 0), .slc 0 0 []] 70)).new (.cells [.lit (.string ⟨#[]⟩), .slc 0 0 [], .lit (.int .i64 0), .lit (.int .i64 0), .lit (.string ⟨#[]⟩), .lit (.int .i64 0), .slc 0 0 []] 70)).next > 0 := Nat.succ_pos _; show id ≠ 0; omega, rfl⟩
    · unfold pPar at hpar
      rw [g2] at hpar
      simp at hpar
      obtain ⟨rfl, rfl⟩ := hpar
      simp [-Int.natCast_add, a1, a2, b1, b2, d1, d3, d4, d5, hp, H.put_ne]
      refine ((st f hf).block c (((h.new (.cells [.lit (.string ⟨#[]⟩), .slc 0 0 [], .lit (.int .i64 0), .lit (.int .i64 0), .lit (.string ⟨#[]⟩), .lit (.int .i64 0), .slc 0 0 []] 70)).new (.cells [.lit (.string ⟨#[]⟩), .slc 0 0 [], .lit (.int .i64 0), .lit (.int .i64 0), .lit (.string ⟨#[]⟩), .lit (.int .i64 0), .slc 0 0 []] 70)).put (h.new (.cells [.lit (.string ⟨#[]⟩), .slc 0 0 [], .lit (.int .i64 0), .lit (.int .i64 0), .lit (.string ⟨#[]⟩), .lit (.int .i64 0), .slc 0 0 []] 70)).next _) _ b _ hc (Nat.lt_of_lt_of_le (a2 _ _) (Fr.refl ((h.new (.cells [.lit (.string ⟨#[]⟩), .slc 0 0 [], .lit (.int .i64 0), .lit (.int .i64 0), .lit (.string ⟨#[]⟩), .lit (.int .i64 0), .slc 0 0 []] 70)).new (.cells [.lit (.string ⟨#[]⟩), .slc 0 0 [], .lit (.int .i64 0), .lit (.int .i64 0), .lit (.string ⟨#[]⟩), .lit (.int .i64 0), .slc 0 0 []] 70))).next) hblk).mono ?_
      rintro _ _ ⟨h7, hF7, rfl, T, rfl, rfl⟩
      have o3 := hF7.obj (h.new (.cells [.lit (.string ⟨#[]⟩), .slc 0 0 [], .lit (.int .i64 0), .lit (.int .i64 0), .lit (.string ⟨#[]⟩), .lit (.int .i64 0), .slc 0 0 []] 70)).next (Nat.lt_of_lt_of_le (d3 _ _) (Fr.refl ((h.new (.cells [.lit (.string ⟨#[]⟩), .slc 0 0 [], .lit (.int .i64 0), .lit (.int .i64 0), .lit (.string ⟨#[]⟩), .lit (.int .i64 0), .slc 0 0 []] 70)).new (.cells [.lit (.string ⟨#[]⟩), .slc 0 0 [], .lit (.int .i64 0), .lit (.int .i64 0), .lit (.string ⟨#[]⟩), .lit (.int .i64 0), .slc 0 0 []] 70))).next)
      rw [H.put_same] at o3
      have o2 := hF7.obj h.next (Nat.lt_of_lt_of_le (d2 _ _) (Fr.refl ((h.new (.cells [.lit (.string ⟨#[]⟩), .slc 0 0 [], .lit (.int .i64 0), .lit (.int .i64 0), .lit (.string ⟨#[]⟩), .lit (.int .i64 0), .slc 0 0 []] 70)).new (.cells [.lit (.string ⟨#[]⟩), .slc 0 0 [], .lit (.int .i64 0), .lit (.int .i64 0), .lit (.string ⟨#[]⟩), .lit (.int .i64 0), .slc 0 0 []] 70))).next)
      rw [H.put_ne _ _ (d4 _), (Fr.refl ((h.new (.cells [.lit (.string ⟨#[]⟩), .slc 0 0 [], .lit (.int .i64 0), .lit (.int .i64 0), .lit (.string ⟨#[]⟩), .lit (.int .i64 0), .slc 0 0 []] 70)).new (.cells [.lit (.string ⟨#[]⟩), .slc 0 0 [], .lit (.int .i64 0), .lit (.int .i64 0), .lit (.string ⟨#[]⟩), .lit (.int .i64 0), .slc 0 0 []] 70))).obj h.next (d2 _ _), H.new_ne _ _ (d1 _), H.new_self] at o2
      simp [-Int.natCast_add, a1, a2, b1, b2, d1, d3, d4, d5, hp, H.put_ne, o2, o3, d3]
      refine ⟨_, ?_, rfl, ⟨(nameV c (opS c s 2 ⟨#[102, 110]⟩)), 0, 0, [], T⟩, ?_, rfl, .inl ⟨rfl, rfl, rfl⟩⟩
      · exact ((((((Fr.new _ _).trans (Fr.new _ _)).trans (Fr.refl ((h.new (.cells [.lit (.string ⟨#[]⟩), .slc 0 0 [], .lit (.int .i64 0), .lit (.int .i64 0), .lit (.string ⟨#[]⟩), .lit (.int .i64 0), .slc 0 0 []] 70)).new (.cells [.lit (.string ⟨#[]⟩), .slc 0 0 [], .lit (.int .i64 0), .lit (.int .i64 0), .lit (.string ⟨#[]⟩), .lit (.int .i64 0), .slc 0 0 []] 70)))).put (Nat.le_of_lt (d1 _)) _).trans hF7).put (Nat.le_of_lt (d1 _)) _).put (Nat.le_refl _) _
      · simp [FnT.v, strV]
end Go.Proofs.YtjofmihdeblbmaaGreatDoor.Xa
