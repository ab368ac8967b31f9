/- XA, joined: XaR8 XaRA XaRB XaRC XaR1. -/
import Derived.Test.YtjofmihdeblbmaaGreatDoorXaM19
/- XA, part R8: list. -/
namespace Go.Proofs.YtjofmihdeblbmaaGreatDoor.Xa
open Go Go.RowKit
set_option linter.unusedVariables false
set_option linter.unusedSimpArgs false
set_option maxRecDepth 100000
set_option maxHeartbeats 1000000
attribute [local simp] hid2 hid3 hid4 xcode_skip xcode_region xcode_draw xcode_loop xcode_seq xcode_cond xcode_block xcode_scope xcode_exit xcode_ret xops_nil xops_cons xd_nil xd_cons xstep_eq annot fillOf findFill findStore srcOf kcls cls qval qvalN xwant dstAt want1 xdo xop ev_const ev_global ev_func ev_zero ev_succ ev_undefs ev_hit ev_miss put_none put_len undefs_len xnil xfieldAddr fieldOf eT emtb seqQ blockQ xload xstore splice V.storable V.one V.cells mk xbinop xbin xun xbuiltin xindexAddr nilOr xindex xint cv cv1 retQ xres_tmp xres_cell xres_nil xresult xbuild xfill xbuildSlice xrows Nat.testBit places xfield item sideOk pendOk pendOf tyT1 tyT2 tyT3 tyT4 tyT5 tyT9 tyT22 tyT23 tyT24 tyT25 tyT26 tyT30 tyT34 tyT39 tyT41 tyT47 tyT48 tyT50 tyT53 tyT54 tyT56 tyT58 tyT63 tyT70 tyT76 tyT78 tyT80 tyT84 tyT87 tyT89 tyT96 tyT98 tyT100 tyT102 tyT108 tyT110 tyT112 tyT113 tyT115 tyT119 tyT121 tyT124 tyT138 tyT139 tyT141 tyT142 tyT143 tyT145 tyT147 tyT149 tyT155 tyT158 tyT164 tyT179 tyT186 tyT188 tyT189 tyT194 tyT197 tyT200 tyT216 tyT242 tyT245 isM bne PC.at_obj PC.put_at PC.at_at PC.at_eq H.put_same H.put_put Tok.v PC.at_next PC.at_ext PC.at_row PC.at_bump PC.at_grow PC.at_new PC.at_put PC.at_obj_ne H.new_self H.new_ne H.row_obj H.put_next TN.v_len TN.v_take TN.v_drop
theorem clip_calls (h : H) (id : Nat) (hid : id ≠ 0) (xs : List (List V)) : XCalls e 233 [.slc id 5 xs] h (fun v h' => v = .slc h.next 5 xs ∧ h' = h.bump) := by
  refine XCalls.of Tryz.func233 rfl (by kernel_rfl) ?_
  rw [Tryz.ntmps233]
  simp [-Int.natCast_add, xslice, hid]
theorem TN.vs_len (l : List TN) : (TN.vs l).length = l.length := by rw [TN.vs_map]; simp
theorem TN.vs_snoc (l : List TN) (t : TN) : TN.vs l ++ [t.v] = TN.vs (l ++ [t]) := by simp [TN.vs_map]
theorem TN.nds_snoc (l : List TN) (t : TN) : TN.nds l ++ [t.nd] = TN.nds (l ++ [t]) := by simp [TN.nds_map]
def ListJ (f : Nat) (c : PC) (h : H) (t : ByteArray) (l : List Nd) (s' : PS) : Nat → List V → H → Prop := fun m fr' h' => ∃ ts s1 h3 more id sz, m + List.length ts ≤ f ∧ pListL m c s1 t more (TN.nds ts) = some (l, s') ∧ h' = c.at_ h3 s1 ∧ Fr h h3 ∧ ((ts = [] ∧ id = 0 ∧ sz = 0 ∧ more = true ∧ (s1.e == 0) = true) ∨ (h.next ≤ id ∧ id < h3.next ∧ sz = 5 ∧ h3.ext id = some ts.length)) ∧ fr'.length = 30 ∧ ev fr' (.tmp 0) = .ptr c.p 0 ∧ ev fr' (.tmp 1) = .lit (.string t) ∧ ev fr' (.tmp 5) = .slc id sz (TN.vs ts) ∧ ev fr' (.tmp 6) = .lit (.bool more)
theorem list_step (f : Nat) (hf : f ≤ 1000000) (h1 : ∀ m, m ≤ f → CLevel m) (c : PC) (h : H) (s : PS) (t : ByteArray) (l : List Nd) (s' : PS) (hc : c.ok) (hp : c.p < h.next) (he : (s.e == 0) = true) (hs : pList (f + 1) c s t = some (l, s')) : XCalls e 209 [.ptr c.p 0, .lit (.string t)] (c.at_ h s) (NPost c h s' (LsV l)) := by
  unfold pList at hs
  refine XCalls.of Tryz.func209 rfl (by kernel_rfl) ?_
  rw [Tryz.ntmps209]
  simp [-Int.natCast_add]
  refine (op_calls c hc h s t).mono ?_
  rintro _ _ ⟨rfl, rfl⟩
  cases hb : isB c s 6 t
  · simp [hb] at hs
    simp [-Int.natCast_add, opS, hb]
    refine XW.loopH (ListJ f c h t l s') f ?_ ?_
    · refine ⟨[], s, h, true, 0, 0, Nat.le_refl _, hs, rfl, Fr.refl h, .inl ⟨rfl, rfl, rfl, rfl, he⟩, ?_⟩
      simp [-Int.natCast_add, TN.vs]
    · clear hs
      rintro m fr' h' ⟨ts, s1, h3, more, id, sz, hm, hs, rfl, hF, hid, e0, e1, e2, e3, e4⟩
      have p3 : c.p < h3.next := Nat.lt_of_lt_of_le hp hF.next
      cases m with
      | zero => unfold pListL at hs; cases hs
      | succ m =>
        unfold pListL at hs
        by_cases hgo : more = true ∧ (s1.e == 0) = true
        · obtain ⟨rfl, he1⟩ := hgo
          simp [he1] at hs
          split at hs
          case h_2 => cases hs
          rename_i m5 s5 hl
          simp [-Int.natCast_add, e0, e1, e2, e3, e4, he1]
          refine (h1 m (by omega) c h3 s1 1 m5 s5 hc p3 hl).mono ?_
          rintro _ _ ⟨h5, hF5, rfl, T, rfl, rfl⟩
          have p5 : c.p < h5.next := Nat.lt_of_lt_of_le p3 hF5.next
          have n5 : h5.next ≠ 0 := by omega
          have m1 : (ts.length + 1) * 64 ≤ 140737488355328 := by omega
          have m2 : ts.length + 1 ≤ maxLen := by unfold maxLen; omega
          rw [TN.nds_snoc] at hs
          rcases hid with ⟨rfl, rfl, rfl, _, _⟩ | ⟨g1, g2, rfl, g4⟩
          · simp [-Int.natCast_add, e0, e1, e2, e3, e4, xappend, n5, TN.vs, maxLen]
            refine (op_calls c hc _ s5 _).mono ?_
            rintro _ _ ⟨rfl, rfl⟩
            simp [-Int.natCast_add, e0, e1, e2, e3, e4]
            refine ⟨m, by omega, [T], _, _, _, _, 5, by simp; omega, hs, rfl, ((hF.trans hF5).trans (Fr.row _ _)).trans (Fr.row _ _), .inr ⟨?_, Nat.lt_succ_self _, rfl, H.row_ext_self _ _⟩, ?_⟩
            · exact (((hF.trans hF5).trans (Fr.row _ _))).next
            · simp [-Int.natCast_add, e0, e1, e2, e3, e4, TN.vs]
          · have hid0 : id ≠ 0 := by omega
            have g5 : (h5.row 1).ext id = some ts.length := by rw [H.row_ext_ne _ _ (Nat.lt_of_lt_of_le g2 hF5.next), hF5.ext id g2, g4]
            simp [-Int.natCast_add, e0, e1, e2, e3, e4, xappend, n5, TN.vs_len, hid0, g5, m1, m2]
            refine (op_calls c hc _ s5 _).mono ?_
            rintro _ _ ⟨rfl, rfl⟩
            simp [-Int.natCast_add, e0, e1, e2, e3, e4]
            refine ⟨m, by omega, ts ++ [T], _, _, _, _, 5, by simp; omega, hs, rfl, ((hF.trans hF5).trans (Fr.row _ _)).grow g1 _, .inr ⟨?_, Nat.lt_succ_self _, rfl, ?_⟩, ?_⟩
            · exact (((hF.trans hF5).trans (Fr.row _ _))).next
            · rw [H.grow_ext_self]; simp
            · simp [-Int.natCast_add, e0, e1, e2, e3, e4, TN.vs_snoc]
        · have hgo' : (more && (s1.e == 0)) = false := by
            cases more <;> cases hq : (s1.e == 0) <;> simp_all
          simp only [hgo'] at hs
          obtain ⟨rfl, rfl⟩ : TN.nds ts = l ∧ wantS c s1 t = s' := by simpa using hs
          rcases hid with ⟨rfl, rfl, rfl, rfl, he1⟩ | ⟨g1, g2, rfl, g4⟩
          · exact absurd ⟨rfl, he1⟩ hgo
          · have hid0 : id ≠ 0 := by omega
            have go : ∀ b : Bool, more = b → xcode e (.skip) (fun _ _ _ => True) fr' h3 := fun _ _ => trivial
            cases more
            · simp [-Int.natCast_add, e0, e1, e2, e3, e4]
              refine (want_calls c hc _ s1 _).mono ?_
              rintro _ _ ⟨rfl, rfl⟩
              simp [-Int.natCast_add, e0, e1, e2, e3, e4]
              refine (clip_calls _ id hid0 _).mono ?_
              rintro _ _ ⟨rfl, rfl⟩
              simp [-Int.natCast_add, e0, e1, e2, e3, e4]
              exact ⟨_, hF.trans (Fr.bump _), rfl, .inr ⟨_, ts, rfl, rfl⟩⟩
            · have he1 : (s1.e == 0) = false := by cases hq : (s1.e == 0) <;> simp_all
              simp [-Int.natCast_add, e0, e1, e2, e3, e4, he1]
              refine (want_calls c hc _ s1 _).mono ?_
              rintro _ _ ⟨rfl, rfl⟩
              simp [-Int.natCast_add, e0, e1, e2, e3, e4]
              refine (clip_calls _ id hid0 _).mono ?_
              rintro _ _ ⟨rfl, rfl⟩
              simp [-Int.natCast_add, e0, e1, e2, e3, e4]
              exact ⟨_, hF.trans (Fr.bump _), rfl, .inr ⟨_, ts, rfl, rfl⟩⟩
  · simp [hb] at hs
    obtain ⟨rfl, rfl⟩ := hs
    simp [-Int.natCast_add]
    exact ⟨_, Fr.refl h, rfl, .inl ⟨rfl, rfl⟩⟩
end Go.Proofs.YtjofmihdeblbmaaGreatDoor.Xa
/- XA, part RA: named, other. -/
namespace Go.Proofs.YtjofmihdeblbmaaGreatDoor.Xa
open Go Go.RowKit
set_option linter.unusedVariables false
set_option linter.unusedSimpArgs false
set_option maxRecDepth 100000
set_option maxHeartbeats 1000000
theorem wrap_succ2 {i : Nat} (h : i < 1000000) : IntKind.i64.wrap ((i : Int) + 2) = ((i + 2 : Nat) : Int) := by
  have : (i : Int) < 1000000 := by omega
  simp [IntKind.wrap, IntKind.bits, IntKind.signed]
  omega
attribute [local simp] hid2 hid3 hid4 xcode_skip xcode_region xcode_draw xcode_loop xcode_seq xcode_cond xcode_block xcode_scope xcode_exit xcode_ret xops_nil xops_cons xd_nil xd_cons xstep_eq annot fillOf findFill findStore srcOf kcls cls qval qvalN xwant dstAt want1 xdo xop ev_const ev_global ev_func ev_zero ev_succ ev_undefs ev_hit ev_miss put_none put_len undefs_len xnil xfieldAddr fieldOf eT emtb seqQ blockQ xload xstore splice V.storable V.one V.cells mk xbinop xbin xun xbuiltin xindexAddr nilOr xindex xint cv cv1 retQ xres_tmp xres_cell xres_nil xresult xbuild xfill xbuildSlice xrows Nat.testBit places xfield item sideOk pendOk pendOf tyT1 tyT2 tyT3 tyT4 tyT5 tyT9 tyT22 tyT23 tyT24 tyT25 tyT26 tyT30 tyT34 tyT39 tyT41 tyT47 tyT48 tyT50 tyT53 tyT54 tyT56 tyT58 tyT63 tyT70 tyT76 tyT78 tyT80 tyT84 tyT87 tyT89 tyT96 tyT98 tyT100 tyT102 tyT108 tyT110 tyT112 tyT113 tyT115 tyT119 tyT121 tyT124 tyT138 tyT139 tyT141 tyT142 tyT143 tyT145 tyT147 tyT149 tyT155 tyT158 tyT164 tyT179 tyT186 tyT188 tyT189 tyT194 tyT197 tyT200 tyT216 tyT242 tyT245 isM bne PC.at_obj PC.put_at PC.at_at PC.at_eq H.put_same H.put_put Tok.v PC.at_next PC.at_ext PC.at_row PC.at_bump PC.at_grow PC.at_new PC.at_put PC.at_obj_ne H.new_self H.new_ne H.row_obj H.put_next TN.v_len TN.v_take TN.v_drop
theorem nm1 (f : Nat) (hL : CList f) (c : PC) (hc : c.ok) (h : H) (hp : c.p < h.next) (s : PS) (hi : s.i + 2 ≤ c.toks.length) (he : (s.e == 0) = true) (q1 q4 : Nat) (n1 : q1 ≠ c.p) (n4 : q4 ≠ c.p) (l1 : q1 < h.next) (l4 : q4 < h.next) (tx : ByteArray)
    (o1 : h.obj q1 = some (.cells [.ptr c.p 0] 84)) (o4 : h.obj q4 = some (.cells [.lit (.int .i64 20), .lit (.int .i64 0), .lit (.string tx), .lit (.int .i64 0), .slc 0 0 []] 41))
    (l : List Nd) (s2 : PS) (hs : pList f c { s with i := s.i + 2 } ⟨#[41]⟩ = some (l, s2)) :
    XCalls e 208 [.ptr q1 0, .ptr q4 0] (c.at_ h s) (CPost c h q4 (.mk 20 0 tx 0 l) (outS s2)) := by
  refine XCalls.of Tryz.func208 rfl (by kernel_rfl) ?_
  rw [Tryz.ntmps208]
  have hw := wrap_succ2 (i := s.i) (by have := hc.len; omega)
  simp [-Int.natCast_add, n1, o1, hw]
  refine (hL c h { s with i := s.i + 2 } _ l s2 hc hp he hs).mono ?_
  rintro _ _ ⟨h2, hF, rfl, hv⟩
  have o4' := (hF.obj q4 l4).trans o4
  rcases hv with ⟨rfl, rfl⟩ | ⟨id, ts, rfl, rfl⟩
  · simp [-Int.natCast_add, n4, o4']
    exact ⟨_, s2, rfl, rfl, h2, .leaf 20 0 tx 0, hF, rfl, rfl⟩
  · simp [-Int.natCast_add, n4, o4']
    exact ⟨_, s2, rfl, rfl, h2, .mk 20 0 tx 0 id ts, hF, rfl, rfl⟩
theorem ot1 (f : Nat) (hL : CList f) (c : PC) (hc : c.ok) (h : H) (hp : c.p < h.next) (s : PS) (hi : s.i + 1 ≤ c.toks.length) (he : (s.e == 0) = true) (q1 q4 : Nat) (n1 : q1 ≠ c.p) (n4 : q4 ≠ c.p) (l1 : q1 < h.next) (l4 : q4 < h.next) (tx : ByteArray)
    (o1 : h.obj q1 = some (.cells [.ptr c.p 0] 84)) (o4 : h.obj q4 = some (.cells [.lit (.int .i64 21), .lit (.int .i64 0), .lit (.string tx), .lit (.int .i64 0), .slc 0 0 []] 41))
    (l : List Nd) (s2 : PS) (hs : pList f c { s with i := s.i + 1 } ⟨#[93]⟩ = some (l, s2)) :
    XCalls e 210 [.ptr q1 0, .ptr q4 0] (c.at_ h s) (CPost c h q4 (.mk 21 0 tx 0 l) (outS s2)) := by
  refine XCalls.of Tryz.func210 rfl (by kernel_rfl) ?_
  rw [Tryz.ntmps210]
  have hw := wrap_succ (i := s.i) (by have := hc.len; omega)
  simp [-Int.natCast_add, n1, o1, hw]
  refine (hL c h { s with i := s.i + 1 } _ l s2 hc hp he hs).mono ?_
  rintro _ _ ⟨h2, hF, rfl, hv⟩
  have o4' := (hF.obj q4 l4).trans o4
  rcases hv with ⟨rfl, rfl⟩ | ⟨id, ts, rfl, rfl⟩
  · simp [-Int.natCast_add, n4, o4']
    exact ⟨_, s2, rfl, rfl, h2, .leaf 21 0 tx 0, hF, rfl, rfl⟩
  · simp [-Int.natCast_add, n4, o4']
    exact ⟨_, s2, rfl, rfl, h2, .mk 21 0 tx 0 id ts, hF, rfl, rfl⟩
theorem ot2 (f : Nat) (h1 : CLevel f) (c : PC) (hc : c.ok) (h : H) (hp : c.p < h.next) (s : PS) (hi : s.i < c.toks.length) (q1 q4 : Nat) (n1 : q1 ≠ c.p) (n4 : q4 ≠ c.p) (l1 : q1 < h.next) (l4 : q4 < h.next) (hq : q1 ≠ q4) (T0 : TN)
    (o1 : h.obj q1 = some (.cells [.ptr c.p 0] 84)) (o4 : h.obj q4 = some (.cells T0.v 41))
    (m : Nd) (s2 : PS) (hs : pLevel f c { s with i := s.i + 1 } 1 = some (m, s2)) :
    XCalls e 211 [.ptr q1 0, .ptr q4 0] (c.at_ h s) (CPost c h q4 m (outS (wantS c s2 ⟨#[41]⟩))) := by
  refine XCalls.of Tryz.func211 rfl (by kernel_rfl) ?_
  rw [Tryz.ntmps211]
  have hw := wrap_succ (i := s.i) (by have := hc.len; omega)
  simp [-Int.natCast_add, n1, o1, hw]
  refine (h1 c h _ 1 m s2 hc hp hs).mono ?_
  rintro _ _ ⟨h2, hF, rfl, t, rfl, rfl⟩
  have o4' := (hF.obj q4 l4).trans o4
  have o1' := (hF.obj q1 l1).trans o1
  simp [-Int.natCast_add, n1, n4, o4', o1', H.put_ne, hq]
  refine (want_calls c hc _ s2 _).mono ?_
  rintro _ _ ⟨rfl, rfl⟩
  simp [-Int.natCast_add]
  exact ⟨_, wantS c s2 ⟨#[41]⟩, rfl, rfl, h2, t, hF, rfl, rfl⟩
end Go.Proofs.YtjofmihdeblbmaaGreatDoor.Xa
/- XA, part RB: named, other. -/
namespace Go.Proofs.YtjofmihdeblbmaaGreatDoor.Xa
open Go Go.RowKit
set_option linter.unusedVariables false
set_option linter.unusedSimpArgs false
set_option maxRecDepth 100000
set_option maxHeartbeats 1000000
theorem calls1_lt {c : PC} {s : PS} (h : calls1 c s = true) : s.i + 1 < c.toks.length := by
  refine Classical.byContradiction fun hn => ?_
  unfold calls1 at h
  rw [List.getElem?_eq_none (by omega)] at h
  cases h
theorem nm_within (f : Nat) (hL : CList f) (c : PC) (hc : c.ok) (h : H) (hp : c.p < h.next) (s : PS) (hi : s.i + 2 ≤ c.toks.length) (q1 q4 : Nat) (n1 : q1 ≠ c.p) (n4 : q4 ≠ c.p) (l1 : q1 < h.next) (l4 : q4 < h.next) (tx : ByteArray)
    (o1 : h.obj q1 = some (.cells [.ptr c.p 0] 84)) (o4 : h.obj q4 = some (.cells [.lit (.int .i64 20), .lit (.int .i64 0), .lit (.string tx), .lit (.int .i64 0), .slc 0 0 []] 41))
    (nd : Nd) (s' : PS) (hs : (if (entS c s).e = 0 then match pList f c (inS (entS c s) 2) ⟨#[41]⟩ with
        | some (l, s2) => some (Nd.mk 20 0 tx 0 l, outS s2)
        | none => none
      else some (Nd.mk 20 0 tx 0 [], entS c s)) = some (nd, s')) :
    XCalls e 123 [.ptr c.p 0, .fn 208 [.ptr q1 0, .ptr q4 0]] (c.at_ h s) (WPost c (TK h q4 nd s')) := by
  have hei := entS_i c s
  refine within_calls c h s _ _ _ (fun he => ?_) (fun he => ?_)
  · rw [if_pos he] at hs
    split at hs
    case h_2 => cases hs
    rename_i l s2 hl
    simp only [Option.some.injEq, Prod.mk.injEq] at hs
    obtain ⟨rfl, rfl⟩ := hs
    exact nm1 f hL c hc h hp { entS c s with deep := wr ((entS c s).deep + 1) } (by show (entS c s).i + 2 ≤ _; rw [hei]; exact hi) (by simpa using he) q1 q4 n1 n4 l1 l4 tx o1 o4 l s2 hl
  · rw [if_neg he] at hs
    simp only [Option.some.injEq, Prod.mk.injEq] at hs
    obtain ⟨rfl, rfl⟩ := hs
    exact ⟨rfl, h, .leaf 20 0 tx 0, Fr.refl h, (H.put_self (o4.trans rfl)).symm, rfl⟩
theorem ot_within (f : Nat) (hL : CList f) (c : PC) (hc : c.ok) (h : H) (hp : c.p < h.next) (s : PS) (hi : s.i + 1 ≤ c.toks.length) (q1 q4 : Nat) (n1 : q1 ≠ c.p) (n4 : q4 ≠ c.p) (l1 : q1 < h.next) (l4 : q4 < h.next) (tx : ByteArray)
    (o1 : h.obj q1 = some (.cells [.ptr c.p 0] 84)) (o4 : h.obj q4 = some (.cells [.lit (.int .i64 21), .lit (.int .i64 0), .lit (.string tx), .lit (.int .i64 0), .slc 0 0 []] 41))
    (nd : Nd) (s' : PS) (hs : (if (entS c s).e = 0 then match pList f c (inS (entS c s) 1) ⟨#[93]⟩ with
        | some (l, s2) => some (Nd.mk 21 0 tx 0 l, outS s2)
        | none => none
      else some (Nd.mk 21 0 tx 0 [], entS c s)) = some (nd, s')) :
    XCalls e 123 [.ptr c.p 0, .fn 210 [.ptr q1 0, .ptr q4 0]] (c.at_ h s) (WPost c (TK h q4 nd s')) := by
  have hei := entS_i c s
  refine within_calls c h s _ _ _ (fun he => ?_) (fun he => ?_)
  · rw [if_pos he] at hs
    split at hs
    case h_2 => cases hs
    rename_i l s2 hl
    simp only [Option.some.injEq, Prod.mk.injEq] at hs
    obtain ⟨rfl, rfl⟩ := hs
    exact ot1 f hL c hc h hp { entS c s with deep := wr ((entS c s).deep + 1) } (by show (entS c s).i + 1 ≤ _; rw [hei]; exact hi) (by simpa using he) q1 q4 n1 n4 l1 l4 tx o1 o4 l s2 hl
  · rw [if_neg he] at hs
    simp only [Option.some.injEq, Prod.mk.injEq] at hs
    obtain ⟨rfl, rfl⟩ := hs
    exact ⟨rfl, h, .leaf 21 0 tx 0, Fr.refl h, (H.put_self (o4.trans rfl)).symm, rfl⟩
attribute [local simp] hid2 hid3 hid4 xcode_skip xcode_region xcode_draw xcode_loop xcode_seq xcode_cond xcode_block xcode_scope xcode_exit xcode_ret xops_nil xops_cons xd_nil xd_cons xstep_eq annot fillOf findFill findStore srcOf kcls cls qval qvalN xwant dstAt want1 xdo xop ev_const ev_global ev_func ev_zero ev_succ ev_undefs ev_hit ev_miss put_none put_len undefs_len xnil xfieldAddr fieldOf eT emtb seqQ blockQ xload xstore splice V.storable V.one V.cells mk xbinop xbin xun xbuiltin xindexAddr nilOr xindex xint cv cv1 retQ xres_tmp xres_cell xres_nil xresult xbuild xfill xbuildSlice xrows Nat.testBit places xfield item sideOk pendOk pendOf tyT1 tyT2 tyT3 tyT4 tyT5 tyT9 tyT22 tyT23 tyT24 tyT25 tyT26 tyT30 tyT34 tyT39 tyT41 tyT47 tyT48 tyT50 tyT53 tyT54 tyT56 tyT58 tyT63 tyT70 tyT76 tyT78 tyT80 tyT84 tyT87 tyT89 tyT96 tyT98 tyT100 tyT102 tyT108 tyT110 tyT112 tyT113 tyT115 tyT119 tyT121 tyT124 tyT138 tyT139 tyT141 tyT142 tyT143 tyT145 tyT147 tyT149 tyT155 tyT158 tyT164 tyT179 tyT186 tyT188 tyT189 tyT194 tyT197 tyT200 tyT216 tyT242 tyT245 isM bne PC.at_obj PC.put_at PC.at_at PC.at_eq H.put_same H.put_put Tok.v PC.at_next PC.at_ext PC.at_row PC.at_bump PC.at_grow PC.at_new PC.at_put PC.at_obj_ne H.new_self H.new_ne H.row_obj H.put_next TN.v_len TN.v_take TN.v_drop
theorem named_step (f : Nat) (hL : CList f) : CNamed (f + 1) := by
  intro c h s nd s' hc hp hi hs
  unfold pNamed at hs
  refine XCalls.of Tryz.func176 rfl (by kernel_rfl) ?_
  rw [Tryz.ntmps176]
  obtain ⟨a1, a2, a3, b1, b2, b3⟩ := new2 h c.p hp
  obtain ⟨d1, d2, d3, d4, d5, d6, d7, d8⟩ := new3 h
  have hw := wrap_succ (i := s.i) (by have := hc.len; omega)
  simp [-Int.natCast_add, a1, a2, b1, b2, d1, d3, hp]
  refine XW.drawB mixed (L := List.range 14) (B := [0, 1, 3, 7, 0, 16, 48, 112, 255, 511, 1023, 2047, 0, 8191]) (by kernel_rfl) (by kernel_rfl) ?_
  simp only [List.range, List.range.loop, List.map_cons, List.map_nil, item]
  simp only [annot, fillOf, findFill, findStore, srcOf, List.getD_cons_succ, List.getD_cons_zero]
  simp [-Int.natCast_add, a1, a2, a3, b1, b2, b3, d1, d2, d3, d4, d5, d6, d7, hp, hi, H.put_ne]
  refine XW.drawH mixed (L := List.range 41) (by kernel_rfl) ?_
  simp only [List.range, List.range.loop, List.map_cons, List.map_nil, item]
  simp only [annot, fillOf, findFill, findStore, srcOf, List.getD_cons_succ, List.getD_cons_zero]
  cases hc1 : calls1 c s
  · simp [hc1] at hs
    obtain ⟨rfl, rfl⟩ := hs
    rcases Nat.lt_or_ge (s.i + 1) c.toks.length with hi2 | hi2
    · have hi2' : ((s.i + 1 : Nat) : Int) < (c.toks.length : Int) := by omega
      cases hk : (c.toks[s.i + 1].kind == 6)
      · simp [-Int.natCast_add, a1, a2, a3, b1, b2, b3, d1, d2, d3, d4, d5, d6, d7, hp, hi, H.put_ne, hw, leB_f, hi2, hi2', hk]
        refine ⟨_, ((((((Fr.new _ _).trans (Fr.new _ _)).trans (Fr.new _ _)).put (Nat.le_of_lt (d2 _ _)) _).put (Nat.le_of_lt (d1 _)) _)), rfl, .leaf 19 0 (textAt c s.i) 0, ?_, rfl⟩
        simp [TN.v, textAt, hi]
      · have ht : (c.toks[s.i + 1].text.toList == (⟨#[40]⟩ : ByteArray).toList) = false := by
          rw [calls1_old] at hc1
          rw [List.getElem?_eq_getElem hi2] at hc1
          simpa [hk] using hc1
        simp [-Int.natCast_add, a1, a2, a3, b1, b2, b3, d1, d2, d3, d4, d5, d6, d7, hp, hi, H.put_ne, hw, leB_f, hi2, hi2', hk, ht]
        refine ⟨_, ((((((Fr.new _ _).trans (Fr.new _ _)).trans (Fr.new _ _)).put (Nat.le_of_lt (d2 _ _)) _).put (Nat.le_of_lt (d1 _)) _)), rfl, .leaf 19 0 (textAt c s.i) 0, ?_, rfl⟩
        simp [TN.v, textAt, hi]
    · have hi2' : (c.toks.length : Int) ≤ ((s.i + 1 : Nat) : Int) := by omega
      simp [-Int.natCast_add, a1, a2, a3, b1, b2, b3, d1, d2, d3, d4, d5, d6, d7, hp, hi, H.put_ne, hw, leB_t, hi2, hi2']
      refine ⟨_, ((((((Fr.new _ _).trans (Fr.new _ _)).trans (Fr.new _ _)).put (Nat.le_of_lt (d2 _ _)) _).put (Nat.le_of_lt (d1 _)) _)), rfl, .leaf 19 0 (textAt c s.i) 0, ?_, rfl⟩
      simp [TN.v, textAt, hi]
  · have hi2 := calls1_lt hc1
    have hi2' : ((s.i + 1 : Nat) : Int) < (c.toks.length : Int) := by omega
    have hkt : (c.toks[s.i + 1].kind == 6) = true ∧ (c.toks[s.i + 1].text.toList == (⟨#[40]⟩ : ByteArray).toList) = true := by
      rw [calls1_old] at hc1
      rw [List.getElem?_eq_getElem hi2] at hc1
      simpa using hc1
    obtain ⟨hk, ht⟩ := hkt
    simp [hc1] at hs
    simp [-Int.natCast_add, a1, a2, a3, b1, b2, b3, d1, d2, d3, d4, d5, d6, d7, hp, hi, H.put_ne, hw, leB_f, hi2, hi2', hk, ht]
    refine (nm_within f hL c hc _ ?_ s (by omega) _ _ b1 (b3 _ _) ?_ ?_ (textAt c s.i) ?_ ?_ nd s' hs).mono ?_
    · exact a3 (.cells [] 0) (.cells [] 0) (.cells [] 0)
    · exact d8 (.cells [] 0) (.cells [] 0) (.cells [] 0)
    · exact Nat.lt_succ_self _
    · simp [H.put_ne, H.new_ne, H.new_self, d1, d2, d6]
    · simp [H.put_same, textAt, hi]
    rintro _ _ ⟨rfl, h5, s5, rfl, rfl, h2, T, hF, rfl, rfl⟩
    have o2 := hF.obj ((h.new (.cells [.ptr c.p 0] 84)).next) (Nat.lt_succ_of_lt (d3 _ _))
    simp [H.put_ne, H.new_ne, H.new_self, d3, d7] at o2
    simp [-Int.natCast_add, b1, b2, b3, d7, H.put_ne, o2]
    refine ⟨_, ((((((Fr.new _ _).trans (Fr.new _ _)).trans (Fr.new _ _)).put (Nat.le_of_lt (d2 _ _)) _).trans hF).put (Nat.le_of_lt (d2 _ _)) _).put (Nat.le_of_lt (d1 _)) _, rfl, T, rfl, rfl⟩
end Go.Proofs.YtjofmihdeblbmaaGreatDoor.Xa
/- XA, part RC: other. -/
namespace Go.Proofs.YtjofmihdeblbmaaGreatDoor.Xa
open Go Go.RowKit
set_option linter.unusedVariables false
set_option linter.unusedSimpArgs false
set_option maxRecDepth 100000
set_option maxHeartbeats 1000000
theorem op_within (f : Nat) (h1 : CLevel f) (c : PC) (hc : c.ok) (h : H) (hp : c.p < h.next) (s : PS) (hi : s.i < c.toks.length) (q1 q4 : Nat) (n1 : q1 ≠ c.p) (n4 : q4 ≠ c.p) (l1 : q1 < h.next) (l4 : q4 < h.next) (hq : q1 ≠ q4)
    (o1 : h.obj q1 = some (.cells [.ptr c.p 0] 84)) (o4 : h.obj q4 = some (.cells [.lit (.int .i64 18), .lit (.int .i64 0), .lit (.string ⟨#[]⟩), .lit (.int .i64 0), .slc 0 0 []] 41))
    (nd : Nd) (s' : PS) (hs : (if (entS c s).e = 0 then match pLevel f c (inS (entS c s) 1) 1 with
        | some (m, s2) => some (m, outS (wantS c s2 ⟨#[41]⟩))
        | none => none
      else some (Nd.mk 18 0 ⟨#[]⟩ 0 [], entS c s)) = some (nd, s')) :
    XCalls e 123 [.ptr c.p 0, .fn 211 [.ptr q1 0, .ptr q4 0]] (c.at_ h s) (WPost c (TK h q4 nd s')) := by
  have hei := entS_i c s
  refine within_calls c h s _ _ _ (fun he => ?_) (fun he => ?_)
  · rw [if_pos he] at hs
    split at hs
    case h_2 => cases hs
    rename_i m s2 hl
    simp only [Option.some.injEq, Prod.mk.injEq] at hs
    obtain ⟨rfl, rfl⟩ := hs
    exact ot2 f h1 c hc h hp { entS c s with deep := wr ((entS c s).deep + 1) } (by show (entS c s).i < _; rw [hei]; exact hi) q1 q4 n1 n4 l1 l4 hq (.leaf 18 0 ⟨#[]⟩ 0) o1 (o4.trans rfl) m s2 hl
  · rw [if_neg he] at hs
    simp only [Option.some.injEq, Prod.mk.injEq] at hs
    obtain ⟨rfl, rfl⟩ := hs
    exact ⟨rfl, h, .leaf 18 0 ⟨#[]⟩ 0, Fr.refl h, (H.put_self (o4.trans rfl)).symm, rfl⟩
attribute [local simp] hid2 hid3 hid4 xcode_skip xcode_region xcode_draw xcode_loop xcode_seq xcode_cond xcode_block xcode_scope xcode_exit xcode_ret xops_nil xops_cons xd_nil xd_cons xstep_eq annot fillOf findFill findStore srcOf kcls cls qval qvalN xwant dstAt want1 xdo xop ev_const ev_global ev_func ev_zero ev_succ ev_undefs ev_hit ev_miss put_none put_len undefs_len xnil xfieldAddr fieldOf eT emtb seqQ blockQ xload xstore splice V.storable V.one V.cells mk xbinop xbin xun xbuiltin xindexAddr nilOr xindex xint cv cv1 retQ xres_tmp xres_cell xres_nil xresult xbuild xfill xbuildSlice xrows Nat.testBit places xfield item sideOk pendOk pendOf tyT1 tyT2 tyT3 tyT4 tyT5 tyT9 tyT22 tyT23 tyT24 tyT25 tyT26 tyT30 tyT34 tyT39 tyT41 tyT47 tyT48 tyT50 tyT53 tyT54 tyT56 tyT58 tyT63 tyT70 tyT76 tyT78 tyT80 tyT84 tyT87 tyT89 tyT96 tyT98 tyT100 tyT102 tyT108 tyT110 tyT112 tyT113 tyT115 tyT119 tyT121 tyT124 tyT138 tyT139 tyT141 tyT142 tyT143 tyT145 tyT147 tyT149 tyT155 tyT158 tyT164 tyT179 tyT186 tyT188 tyT189 tyT194 tyT197 tyT200 tyT216 tyT242 tyT245 isM bne PC.at_obj PC.put_at PC.at_at PC.at_eq H.put_same H.put_put Tok.v PC.at_next PC.at_ext PC.at_row PC.at_bump PC.at_grow PC.at_new PC.at_put PC.at_obj_ne H.new_self H.new_ne H.row_obj H.put_next TN.v_len TN.v_take TN.v_drop
theorem other_step (f : Nat) (hL : CList f) (h1 : CLevel f) : COther (f + 1) := by
  intro c h s nd s' hc hp hs
  unfold pOther at hs
  refine XCalls.of Tryz.func177 rfl (by kernel_rfl) ?_
  rw [Tryz.ntmps177]
  obtain ⟨a1, a2, a3, b1, b2, b3⟩ := new2 h c.p hp
  obtain ⟨d1, d2, d3, d4, d5, d6, d7, d8⟩ := new3 h
  simp [-Int.natCast_add, a1, a2, a3, b1, b2, b3, d1, d2, d3, d4, d5, d6, d7, hp, H.put_ne]
  refine (word_calls c hc _ s _).mono ?_
  rintro _ _ ⟨rfl, rfl⟩
  cases g1 : isB c s 2 ⟨#[110, 105, 108]⟩
  · simp [g1] at hs
    simp [-Int.natCast_add, a1, a2, a3, b1, b2, b3, d1, d2, d3, d4, d5, d6, d7, hp, H.put_ne, opS, g1]
    refine (is_calls c _ s 6 _).mono ?_
    rintro _ _ ⟨rfl, rfl⟩
    cases g2 : isB c s 6 ⟨#[91]⟩
    · simp [g2] at hs
      simp [-Int.natCast_add, a1, a2, a3, b1, b2, b3, d1, d2, d3, d4, d5, d6, d7, hp, H.put_ne]
      refine (is_calls c _ s 6 _).mono ?_
      rintro _ _ ⟨rfl, rfl⟩
      cases g3 : isB c s 6 ⟨#[40]⟩
      · simp [g3] at hs
        obtain ⟨rfl, rfl⟩ := hs
        simp [-Int.natCast_add, a1, a2, a3, b1, b2, b3, d1, d2, d3, d4, d5, d6, d7, hp, H.put_ne]
        refine (wrong_calls c _ s 10).mono ?_
        rintro _ _ ⟨rfl, rfl⟩
        simp [-Int.natCast_add, a1, a2, a3, b1, b2, b3, d1, d2, d3, d4, d5, d6, d7, hp, H.put_ne]
        refine ⟨_, ((((((Fr.new _ _).trans (Fr.new _ _)).trans (Fr.new _ _)).put (Nat.le_of_lt (d2 _ _)) _).put (Nat.le_of_lt (d1 _)) _)), rfl, .leaf 18 0 ⟨#[]⟩ 0, rfl, rfl⟩
      · simp [g3] at hs
        simp [-Int.natCast_add, a1, a2, a3, b1, b2, b3, d1, d2, d3, d4, d5, d6, d7, hp, H.put_ne]
        refine (op_within f h1 c hc _ ?_ s (isB_lt g3) _ _ b1 (b3 _ _) ?_ ?_ (d6 _ _) ?_ ?_ nd s' hs).mono ?_
        · exact a3 (.cells [] 0) (.cells [] 0) (.cells [] 0)
        · exact d8 (.cells [] 0) (.cells [] 0) (.cells [] 0)
        · exact Nat.lt_succ_self _
        · simp [H.put_ne, H.new_ne, H.new_self, d1, d2, d6]
        · simp [H.put_same]
        rintro _ _ ⟨rfl, h5, s5, rfl, rfl, h2, T, hF, rfl, rfl⟩
        have o2 := hF.obj ((h.new (.cells [.ptr c.p 0] 84)).next) (Nat.lt_succ_of_lt (d3 _ _))
        simp [H.put_ne, H.new_ne, H.new_self, d3, d7] at o2
        simp [-Int.natCast_add, b1, b2, b3, d7, H.put_ne, o2]
        exact ⟨_, ((((((Fr.new _ _).trans (Fr.new _ _)).trans (Fr.new _ _)).put (Nat.le_of_lt (d2 _ _)) _).trans hF).put (Nat.le_of_lt (d2 _ _)) _).put (Nat.le_of_lt (d1 _)) _, rfl, T, rfl, rfl⟩
    · simp [g2] at hs
      simp [-Int.natCast_add, a1, a2, a3, b1, b2, b3, d1, d2, d3, d4, d5, d6, d7, hp, H.put_ne]
      refine (ot_within f hL c hc _ ?_ s (isB_lt g2) _ _ b1 (b3 _ _) ?_ ?_ ⟨#[]⟩ ?_ ?_ nd s' hs).mono ?_
      · exact a3 (.cells [] 0) (.cells [] 0) (.cells [] 0)
      · exact d8 (.cells [] 0) (.cells [] 0) (.cells [] 0)
      · exact Nat.lt_succ_self _
      · simp [H.put_ne, H.new_ne, H.new_self, d1, d2, d6]
      · simp [H.put_same]
      rintro _ _ ⟨rfl, h5, s5, rfl, rfl, h2, T, hF, rfl, rfl⟩
      have o2 := hF.obj ((h.new (.cells [.ptr c.p 0] 84)).next) (Nat.lt_succ_of_lt (d3 _ _))
      simp [H.put_ne, H.new_ne, H.new_self, d3, d7] at o2
      simp [-Int.natCast_add, b1, b2, b3, d7, H.put_ne, o2]
      exact ⟨_, ((((((Fr.new _ _).trans (Fr.new _ _)).trans (Fr.new _ _)).put (Nat.le_of_lt (d2 _ _)) _).trans hF).put (Nat.le_of_lt (d2 _ _)) _).put (Nat.le_of_lt (d1 _)) _, rfl, T, rfl, rfl⟩
  · simp [g1] at hs
    obtain ⟨rfl, rfl⟩ := hs
    simp [-Int.natCast_add, a1, a2, a3, b1, b2, b3, d1, d2, d3, d4, d5, d6, d7, hp, H.put_ne]
    refine ⟨_, ((((((Fr.new _ _).trans (Fr.new _ _)).trans (Fr.new _ _)).put (Nat.le_of_lt (d2 _ _)) _).put (Nat.le_of_lt (d1 _)) _)), rfl, .leaf 18 0 ⟨#[]⟩ 0, rfl, rfl⟩
end Go.Proofs.YtjofmihdeblbmaaGreatDoor.Xa
/- XA, part R1: level. -/
namespace Go.Proofs.YtjofmihdeblbmaaGreatDoor.Xa
open Go Go.RowKit
set_option linter.unusedVariables false
set_option linter.unusedSimpArgs false
set_option maxRecDepth 100000
set_option maxHeartbeats 1000000
attribute [local simp] hid2 hid3 hid4 xcode_skip xcode_region xcode_draw xcode_loop xcode_seq xcode_cond xcode_block xcode_scope xcode_exit xcode_ret xops_nil xops_cons xd_nil xd_cons xstep_eq annot fillOf findFill findStore srcOf kcls cls qval qvalN xwant dstAt want1 xdo xop ev_const ev_global ev_func ev_zero ev_succ ev_undefs ev_hit ev_miss put_none put_len undefs_len xnil xfieldAddr fieldOf eT emtb seqQ blockQ xload xstore splice V.storable V.one V.cells mk xbinop xbin xun xbuiltin xindexAddr nilOr xindex xint cv cv1 retQ xres_tmp xres_cell xres_nil xresult xbuild xfill xbuildSlice xrows Nat.testBit places xfield item sideOk pendOk pendOf tyT1 tyT2 tyT3 tyT4 tyT5 tyT9 tyT22 tyT23 tyT24 tyT25 tyT26 tyT30 tyT34 tyT39 tyT41 tyT47 tyT48 tyT50 tyT53 tyT54 tyT56 tyT58 tyT63 tyT70 tyT76 tyT78 tyT80 tyT84 tyT87 tyT89 tyT96 tyT98 tyT100 tyT102 tyT108 tyT110 tyT112 tyT113 tyT115 tyT119 tyT121 tyT124 tyT138 tyT139 tyT141 tyT142 tyT143 tyT145 tyT147 tyT149 tyT155 tyT158 tyT164 tyT179 tyT186 tyT188 tyT189 tyT194 tyT197 tyT200 tyT216 tyT242 tyT245 isM bne PC.at_obj PC.put_at PC.at_at PC.at_eq H.put_same H.put_put Tok.v PC.at_next PC.at_ext PC.at_row PC.at_bump PC.at_grow PC.at_new PC.at_put PC.at_obj_ne H.new_self H.new_ne H.row_obj H.put_next TN.v_len TN.v_take TN.v_drop
theorem level_step (f : Nat) (h1 : CLogic f) (h2 : CRow f) (h3 : CUnary f) (h4 : CIndex f) : CLevel (f + 1) := by
  intro c h s n nd s' hc hp hs
  unfold pLevel at hs
  refine XCalls.of Tryz.func41 rfl (by kernel_rfl) ?_
  rw [Tryz.ntmps41]
  have q2 : h.next ≠ c.p := by omega
  have q1 : ∀ o, c.p < (h.new o).next := fun o => Nat.lt_succ_of_lt hp
  have q3 : ∀ o, h.next < (h.new o).next := fun o => Nat.lt_succ_self _
  cases he : (s.e == 0)
  · simp [he] at hs
    obtain ⟨rfl, rfl⟩ := hs
    simp [-Int.natCast_add, he, hp, q2]
    exact ⟨_, (Fr.new _ _).put (Nat.le_refl _) _, rfl, .leaf 0 0 ⟨#[]⟩ 0, rfl, rfl⟩
  · simp [he] at hs
    cases g1 : leB n 2
    · cases g2 : ltB n 6
      · cases g3 : (n == 6)
        · have g3' : ¬ n = 6 := by simpa using g3
          simp [g1, g2, g3'] at hs
          simp [-Int.natCast_add, he, hp, q2, g1, g2, g3]
          refine (h4 c _ s nd s' hc (q1 _) hs).mono ?_
          rintro _ _ ⟨h2, hF, rfl, t, rfl, rfl⟩
          have ho := hF.obj h.next (q3 _)
          rw [H.new_self] at ho
          simp [-Int.natCast_add, ho, q2]
          exact ⟨_, ((Fr.new _ _).trans hF).put (Nat.le_refl _) _, rfl, t, rfl, rfl⟩
        · have g3' : n = 6 := by simpa using g3
          simp [g1, g2, g3'] at hs
          simp [-Int.natCast_add, he, hp, q2, g1, g2, g3]
          refine (h3 c _ s nd s' hc (q1 _) ?_).mono ?_
          · subst g3'
            simpa [leB, ltB] using hs
          rintro _ _ ⟨h2, hF, rfl, t, rfl, rfl⟩
          have ho := hF.obj h.next (q3 _)
          rw [H.new_self] at ho
          simp [-Int.natCast_add, ho, q2]
          exact ⟨_, ((Fr.new _ _).trans hF).put (Nat.le_refl _) _, rfl, t, rfl, rfl⟩
      · simp [g1, g2] at hs
        simp [-Int.natCast_add, he, hp, q2, g1, g2]
        refine (h2 c _ s n nd s' hc (q1 _) hs).mono ?_
        rintro _ _ ⟨h2, hF, rfl, t, rfl, rfl⟩
        have ho := hF.obj h.next (q3 _)
        rw [H.new_self] at ho
        simp [-Int.natCast_add, ho, q2]
        exact ⟨_, ((Fr.new _ _).trans hF).put (Nat.le_refl _) _, rfl, t, rfl, rfl⟩
    · simp [g1] at hs
      simp [-Int.natCast_add, he, hp, q2, g1]
      refine (h1 c _ s n nd s' hc (q1 _) hs).mono ?_
      rintro _ _ ⟨h2, hF, rfl, t, rfl, rfl⟩
      have ho := hF.obj h.next (q3 _)
      rw [H.new_self] at ho
      simp [-Int.natCast_add, ho, q2]
      exact ⟨_, ((Fr.new _ _).trans hF).put (Nat.le_refl _) _, rfl, t, rfl, rfl⟩
end Go.Proofs.YtjofmihdeblbmaaGreatDoor.Xa
