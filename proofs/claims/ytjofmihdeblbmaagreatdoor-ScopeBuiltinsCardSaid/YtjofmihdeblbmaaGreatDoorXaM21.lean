/- XA, joined: XaR2 XaR3 XaR4 XaR7. -/
import Derived.Test.YtjofmihdeblbmaaGreatDoorXaM19
/- XA, part R2: logic. -/
namespace Go.Proofs.YtjofmihdeblbmaaGreatDoor.Xa
open Go Go.RowKit
set_option linter.unusedVariables false
set_option linter.unusedSimpArgs false
set_option maxRecDepth 100000
set_option maxHeartbeats 1000000
attribute [local simp] hid2 hid3 hid4 xcode_skip xcode_region xcode_draw xcode_loop xcode_seq xcode_cond xcode_block xcode_scope xcode_exit xcode_ret xops_nil xops_cons xd_nil xd_cons xstep_eq annot fillOf findFill findStore srcOf kcls cls qval qvalN xwant dstAt want1 xdo xop ev_const ev_global ev_func ev_zero ev_succ ev_undefs ev_hit ev_miss put_none put_len undefs_len xnil xfieldAddr fieldOf eT emtb seqQ blockQ xload xstore splice V.storable V.one V.cells mk xbinop xbin xun xbuiltin xindexAddr nilOr xindex xint cv cv1 retQ xres_tmp xres_cell xres_nil xresult xbuild xfill xbuildSlice xrows Nat.testBit places xfield item sideOk pendOk pendOf tyT1 tyT2 tyT3 tyT4 tyT5 tyT9 tyT22 tyT23 tyT24 tyT25 tyT26 tyT30 tyT34 tyT39 tyT41 tyT47 tyT48 tyT50 tyT53 tyT54 tyT56 tyT58 tyT63 tyT70 tyT76 tyT78 tyT80 tyT84 tyT87 tyT89 tyT96 tyT98 tyT100 tyT102 tyT108 tyT110 tyT112 tyT113 tyT115 tyT119 tyT121 tyT124 tyT138 tyT139 tyT141 tyT142 tyT143 tyT145 tyT147 tyT149 tyT155 tyT158 tyT164 tyT179 tyT186 tyT188 tyT189 tyT194 tyT197 tyT200 tyT216 tyT242 tyT245 isM bne PC.at_obj PC.put_at PC.at_at PC.at_eq H.put_same H.put_put Tok.v PC.at_next PC.at_ext PC.at_row PC.at_bump PC.at_grow PC.at_new PC.at_put PC.at_obj_ne H.new_self H.new_ne H.row_obj H.put_next TN.v_len TN.v_take TN.v_drop
theorem logic_step (f : Nat) (h1 : ∀ m, m ≤ f → CLevel m) : CLogic (f + 1) := by
  intro c h s n nd s' hc hp hs
  unfold pLogic at hs
  refine XCalls.of Tryz.func73 rfl (by kernel_rfl) ?_
  rw [Tryz.ntmps73]
  have q2 : h.next ≠ c.p := by omega
  have q1 : ∀ o, c.p < (h.new o).next := fun o => Nat.lt_succ_of_lt hp
  have q3 : ∀ o, h.next < (h.new o).next := fun o => Nat.lt_succ_self _
  split at hs
  case h_2 => cases hs
  rename_i nd1 s1 hl
  cases g1 : (n == 2)
  · simp [g1] at hs
    simp [-Int.natCast_add, hp, q2, g1]
    refine (h1 f (Nat.le_refl f) c _ s (wr (n + 1)) nd1 s1 hc (q1 _) hl).mono ?_
    rintro _ _ ⟨h2, hF, rfl, t, rfl, rfl⟩
    have ho := hF.obj h.next (q3 _)
    rw [H.new_self] at ho
    have p2 : c.p < h2.next := Nat.lt_of_lt_of_le (q1 _) hF.next
    have q4 : h2.next ≠ c.p := by omega
    have q5 : h.next < h2.next := Nat.lt_of_lt_of_le (q3 _) hF.next
    simp [-Int.natCast_add, ho, q2, p2, q4]
    refine XW.loopH (fun m fr' h' => m ≤ f ∧ ∃ nd1 s1 h3 t, pLogicL m c s1 ⟨#[124, 124]⟩ 13 n nd1 = some (nd, s') ∧ h' = c.at_ h3 s1 ∧ Fr h2 h3 ∧ h2.next < h3.next ∧ h3.obj h2.next = some (.cells (TN.v t) 41) ∧ t.nd = nd1 ∧ fr'.length = 26 ∧ ev fr' (.tmp 0) = .ptr c.p 0 ∧ ev fr' (.tmp 1) = .lit (.int .i64 n) ∧ ev fr' (.tmp 4) = .ptr h.next 0 ∧ ev fr' (.tmp 5) = .lit (.string ⟨#[124, 124]⟩) ∧ ev fr' (.tmp 6) = .lit (.int .i64 13) ∧ ev fr' (.tmp 7) = .ptr h2.next 0) f ?_ ?_
    · refine ⟨Nat.le_refl f, _, _, _, t, hs, rfl, (Fr.new _ _).put (Nat.le_refl _) _, Nat.lt_succ_self _, H.put_same _ _ _, rfl, ?_⟩
      simp [-Int.natCast_add]
    · clear hs hl
      rintro m fr' h' ⟨hm, nd1, s2, h3, t3, hs, rfl, hF3, hlt, ho7, rfl, e0, e1, e2, e3, e4, e5, e6⟩
      have ho4 := (hF3.obj h.next q5).trans ho
      cases m with
      | zero => unfold pLogicL at hs; cases hs
      | succ m =>
        unfold pLogicL at hs
        simp [-Int.natCast_add, e0, e1, e2, e3, e4, e5, e6]
        refine (op_calls c hc h3 s2 _).mono ?_
        rintro _ _ ⟨rfl, rfl⟩
        cases hb : isB c s2 6 ⟨#[124, 124]⟩
        · simp [hb] at hs
          obtain ⟨rfl, rfl⟩ := hs
          simp [-Int.natCast_add, e0, e1, e2, e3, e4, e5, e6, opS, hb, q2, q4, ho4, ho7, H.put_ne, Nat.ne_of_lt q5]
          exact ⟨_, (((Fr.new _ _).trans hF).trans hF3).put (Nat.le_refl _) _, rfl, t3, rfl, rfl⟩
        · simp [hb] at hs
          split at hs
          case h_2 => cases hs
          rename_i nd4 s4 hl
          simp [-Int.natCast_add, e0, e1, e2, e3, e4, e5, e6, q2, q4, ho4, ho7]
          refine XW.drawB mixed (L := List.range 9) (B := [0, 0, 0, 0, 8, 28, 62, 127, 255]) (by kernel_rfl) (by kernel_rfl) ?_
          simp only [List.range, List.range.loop, List.map_cons, List.map_nil, item]
          simp only [annot, fillOf, findFill, findStore, srcOf, List.getD_cons_succ, List.getD_cons_zero]
          simp [-Int.natCast_add, e0, e1, e2, e3, e4, e5, e6, q2, q4, ho4, ho7]
          have p3 : c.p < h3.next := Nat.lt_of_lt_of_le p2 hF3.next
          refine (h1 m (by omega) c _ _ (wr (n + 1)) nd4 s4 hc p3 hl).mono ?_
          rintro _ _ ⟨h5, hF5, rfl, t5, rfl, rfl⟩
          have ho7' := (hF5.obj h2.next hlt).trans ho7
          have p5 : c.p < h5.next := Nat.lt_of_lt_of_le p3 hF5.next
          simp [-Int.natCast_add, e0, e1, e2, e3, e4, e5, e6, q2, q4, ho4, ho7, ho7', p5]
          have hlt5 := Nat.lt_of_lt_of_le hlt hF5.next
          refine ⟨m, by omega, by omega, _, _, hs, _, rfl, ((hF3.trans hF5).trans (Fr.row _ _)).put (Nat.le_refl _) _, Nat.lt_succ_of_lt hlt5, .mk 13 0 ⟨#[]⟩ 0 h5.next [t3, t5], ?_, ?_⟩
          · rw [H.put_same]; simp [TN.v, TN.vs]
          · simp [TN.nd, TN.nds]
  · simp [g1] at hs
    simp [-Int.natCast_add, hp, q2, g1]
    refine (h1 f (Nat.le_refl f) c _ s (wr (n + 1)) nd1 s1 hc (q1 _) hl).mono ?_
    rintro _ _ ⟨h2, hF, rfl, t, rfl, rfl⟩
    have ho := hF.obj h.next (q3 _)
    rw [H.new_self] at ho
    have p2 : c.p < h2.next := Nat.lt_of_lt_of_le (q1 _) hF.next
    have q4 : h2.next ≠ c.p := by omega
    have q5 : h.next < h2.next := Nat.lt_of_lt_of_le (q3 _) hF.next
    simp [-Int.natCast_add, ho, q2, p2, q4]
    refine XW.loopH (fun m fr' h' => m ≤ f ∧ ∃ nd1 s1 h3 t, pLogicL m c s1 ⟨#[38, 38]⟩ 12 n nd1 = some (nd, s') ∧ h' = c.at_ h3 s1 ∧ Fr h2 h3 ∧ h2.next < h3.next ∧ h3.obj h2.next = some (.cells (TN.v t) 41) ∧ t.nd = nd1 ∧ fr'.length = 26 ∧ ev fr' (.tmp 0) = .ptr c.p 0 ∧ ev fr' (.tmp 1) = .lit (.int .i64 n) ∧ ev fr' (.tmp 4) = .ptr h.next 0 ∧ ev fr' (.tmp 5) = .lit (.string ⟨#[38, 38]⟩) ∧ ev fr' (.tmp 6) = .lit (.int .i64 12) ∧ ev fr' (.tmp 7) = .ptr h2.next 0) f ?_ ?_
    · refine ⟨Nat.le_refl f, _, _, _, t, hs, rfl, (Fr.new _ _).put (Nat.le_refl _) _, Nat.lt_succ_self _, H.put_same _ _ _, rfl, ?_⟩
      simp [-Int.natCast_add]
    · clear hs hl
      rintro m fr' h' ⟨hm, nd1, s2, h3, t3, hs, rfl, hF3, hlt, ho7, rfl, e0, e1, e2, e3, e4, e5, e6⟩
      have ho4 := (hF3.obj h.next q5).trans ho
      cases m with
      | zero => unfold pLogicL at hs; cases hs
      | succ m =>
        unfold pLogicL at hs
        simp [-Int.natCast_add, e0, e1, e2, e3, e4, e5, e6]
        refine (op_calls c hc h3 s2 _).mono ?_
        rintro _ _ ⟨rfl, rfl⟩
        cases hb : isB c s2 6 ⟨#[38, 38]⟩
        · simp [hb] at hs
          obtain ⟨rfl, rfl⟩ := hs
          simp [-Int.natCast_add, e0, e1, e2, e3, e4, e5, e6, opS, hb, q2, q4, ho4, ho7, H.put_ne, Nat.ne_of_lt q5]
          exact ⟨_, (((Fr.new _ _).trans hF).trans hF3).put (Nat.le_refl _) _, rfl, t3, rfl, rfl⟩
        · simp [hb] at hs
          split at hs
          case h_2 => cases hs
          rename_i nd4 s4 hl
          simp [-Int.natCast_add, e0, e1, e2, e3, e4, e5, e6, q2, q4, ho4, ho7]
          refine XW.drawB mixed (L := List.range 9) (B := [0, 0, 0, 0, 8, 28, 62, 127, 255]) (by kernel_rfl) (by kernel_rfl) ?_
          simp only [List.range, List.range.loop, List.map_cons, List.map_nil, item]
          simp only [annot, fillOf, findFill, findStore, srcOf, List.getD_cons_succ, List.getD_cons_zero]
          simp [-Int.natCast_add, e0, e1, e2, e3, e4, e5, e6, q2, q4, ho4, ho7]
          have p3 : c.p < h3.next := Nat.lt_of_lt_of_le p2 hF3.next
          refine (h1 m (by omega) c _ _ (wr (n + 1)) nd4 s4 hc p3 hl).mono ?_
          rintro _ _ ⟨h5, hF5, rfl, t5, rfl, rfl⟩
          have ho7' := (hF5.obj h2.next hlt).trans ho7
          have p5 : c.p < h5.next := Nat.lt_of_lt_of_le p3 hF5.next
          simp [-Int.natCast_add, e0, e1, e2, e3, e4, e5, e6, q2, q4, ho4, ho7, ho7', p5]
          have hlt5 := Nat.lt_of_lt_of_le hlt hF5.next
          refine ⟨m, by omega, by omega, _, _, hs, _, rfl, ((hF3.trans hF5).trans (Fr.row _ _)).put (Nat.le_refl _) _, Nat.lt_succ_of_lt hlt5, .mk 12 0 ⟨#[]⟩ 0 h5.next [t3, t5], ?_, ?_⟩
          · rw [H.put_same]; simp [TN.v, TN.vs]
          · simp [TN.nd, TN.nds]
end Go.Proofs.YtjofmihdeblbmaaGreatDoor.Xa
/- XA, part R3: find. -/
namespace Go.Proofs.YtjofmihdeblbmaaGreatDoor.Xa
open Go Go.RowKit
set_option linter.unusedVariables false
set_option linter.unusedSimpArgs false
set_option maxRecDepth 100000
set_option maxHeartbeats 1000000
def binV (b : ByteArray × Int) : List V := [.lit (.string b.1), .lit (.int .i64 b.2)]
def BPost (c : PC) (h : H) (s : PS) (n : Int) : V → H → Prop := fun v h' => ∃ id sz h1, v = .slc id sz ((binsOf n).map binV) ∧ (binsOf n ≠ [] → sz = 2) ∧ Fr h h1 ∧ h' = c.at_ h1 s
attribute [local simp] hid2 hid3 hid4 xcode_skip xcode_region xcode_draw xcode_loop xcode_seq xcode_cond xcode_block xcode_scope xcode_exit xcode_ret xops_nil xops_cons xd_nil xd_cons xstep_eq annot fillOf findFill findStore srcOf kcls cls qval qvalN xwant dstAt want1 xdo xop ev_const ev_global ev_func ev_zero ev_succ ev_undefs ev_hit ev_miss put_none put_len undefs_len xnil xfieldAddr fieldOf eT emtb seqQ blockQ xload xstore splice V.storable V.one V.cells mk xbinop xbin xun xbuiltin xindexAddr nilOr xindex xint cv cv1 retQ xres_tmp xres_cell xres_nil xresult xbuild xfill xbuildSlice xrows Nat.testBit places xfield item sideOk pendOk pendOf tyT1 tyT2 tyT3 tyT4 tyT5 tyT9 tyT22 tyT23 tyT24 tyT25 tyT26 tyT30 tyT34 tyT39 tyT41 tyT47 tyT48 tyT50 tyT53 tyT54 tyT56 tyT58 tyT63 tyT70 tyT76 tyT78 tyT80 tyT84 tyT87 tyT89 tyT96 tyT98 tyT100 tyT102 tyT108 tyT110 tyT112 tyT113 tyT115 tyT119 tyT121 tyT124 tyT138 tyT139 tyT141 tyT142 tyT143 tyT145 tyT147 tyT149 tyT155 tyT158 tyT164 tyT179 tyT186 tyT188 tyT189 tyT194 tyT197 tyT200 tyT216 tyT242 tyT245 isM bne PC.at_obj PC.put_at PC.at_at PC.at_eq H.put_same H.put_put Tok.v PC.at_next PC.at_ext PC.at_row PC.at_bump PC.at_grow PC.at_new PC.at_put PC.at_obj_ne H.new_self H.new_ne H.row_obj H.put_next TN.v_len TN.v_take TN.v_drop
theorem binaries_calls (c : PC) (h : H) (s : PS) (n : Int) :
    XCalls e 158 [.lit (.int .i64 n)] (c.at_ h s) (BPost c h s n) := by
  refine XCalls.of Tryz.func158 rfl (by kernel_rfl) ?_
  rw [Tryz.ntmps158]
  cases g1 : (n == 3)
  · cases g2 : (n == 4)
    · cases g3 : (n == 5)
      · simp [-Int.natCast_add, g1, g2, g3]
        exact ⟨_, _, h, by simp [binsOf, g1, g2, g3]; exact ⟨rfl, rfl⟩, by simp [binsOf, g1, g2, g3], Fr.refl h, rfl⟩
      · simp [-Int.natCast_add, g1, g2, g3]
        exact ⟨h.next, 2, h.row 3, by simp [binsOf, g1, g2, g3, binV], fun _ => rfl, Fr.row _ _, rfl⟩
    · simp [-Int.natCast_add, g1, g2]
      exact ⟨h.next, 2, h.row 2, by simp [binsOf, g1, g2, binV], fun _ => rfl, Fr.row _ _, rfl⟩
  · simp [-Int.natCast_add, g1]
    exact ⟨h.next, 2, h.row 6, by simp [binsOf, g1, binV], fun _ => rfl, Fr.row _ _, rfl⟩
def FindJ (c : PC) (h : H) (s : PS) (n : Int) (id sz : Nat) : Nat → List V → H → Prop := fun m fr' h' => ∃ (k : Nat) (h3 : H), m = (binsOf n).length - k ∧ k ≤ (binsOf n).length ∧ h' = c.at_ h3 s ∧ Fr h h3 ∧ findL c s ((binsOf n).drop k) = findS c s n ∧ fr'.length = 21 ∧ ev fr' (.tmp 0) = .ptr c.p 0 ∧ ev fr' (.tmp 8) = .slc id sz ((binsOf n).map binV) ∧ ev fr' (.tmp 9) = .lit (.int .i64 ((binsOf n).length : Nat)) ∧ ev fr' (.tmp 10) = .lit (.int .i64 (k : Nat))
theorem find_calls (c : PC) (hc : c.ok) (h : H) (hp : c.p < h.next) (s : PS) (n : Int) :
    XCalls e 121 [.ptr c.p 0, .lit (.int .i64 n)] (c.at_ h s) (NPost c h (findS c s n).2 (fun v => v = .lit (.int .i64 (findS c s n).1))) := by
  refine XCalls.of Tryz.func121 rfl (by kernel_rfl) ?_
  rw [Tryz.ntmps121]
  simp [-Int.natCast_add]
  refine (binaries_calls c h s n).mono ?_
  rintro _ _ ⟨id, sz, h1, rfl, hsz, hF, rfl⟩
  simp [-Int.natCast_add]
  refine XW.loopH (FindJ c h s n id sz) (binsOf n).length ?_ ?_
  · refine ⟨0, h1, rfl, Nat.zero_le _, rfl, hF, rfl, ?_⟩
    simp [-Int.natCast_add]
  · have hb6 : (binsOf n).length ≤ 6 := by
      unfold binsOf
      split
      · decide
      · split
        · decide
        · split <;> decide
    rintro m fr' h' ⟨k, h3, rfl, hk, rfl, hF3, hfl, e0, e1, e2, e3, e4⟩
    have p3 : c.p < h3.next := Nat.lt_of_lt_of_le hp hF3.next
    have q3 : h3.next ≠ c.p := by omega
    rcases Nat.lt_or_ge k (binsOf n).length with hi | hi
    · have hsz2 : sz = 2 := hsz (by intro h0; rw [h0] at hi; cases hi)
      subst hsz2
      have hi' : (k : Int) < ((binsOf n).length : Nat) := by omega
      simp [-Int.natCast_add, e0, e1, e2, e3, e4, ltB_t, hi, hi', p3, q3, binV]
      refine (op_calls c hc _ s _).mono ?_
      rintro _ _ ⟨rfl, rfl⟩
      rw [List.drop_eq_getElem_cons hi] at hfl
      unfold findL at hfl
      cases hb : isB c s 6 (binsOf n)[k].1
      · have hw := wrap_succ (i := k) (by omega)
        simp [hb] at hfl
        simp [-Int.natCast_add, e0, e1, e2, e3, e4, hw, hi, p3, q3, opS, hb]
        refine ⟨(binsOf n).length - (k + 1), by omega, k + 1, _, rfl, hi, rfl, (hF3.trans (Fr.new _ _)).put (hF3.next) _, hfl, ?_⟩
        simp [-Int.natCast_add, e0, e1, e2, e3, e4]
      · simp [hb] at hfl
        simp [-Int.natCast_add, e0, e1, e2, e3, e4, hi, p3, q3, opS, hb]
        have hop : opS c s 6 (binsOf n)[k].1 = { s with i := s.i + 1 } := by simp [opS, hb]
        rw [← hfl, hop]
        exact ⟨_, (hF3.trans (Fr.new _ _)).put (hF3.next) _, rfl, rfl⟩
    · have hi' : ((binsOf n).length : Int) ≤ (k : Int) := by omega
      rw [List.drop_of_length_le hi] at hfl
      unfold findL at hfl
      simp [-Int.natCast_add, e0, e1, e2, e3, e4, ltB_f, hi, hi', p3, q3]
      rw [← hfl]
      exact ⟨_, hF3, rfl, rfl⟩
end Go.Proofs.YtjofmihdeblbmaaGreatDoor.Xa
/- XA, part R4: row. -/
namespace Go.Proofs.YtjofmihdeblbmaaGreatDoor.Xa
open Go Go.RowKit
set_option linter.unusedVariables false
set_option linter.unusedSimpArgs false
set_option maxRecDepth 100000
set_option maxHeartbeats 1000000
def RowJ (f : Nat) (c : PC) (q4 : Nat) (h2 : H) (n : Int) (nd : Nd) (s' : PS) : Nat → List V → H → Prop := fun m fr' h' => m ≤ f ∧ ∃ s1 h3 t o, pRowL m c s1 n o (TN.nd t) = some (nd, s') ∧ h' = c.at_ h3 s1 ∧ Fr h2 h3 ∧ h2.next < h3.next ∧ h3.obj h2.next = some (.cells t.v 41) ∧ fr'.length = 30 ∧ ev fr' (.tmp 0) = .ptr c.p 0 ∧ ev fr' (.tmp 1) = .lit (.int .i64 n) ∧ ev fr' (.tmp 4) = .ptr q4 0 ∧ ev fr' (.tmp 5) = .ptr h2.next 0 ∧ ev fr' (.tmp 6) = .lit (.int .i64 o)
attribute [local simp] hid2 hid3 hid4 xcode_skip xcode_region xcode_draw xcode_loop xcode_seq xcode_cond xcode_block xcode_scope xcode_exit xcode_ret xops_nil xops_cons xd_nil xd_cons xstep_eq annot fillOf findFill findStore srcOf kcls cls qval qvalN xwant dstAt want1 xdo xop ev_const ev_global ev_func ev_zero ev_succ ev_undefs ev_hit ev_miss put_none put_len undefs_len xnil xfieldAddr fieldOf eT emtb seqQ blockQ xload xstore splice V.storable V.one V.cells mk xbinop xbin xun xbuiltin xindexAddr nilOr xindex xint cv cv1 retQ xres_tmp xres_cell xres_nil xresult xbuild xfill xbuildSlice xrows Nat.testBit places xfield item sideOk pendOk pendOf tyT1 tyT2 tyT3 tyT4 tyT5 tyT9 tyT22 tyT23 tyT24 tyT25 tyT26 tyT30 tyT34 tyT39 tyT41 tyT47 tyT48 tyT50 tyT53 tyT54 tyT56 tyT58 tyT63 tyT70 tyT76 tyT78 tyT80 tyT84 tyT87 tyT89 tyT96 tyT98 tyT100 tyT102 tyT108 tyT110 tyT112 tyT113 tyT115 tyT119 tyT121 tyT124 tyT138 tyT139 tyT141 tyT142 tyT143 tyT145 tyT147 tyT149 tyT155 tyT158 tyT164 tyT179 tyT186 tyT188 tyT189 tyT194 tyT197 tyT200 tyT216 tyT242 tyT245 isM bne PC.at_obj PC.put_at PC.at_at PC.at_eq H.put_same H.put_put Tok.v PC.at_next PC.at_ext PC.at_row PC.at_bump PC.at_grow PC.at_new PC.at_put PC.at_obj_ne H.new_self H.new_ne H.row_obj H.put_next TN.v_len TN.v_take TN.v_drop
theorem row_step (f : Nat) (h1 : ∀ m, m ≤ f → CLevel m) : CRow (f + 1) := by
  intro c h s n nd s' hc hp hs
  unfold pRow at hs
  refine XCalls.of Tryz.func74 rfl (by kernel_rfl) ?_
  rw [Tryz.ntmps74]
  have q2 : h.next ≠ c.p := by omega
  have q1 : ∀ o, c.p < (h.new o).next := fun o => Nat.lt_succ_of_lt hp
  have q3 : ∀ o, h.next < (h.new o).next := fun o => Nat.lt_succ_self _
  split at hs
  case h_2 => cases hs
  rename_i nd1 s1 hl
  simp [-Int.natCast_add, hp, q2]
  refine (h1 f (Nat.le_refl f) c _ s (wr (n + 1)) nd1 s1 hc (q1 _) hl).mono ?_
  rintro _ _ ⟨h2, hF, rfl, t, rfl, rfl⟩
  have ho := hF.obj h.next (q3 _)
  rw [H.new_self] at ho
  have p2 : c.p < h2.next := Nat.lt_of_lt_of_le (q1 _) hF.next
  have q4 : h2.next ≠ c.p := by omega
  have q5 : h.next < h2.next := Nat.lt_of_lt_of_le (q3 _) hF.next
  simp [-Int.natCast_add, ho, q2, p2, q4]
  refine (find_calls c hc _ (Nat.lt_succ_of_lt p2) s1 n).mono ?_
  rintro _ _ ⟨h3, hF3, rfl, rfl⟩
  have ho5 := hF3.obj h2.next (Nat.lt_succ_self _)
  rw [H.put_same] at ho5
  simp [-Int.natCast_add, q2, p2, q4]
  refine XW.loopH (RowJ f c h.next h2 n nd s') f ?_ ?_
  · refine ⟨Nat.le_refl f, _, h3, t, _, hs, rfl, (((Fr.new _ _).put (Nat.le_refl _) _).trans hF3), Nat.lt_of_lt_of_le (Nat.lt_succ_self _) hF3.next, ho5, ?_⟩
    simp [-Int.natCast_add]
  · clear hs hl hF3 ho5
    rintro m fr' h' ⟨hm, s2, h3, t3, o, hs, rfl, hF3, hlt, ho7, e0, e1, e2, e3, e4, e5⟩
    have ho4 := (hF3.obj h.next q5).trans ho
    cases m with
    | zero => unfold pRowL at hs; cases hs
    | succ m =>
      unfold pRowL at hs
      cases g0 : (o == 0)
      · simp [g0] at hs
        split at hs
        case h_2 => cases hs
        rename_i nd4 s4 hl
        simp [-Int.natCast_add, e0, e1, e2, e3, e4, e5, g0]
        refine XW.drawB mixed (L := List.range 9) (B := [0, 0, 0, 0, 8, 28, 62, 127, 255]) (by kernel_rfl) (by kernel_rfl) ?_
        simp only [List.range, List.range.loop, List.map_cons, List.map_nil, item]
        simp only [annot, fillOf, findFill, findStore, srcOf, List.getD_cons_succ, List.getD_cons_zero]
        simp [-Int.natCast_add, e0, e1, e2, e3, e4, e5, q2, q4, ho4, ho7]
        have p3 : c.p < h3.next := Nat.lt_of_lt_of_le p2 hF3.next
        refine (h1 m (by omega) c _ _ (wr (n + 1)) nd4 s4 hc p3 hl).mono ?_
        rintro _ _ ⟨h5, hF5, rfl, t5, rfl, rfl⟩
        have ho7' := (hF5.obj h2.next hlt).trans ho7
        have ho4' := (hF5.obj h.next (Nat.lt_trans q5 hlt)).trans ho4
        have p5 : c.p < h5.next := Nat.lt_of_lt_of_le p3 hF5.next
        have hlt5 := Nat.lt_of_lt_of_le hlt hF5.next
        cases g3 : (n == 3)
        · have g3' : ¬ n = 3 := by simpa using g3
          simp [g3'] at hs
          simp [-Int.natCast_add, e0, e1, e2, e3, e4, e5, q2, q4, ho4', ho7', p5, H.put_ne, Nat.ne_of_lt q5, g3, g3']
          refine (find_calls c hc _ ?_ s4 n).mono ?_
          · exact Nat.lt_succ_of_lt p5
          rintro _ _ ⟨h6, hF6, rfl, rfl⟩
          have hb6 := hF6.obj h2.next (Nat.lt_succ_of_lt hlt5)
          rw [H.put_same] at hb6
          simp [-Int.natCast_add, e0, e1, e2, e3, e4, e5]
          refine ⟨m, by omega, by omega, _, h6, .mk 11 o ⟨#[]⟩ 0 h5.next [t3, t5], (findS c s4 n).1, ?_, rfl, (((hF3.trans hF5).trans (Fr.row _ _)).put (Nat.le_refl _) _).trans hF6, Nat.lt_of_lt_of_le (Nat.lt_succ_of_lt hlt5) hF6.next, ?_, ?_⟩
          · simpa [TN.nd, TN.nds] using hs
          · rw [hb6]; simp [TN.v, TN.vs]
          · simp [-Int.natCast_add, e0, e1, e2, e3, e4, e5]
        · have g3' : n = 3 := by simpa using g3
          simp [g3'] at hs
          obtain ⟨rfl, rfl⟩ := hs
          simp [-Int.natCast_add, e0, e1, e2, e3, e4, e5, q2, q4, ho4', ho7', p5, H.put_ne, Nat.ne_of_lt q5, g3, g3']
          refine ⟨_, (((((Fr.new _ _).trans hF).trans hF3).trans hF5).trans (Fr.row _ _) |>.put (Nat.le_of_lt q5) _).put (Nat.le_refl _) _, rfl, .mk 11 o ⟨#[]⟩ 0 h5.next [t3, t5], ?_, ?_⟩
          · simp [TN.v, TN.vs]
          · simp [TN.nd, TN.nds]
      · simp [g0] at hs
        obtain ⟨rfl, rfl⟩ := hs
        simp [-Int.natCast_add, e0, e1, e2, e3, e4, e5, g0, q2, q4, ho4, ho7, H.put_ne, Nat.ne_of_lt q5]
        exact ⟨_, (((Fr.new _ _).trans hF).trans hF3).put (Nat.le_refl _) _, rfl, t3, rfl, rfl⟩
end Go.Proofs.YtjofmihdeblbmaaGreatDoor.Xa
/- XA, part R7: index. -/
namespace Go.Proofs.YtjofmihdeblbmaaGreatDoor.Xa
open Go Go.RowKit
set_option linter.unusedVariables false
set_option linter.unusedSimpArgs false
set_option maxRecDepth 100000
set_option maxHeartbeats 1000000
attribute [local simp] hid2 hid3 hid4 xcode_skip xcode_region xcode_draw xcode_loop xcode_seq xcode_cond xcode_block xcode_scope xcode_exit xcode_ret xops_nil xops_cons xd_nil xd_cons xstep_eq annot fillOf findFill findStore srcOf kcls cls qval qvalN xwant dstAt want1 xdo xop ev_const ev_global ev_func ev_zero ev_succ ev_undefs ev_hit ev_miss put_none put_len undefs_len xnil xfieldAddr fieldOf eT emtb seqQ blockQ xload xstore splice V.storable V.one V.cells mk xbinop xbin xun xbuiltin xindexAddr nilOr xindex xint cv cv1 retQ xres_tmp xres_cell xres_nil xresult xbuild xfill xbuildSlice xrows Nat.testBit places xfield item sideOk pendOk pendOf tyT1 tyT2 tyT3 tyT4 tyT5 tyT9 tyT22 tyT23 tyT24 tyT25 tyT26 tyT30 tyT34 tyT39 tyT41 tyT47 tyT48 tyT50 tyT53 tyT54 tyT56 tyT58 tyT63 tyT70 tyT76 tyT78 tyT80 tyT84 tyT87 tyT89 tyT96 tyT98 tyT100 tyT102 tyT108 tyT110 tyT112 tyT113 tyT115 tyT119 tyT121 tyT124 tyT138 tyT139 tyT141 tyT142 tyT143 tyT145 tyT147 tyT149 tyT155 tyT158 tyT164 tyT179 tyT186 tyT188 tyT189 tyT194 tyT197 tyT200 tyT216 tyT242 tyT245 isM bne PC.at_obj PC.put_at PC.at_at PC.at_eq H.put_same H.put_put Tok.v PC.at_next PC.at_ext PC.at_row PC.at_bump PC.at_grow PC.at_new PC.at_put PC.at_obj_ne H.new_self H.new_ne H.row_obj H.put_next TN.v_len TN.v_take TN.v_drop
theorem ix1 (f : Nat) (h1 : CLevel f) (c : PC) (hc : c.ok) (h : H) (hp : c.p < h.next) (s : PS) (hi : s.i < c.toks.length) (q1 q4 : Nat) (n1 : q1 ≠ c.p) (n4 : q4 ≠ c.p) (l1 : q1 < h.next) (l4 : q4 < h.next) (hq : q1 ≠ q4) (T : TN)
    (o1 : h.obj q1 = some (.cells [.ptr c.p 0] 84)) (o4 : h.obj q4 = some (.cells T.v 41))
    (m : Nd) (s2 : PS) (hs : pLevel f c { s with i := s.i + 1 } 1 = some (m, s2)) :
    XCalls e 126 [.ptr q1 0, .ptr q4 0] (c.at_ h s) (CPost c h q4 (.mk 11 12 ⟨#[]⟩ 0 [T.nd, m]) (outS (wantS c s2 ⟨#[93]⟩))) := by
  refine XCalls.of Tryz.func126 rfl (by kernel_rfl) ?_
  rw [Tryz.ntmps126]
  have hw := wrap_succ (i := s.i) (by have := hc.len; omega)
  simp [-Int.natCast_add, n1, o1, hw]
  refine XW.drawB mixed (L := List.range 6) (B := [0, 0, 2, 7, 15, 31]) (by kernel_rfl) (by kernel_rfl) ?_
  simp only [List.range, List.range.loop, List.map_cons, List.map_nil, item]
  simp only [annot, fillOf, findFill, findStore, srcOf, List.getD_cons_succ, List.getD_cons_zero]
  simp [-Int.natCast_add, n1, o1, n4, o4]
  refine (h1 c h _ 1 m s2 hc hp hs).mono ?_
  rintro _ _ ⟨h2, hF, rfl, t, rfl, rfl⟩
  have o4' := (hF.obj q4 l4).trans o4
  have o1' := (hF.obj q1 l1).trans o1
  simp [-Int.natCast_add, n1, n4, o4', o1', H.put_ne, hq]
  refine (want_calls c hc _ s2 _).mono ?_
  rintro _ _ ⟨rfl, rfl⟩
  simp [-Int.natCast_add]
  refine ⟨_, wantS c s2 ⟨#[93]⟩, rfl, rfl, h2.row 2, .mk 11 12 ⟨#[]⟩ 0 h2.next [T, t], hF.trans (Fr.row _ _), ?_, ?_⟩
  · simp [TN.v, TN.vs]
  · simp [TN.nd, TN.nds]
def IxJ (f : Nat) (c : PC) (q1 q2 : Nat) (h2 : H) (nd : Nd) (s' : PS) : Nat → List V → H → Prop := fun m fr' h' => m ≤ f ∧ ∃ s1 h3 t, pIndexL m c s1 (TN.nd t) = some (nd, s') ∧ h' = c.at_ h3 s1 ∧ Fr h2 h3 ∧ h2.next < h3.next ∧ h3.obj h2.next = some (.cells t.v 41) ∧ fr'.length = 12 ∧ ev fr' (.tmp 1) = .ptr q1 0 ∧ ev fr' (.tmp 2) = .ptr q2 0 ∧ ev fr' (.tmp 3) = .ptr h2.next 0
theorem index_step (f : Nat) (h0 : CPlain f) (h1 : ∀ m, m ≤ f → CLevel m) : CIndex (f + 1) := by
  intro c h s nd s' hc hp hs
  unfold pIndex at hs
  refine XCalls.of Tryz.func76 rfl (by kernel_rfl) ?_
  rw [Tryz.ntmps76]
  obtain ⟨a1, a2, a3, b1, b2, b3⟩ := new2 h c.p hp
  obtain ⟨d1, d2, d3, d4, d5, d6, d7, d8⟩ := new3 h
  split at hs
  case h_2 => cases hs
  rename_i nd1 s1 hl
  simp [-Int.natCast_add, a1, a2, b1, b2, d1, d3, hp]
  refine (h0 c _ s nd1 s1 hc (a2 _ _) hl).mono ?_
  rintro _ _ ⟨h2, hF, rfl, t, rfl, rfl⟩
  have p2 : c.p < h2.next := Nat.lt_of_lt_of_le (a2 (.cells [] 0) (.cells [] 0)) hF.next
  have q4 : h2.next ≠ c.p := Nat.ne_of_gt p2
  have g1 : h.next < h2.next := Nat.lt_of_lt_of_le (d2 (.cells [] 0) (.cells [] 0)) hF.next
  have g2 : (h.new (.cells [.ptr c.p 0] 84)).next < h2.next := Nat.lt_of_lt_of_le (d3 _ (.cells [] 0)) hF.next
  have o1 := hF.obj h.next (d2 _ _)
  rw [H.new_ne _ _ (d1 _), H.new_self] at o1
  have o2 := hF.obj _ (d3 _ _)
  rw [H.new_self] at o2
  simp [-Int.natCast_add, p2, q4]
  refine XW.loopH (IxJ f c h.next (h.new (.cells [.ptr c.p 0] 84)).next h2 nd s') f ?_ ?_
  · refine ⟨Nat.le_refl f, s1, _, t, hs, rfl, (Fr.new _ _).put (Nat.le_refl _) _, Nat.lt_succ_self _, H.put_same _ _ _, ?_⟩
    simp [-Int.natCast_add]
  · clear hs hl
    rintro m fr' h' ⟨hm, s2, h3, t3, hs, rfl, hF3, hlt, ho7, e0, e1, e2, e3⟩
    have o1' := (hF3.obj _ g1).trans o1
    have o2' := (hF3.obj _ g2).trans o2
    have p3 : c.p < h3.next := Nat.lt_of_lt_of_le p2 hF3.next
    cases m with
    | zero => unfold pIndexL at hs; cases hs
    | succ m =>
      unfold pIndexL at hs
      simp [-Int.natCast_add, e0, e1, e2, e3, b1, o1']
      refine (is_calls c _ s2 6 _).mono ?_
      rintro _ _ ⟨rfl, rfl⟩
      cases hb : isB c s2 6 ⟨#[91]⟩
      · simp [hb] at hs
        obtain ⟨rfl, rfl⟩ := hs
        simp [-Int.natCast_add, e0, e1, e2, e3, b1, b2, o1', q4, ho7, o2', H.put_ne, Nat.ne_of_lt g2]
        exact ⟨_, ((((Fr.new _ _).trans (Fr.new _ _)).trans hF).trans hF3).put (Nat.le_of_lt (d1 _)) _, rfl, t3, rfl, rfl⟩
      · simp [hb] at hs
        simp [-Int.natCast_add, e0, e1, e2, e3, b1, b2, o1', q4, ho7, o2']
        have hei := entS_i c s2
        have key : ∃ nd5 s5, pIndexL m c s5 nd5 = some (nd, s') ∧ XCalls e 123 [.ptr c.p 0, .fn 126 [.ptr h.next 0, .ptr h2.next 0]] (c.at_ h3 s2) (WPost c (TK h3 h2.next nd5 s5)) := by
          by_cases he : (entS c s2).e = 0
          · simp [he] at hs
            split at hs
            case h_2 => cases hs
            rename_i m5 s5 hl
            refine ⟨_, _, hs, within_calls c h3 s2 _ _ _ (fun _ => ?_) (fun he' => absurd he he')⟩
            exact ix1 m (h1 m (by omega)) c hc h3 p3 { entS c s2 with deep := wr ((entS c s2).deep + 1) } (by show (entS c s2).i < _; rw [hei]; exact isB_lt hb) _ _ b1 q4 (Nat.lt_of_lt_of_le g1 hF3.next) hlt (Nat.ne_of_lt g1) t3 o1' ho7 m5 s5 hl
          · simp [he] at hs
            exact ⟨_, _, hs, within_calls c h3 s2 _ _ _ (fun he' => absurd he' he) (fun _ => ⟨rfl, h3, t3, Fr.refl _, (H.put_self ho7).symm, rfl⟩)⟩
        obtain ⟨nd5, s5, hs5, hw⟩ := key
        refine hw.mono ?_
        rintro _ _ ⟨rfl, h6, s6, rfl, rfl, h7, T, hF7, rfl, rfl⟩
        simp [-Int.natCast_add]
        refine ⟨m, by omega, by omega, s6, _, T, hs5, rfl, (hF3.trans hF7).put (Nat.le_refl _) _, Nat.lt_of_lt_of_le hlt hF7.next, H.put_same _ _ _, ?_⟩
        simp [-Int.natCast_add, e0, e1, e2, e3]
end Go.Proofs.YtjofmihdeblbmaaGreatDoor.Xa
