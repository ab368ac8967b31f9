/- XA, joined: XaS1 XaS2. -/
import Derived.Test.YtjofmihdeblbmaaGreatDoorXaM22
/- XA, part S1: statement. -/
namespace Go.Proofs.YtjofmihdeblbmaaGreatDoor.Xa
open Go Go.RowKit
set_option linter.unusedVariables false
set_option linter.unusedSimpArgs false
set_option maxRecDepth 100000
set_option maxHeartbeats 1000000
attribute [local simp] hid2 hid3 hid4 xcode_skip xcode_region xcode_draw xcode_loop xcode_seq xcode_cond xcode_block xcode_scope xcode_exit xcode_ret xops_nil xops_cons xd_nil xd_cons xstep_eq annot fillOf findFill findStore srcOf kcls cls qval qvalN xwant dstAt want1 xdo xop ev_const ev_global ev_func ev_zero ev_succ ev_undefs ev_hit ev_miss put_none put_len undefs_len xnil xfieldAddr fieldOf eT emtb seqQ blockQ xload xstore splice V.storable V.one V.cells mk xbinop xbin xun xbuiltin xindexAddr nilOr xindex xint cv cv1 retQ xres_tmp xres_cell xres_nil xresult xbuild xfill xbuildSlice xrows Nat.testBit places xfield item sideOk pendOk pendOf tyT1 tyT2 tyT3 tyT4 tyT5 tyT9 tyT22 tyT23 tyT24 tyT25 tyT26 tyT30 tyT34 tyT39 tyT41 tyT47 tyT48 tyT50 tyT53 tyT54 tyT56 tyT58 tyT63 tyT70 tyT76 tyT78 tyT80 tyT84 tyT87 tyT89 tyT96 tyT98 tyT100 tyT102 tyT108 tyT110 tyT112 tyT113 tyT115 tyT119 tyT121 tyT124 tyT138 tyT139 tyT141 tyT142 tyT143 tyT145 tyT147 tyT149 tyT155 tyT158 tyT164 tyT179 tyT186 tyT188 tyT189 tyT194 tyT197 tyT200 tyT216 tyT242 tyT245 isM bne PC.at_obj PC.put_at PC.at_at PC.at_eq H.put_same H.put_put Tok.v PC.at_next PC.at_ext PC.at_row PC.at_bump PC.at_grow PC.at_new PC.at_put PC.at_obj_ne H.new_self H.new_ne H.row_obj H.put_next TN.v_len TN.v_take TN.v_drop
theorem stat_step (f : Nat) (h1 : CIff f) (h2 : CLevel f) (h3 : CBlock f) (h4 : CSimple f) : CStat (f + 1) := by
  intro c h s nd s' hc hp hs
  unfold pStat at hs
  refine XCalls.of Tryz.func148 rfl (by kernel_rfl) ?_
  rw [Tryz.ntmps148]
  have q2 : h.next ≠ c.p := by omega
  have q1 : ∀ o, c.p < (h.new o).next := fun o => Nat.lt_succ_of_lt hp
  have q3 : ∀ o, h.next < (h.new o).next := fun o => Nat.lt_succ_self _
  simp [-Int.natCast_add, hp, q2]
  refine (word_calls c hc _ s _).mono ?_
  rintro _ _ ⟨rfl, rfl⟩
  cases g1 : isB c s 2 ⟨#[105, 102]⟩
  · simp [g1] at hs
    simp [-Int.natCast_add, hp, q2, opS, g1]
    refine (word_calls c hc _ s _).mono ?_
    rintro _ _ ⟨rfl, rfl⟩
    cases g2 : isB c s 2 ⟨#[119, 104, 105, 108, 101]⟩
    · simp [g2] at hs
      simp [-Int.natCast_add, hp, q2, opS, g2]
      refine (h4 c _ s nd s' hc (q1 _) hs).mono ?_
      rintro _ _ ⟨h5, hF, rfl, t, rfl, rfl⟩
      have ho := hF.obj h.next (q3 _)
      rw [H.new_self] at ho
      simp [-Int.natCast_add, ho, q2]
      exact ⟨_, ((Fr.new _ _).trans hF).put (Nat.le_refl _) _, rfl, t, rfl, rfl⟩
    · simp [g2] at hs
      split at hs
      case h_2 => cases hs
      rename_i a s1 hl
      split at hs
      case h_2 => cases hs
      rename_i b s2 hb
      obtain ⟨rfl, rfl⟩ := hs
      simp [-Int.natCast_add, hp, q2]
      refine (h2 c _ _ 1 a s1 hc (q1 _) hl).mono ?_
      rintro _ _ ⟨h5, hF, rfl, t, rfl, rfl⟩
      have p5 : c.p < h5.next := Nat.lt_of_lt_of_le (q1 (.cells [] 0)) hF.next
      simp [-Int.natCast_add, hp, q2]
      refine (h3 c _ s1 b _ hc p5 hb).mono ?_
      rintro _ _ ⟨h6, hF6, rfl, t6, rfl, rfl⟩
      have ho := (hF.trans hF6).obj h.next (q3 _)
      rw [H.new_self] at ho
      simp [-Int.natCast_add, ho, q2]
      refine ⟨_, ((((Fr.new _ _).trans hF).trans hF6).trans (Fr.row _ _)).put (Nat.le_refl _) _, rfl, .mk 4 0 ⟨#[]⟩ 0 h6.next [t, t6], ?_, ?_⟩
      · simp [TN.v, TN.vs]
      · simp [TN.nd, TN.nds]
  · simp [g1] at hs
    simp [-Int.natCast_add, hp, q2]
    refine (h1 c _ _ nd s' hc (q1 _) hs).mono ?_
    rintro _ _ ⟨h5, hF, rfl, t, rfl, rfl⟩
    have ho := hF.obj h.next (q3 _)
    rw [H.new_self] at ho
    simp [-Int.natCast_add, ho, q2]
    exact ⟨_, ((Fr.new _ _).trans hF).put (Nat.le_refl _) _, rfl, t, rfl, rfl⟩
end Go.Proofs.YtjofmihdeblbmaaGreatDoor.Xa
/- XA, part S2: simple. -/
namespace Go.Proofs.YtjofmihdeblbmaaGreatDoor.Xa
open Go Go.RowKit
set_option linter.unusedVariables false
set_option linter.unusedSimpArgs false
set_option maxRecDepth 100000
set_option maxHeartbeats 1000000
theorem semi_some {c : PC} {r : Option (Nd × PS)} {w : Nd → Nd} {nd : Nd} {s' : PS} (h : semi c r w = some (nd, s')) : ∃ m s1, r = some (m, s1) ∧ nd = w m ∧ s' = wantS c s1 ⟨#[59]⟩ := by
  unfold semi at h
  split at h
  · rename_i m s1
    simp only [Option.some.injEq, Prod.mk.injEq] at h
    exact ⟨m, s1, rfl, h.1.symm, h.2.symm⟩
  · cases h
attribute [local simp] hid2 hid3 hid4 xcode_skip xcode_region xcode_draw xcode_loop xcode_seq xcode_cond xcode_block xcode_scope xcode_exit xcode_ret xops_nil xops_cons xd_nil xd_cons xstep_eq annot fillOf findFill findStore srcOf kcls cls qval qvalN xwant dstAt want1 xdo xop ev_const ev_global ev_func ev_zero ev_succ ev_undefs ev_hit ev_miss put_none put_len undefs_len xnil xfieldAddr fieldOf eT emtb seqQ blockQ xload xstore splice V.storable V.one V.cells mk xbinop xbin xun xbuiltin xindexAddr nilOr xindex xint cv cv1 retQ xres_tmp xres_cell xres_nil xresult xbuild xfill xbuildSlice xrows Nat.testBit places xfield item sideOk pendOk pendOf tyT1 tyT2 tyT3 tyT4 tyT5 tyT9 tyT22 tyT23 tyT24 tyT25 tyT26 tyT30 tyT34 tyT39 tyT41 tyT47 tyT48 tyT50 tyT53 tyT54 tyT56 tyT58 tyT63 tyT70 tyT76 tyT78 tyT80 tyT84 tyT87 tyT89 tyT96 tyT98 tyT100 tyT102 tyT108 tyT110 tyT112 tyT113 tyT115 tyT119 tyT121 tyT124 tyT138 tyT139 tyT141 tyT142 tyT143 tyT145 tyT147 tyT149 tyT155 tyT158 tyT164 tyT179 tyT186 tyT188 tyT189 tyT194 tyT197 tyT200 tyT216 tyT242 tyT245 isM bne PC.at_obj PC.put_at PC.at_at PC.at_eq H.put_same H.put_put Tok.v PC.at_next PC.at_ext PC.at_row PC.at_bump PC.at_grow PC.at_new PC.at_put PC.at_obj_ne H.new_self H.new_ne H.row_obj H.put_next TN.v_len TN.v_take TN.v_drop
theorem simple_step (f : Nat) (h1 : CLevel f) : CSimple (f + 1) := by
  intro c h s nd s' hc hp hs
  unfold pSimple at hs
  refine XCalls.of Tryz.func193 rfl (by kernel_rfl) ?_
  rw [Tryz.ntmps193]
  obtain ⟨a1, a2, a3, b1, b2, b3⟩ := new2 h c.p hp
  obtain ⟨d1, d2, d3, d4, d5, d6, d7, d8⟩ := new3 h
  simp [-Int.natCast_add, a1, a2, b1, b2, d1, d3, d4, d5, hp, H.put_ne]
  refine (word_calls c hc _ s _).mono ?_
  rintro _ _ ⟨rfl, rfl⟩
  cases g1 : isB c s 2 ⟨#[108, 101, 116]⟩
  · simp [g1] at hs
    simp [-Int.natCast_add, a1, a2, b1, b2, d1, d3, d4, d5, hp, H.put_ne, opS, g1]
    refine (word_calls c hc _ s _).mono ?_
    rintro _ _ ⟨rfl, rfl⟩
    cases g2 : isB c s 2 ⟨#[98, 114, 101, 97, 107]⟩
    · simp [g2] at hs
      simp [-Int.natCast_add, a1, a2, b1, b2, d1, d3, d4, d5, hp, H.put_ne, opS, g2]
      refine (word_calls c hc _ s _).mono ?_
      rintro _ _ ⟨rfl, rfl⟩
      cases g3 : isB c s 2 ⟨#[99, 111, 110, 116, 105, 110, 117, 101]⟩
      · simp [g3] at hs
        simp [-Int.natCast_add, a1, a2, b1, b2, d1, d3, d4, d5, hp, H.put_ne, opS, g3]
        refine (word_calls c hc _ s _).mono ?_
        rintro _ _ ⟨rfl, rfl⟩
        cases g4 : isB c s 2 ⟨#[114, 101, 116, 117, 114, 110]⟩
        · simp [g4] at hs
          simp [-Int.natCast_add, a1, a2, b1, b2, d1, d3, d4, d5, hp, H.put_ne, opS, g4]
          refine (word_calls c hc _ s _).mono ?_
          rintro _ _ ⟨rfl, rfl⟩
          cases g5 : isB c s 2 ⟨#[112, 114, 105, 110, 116]⟩
          · simp [g5] at hs
            simp [-Int.natCast_add, a1, a2, b1, b2, d1, d3, d4, d5, hp, H.put_ne, opS, g5]
            refine XW.drawB mixed (L := List.range 47) (B := [0, 1, 3, 7, 15, 31, 63, 127, 255, 15, 527, 1551, 3599, 7695, 16383, 32767, 65535, 131071, 262143, 524287, 1048575, 131071, 2228223, 6422527, 14811135, 31588351, 67108863, 134217727, 268435455, 536870911, 1073741823, 2147483647, 4294967295, 8589934591, 17179869183, 34359738367, 4294967295, 73014444031, 210453397503, 485331304447, 1035087118335, 2199023255551, 4398046511103, 8796093022207, 17592186044415, 35184372088831, 70368744177663]) (by kernel_rfl) (by kernel_rfl) ?_
            simp only [List.range, List.range.loop, List.map_cons, List.map_nil, item]
            simp only [annot, fillOf, findFill, findStore, srcOf, List.getD_cons_succ, List.getD_cons_zero]
            simp [-Int.natCast_add, a1, a2, b1, b2, d1, d3, d4, d5, hp, H.put_ne]
            refine (kind_calls c _ s).mono ?_
            rintro _ _ ⟨rfl, rfl⟩
            cases k1 : (kindOf c s == 1)
            · have k1' : ¬ kindOf c s = 1 := by simpa using k1
              simp [k1'] at hs
              simp [-Int.natCast_add, a1, a2, b1, b2, d1, d3, d4, d5, hp, H.put_ne, k1]
              obtain ⟨m, s1, hl, rfl, rfl⟩ := semi_some hs
              refine (h1 c _ _ 1 m s1 hc ?_ hl).mono ?_
              · exact a2 (.cells [.lit (.int .i64 0), .lit (.int .i64 0), .lit (.string ⟨#[]⟩), .lit (.int .i64 0), .slc 0 0 []] 41) (.cells [.lit (.int .i64 0), .lit (.int .i64 0), .lit (.string ⟨#[]⟩), .lit (.int .i64 0), .slc 0 0 []] 41)
              rintro _ _ ⟨h5, hF, rfl, t, rfl, rfl⟩
              have o3 := hF.obj ((h.new (.cells [.lit (.int .i64 0), .lit (.int .i64 0), .lit (.string ⟨#[]⟩), .lit (.int .i64 0), .slc 0 0 []] 41)).next) (d3 (.cells [.lit (.int .i64 0), .lit (.int .i64 0), .lit (.string ⟨#[]⟩), .lit (.int .i64 0), .slc 0 0 []] 41) (.cells [.lit (.int .i64 0), .lit (.int .i64 0), .lit (.string ⟨#[]⟩), .lit (.int .i64 0), .slc 0 0 []] 41))
              have o2 := hF.obj h.next (d2 (.cells [.lit (.int .i64 0), .lit (.int .i64 0), .lit (.string ⟨#[]⟩), .lit (.int .i64 0), .slc 0 0 []] 41) (.cells [.lit (.int .i64 0), .lit (.int .i64 0), .lit (.string ⟨#[]⟩), .lit (.int .i64 0), .slc 0 0 []] 41))
              simp [H.put_same, H.put_ne, H.new_self, H.new_ne, d1, d4] at o3 o2
              simp [-Int.natCast_add, a1, a2, b1, b2, d1, d3, d4, d5, hp, H.put_ne, o2, o3]
              refine (want_calls c hc _ s1 _).mono ?_
              rintro _ _ ⟨rfl, rfl⟩
              simp [-Int.natCast_add, a1, a2, b1, b2, d1, d3, d4, d5, hp, H.put_ne, o2, o3]
              refine ⟨_, ?_, rfl, .mk 9 0 ⟨#[]⟩ 0 h5.next [t], ?_, ?_⟩
              · refine Fr.put (Fr.put (Fr.trans (Fr.trans (?_ : Fr h _) hF) (Fr.row _ _)) (Nat.le_of_lt (d1 (.cells [.lit (.int .i64 0), .lit (.int .i64 0), .lit (.string ⟨#[]⟩), .lit (.int .i64 0), .slc 0 0 []] 41))) _) (Nat.le_refl _) _
                first
                  | exact (((Fr.new _ _).trans (Fr.new _ _)).put (Nat.le_of_lt (d1 _)) _)
                  | exact ((((Fr.new _ _).trans (Fr.new _ _)).put (Nat.le_of_lt (d1 _)) _).put (Nat.le_of_lt (d1 _)) _)
                  | exact ((Fr.new _ _).trans (Fr.new _ _))
              · simp [TN.v, TN.vs]
              · simp [TN.nd, TN.nds]
            · have hi := kind_lt (c := c) (s := s) (by intro h0; rw [h0] at k1; cases k1)
              have hw := wrap_succ (i := s.i) (by have := hc.len; omega)
              have k1' : kindOf c s = 1 := by simpa using k1
              rcases Nat.lt_or_ge (s.i + 1) c.toks.length with hi2 | hi2
              · have hi2' : ((s.i + 1 : Nat) : Int) < (c.toks.length : Int) := by omega
                cases hk : (c.toks[s.i + 1].kind == 6)
                · have hse : sets1 c s = false := by rw [sets1_old]; rw [List.getElem?_eq_getElem hi2]; simp [hk]
                  simp [k1', hse] at hs
                  simp [-Int.natCast_add, a1, a2, b1, b2, d1, d3, d4, d5, hp, H.put_ne, k1, k1', hw, ltB_t, hi2, hi2', hk]
                  obtain ⟨m, s1, hl, rfl, rfl⟩ := semi_some hs
                  refine (h1 c _ _ 1 m s1 hc ?_ hl).mono ?_
                  · exact a2 (.cells [.lit (.int .i64 0), .lit (.int .i64 0), .lit (.string ⟨#[]⟩), .lit (.int .i64 0), .slc 0 0 []] 41) (.cells [.lit (.int .i64 0), .lit (.int .i64 0), .lit (.string ⟨#[]⟩), .lit (.int .i64 0), .slc 0 0 []] 41)
                  rintro _ _ ⟨h5, hF, rfl, t, rfl, rfl⟩
                  have o3 := hF.obj ((h.new (.cells [.lit (.int .i64 0), .lit (.int .i64 0), .lit (.string ⟨#[]⟩), .lit (.int .i64 0), .slc 0 0 []] 41)).next) (d3 (.cells [.lit (.int .i64 0), .lit (.int .i64 0), .lit (.string ⟨#[]⟩), .lit (.int .i64 0), .slc 0 0 []] 41) (.cells [.lit (.int .i64 0), .lit (.int .i64 0), .lit (.string ⟨#[]⟩), .lit (.int .i64 0), .slc 0 0 []] 41))
                  have o2 := hF.obj h.next (d2 (.cells [.lit (.int .i64 0), .lit (.int .i64 0), .lit (.string ⟨#[]⟩), .lit (.int .i64 0), .slc 0 0 []] 41) (.cells [.lit (.int .i64 0), .lit (.int .i64 0), .lit (.string ⟨#[]⟩), .lit (.int .i64 0), .slc 0 0 []] 41))
                  simp [H.put_same, H.put_ne, H.new_self, H.new_ne, d1, d4] at o3 o2
                  simp [-Int.natCast_add, a1, a2, b1, b2, d1, d3, d4, d5, hp, H.put_ne, o2, o3]
                  refine (want_calls c hc _ s1 _).mono ?_
                  rintro _ _ ⟨rfl, rfl⟩
                  simp [-Int.natCast_add, a1, a2, b1, b2, d1, d3, d4, d5, hp, H.put_ne, o2, o3]
                  refine ⟨_, ?_, rfl, .mk 9 0 ⟨#[]⟩ 0 h5.next [t], ?_, ?_⟩
                  · refine Fr.put (Fr.put (Fr.trans (Fr.trans (?_ : Fr h _) hF) (Fr.row _ _)) (Nat.le_of_lt (d1 (.cells [.lit (.int .i64 0), .lit (.int .i64 0), .lit (.string ⟨#[]⟩), .lit (.int .i64 0), .slc 0 0 []] 41))) _) (Nat.le_refl _) _
                    first
                      | exact (((Fr.new _ _).trans (Fr.new _ _)).put (Nat.le_of_lt (d1 _)) _)
                      | exact ((((Fr.new _ _).trans (Fr.new _ _)).put (Nat.le_of_lt (d1 _)) _).put (Nat.le_of_lt (d1 _)) _)
                      | exact ((Fr.new _ _).trans (Fr.new _ _))
                  · simp [TN.v, TN.vs]
                  · simp [TN.nd, TN.nds]
                · cases ht : (c.toks[s.i + 1].text.toList == (⟨#[61]⟩ : ByteArray).toList)
                  · have hse : sets1 c s = false := by rw [sets1_old]; rw [List.getElem?_eq_getElem hi2]; simp only [hk, ht] <;> rfl
                    simp [k1', hse] at hs
                    simp [-Int.natCast_add, a1, a2, b1, b2, d1, d3, d4, d5, hp, H.put_ne, k1, k1', hw, ltB_t, hi2, hi2', hk, ht]
                    obtain ⟨m, s1, hl, rfl, rfl⟩ := semi_some hs
                    refine (h1 c _ _ 1 m s1 hc ?_ hl).mono ?_
                    · exact a2 (.cells [.lit (.int .i64 0), .lit (.int .i64 0), .lit (.string ⟨#[]⟩), .lit (.int .i64 0), .slc 0 0 []] 41) (.cells [.lit (.int .i64 0), .lit (.int .i64 0), .lit (.string ⟨#[]⟩), .lit (.int .i64 0), .slc 0 0 []] 41)
                    rintro _ _ ⟨h5, hF, rfl, t, rfl, rfl⟩
                    have o3 := hF.obj ((h.new (.cells [.lit (.int .i64 0), .lit (.int .i64 0), .lit (.string ⟨#[]⟩), .lit (.int .i64 0), .slc 0 0 []] 41)).next) (d3 (.cells [.lit (.int .i64 0), .lit (.int .i64 0), .lit (.string ⟨#[]⟩), .lit (.int .i64 0), .slc 0 0 []] 41) (.cells [.lit (.int .i64 0), .lit (.int .i64 0), .lit (.string ⟨#[]⟩), .lit (.int .i64 0), .slc 0 0 []] 41))
                    have o2 := hF.obj h.next (d2 (.cells [.lit (.int .i64 0), .lit (.int .i64 0), .lit (.string ⟨#[]⟩), .lit (.int .i64 0), .slc 0 0 []] 41) (.cells [.lit (.int .i64 0), .lit (.int .i64 0), .lit (.string ⟨#[]⟩), .lit (.int .i64 0), .slc 0 0 []] 41))
                    simp [H.put_same, H.put_ne, H.new_self, H.new_ne, d1, d4] at o3 o2
                    simp [-Int.natCast_add, a1, a2, b1, b2, d1, d3, d4, d5, hp, H.put_ne, o2, o3]
                    refine (want_calls c hc _ s1 _).mono ?_
                    rintro _ _ ⟨rfl, rfl⟩
                    simp [-Int.natCast_add, a1, a2, b1, b2, d1, d3, d4, d5, hp, H.put_ne, o2, o3]
                    refine ⟨_, ?_, rfl, .mk 9 0 ⟨#[]⟩ 0 h5.next [t], ?_, ?_⟩
                    · refine Fr.put (Fr.put (Fr.trans (Fr.trans (?_ : Fr h _) hF) (Fr.row _ _)) (Nat.le_of_lt (d1 (.cells [.lit (.int .i64 0), .lit (.int .i64 0), .lit (.string ⟨#[]⟩), .lit (.int .i64 0), .slc 0 0 []] 41))) _) (Nat.le_refl _) _
                      first
                        | exact (((Fr.new _ _).trans (Fr.new _ _)).put (Nat.le_of_lt (d1 _)) _)
                        | exact ((((Fr.new _ _).trans (Fr.new _ _)).put (Nat.le_of_lt (d1 _)) _).put (Nat.le_of_lt (d1 _)) _)
                        | exact ((Fr.new _ _).trans (Fr.new _ _))
                    · simp [TN.v, TN.vs]
                    · simp [TN.nd, TN.nds]
                  · have hse : sets1 c s = true := by rw [sets1_old]; rw [List.getElem?_eq_getElem hi2]; simp only [hk, ht] <;> rfl
                    have hw2 : IntKind.i64.wrap (((s.i + 1 : Nat) : Int) + 1) = ((s.i + 2 : Nat) : Int) := wrap_succ (i := s.i + 1) (by have := hc.len; omega)
                    have hnS : nameS c s = { s with i := s.i + 1 } := by simp [nameS, k1]
                    have hnV : nameV c s = textAt c s.i := by unfold nameV textAt; (first | (rw [if_pos k1]; done) | (rw [if_pos k1]; cases c.toks[s.i]? <;> rfl))
                    simp [k1', hse] at hs
                    simp [-Int.natCast_add, a1, a2, b1, b2, d1, d3, d4, d5, hp, H.put_ne, k1, k1', hw, ltB_t, hi2, hi2', hk, ht]
                    refine (name_calls c hc _ _).mono ?_
                    rintro _ _ ⟨rfl, rfl⟩
                    rw [hnS, hnV]
                    simp [-Int.natCast_add, a1, a2, b1, b2, d1, d3, d4, d5, hp, H.put_ne, hw2]
                    obtain ⟨m, s1, hl, rfl, rfl⟩ := semi_some hs
                    refine (h1 c _ { s with i := s.i + 2 } 1 m s1 hc ?_ hl).mono ?_
                    · exact a2 (.cells [.lit (.int .i64 0), .lit (.int .i64 0), .lit (.string ⟨#[]⟩), .lit (.int .i64 0), .slc 0 0 []] 41) (.cells [.lit (.int .i64 0), .lit (.int .i64 0), .lit (.string ⟨#[]⟩), .lit (.int .i64 0), .slc 0 0 []] 41)
                    rintro _ _ ⟨h5, hF, rfl, t, rfl, rfl⟩
                    have o3 := hF.obj ((h.new (.cells [.lit (.int .i64 0), .lit (.int .i64 0), .lit (.string ⟨#[]⟩), .lit (.int .i64 0), .slc 0 0 []] 41)).next) (d3 (.cells [.lit (.int .i64 0), .lit (.int .i64 0), .lit (.string ⟨#[]⟩), .lit (.int .i64 0), .slc 0 0 []] 41) (.cells [.lit (.int .i64 0), .lit (.int .i64 0), .lit (.string ⟨#[]⟩), .lit (.int .i64 0), .slc 0 0 []] 41))
                    have o2 := hF.obj h.next (d2 (.cells [.lit (.int .i64 0), .lit (.int .i64 0), .lit (.string ⟨#[]⟩), .lit (.int .i64 0), .slc 0 0 []] 41) (.cells [.lit (.int .i64 0), .lit (.int .i64 0), .lit (.string ⟨#[]⟩), .lit (.int .i64 0), .slc 0 0 []] 41))
                    simp [H.put_same, H.put_ne, H.new_self, H.new_ne, d1, d4] at o3 o2
                    simp [-Int.natCast_add, a1, a2, b1, b2, d1, d3, d4, d5, hp, H.put_ne, o2, o3]
                    refine (want_calls c hc _ s1 _).mono ?_
                    rintro _ _ ⟨rfl, rfl⟩
                    simp [-Int.natCast_add, a1, a2, b1, b2, d1, d3, d4, d5, hp, H.put_ne, o2, o3]
                    refine ⟨_, ?_, rfl, .mk 2 0 (textAt c s.i) 0 h5.next [t], ?_, ?_⟩
                    · refine Fr.put (Fr.put (Fr.trans (Fr.trans (?_ : Fr h _) hF) (Fr.row _ _)) (Nat.le_of_lt (d1 (.cells [.lit (.int .i64 0), .lit (.int .i64 0), .lit (.string ⟨#[]⟩), .lit (.int .i64 0), .slc 0 0 []] 41))) _) (Nat.le_refl _) _
                      first
                        | exact (((Fr.new _ _).trans (Fr.new _ _)).put (Nat.le_of_lt (d1 _)) _)
                        | exact ((((Fr.new _ _).trans (Fr.new _ _)).put (Nat.le_of_lt (d1 _)) _).put (Nat.le_of_lt (d1 _)) _)
                        | exact ((Fr.new _ _).trans (Fr.new _ _))
                    · simp [TN.v, TN.vs]
                    · simp [TN.nd, TN.nds]
              · have hi2' : (c.toks.length : Int) ≤ ((s.i + 1 : Nat) : Int) := by omega
                have hse : sets1 c s = false := by rw [sets1_old]; rw [List.getElem?_eq_none hi2]
                simp [k1', hse] at hs
                simp [-Int.natCast_add, a1, a2, b1, b2, d1, d3, d4, d5, hp, H.put_ne, k1, k1', hw, ltB_f, hi2, hi2']
                obtain ⟨m, s1, hl, rfl, rfl⟩ := semi_some hs
                refine (h1 c _ _ 1 m s1 hc ?_ hl).mono ?_
                · exact a2 (.cells [.lit (.int .i64 0), .lit (.int .i64 0), .lit (.string ⟨#[]⟩), .lit (.int .i64 0), .slc 0 0 []] 41) (.cells [.lit (.int .i64 0), .lit (.int .i64 0), .lit (.string ⟨#[]⟩), .lit (.int .i64 0), .slc 0 0 []] 41)
                rintro _ _ ⟨h5, hF, rfl, t, rfl, rfl⟩
                have o3 := hF.obj ((h.new (.cells [.lit (.int .i64 0), .lit (.int .i64 0), .lit (.string ⟨#[]⟩), .lit (.int .i64 0), .slc 0 0 []] 41)).next) (d3 (.cells [.lit (.int .i64 0), .lit (.int .i64 0), .lit (.string ⟨#[]⟩), .lit (.int .i64 0), .slc 0 0 []] 41) (.cells [.lit (.int .i64 0), .lit (.int .i64 0), .lit (.string ⟨#[]⟩), .lit (.int .i64 0), .slc 0 0 []] 41))
                have o2 := hF.obj h.next (d2 (.cells [.lit (.int .i64 0), .lit (.int .i64 0), .lit (.string ⟨#[]⟩), .lit (.int .i64 0), .slc 0 0 []] 41) (.cells [.lit (.int .i64 0), .lit (.int .i64 0), .lit (.string ⟨#[]⟩), .lit (.int .i64 0), .slc 0 0 []] 41))
                simp [H.put_same, H.put_ne, H.new_self, H.new_ne, d1, d4] at o3 o2
                simp [-Int.natCast_add, a1, a2, b1, b2, d1, d3, d4, d5, hp, H.put_ne, o2, o3]
                refine (want_calls c hc _ s1 _).mono ?_
                rintro _ _ ⟨rfl, rfl⟩
                simp [-Int.natCast_add, a1, a2, b1, b2, d1, d3, d4, d5, hp, H.put_ne, o2, o3]
                refine ⟨_, ?_, rfl, .mk 9 0 ⟨#[]⟩ 0 h5.next [t], ?_, ?_⟩
                · refine Fr.put (Fr.put (Fr.trans (Fr.trans (?_ : Fr h _) hF) (Fr.row _ _)) (Nat.le_of_lt (d1 (.cells [.lit (.int .i64 0), .lit (.int .i64 0), .lit (.string ⟨#[]⟩), .lit (.int .i64 0), .slc 0 0 []] 41))) _) (Nat.le_refl _) _
                  first
                    | exact (((Fr.new _ _).trans (Fr.new _ _)).put (Nat.le_of_lt (d1 _)) _)
                    | exact ((((Fr.new _ _).trans (Fr.new _ _)).put (Nat.le_of_lt (d1 _)) _).put (Nat.le_of_lt (d1 _)) _)
                    | exact ((Fr.new _ _).trans (Fr.new _ _))
                · simp [TN.v, TN.vs]
                · simp [TN.nd, TN.nds]
          · simp [g5] at hs
            simp [-Int.natCast_add, a1, a2, b1, b2, d1, d3, d4, d5, hp, H.put_ne]
            obtain ⟨m, s1, hl, rfl, rfl⟩ := semi_some hs
            refine (h1 c _ _ 1 m s1 hc ?_ hl).mono ?_
            · exact a2 (.cells [.lit (.int .i64 0), .lit (.int .i64 0), .lit (.string ⟨#[]⟩), .lit (.int .i64 0), .slc 0 0 []] 41) (.cells [.lit (.int .i64 0), .lit (.int .i64 0), .lit (.string ⟨#[]⟩), .lit (.int .i64 0), .slc 0 0 []] 41)
            rintro _ _ ⟨h5, hF, rfl, t, rfl, rfl⟩
            have o3 := hF.obj ((h.new (.cells [.lit (.int .i64 0), .lit (.int .i64 0), .lit (.string ⟨#[]⟩), .lit (.int .i64 0), .slc 0 0 []] 41)).next) (d3 (.cells [.lit (.int .i64 0), .lit (.int .i64 0), .lit (.string ⟨#[]⟩), .lit (.int .i64 0), .slc 0 0 []] 41) (.cells [.lit (.int .i64 0), .lit (.int .i64 0), .lit (.string ⟨#[]⟩), .lit (.int .i64 0), .slc 0 0 []] 41))
            have o2 := hF.obj h.next (d2 (.cells [.lit (.int .i64 0), .lit (.int .i64 0), .lit (.string ⟨#[]⟩), .lit (.int .i64 0), .slc 0 0 []] 41) (.cells [.lit (.int .i64 0), .lit (.int .i64 0), .lit (.string ⟨#[]⟩), .lit (.int .i64 0), .slc 0 0 []] 41))
            simp [H.put_same, H.put_ne, H.new_self, H.new_ne, d1, d4] at o3 o2
            simp [-Int.natCast_add, a1, a2, b1, b2, d1, d3, d4, d5, hp, H.put_ne, o2, o3]
            refine (want_calls c hc _ s1 _).mono ?_
            rintro _ _ ⟨rfl, rfl⟩
            simp [-Int.natCast_add, a1, a2, b1, b2, d1, d3, d4, d5, hp, H.put_ne, o2, o3]
            refine ⟨_, ?_, rfl, .mk 8 0 ⟨#[]⟩ 0 h5.next [t], ?_, ?_⟩
            · refine Fr.put (Fr.put (Fr.trans (Fr.trans (?_ : Fr h _) hF) (Fr.row _ _)) (Nat.le_of_lt (d1 (.cells [.lit (.int .i64 0), .lit (.int .i64 0), .lit (.string ⟨#[]⟩), .lit (.int .i64 0), .slc 0 0 []] 41))) _) (Nat.le_refl _) _
              first
                | exact (((Fr.new _ _).trans (Fr.new _ _)).put (Nat.le_of_lt (d1 _)) _)
                | exact ((((Fr.new _ _).trans (Fr.new _ _)).put (Nat.le_of_lt (d1 _)) _).put (Nat.le_of_lt (d1 _)) _)
                | exact ((Fr.new _ _).trans (Fr.new _ _))
            · simp [TN.v, TN.vs]
            · simp [TN.nd, TN.nds]
        · simp [g4] at hs
          simp [-Int.natCast_add, a1, a2, b1, b2, d1, d3, d4, d5, hp, H.put_ne]
          refine (is_calls c _ _ 6 _).mono ?_
          rintro _ _ ⟨rfl, rfl⟩
          cases gi : isB c (opS c s 2 ⟨#[114, 101, 116, 117, 114, 110]⟩) 6 ⟨#[59]⟩
          · simp [gi] at hs
            simp [-Int.natCast_add, a1, a2, b1, b2, d1, d3, d4, d5, hp, H.put_ne, gi]
            obtain ⟨m, s1, hl, rfl, rfl⟩ := semi_some hs
            refine (h1 c _ _ 1 m s1 hc ?_ hl).mono ?_
            · exact a2 (.cells [.lit (.int .i64 0), .lit (.int .i64 0), .lit (.string ⟨#[]⟩), .lit (.int .i64 0), .slc 0 0 []] 41) (.cells [.lit (.int .i64 0), .lit (.int .i64 0), .lit (.string ⟨#[]⟩), .lit (.int .i64 0), .slc 0 0 []] 41)
            rintro _ _ ⟨h5, hF, rfl, t, rfl, rfl⟩
            have o3 := hF.obj ((h.new (.cells [.lit (.int .i64 0), .lit (.int .i64 0), .lit (.string ⟨#[]⟩), .lit (.int .i64 0), .slc 0 0 []] 41)).next) (d3 (.cells [.lit (.int .i64 0), .lit (.int .i64 0), .lit (.string ⟨#[]⟩), .lit (.int .i64 0), .slc 0 0 []] 41) (.cells [.lit (.int .i64 0), .lit (.int .i64 0), .lit (.string ⟨#[]⟩), .lit (.int .i64 0), .slc 0 0 []] 41))
            have o2 := hF.obj h.next (d2 (.cells [.lit (.int .i64 0), .lit (.int .i64 0), .lit (.string ⟨#[]⟩), .lit (.int .i64 0), .slc 0 0 []] 41) (.cells [.lit (.int .i64 0), .lit (.int .i64 0), .lit (.string ⟨#[]⟩), .lit (.int .i64 0), .slc 0 0 []] 41))
            simp [H.put_same, H.put_ne, H.new_self, H.new_ne, d1, d4] at o3 o2
            simp [-Int.natCast_add, a1, a2, b1, b2, d1, d3, d4, d5, hp, H.put_ne, o2, o3]
            refine (want_calls c hc _ s1 _).mono ?_
            rintro _ _ ⟨rfl, rfl⟩
            simp [-Int.natCast_add, a1, a2, b1, b2, d1, d3, d4, d5, hp, H.put_ne, o2, o3]
            refine ⟨_, ?_, rfl, .mk 7 0 ⟨#[]⟩ 0 h5.next [t], ?_, ?_⟩
            · refine Fr.put (Fr.put (Fr.trans (Fr.trans (?_ : Fr h _) hF) (Fr.row _ _)) (Nat.le_of_lt (d1 (.cells [.lit (.int .i64 0), .lit (.int .i64 0), .lit (.string ⟨#[]⟩), .lit (.int .i64 0), .slc 0 0 []] 41))) _) (Nat.le_refl _) _
              first
                | exact (((Fr.new _ _).trans (Fr.new _ _)).put (Nat.le_of_lt (d1 _)) _)
                | exact ((((Fr.new _ _).trans (Fr.new _ _)).put (Nat.le_of_lt (d1 _)) _).put (Nat.le_of_lt (d1 _)) _)
                | exact ((Fr.new _ _).trans (Fr.new _ _))
            · simp [TN.v, TN.vs]
            · simp [TN.nd, TN.nds]
          · simp [gi] at hs
            simp [-Int.natCast_add, a1, a2, b1, b2, d1, d3, d4, d5, hp, H.put_ne, gi]
            obtain ⟨rfl, rfl⟩ := hs
            refine (want_calls c hc _ _ _).mono ?_
            rintro _ _ ⟨rfl, rfl⟩
            simp [-Int.natCast_add, a1, a2, b1, b2, d1, d3, d4, d5, hp, H.put_ne]
            refine ⟨_, ?_, rfl, .leaf 7 0 ⟨#[]⟩ 0, rfl, rfl⟩
            first
              | exact ((((Fr.new _ _).trans (Fr.new _ _)).put (Nat.le_of_lt (d1 _)) _).put (Nat.le_refl _) _)
              | exact (((((Fr.new _ _).trans (Fr.new _ _)).put (Nat.le_of_lt (d1 _)) _).put (Nat.le_of_lt (d1 _)) _).put (Nat.le_refl _) _)
      · simp [g3] at hs
        simp [-Int.natCast_add, a1, a2, b1, b2, d1, d3, d4, d5, hp, H.put_ne]
        obtain ⟨rfl, rfl⟩ := hs
        refine (want_calls c hc _ _ _).mono ?_
        rintro _ _ ⟨rfl, rfl⟩
        simp [-Int.natCast_add, a1, a2, b1, b2, d1, d3, d4, d5, hp, H.put_ne]
        refine ⟨_, ?_, rfl, .leaf 6 0 ⟨#[]⟩ 0, rfl, rfl⟩
        first
          | exact ((((Fr.new _ _).trans (Fr.new _ _)).put (Nat.le_of_lt (d1 _)) _).put (Nat.le_refl _) _)
          | exact (((((Fr.new _ _).trans (Fr.new _ _)).put (Nat.le_of_lt (d1 _)) _).put (Nat.le_of_lt (d1 _)) _).put (Nat.le_refl _) _)
    · simp [g2] at hs
      simp [-Int.natCast_add, a1, a2, b1, b2, d1, d3, d4, d5, hp, H.put_ne]
      obtain ⟨rfl, rfl⟩ := hs
      refine (want_calls c hc _ _ _).mono ?_
      rintro _ _ ⟨rfl, rfl⟩
      simp [-Int.natCast_add, a1, a2, b1, b2, d1, d3, d4, d5, hp, H.put_ne]
      refine ⟨_, ?_, rfl, .leaf 5 0 ⟨#[]⟩ 0, rfl, rfl⟩
      first
        | exact ((((Fr.new _ _).trans (Fr.new _ _)).put (Nat.le_of_lt (d1 _)) _).put (Nat.le_refl _) _)
        | exact (((((Fr.new _ _).trans (Fr.new _ _)).put (Nat.le_of_lt (d1 _)) _).put (Nat.le_of_lt (d1 _)) _).put (Nat.le_refl _) _)
  · simp [g1] at hs
    obtain ⟨m, s1, hl, rfl, rfl⟩ := semi_some hs
    simp [-Int.natCast_add, a1, a2, b1, b2, d1, d3, d4, d5, hp, H.put_ne]
    refine (name_calls c hc _ _).mono ?_
    rintro _ _ ⟨rfl, rfl⟩
    simp [-Int.natCast_add, a1, a2, b1, b2, d1, d3, d4, d5, hp, H.put_ne]
    refine (want_calls c hc _ _ _).mono ?_
    rintro _ _ ⟨rfl, rfl⟩
    simp [-Int.natCast_add, a1, a2, b1, b2, d1, d3, d4, d5, hp, H.put_ne]
    refine (h1 c _ _ 1 m s1 hc ?_ hl).mono ?_
    · exact a2 (.cells [.lit (.int .i64 0), .lit (.int .i64 0), .lit (.string ⟨#[]⟩), .lit (.int .i64 0), .slc 0 0 []] 41) (.cells [.lit (.int .i64 0), .lit (.int .i64 0), .lit (.string ⟨#[]⟩), .lit (.int .i64 0), .slc 0 0 []] 41)
    rintro _ _ ⟨h5, hF, rfl, t, rfl, rfl⟩
    have o3 := hF.obj ((h.new (.cells [.lit (.int .i64 0), .lit (.int .i64 0), .lit (.string ⟨#[]⟩), .lit (.int .i64 0), .slc 0 0 []] 41)).next) (d3 (.cells [.lit (.int .i64 0), .lit (.int .i64 0), .lit (.string ⟨#[]⟩), .lit (.int .i64 0), .slc 0 0 []] 41) (.cells [.lit (.int .i64 0), .lit (.int .i64 0), .lit (.string ⟨#[]⟩), .lit (.int .i64 0), .slc 0 0 []] 41))
    have o2 := hF.obj h.next (d2 (.cells [.lit (.int .i64 0), .lit (.int .i64 0), .lit (.string ⟨#[]⟩), .lit (.int .i64 0), .slc 0 0 []] 41) (.cells [.lit (.int .i64 0), .lit (.int .i64 0), .lit (.string ⟨#[]⟩), .lit (.int .i64 0), .slc 0 0 []] 41))
    have g2 : h.next ≠ (h.new (.cells [.lit (.int .i64 0), .lit (.int .i64 0), .lit (.string ⟨#[]⟩), .lit (.int .i64 0), .slc 0 0 []] 41)).next := d4 _
    simp [H.put_same, H.put_ne, H.new_self, H.new_ne, d1, d4] at o3 o2
    simp [-Int.natCast_add, a1, a2, b1, b2, d1, d3, d4, d5, hp, H.put_ne, o2, o3]
    refine (want_calls c hc _ s1 _).mono ?_
    rintro _ _ ⟨rfl, rfl⟩
    simp [-Int.natCast_add, a1, a2, b1, b2, d1, d3, d4, d5, hp, H.put_ne, o2, o3]
    refine ⟨_, ?_, rfl, .mk 1 0 (nameV c (opS c s 2 ⟨#[108, 101, 116]⟩)) 0 h5.next [t], ?_, ?_⟩
    · exact (((((Fr.new _ _).trans (Fr.new _ _)).put (Nat.le_of_lt (d1 _)) _).trans hF).trans (Fr.row _ _) |>.put (Nat.le_of_lt (d1 (.cells [.lit (.int .i64 0), .lit (.int .i64 0), .lit (.string ⟨#[]⟩), .lit (.int .i64 0), .slc 0 0 []] 41))) _).put (Nat.le_refl _) _
    · simp [TN.v, TN.vs]
    · simp [TN.nd, TN.nds]
end Go.Proofs.YtjofmihdeblbmaaGreatDoor.Xa
