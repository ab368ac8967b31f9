/- XA, joined: XaR9 XaRD XaQ2 XaS3 XaS4. -/
import Derived.Test.YtjofmihdeblbmaaGreatDoorXaM20
import Derived.Test.YtjofmihdeblbmaaGreatDoorXaM21
/- XA, part R9: plain. -/
namespace Go.Proofs.YtjofmihdeblbmaaGreatDoor.Xa
open Go Go.RowKit
set_option linter.unusedVariables false
set_option linter.unusedSimpArgs false
set_option maxRecDepth 100000
set_option maxHeartbeats 1000000
attribute [local simp] hid2 hid3 hid4 xcode_skip xcode_region xcode_draw xcode_loop xcode_seq xcode_cond xcode_block xcode_scope xcode_exit xcode_ret xops_nil xops_cons xd_nil xd_cons xstep_eq annot fillOf findFill findStore srcOf kcls cls qval qvalN xwant dstAt want1 xdo xop ev_const ev_global ev_func ev_zero ev_succ ev_undefs ev_hit ev_miss put_none put_len undefs_len xnil xfieldAddr fieldOf eT emtb seqQ blockQ xload xstore splice V.storable V.one V.cells mk xbinop xbin xun xbuiltin xindexAddr nilOr xindex xint cv cv1 retQ xres_tmp xres_cell xres_nil xresult xbuild xfill xbuildSlice xrows Nat.testBit places xfield item sideOk pendOk pendOf tyT1 tyT2 tyT3 tyT4 tyT5 tyT9 tyT22 tyT23 tyT24 tyT25 tyT26 tyT30 tyT34 tyT39 tyT41 tyT47 tyT48 tyT50 tyT53 tyT54 tyT56 tyT58 tyT63 tyT70 tyT76 tyT78 tyT80 tyT84 tyT87 tyT89 tyT96 tyT98 tyT100 tyT102 tyT108 tyT110 tyT112 tyT113 tyT115 tyT119 tyT121 tyT124 tyT138 tyT139 tyT141 tyT142 tyT143 tyT145 tyT147 tyT149 tyT155 tyT158 tyT164 tyT179 tyT186 tyT188 tyT189 tyT194 tyT197 tyT200 tyT216 tyT242 tyT245 isM bne PC.at_obj PC.put_at PC.at_at PC.at_eq H.put_same H.put_put Tok.v PC.at_next PC.at_ext PC.at_row PC.at_bump PC.at_grow PC.at_new PC.at_put PC.at_obj_ne H.new_self H.new_ne H.row_obj H.put_next TN.v_len TN.v_take TN.v_drop
theorem plain_step (f : Nat) (h1 : CNamed f) (h2 : COther f) : CPlain (f + 1) := by
  intro c h s nd s' hc hp hs
  unfold pPlain at hs
  refine XCalls.of Tryz.func125 rfl (by kernel_rfl) ?_
  rw [Tryz.ntmps125]
  obtain ⟨a1, a2, a3, b1, b2, b3⟩ := new2 h c.p hp
  obtain ⟨d1, d2, d3, d4, d5, d6, d7, d8⟩ := new3 h
  simp [-Int.natCast_add, a1, a2, b1, b2, d1, d3, hp]
  refine (kind_calls c _ s).mono ?_
  rintro _ _ ⟨rfl, rfl⟩
  have hlt : kindOf c s ≠ 0 → s.i < c.toks.length := kind_lt
  by_cases k3 : kindOf c s = 3
  · have hi := hlt (by omega)
    have hw := wrap_succ (i := s.i) (by have := hc.len; omega)
    simp [k3] at hs
    obtain ⟨rfl, rfl⟩ := hs
    have hk := k3
    simp [-Int.natCast_add, a1, a2, b1, b2, d1, d3, hp, hk]
    refine XW.drawB mixed (L := List.range 13) (B := [0, 1, 3, 7, 0, 16, 48, 112, 255, 511, 1023, 2047, 4095]) (by kernel_rfl) (by kernel_rfl) ?_
    simp only [List.range, List.range.loop, List.map_cons, List.map_nil, item]
    simp only [annot, fillOf, findFill, findStore, srcOf, List.getD_cons_succ, List.getD_cons_zero]
    simp [-Int.natCast_add, a1, a2, b1, b2, d1, d3, hp, hi, hw, H.put_ne, d4, d5]
    refine ⟨_, ((((Fr.new _ _).trans (Fr.new _ _)).put (Nat.le_of_lt (d1 _)) _).put (Nat.le_refl _) _), rfl, (.leaf 15 0 ⟨#[]⟩ (numAt c s.i)), ?_, rfl⟩
    simp [TN.v, numAt, textAt, hi]
  by_cases k4 : kindOf c s = 4
  · have hi := hlt (by omega)
    have hw := wrap_succ (i := s.i) (by have := hc.len; omega)
    simp [k4] at hs
    obtain ⟨rfl, rfl⟩ := hs
    have hk := k4
    simp [-Int.natCast_add, a1, a2, b1, b2, d1, d3, hp, hk]
    refine XW.drawB mixed (L := List.range 13) (B := [0, 1, 3, 7, 0, 16, 48, 112, 255, 511, 1023, 2047, 4095]) (by kernel_rfl) (by kernel_rfl) ?_
    simp only [List.range, List.range.loop, List.map_cons, List.map_nil, item]
    simp only [annot, fillOf, findFill, findStore, srcOf, List.getD_cons_succ, List.getD_cons_zero]
    simp [-Int.natCast_add, a1, a2, b1, b2, d1, d3, hp, hi, hw, H.put_ne, d4, d5]
    refine ⟨_, ((((Fr.new _ _).trans (Fr.new _ _)).put (Nat.le_of_lt (d1 _)) _).put (Nat.le_refl _) _), rfl, (.leaf 16 0 ⟨#[]⟩ (numAt c s.i)), ?_, rfl⟩
    simp [TN.v, numAt, textAt, hi]
  by_cases k5 : kindOf c s = 5
  · have hi := hlt (by omega)
    have hw := wrap_succ (i := s.i) (by have := hc.len; omega)
    simp [k5] at hs
    obtain ⟨rfl, rfl⟩ := hs
    have hk := k5
    simp [-Int.natCast_add, a1, a2, b1, b2, d1, d3, hp, hk]
    refine XW.drawB mixed (L := List.range 13) (B := [0, 1, 3, 7, 0, 16, 48, 112, 255, 511, 1023, 2047, 4095]) (by kernel_rfl) (by kernel_rfl) ?_
    simp only [List.range, List.range.loop, List.map_cons, List.map_nil, item]
    simp only [annot, fillOf, findFill, findStore, srcOf, List.getD_cons_succ, List.getD_cons_zero]
    simp [-Int.natCast_add, a1, a2, b1, b2, d1, d3, hp, hi, hw, H.put_ne, d4, d5]
    refine ⟨_, ((((Fr.new _ _).trans (Fr.new _ _)).put (Nat.le_of_lt (d1 _)) _).put (Nat.le_refl _) _), rfl, (.leaf 17 0 (textAt c s.i) 0), ?_, rfl⟩
    simp [TN.v, numAt, textAt, hi]
  have q3 : (kindOf c s == 3) = false := by simpa using k3
  have q4 : (kindOf c s == 4) = false := by simpa using k4
  have q5 : (kindOf c s == 5) = false := by simpa using k5
  by_cases k1 : kindOf c s = 1
  · have hi := hlt (by omega)
    have q1 : (kindOf c s == 1) = true := by simpa using k1
    simp [k1] at hs
    simp [-Int.natCast_add, a1, a2, b1, b2, d1, d3, hp, k1]
    refine (h1 c _ s nd s' hc (a2 _ _) hi hs).mono ?_
    rintro _ _ ⟨h5, hF, rfl, t, rfl, rfl⟩
    have o2 := hF.obj _ (d2 _ _)
    rw [H.new_ne _ _ (d1 _), H.new_self] at o2
    simp [-Int.natCast_add, b1, b2, o2]
    exact ⟨_, (((Fr.new _ _).trans (Fr.new _ _)).trans hF).put (Nat.le_refl _) _, rfl, t, rfl, rfl⟩
  · have q1 : (kindOf c s == 1) = false := by simpa using k1
    simp [k1, k3, k4, k5] at hs
    simp [-Int.natCast_add, a1, a2, b1, b2, d1, d3, hp, q1, q3, q4, q5, k1, k3, k4, k5]
    refine (h2 c _ s nd s' hc (a2 _ _) hs).mono ?_
    rintro _ _ ⟨h5, hF, rfl, t, rfl, rfl⟩
    have o2 := hF.obj _ (d2 _ _)
    rw [H.new_ne _ _ (d1 _), H.new_self] at o2
    simp [-Int.natCast_add, b1, b2, o2]
    exact ⟨_, (((Fr.new _ _).trans (Fr.new _ _)).trans hF).put (Nat.le_refl _) _, rfl, t, rfl, rfl⟩
end Go.Proofs.YtjofmihdeblbmaaGreatDoor.Xa
/- XA, part RD: all of an expression's functions. -/
namespace Go.Proofs.YtjofmihdeblbmaaGreatDoor.Xa
open Go Go.RowKit
set_option linter.unusedVariables false
structure Ex (f : Nat) : Prop where
  level : CLevel f
  logic : CLogic f
  row : CRow f
  unary : CUnary f
  index : CIndex f
  plain : CPlain f
  named : CNamed f
  other : COther f
  list : CList f
theorem ex_zero : Ex 0 where
  level := fun c h s n nd s' hc hp hs => by unfold pLevel at hs; cases hs
  logic := fun c h s n nd s' hc hp hs => by unfold pLogic at hs; cases hs
  row := fun c h s n nd s' hc hp hs => by unfold pRow at hs; cases hs
  unary := fun c h s nd s' hc hp hs => by unfold pUnary at hs; cases hs
  index := fun c h s nd s' hc hp hs => by unfold pIndex at hs; cases hs
  plain := fun c h s nd s' hc hp hs => by unfold pPlain at hs; cases hs
  named := fun c h s nd s' hc hp hi hs => by unfold pNamed at hs; cases hs
  other := fun c h s nd s' hc hp hs => by unfold pOther at hs; cases hs
  list := fun c h s t l s' hc hp he hs => by unfold pList at hs; cases hs
theorem ex_all : ∀ (f : Nat), f ≤ 1000000 → ∀ m, m ≤ f → Ex m
  | 0, _, m, hm => by obtain rfl : m = 0 := by omega
                      exact ex_zero
  | f + 1, hf, m, hm => by
    have ih := ex_all f (by omega)
    rcases Nat.lt_or_ge m (f + 1) with h1 | h1
    · exact ih m (by omega)
    · obtain rfl : m = f + 1 := by omega
      have lv : ∀ m, m ≤ f → CLevel m := fun m hm => (ih m hm).level
      have i := ih f (Nat.le_refl f)
      exact {
        level := level_step f i.logic i.row i.unary i.index
        logic := logic_step f lv
        row := row_step f lv
        unary := unary_step f lv
        index := index_step f i.plain lv
        plain := plain_step f i.named i.other
        named := named_step f i.list
        other := other_step f i.list i.level
        list := fun c h s t l s' hc hp he hs => list_step f (by omega) lv c h s t l s' hc hp he hs }
theorem ex (f : Nat) (hf : f ≤ 1000000) : Ex f := ex_all f hf f (Nat.le_refl f)
end Go.Proofs.YtjofmihdeblbmaaGreatDoor.Xa
/- XA, part Q2: statements, as plain functions (with fuel). -/
namespace Go.Proofs.YtjofmihdeblbmaaGreatDoor.Xa
open Go Go.RowKit
set_option linter.unusedVariables false
def sets1 (c : PC) (s : PS) : Bool := match c.toks[s.i + 1]? with
  | some x => x.kind == 6 && x.text.data.toList == [61]
  | none => false
theorem sets1_old (c : PC) (s : PS) : sets1 c s = (match c.toks[s.i + 1]? with
  | some x => x.kind == 6 && x.text.toList == (⟨#[61]⟩ : ByteArray).toList
  | none => false) := by
  unfold sets1
  simp only [bytes_list]
def k_else : ByteArray := ⟨#[101, 108, 115, 101]⟩
def semi (c : PC) (r : Option (Nd × PS)) (w : Nd → Nd) : Option (Nd × PS) := match r with
  | some (m, s) => some (w m, wantS c s ⟨#[59]⟩)
  | none => none
def begS (c : PC) (s : PS) : PS := if isB c s 6 ⟨#[123]⟩ then s else wrongS c s 10
mutual
def pBlock : Nat → PC → PS → Option (Nd × PS)
  | 0, _, _ => none
  | f + 1, c, s => if (entS c (begS c s)).e = 0 then match pBlockL f c (inS (entS c (begS c s)) 1) [] with
      | some (l, s2) => some (.mk 10 0 ⟨#[]⟩ 0 l, outS s2)
      | none => none
    else some (.mk 10 0 ⟨#[]⟩ 0 [], entS c (begS c s))
def pBlockL : Nat → PC → PS → List Nd → Option (List Nd × PS)
  | 0, _, _, _ => none
  | f + 1, c, s, acc => if s.e == 0 then
      if isB c s 6 ⟨#[125]⟩ then some (acc, opS c s 6 ⟨#[125]⟩) else match pStat f c s with
        | some (m, s1) => pBlockL f c s1 (acc ++ [m])
        | none => none
    else some (acc, s)
def pIff : Nat → PC → PS → Option (Nd × PS)
  | 0, _, _ => none
  | f + 1, c, s => match pLevel f c s 1 with
    | some (a, s1) => match pBlock f c s1 with
      | some (b, s2) => if isB c s2 2 ⟨#[101, 108, 115, 101]⟩ then
          if isB c (opS c s2 2 ⟨#[101, 108, 115, 101]⟩) 2 ⟨#[105, 102]⟩ then match pIff f c (opS c (opS c s2 2 ⟨#[101, 108, 115, 101]⟩) 2 ⟨#[105, 102]⟩) with
            | some (x, s4) => some (.mk 3 0 ⟨#[]⟩ 0 [a, b, .mk 10 0 ⟨#[]⟩ 0 [x]], s4)
            | none => none
          else match pBlock f c (opS c s2 2 ⟨#[101, 108, 115, 101]⟩) with
            | some (x, s4) => some (.mk 3 0 ⟨#[]⟩ 0 [a, b, x], s4)
            | none => none
        else some (.mk 3 0 ⟨#[]⟩ 0 [a, b], s2)
      | none => none
    | none => none
def pStat : Nat → PC → PS → Option (Nd × PS)
  | 0, _, _ => none
  | f + 1, c, s => if isB c s 2 ⟨#[105, 102]⟩ then pIff f c (opS c s 2 ⟨#[105, 102]⟩)
    else if isB c s 2 ⟨#[119, 104, 105, 108, 101]⟩ then match pLevel f c (opS c s 2 ⟨#[119, 104, 105, 108, 101]⟩) 1 with
      | some (a, s1) => match pBlock f c s1 with
        | some (b, s2) => some (.mk 4 0 ⟨#[]⟩ 0 [a, b], s2)
        | none => none
      | none => none
    else pSimple f c s
def pSimple : Nat → PC → PS → Option (Nd × PS)
  | 0, _, _ => none
  | f + 1, c, s =>
    if isB c s 2 ⟨#[108, 101, 116]⟩ then semi c (pLevel f c (wantS c (nameS c (opS c s 2 ⟨#[108, 101, 116]⟩)) ⟨#[61]⟩) 1) fun m => .mk 1 0 (nameV c (opS c s 2 ⟨#[108, 101, 116]⟩)) 0 [m]
    else if isB c s 2 ⟨#[98, 114, 101, 97, 107]⟩ then some (.mk 5 0 ⟨#[]⟩ 0 [], wantS c (opS c s 2 ⟨#[98, 114, 101, 97, 107]⟩) ⟨#[59]⟩)
    else if isB c s 2 ⟨#[99, 111, 110, 116, 105, 110, 117, 101]⟩ then some (.mk 6 0 ⟨#[]⟩ 0 [], wantS c (opS c s 2 ⟨#[99, 111, 110, 116, 105, 110, 117, 101]⟩) ⟨#[59]⟩)
    else if isB c s 2 ⟨#[114, 101, 116, 117, 114, 110]⟩ then
      if isB c (opS c s 2 ⟨#[114, 101, 116, 117, 114, 110]⟩) 6 ⟨#[59]⟩ then some (.mk 7 0 ⟨#[]⟩ 0 [], wantS c (opS c s 2 ⟨#[114, 101, 116, 117, 114, 110]⟩) ⟨#[59]⟩)
      else semi c (pLevel f c (opS c s 2 ⟨#[114, 101, 116, 117, 114, 110]⟩) 1) fun m => .mk 7 0 ⟨#[]⟩ 0 [m]
    else if isB c s 2 ⟨#[112, 114, 105, 110, 116]⟩ then semi c (pLevel f c (opS c s 2 ⟨#[112, 114, 105, 110, 116]⟩) 1) fun m => .mk 8 0 ⟨#[]⟩ 0 [m]
    else if kindOf c s == 1 && sets1 c s then semi c (pLevel f c { s with i := s.i + 2 } 1) fun m => .mk 2 0 (textAt c s.i) 0 [m]
    else semi c (pLevel f c s 1) fun m => .mk 9 0 ⟨#[]⟩ 0 [m]
end
def CBlock (f : Nat) : Prop := ∀ (c : PC) (h : H) (s : PS) (nd : Nd) (s' : PS), c.ok → c.p < h.next → pBlock f c s = some (nd, s') → XCalls e 99 [.ptr c.p 0] (c.at_ h s) (NPost c h s' (NdV nd))
def CIff (f : Nat) : Prop := ∀ (c : PC) (h : H) (s : PS) (nd : Nd) (s' : PS), c.ok → c.p < h.next → pIff f c s = some (nd, s') → XCalls e 192 [.ptr c.p 0] (c.at_ h s) (NPost c h s' (NdV nd))
def CSimple (f : Nat) : Prop := ∀ (c : PC) (h : H) (s : PS) (nd : Nd) (s' : PS), c.ok → c.p < h.next → pSimple f c s = some (nd, s') → XCalls e 193 [.ptr c.p 0] (c.at_ h s) (NPost c h s' (NdV nd))
def CStat (f : Nat) : Prop := ∀ (c : PC) (h : H) (s : PS) (nd : Nd) (s' : PS), c.ok → c.p < h.next → pStat f c s = some (nd, s') → XCalls e 148 [.ptr c.p 0] (c.at_ h s) (NPost c h s' (NdV nd))
end Go.Proofs.YtjofmihdeblbmaaGreatDoor.Xa
/- XA, part S3: iff. -/
namespace Go.Proofs.YtjofmihdeblbmaaGreatDoor.Xa
open Go Go.RowKit
set_option linter.unusedVariables false
set_option linter.unusedSimpArgs false
set_option maxRecDepth 100000
set_option maxHeartbeats 1000000
theorem opS_false {c : PC} {s : PS} {k : Int} {t : ByteArray} (h : isB c s k t = false) : opS c s k t = s := by unfold opS; rw [h]; rfl
attribute [local simp] hid2 hid3 hid4 xcode_skip xcode_region xcode_draw xcode_loop xcode_seq xcode_cond xcode_block xcode_scope xcode_exit xcode_ret xops_nil xops_cons xd_nil xd_cons xstep_eq annot fillOf findFill findStore srcOf kcls cls qval qvalN xwant dstAt want1 xdo xop ev_const ev_global ev_func ev_zero ev_succ ev_undefs ev_hit ev_miss put_none put_len undefs_len xnil xfieldAddr fieldOf eT emtb seqQ blockQ xload xstore splice V.storable V.one V.cells mk xbinop xbin xun xbuiltin xindexAddr nilOr xindex xint cv cv1 retQ xres_tmp xres_cell xres_nil xresult xbuild xfill xbuildSlice xrows Nat.testBit places xfield item sideOk pendOk pendOf tyT1 tyT2 tyT3 tyT4 tyT5 tyT9 tyT22 tyT23 tyT24 tyT25 tyT26 tyT30 tyT34 tyT39 tyT41 tyT47 tyT48 tyT50 tyT53 tyT54 tyT56 tyT58 tyT63 tyT70 tyT76 tyT78 tyT80 tyT84 tyT87 tyT89 tyT96 tyT98 tyT100 tyT102 tyT108 tyT110 tyT112 tyT113 tyT115 tyT119 tyT121 tyT124 tyT138 tyT139 tyT141 tyT142 tyT143 tyT145 tyT147 tyT149 tyT155 tyT158 tyT164 tyT179 tyT186 tyT188 tyT189 tyT194 tyT197 tyT200 tyT216 tyT242 tyT245 isM bne PC.at_obj PC.put_at PC.at_at PC.at_eq H.put_same H.put_put Tok.v PC.at_next PC.at_ext PC.at_row PC.at_bump PC.at_grow PC.at_new PC.at_put PC.at_obj_ne H.new_self H.new_ne H.row_obj H.put_next TN.v_len TN.v_take TN.v_drop
theorem iff_step (f : Nat) (h1 : CLevel f) (h3 : CBlock f) (h4 : CIff f) : CIff (f + 1) := by
  intro c h s nd s' hc hp hs
  unfold pIff at hs
  refine XCalls.of Tryz.func192 rfl (by kernel_rfl) ?_
  rw [Tryz.ntmps192]
  have q2 : h.next ≠ c.p := by omega
  have q1 : ∀ o, c.p < (h.new o).next := fun o => Nat.lt_succ_of_lt hp
  have q3 : ∀ o, h.next < (h.new o).next := fun o => Nat.lt_succ_self _
  split at hs
  case h_2 => cases hs
  rename_i a s1 hl
  split at hs
  case h_2 => cases hs
  rename_i b s2 hb
  simp [-Int.natCast_add, hp, q2]
  refine (h1 c _ _ 1 a s1 hc (q1 _) hl).mono ?_
  rintro _ _ ⟨h5, hF, rfl, t, rfl, rfl⟩
  have p5 : c.p < h5.next := Nat.lt_of_lt_of_le (q1 (.cells [] 0)) hF.next
  simp [-Int.natCast_add, hp, q2]
  refine (h3 c _ s1 b _ hc p5 hb).mono ?_
  rintro _ _ ⟨h6, hF6, rfl, t6, rfl, rfl⟩
  have ho := (hF.trans hF6).obj h.next (q3 _)
  rw [H.new_self] at ho
  have p6 : c.p < h6.next := Nat.lt_of_lt_of_le p5 hF6.next
  have p6r : ∀ n, c.p < (h6.row n).next := fun n => Nat.lt_succ_of_lt p6
  have n6 : ∀ n, (h6.row n).next ≠ c.p := fun n => Nat.ne_of_gt (p6r n)
  have lh : h.next < h6.next := Nat.lt_of_lt_of_le (q3 (.cells [] 0)) (Nat.le_trans hF.next hF6.next)
  have lhr : ∀ n, h.next < (h6.row n).next := fun n => Nat.lt_succ_of_lt lh
  have nhr : ∀ n, h.next ≠ (h6.row n).next := fun n => Nat.ne_of_lt (lhr n)
  have nrh : ∀ n, (h6.row n).next ≠ h.next := fun n => Nat.ne_of_gt (lhr n)
  simp [-Int.natCast_add, ho, q2, p6, p6r, n6]
  refine (word_calls c hc _ s2 _).mono ?_
  rintro _ _ ⟨rfl, rfl⟩
  cases g1 : isB c s2 2 ⟨#[101, 108, 115, 101]⟩
  · simp [g1] at hs
    obtain ⟨rfl, rfl⟩ := hs
    simp [-Int.natCast_add, ho, q2, p6, p6r, n6, opS, g1, lhr, nhr, nrh, H.put_ne]
    refine ⟨_, ?_, rfl, .mk 3 0 ⟨#[]⟩ 0 h6.next [t, t6], ?_, ?_⟩
    · exact ((((((Fr.new _ _).trans hF).trans hF6).trans (Fr.row _ _)).trans (Fr.new _ _)).put (Nat.le_of_lt (lhr _)) _).put (Nat.le_refl _) _
    · simp [TN.v, TN.vs]
    · simp [TN.nd, TN.nds]
  · simp [g1] at hs
    simp [-Int.natCast_add, ho, q2, p6, p6r, n6]
    refine (word_calls c hc _ _ _).mono ?_
    rintro _ _ ⟨rfl, rfl⟩
    cases g2 : isB c (opS c s2 2 ⟨#[101, 108, 115, 101]⟩) 2 ⟨#[105, 102]⟩
    · simp [g2] at hs
      split at hs
      case h_2 => cases hs
      rename_i x s4 hx
      obtain ⟨rfl, rfl⟩ := hs
      have e2 := opS_false g2
      rw [e2]
      simp [-Int.natCast_add, ho, q2, p6, p6r, n6]
      refine XW.drawB mixed (L := List.range 8) (B := [0, 1, 0, 4, 12, 31, 63, 127]) (by kernel_rfl) (by kernel_rfl) ?_
      simp only [List.range, List.range.loop, List.map_cons, List.map_nil, item]
      simp only [annot, fillOf, findFill, findStore, srcOf, List.getD_cons_succ, List.getD_cons_zero]
      simp [-Int.natCast_add, ho, q2, p6, p6r, n6]
      refine (h3 c _ _ x _ hc ?_ hx).mono ?_
      · exact Nat.lt_succ_of_lt (p6r 0)
      rintro _ _ ⟨h7, hF7, rfl, t7, rfl, rfl⟩
      have o3 := hF7.obj (h6.row 2).next (Nat.lt_succ_self _)
      have o2 := hF7.obj h.next (Nat.lt_succ_of_lt (lhr 2))
      have x3 := hF7.ext h6.next (Nat.lt_succ_of_lt (Nat.lt_succ_self _))
      simp [H.put_same, H.put_ne, H.new_self, H.new_ne, lhr, nhr, H.row_obj, ho, H.put_ext, H.new_ext, H.row_ext_self] at o3 o2 x3
      have l67 : h6.next < h7.next := Nat.lt_of_lt_of_le (Nat.lt_succ_of_lt (Nat.lt_succ_self _)) hF7.next
      have n7 : h7.next ≠ 0 := by omega
      have n60 : h6.next ≠ 0 := by omega
      simp [-Int.natCast_add, o3, o2, x3, q2, n6, n7, n60, xappend, H.row_ext_ne, l67, nhr, nrh, H.put_ne, maxLen, H.grow_obj]
      refine ⟨_, ?_, rfl, .mk 3 0 ⟨#[]⟩ 0 (h7.row 1).next [t, t6, t7], ?_, ?_⟩
      · refine Fr.put (Fr.put (Fr.grow (Fr.trans (Fr.trans (?_ : Fr h _) hF7) (Fr.row _ _)) (Nat.le_of_lt lh) _) (Nat.le_of_lt (lhr _)) _) (Nat.le_refl _) _
        exact ((((((Fr.new _ _).trans hF).trans hF6).trans (Fr.row _ _)).trans (Fr.new _ _)).put (Nat.le_of_lt (lhr _)) _)
      · simp [TN.v, TN.vs]
      · simp [TN.nd, TN.nds]
    · simp [g2] at hs
      split at hs
      case h_2 => cases hs
      rename_i x s4 hx
      obtain ⟨rfl, rfl⟩ := hs
      simp [-Int.natCast_add, ho, q2, p6, p6r, n6]
      refine XW.drawB mixed (L := List.range 10) (B := [0, 1, 0, 4, 12, 28, 60, 127, 255, 511]) (by kernel_rfl) (by kernel_rfl) ?_
      simp only [List.range, List.range.loop, List.map_cons, List.map_nil, item]
      simp only [annot, fillOf, findFill, findStore, srcOf, List.getD_cons_succ, List.getD_cons_zero]
      simp [-Int.natCast_add, ho, q2, p6, p6r, n6]
      refine (h4 c _ _ x _ hc ?_ hx).mono ?_
      · exact Nat.lt_succ_of_lt (p6r 0)
      rintro _ _ ⟨h7, hF7, rfl, t7, rfl, rfl⟩
      have o3 := hF7.obj (h6.row 2).next (Nat.lt_succ_self _)
      have o2 := hF7.obj h.next (Nat.lt_succ_of_lt (lhr 2))
      have x3 := hF7.ext h6.next (Nat.lt_succ_of_lt (Nat.lt_succ_self _))
      simp [H.put_same, H.put_ne, H.new_self, H.new_ne, lhr, nhr, H.row_obj, ho, H.put_ext, H.new_ext, H.row_ext_self] at o3 o2 x3
      have l67 : h6.next < h7.next := Nat.lt_of_lt_of_le (Nat.lt_succ_of_lt (Nat.lt_succ_self _)) hF7.next
      have l67r : ∀ n, h6.next < (h7.row n).next := fun n => Nat.lt_succ_of_lt l67
      have n7 : h7.next ≠ 0 := by omega
      have n7r : ∀ n, (h7.row n).next ≠ 0 := fun n => Nat.succ_ne_zero _
      have n60 : h6.next ≠ 0 := by omega
      simp [-Int.natCast_add, o3, o2, x3, q2, n6, n7, n7r, n60, xappend, H.row_ext_ne, l67, l67r, nhr, nrh, H.put_ne, maxLen, H.grow_obj]
      refine ⟨_, ?_, rfl, .mk 3 0 ⟨#[]⟩ 0 ((h7.row 1).row 1).next [t, t6, .mk 10 0 ⟨#[]⟩ 0 h7.next [t7]], ?_, ?_⟩
      · refine Fr.put (Fr.put (Fr.grow (Fr.trans (Fr.trans (Fr.trans (?_ : Fr h _) hF7) (Fr.row _ _)) (Fr.row _ _)) (Nat.le_of_lt lh) _) (Nat.le_of_lt (lhr _)) _) (Nat.le_refl _) _
        exact ((((((Fr.new _ _).trans hF).trans hF6).trans (Fr.row _ _)).trans (Fr.new _ _)).put (Nat.le_of_lt (lhr _)) _)
      · simp [TN.v, TN.vs]
      · simp [TN.nd, TN.nds]
end Go.Proofs.YtjofmihdeblbmaaGreatDoor.Xa
/- XA, part S4: block. -/
namespace Go.Proofs.YtjofmihdeblbmaaGreatDoor.Xa
open Go Go.RowKit
set_option linter.unusedVariables false
set_option linter.unusedSimpArgs false
set_option maxRecDepth 100000
set_option maxHeartbeats 1000000
theorem Fr.fix {h h4 h7 : H} {q : Nat} {N O0 : Obj} (x : Fr h h4) (y : Fr (h4.put q N) h7) (o : h.obj q = some O0) : Fr h (h7.put q O0) := ⟨Nat.le_trans x.next y.next, fun j hj => by
  by_cases hjq : j = q
  · subst hjq; rw [H.put_same, o]
  · rw [H.put_ne _ _ hjq, y.obj j (Nat.lt_of_lt_of_le hj x.next), H.put_ne _ _ hjq, x.obj j hj], fun j hj => (y.ext j (Nat.lt_of_lt_of_le hj x.next)).trans (x.ext j hj), fun j hj => (y.arr j (Nat.lt_of_lt_of_le hj x.next)).trans (x.arr j hj)⟩
def nodeB (id sz : Nat) (rows : List (List V)) : Obj := .cells [.lit (.int .i64 10), .lit (.int .i64 0), .lit (.string ⟨#[]⟩), .lit (.int .i64 0), .slc id sz rows] 41
def BlkJ (f : Nat) (c : PC) (h : H) (q1 q4 : Nat) (l : List Nd) (s2 : PS) : Nat → List V → H → Prop := fun m fr' h' => ∃ ts s1 h4 id sz, m + List.length ts ≤ f ∧ pBlockL m c s1 (TN.nds ts) = some (l, s2) ∧ h' = c.at_ (h4.put q4 (.cells [.lit (.int .i64 10), .lit (.int .i64 0), .lit (.string ⟨#[]⟩), .lit (.int .i64 0), .slc id sz (TN.vs ts)] 41)) s1 ∧ Fr h h4 ∧ ((ts = [] ∧ id = 0 ∧ sz = 0) ∨ (h.next ≤ id ∧ id < h4.next ∧ sz = 5 ∧ h4.ext id = some ts.length)) ∧ fr'.length = 28 ∧ ev fr' (.tmp 0) = .ptr q1 0 ∧ ev fr' (.tmp 1) = .ptr q4 0
attribute [local simp] hid2 hid3 hid4 xcode_skip xcode_region xcode_draw xcode_loop xcode_seq xcode_cond xcode_block xcode_scope xcode_exit xcode_ret xops_nil xops_cons xd_nil xd_cons xstep_eq annot fillOf findFill findStore srcOf kcls cls qval qvalN xwant dstAt want1 xdo xop ev_const ev_global ev_func ev_zero ev_succ ev_undefs ev_hit ev_miss put_none put_len undefs_len xnil xfieldAddr fieldOf eT emtb seqQ blockQ xload xstore splice V.storable V.one V.cells mk xbinop xbin xun xbuiltin xindexAddr nilOr xindex xint cv cv1 retQ xres_tmp xres_cell xres_nil xresult xbuild xfill xbuildSlice xrows Nat.testBit places xfield item sideOk pendOk pendOf tyT1 tyT2 tyT3 tyT4 tyT5 tyT9 tyT22 tyT23 tyT24 tyT25 tyT26 tyT30 tyT34 tyT39 tyT41 tyT47 tyT48 tyT50 tyT53 tyT54 tyT56 tyT58 tyT63 tyT70 tyT76 tyT78 tyT80 tyT84 tyT87 tyT89 tyT96 tyT98 tyT100 tyT102 tyT108 tyT110 tyT112 tyT113 tyT115 tyT119 tyT121 tyT124 tyT138 tyT139 tyT141 tyT142 tyT143 tyT145 tyT147 tyT149 tyT155 tyT158 tyT164 tyT179 tyT186 tyT188 tyT189 tyT194 tyT197 tyT200 tyT216 tyT242 tyT245
theorem bl1 (f : Nat) (hf : f ≤ 1000000) (h1 : ∀ m, m ≤ f → CStat m) (c : PC) (hc : c.ok) (h : H) (hp : c.p < h.next) (s : PS) (hi : s.i < c.toks.length) (q1 q4 : Nat) (n1 : q1 ≠ c.p) (n4 : q4 ≠ c.p) (l1 : q1 < h.next) (l4 : q4 < h.next) (hq : q1 ≠ q4)
    (o1 : h.obj q1 = some (.cells [.ptr c.p 0] 84)) (o4 : h.obj q4 = some (.cells [.lit (.int .i64 10), .lit (.int .i64 0), .lit (.string ⟨#[]⟩), .lit (.int .i64 0), .slc 0 0 []] 41))
    (l : List Nd) (s2 : PS) (hs : pBlockL f c { s with i := s.i + 1 } [] = some (l, s2)) :
    XCalls e 147 [.ptr q1 0, .ptr q4 0] (c.at_ h s) (CPost c h q4 (.mk 10 0 ⟨#[]⟩ 0 l) (outS s2)) := by
  refine XCalls.of Tryz.func147 rfl (by kernel_rfl) ?_
  rw [Tryz.ntmps147]
  have hw := wrap_succ (i := s.i) (by have := hc.len; omega)
  simp [-Int.natCast_add, isM, bne, PC.at_obj, PC.put_at, PC.at_at, PC.at_eq, H.put_same, H.put_put, Tok.v, PC.at_next, PC.at_ext, PC.at_row, PC.at_bump, PC.at_grow, PC.at_new, PC.at_put, PC.at_obj_ne, H.new_self, H.new_ne, H.row_obj, H.put_next, TN.v_len, TN.v_take, TN.v_drop, n1, o1, hw]
  refine XW.loopH (BlkJ f c h q1 q4 l s2) f ?_ ?_
  · refine ⟨[], _, h, 0, 0, Nat.le_refl _, hs, ?_, Fr.refl h, .inl ⟨rfl, rfl, rfl⟩, ?_⟩
    · show _ = c.at_ (h.put q4 (.cells [.lit (.int .i64 10), .lit (.int .i64 0), .lit (.string ⟨#[]⟩), .lit (.int .i64 0), .slc 0 0 []] 41)) _
      rw [H.put_self o4]
    · simp [-Int.natCast_add, isM, bne, PC.at_obj, PC.put_at, PC.at_at, PC.at_eq, H.put_same, H.put_put, Tok.v, PC.at_next, PC.at_ext, PC.at_row, PC.at_bump, PC.at_grow, PC.at_new, PC.at_put, PC.at_obj_ne, H.new_self, H.new_ne, H.row_obj, H.put_next, TN.v_len, TN.v_take, TN.v_drop]
  · clear hs
    rintro m fr' h' ⟨ts, s1, h4, id, sz, hm, hs, rfl, hF, hid, e0, e1, e2⟩
    have p4 : c.p < h4.next := Nat.lt_of_lt_of_le hp hF.next
    have oq1 : h4.obj q1 = some (.cells [.ptr c.p 0] 84) := (hF.obj q1 l1).trans o1
    have fin : ∀ h3, h3 = c.at_ (h4.put q4 (.cells [.lit (.int .i64 10), .lit (.int .i64 0), .lit (.string ⟨#[]⟩), .lit (.int .i64 0), .slc id sz (TN.vs ts)] 41)) s2 → TN.nds ts = l → CPost c h q4 (.mk 10 0 ⟨#[]⟩ 0 l) (outS s2) (.tup []) h3 := by
      rintro _ rfl rfl
      rcases hid with ⟨rfl, rfl, rfl⟩ | ⟨_, _, rfl, _⟩
      · exact ⟨_, s2, rfl, rfl, h4, .leaf 10 0 ⟨#[]⟩ 0, hF, rfl, rfl⟩
      · exact ⟨_, s2, rfl, rfl, h4, .mk 10 0 ⟨#[]⟩ 0 id ts, hF, rfl, rfl⟩
    cases m with
    | zero => unfold pBlockL at hs; cases hs
    | succ m =>
      unfold pBlockL at hs
      cases he : (s1.e == 0)
      · simp [he] at hs
        obtain ⟨hl, rfl⟩ := hs
        simp [-Int.natCast_add, isM, bne, PC.at_obj, PC.put_at, PC.at_at, PC.at_eq, H.put_same, H.put_put, Tok.v, PC.at_next, PC.at_ext, PC.at_row, PC.at_bump, PC.at_grow, PC.at_new, PC.at_put, PC.at_obj_ne, H.new_self, H.new_ne, H.row_obj, H.put_next, TN.v_len, TN.v_take, TN.v_drop, e0, e1, e2, n1, n4, oq1, H.put_ne, hq, he]
        exact fin _ rfl hl
      · simp [he] at hs
        simp [-Int.natCast_add, isM, bne, PC.at_obj, PC.put_at, PC.at_at, PC.at_eq, H.put_same, H.put_put, Tok.v, PC.at_next, PC.at_ext, PC.at_row, PC.at_bump, PC.at_grow, PC.at_new, PC.at_put, PC.at_obj_ne, H.new_self, H.new_ne, H.row_obj, H.put_next, TN.v_len, TN.v_take, TN.v_drop, e0, e1, e2, n1, n4, oq1, H.put_ne, hq, he]
        refine (op_calls c hc _ s1 _).mono ?_
        rintro _ _ ⟨rfl, rfl⟩
        cases hb : isB c s1 6 ⟨#[125]⟩
        · simp [hb] at hs
          split at hs
          case h_2 => cases hs
          rename_i m5 s5 hl
          simp [-Int.natCast_add, isM, bne, PC.at_obj, PC.put_at, PC.at_at, PC.at_eq, H.put_same, H.put_put, Tok.v, PC.at_next, PC.at_ext, PC.at_row, PC.at_bump, PC.at_grow, PC.at_new, PC.at_put, PC.at_obj_ne, H.new_self, H.new_ne, H.row_obj, H.put_next, TN.v_len, TN.v_take, TN.v_drop, e0, e1, e2, n1, n4, oq1, H.put_ne, hq, he, hb, opS_false hb]
          refine XW.drawB mixed (L := [0, 1, 2, 4, 5, 3, 6, 7, 9, 8, 10]) (B := [0, 1, 0, 4, 3, 0, 63, 127, 255, 127, 639]) (by kernel_rfl) (by kernel_rfl) ?_
          simp only [List.map_cons, List.map_nil, item]
          simp only [annot, fillOf, findFill, findStore, srcOf, List.getD_cons_succ, List.getD_cons_zero]
          simp [-Int.natCast_add, isM, bne, PC.at_obj, PC.put_at, PC.at_at, PC.at_eq, H.put_same, H.put_put, Tok.v, PC.at_next, PC.at_ext, PC.at_row, PC.at_bump, PC.at_grow, PC.at_new, PC.at_put, PC.at_obj_ne, H.new_self, H.new_ne, H.row_obj, H.put_next, TN.v_len, TN.v_take, TN.v_drop, xsrc, xfillApp, xappF, xpure, e0, e1, e2, n1, n4, oq1, H.put_ne, hq]
          refine (h1 m (by omega) c (h4.put q4 _) s1 m5 s5 hc p4 hl).mono ?_
          rintro _ _ ⟨h7, hF7, rfl, T, rfl, rfl⟩
          have p7 : c.p < h7.next := Nat.lt_of_lt_of_le p4 hF7.next
          have o74 := hF7.obj q4 (Nat.lt_of_lt_of_le l4 hF.next)
          have o71 := hF7.obj q1 (Nat.lt_of_lt_of_le l1 hF.next)
          rw [H.put_same] at o74
          rw [H.put_ne _ _ hq, oq1] at o71
          have fx := Fr.fix hF hF7 o4
          have m1 : (ts.length + 1) * 64 ≤ 140737488355328 := by omega
          have m2 : ts.length + 1 ≤ maxLen := by unfold maxLen; omega
          rw [TN.nds_snoc] at hs
          rcases hid with ⟨rfl, rfl, rfl⟩ | ⟨g1, g2, rfl, g4⟩
          · simp [-Int.natCast_add, isM, bne, PC.at_obj, PC.put_at, PC.at_at, PC.at_eq, H.put_same, H.put_put, Tok.v, PC.at_next, PC.at_ext, PC.at_row, PC.at_bump, PC.at_grow, PC.at_new, PC.at_put, PC.at_obj_ne, H.new_self, H.new_ne, H.row_obj, H.put_next, TN.v_len, TN.v_take, TN.v_drop, xsrc, xfillApp, xappF, xpure, e0, e1, e2, n1, n4, o74, o71, H.put_ne, hq, TN.vs, maxLen, H.grow_obj]
            have ev1 : [T.v] = TN.vs [T] := by simp [TN.vs]
            rw [ev1]
            refine ⟨m, by omega, [T], s5, (h7.put q4 (.cells [.lit (.int .i64 10), .lit (.int .i64 0), .lit (.string ⟨#[]⟩), .lit (.int .i64 0), .slc 0 0 []] 41)).row 1, h7.next, 5, by simp; simp at hm; omega, hs, ?_, fx.trans (Fr.row _ _), .inr ⟨fx.next, Nat.lt_succ_self _, rfl, H.row_ext_self _ _⟩, ?_⟩
            · exact congrArg (fun x => c.at_ x s5) (H.put_put (h7.row 1) q4 (.cells [.lit (.int .i64 10), .lit (.int .i64 0), .lit (.string ⟨#[]⟩), .lit (.int .i64 0), .slc 0 0 []] 41) _).symm
            · simp [-Int.natCast_add, isM, bne, PC.at_obj, PC.put_at, PC.at_at, PC.at_eq, H.put_same, H.put_put, Tok.v, PC.at_next, PC.at_ext, PC.at_row, PC.at_bump, PC.at_grow, PC.at_new, PC.at_put, PC.at_obj_ne, H.new_self, H.new_ne, H.row_obj, H.put_next, TN.v_len, TN.v_take, TN.v_drop, e0, e1, e2]
          · have hid0 : id ≠ 0 := by omega
            have g5 : h7.ext id = some ts.length := by rw [hF7.ext id g2]; exact g4
            simp [-Int.natCast_add, isM, bne, PC.at_obj, PC.put_at, PC.at_at, PC.at_eq, H.put_same, H.put_put, Tok.v, PC.at_next, PC.at_ext, PC.at_row, PC.at_bump, PC.at_grow, PC.at_new, PC.at_put, PC.at_obj_ne, H.new_self, H.new_ne, H.row_obj, H.put_next, TN.v_len, TN.v_take, TN.v_drop, xsrc, xfillApp, xappF, xpure, e0, e1, e2, n1, n4, o74, o71, H.put_ne, hq, TN.vs_len, hid0, g5, m1, m2, H.grow_obj]
            rw [TN.vs_snoc]
            refine ⟨m, by omega, ts ++ [T], s5, (h7.put q4 (.cells [.lit (.int .i64 10), .lit (.int .i64 0), .lit (.string ⟨#[]⟩), .lit (.int .i64 0), .slc 0 0 []] 41)).grow id (ts.length + 1), h7.next, 5, by simp; omega, hs, ?_, fx.grow g1 _, .inr ⟨fx.next, Nat.lt_succ_self _, rfl, ?_⟩, ?_⟩
            · exact congrArg (fun x => c.at_ x s5) (H.put_put (h7.grow id (ts.length + 1)) q4 (.cells [.lit (.int .i64 10), .lit (.int .i64 0), .lit (.string ⟨#[]⟩), .lit (.int .i64 0), .slc 0 0 []] 41) _).symm
            · rw [show ((h7.put q4 (.cells [.lit (.int .i64 10), .lit (.int .i64 0), .lit (.string ⟨#[]⟩), .lit (.int .i64 0), .slc 0 0 []] 41)).grow id (ts.length + 1)).ext h7.next = some (ts.length + 1) from H.grow_ext_self _ _ _]; simp
            · simp [-Int.natCast_add, isM, bne, PC.at_obj, PC.put_at, PC.at_at, PC.at_eq, H.put_same, H.put_put, Tok.v, PC.at_next, PC.at_ext, PC.at_row, PC.at_bump, PC.at_grow, PC.at_new, PC.at_put, PC.at_obj_ne, H.new_self, H.new_ne, H.row_obj, H.put_next, TN.v_len, TN.v_take, TN.v_drop, e0, e1, e2]
        · simp [hb] at hs
          obtain ⟨hl, rfl⟩ := hs
          simp [-Int.natCast_add, isM, bne, PC.at_obj, PC.put_at, PC.at_at, PC.at_eq, H.put_same, H.put_put, Tok.v, PC.at_next, PC.at_ext, PC.at_row, PC.at_bump, PC.at_grow, PC.at_new, PC.at_put, PC.at_obj_ne, H.new_self, H.new_ne, H.row_obj, H.put_next, TN.v_len, TN.v_take, TN.v_drop, e0, e1, e2, n1, n4, oq1, H.put_ne, hq, he, hb]
          exact fin _ rfl hl
end Go.Proofs.YtjofmihdeblbmaaGreatDoor.Xa
