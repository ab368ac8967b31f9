/- XA: GenTicks, GenBounds walked. -/
import Derived.Test.YtjofmihdeblbmaaGreatDoorXaM79
namespace Go.Proofs.YtjofmihdeblbmaaGreatDoor.Xa
open Go Go.RowKit
set_option linter.unusedVariables false
set_option linter.unusedSimpArgs false
set_option maxRecDepth 100000
set_option maxHeartbeats 2000000
def aw8 : ByteArray := ⟨#[102, 110, 32, 109, 97, 105, 110, 40, 41, 32, 123, 32, 112, 114, 105, 110, 116, 32, 49, 59, 32, 125]⟩
def aw8q (F : SG) : Bool := F.consts.length == 2 && match F.code with | [a, b, _, d] => a.1 == 1 && b.1 == 11 && d.1 == 10 | _ => false
def aw8ok : Bool := match srcT FU aw8 with
  | some sr => match genR FU sr with
    | some r => r.e == 0 && (match r.fns with | [F] => aw8q F | _ => false)
    | none => false
  | none => false
theorem aw8_ok : aw8ok = true := by decide +kernel
theorem aw8_src : ∃ sr r F, srcT 1000000 aw8 = some sr ∧ genR 1000000 sr = some r ∧ r.e = 0 ∧ r.fns = [F] ∧ F.consts.length = 2 ∧ ∃ a b x d, F.code = [a, b, x, d] ∧ a.1 = 1 ∧ b.1 = 11 ∧ d.1 = 10 := by
  have h := aw8_ok
  unfold aw8ok at h
  rw [show (1000000 : Nat) = FU from rfl]
  split at h
  case h_2 => cases h
  rename_i sr hsr
  split at h
  case h_2 => cases h
  rename_i r hr
  simp only [Bool.and_eq_true] at h
  obtain ⟨he, h⟩ := h
  split at h
  case h_2 => cases h
  rename_i F hF
  unfold aw8q at h
  simp only [Bool.and_eq_true] at h
  obtain ⟨hk, h⟩ := h
  split at h
  case h_2 => cases h
  rename_i a b x d hc
  simp only [Bool.and_eq_true, beq_iff_eq] at h
  exact ⟨sr, r, F, hsr, hr, by simpa using he, hF, by simpa using hk, a, b, x, d, hc, h.1.1, h.1.2, h.2⟩
attribute [local simp] hid2 hid3 hid4 xcode_skip xcode_region xcode_draw xcode_loop xcode_seq xcode_cond xcode_block xcode_scope xcode_exit xcode_ret xops_nil xops_cons xd_nil xd_cons xstep_eq annot fillOf findFill findStore srcOf kcls cls qval qvalN xwant dstAt want1 xdo xop ev_const ev_global ev_func ev_zero ev_succ ev_undefs ev_hit ev_miss put_none put_len undefs_len xnil xfieldAddr fieldOf eT emtb seqQ blockQ xload xstore splice V.storable V.one V.cells mk xbinop xbin xun xbuiltin xindexAddr nilOr xindex xint cv cv1 retQ xres_tmp xres_cell xres_nil xresult xbuild xfill xbuildSlice xrows Nat.testBit places xfield item sideOk pendOk pendOf tyT1 tyT2 tyT3 tyT4 tyT5 tyT9 tyT22 tyT23 tyT24 tyT25 tyT26 tyT30 tyT34 tyT39 tyT41 tyT47 tyT48 tyT50 tyT53 tyT54 tyT56 tyT58 tyT63 tyT70 tyT76 tyT78 tyT80 tyT84 tyT87 tyT89 tyT96 tyT98 tyT100 tyT102 tyT108 tyT110 tyT112 tyT113 tyT115 tyT119 tyT121 tyT124 tyT138 tyT139 tyT141 tyT142 tyT143 tyT145 tyT147 tyT149 tyT155 tyT158 tyT164 tyT179 tyT186 tyT188 tyT189 tyT194 tyT197 tyT200 tyT216 tyT242 tyT245 H.put_get H.new_get H.row_obj H.grow_obj H.bump_obj H.newArr_obj H.putArr_obj H.moveArr_obj H.put_arr H.new_arr H.row_arr H.grow_arr H.bump_arr H.newArr_get H.putArr_get H.moveArr_get H.put_ext H.new_ext H.newArr_ext H.putArr_ext H.moveArr_ext H.bump_ext H.row_get H.grow_get H.new_next H.row_next H.bump_next H.put_next H.grow_next H.newArr_next H.putArr_next H.moveArr_next H.app_next H.app_obj H.app_arr H.app_get bne emT emM xapp_em xmakeSlice xslice xlookup xmapUpdate keyShape
theorem awake8_calls (h : H) : XCalls e 25 [] h (fun v h' => v = .lit (.bool true) ∧ Fr h h') := by
  obtain ⟨sr, r, F, hsr, hr, he, hF, hk, a, b, x, d, hc, h1, h2, h3⟩ := aw8_src
  refine XCalls.of Tryz.func25 rfl (by kernel_rfl) ?_
  rw [Tryz.ntmps25]
  simp [-Int.natCast_add, isM, xappendM, rowsIn]
  refine (gsrc_calls 1000000 1000000 (Nat.le_refl _) h aw8 sr hsr r hr).mono ?_
  rintro _ h4 ⟨u, rfl, hF4, fid, fsz, sfs, rfl, g1, g2, g3⟩
  rw [hF] at g1
  obtain ⟨sf, rfl, rfl⟩ : ∃ sf, sfs = [sf] ∧ sf.sg = F := by
    cases sfs with
    | nil => simp at g1
    | cons s t =>
      cases t with
      | nil => simp at g1; exact ⟨s, rfl, g1⟩
      | cons => simp at g1
  have z5 := g2 (by simp)
  subst z5
  obtain ⟨⟨cid, cr, hcv, hcid, hcr⟩, _⟩ := g3 sf (by simp)
  have hsv := SF.v_eq sf
  change sf.consts.length = 2 at hk
  change sf.code = _ at hc
  rw [hc] at hcv hcr
  have hb4 : cid ≠ h4.next := by omega
  have hia : insV a = [.lit (.int .i64 1), .lit (.int .i64 a.2.1), .lit (.int .i64 a.2.2)] := by rw [← h1]; rfl
  have hib : insV b = [.lit (.int .i64 11), .lit (.int .i64 b.2.1), .lit (.int .i64 b.2.2)] := by rw [← h2]; rfl
  have hid : insV d = [.lit (.int .i64 10), .lit (.int .i64 d.2.1), .lit (.int .i64 d.2.2)] := by rw [← h3]; rfl
  unfold prV
  simp [-Int.natCast_add, isM, xappendM, rowsIn, he, hsv, hcv, hcr, hk, hia, hib, hid]
  exact (hF4.new1 _).put (by have := hF4.next; omega) _
theorem and_7 (a : Int) : ∃ n : Nat, n ≤ 7 ∧ IntKind.i64.wrap ↑((a % 2 ^ IntKind.i64.bits).toNat &&& 7 % 2 ^ IntKind.i64.bits) = (n : Int) := by
  have h1 : (a % 2 ^ IntKind.i64.bits).toNat &&& 7 % 2 ^ IntKind.i64.bits ≤ 7 := Nat.le_trans Nat.and_le_right (by decide)
  generalize (a % 2 ^ IntKind.i64.bits).toNat &&& 7 % 2 ^ IntKind.i64.bits = x at h1
  refine ⟨x, h1, ?_⟩
  simp [IntKind.wrap, IntKind.bits, IntKind.signed]
  omega
def tw1 (i : Nat) : List UInt8 := flatW ([k_fn, [102], [40], [41], [123]] ++ reps w_wf i)
def tw2 (o i : Nat) : List UInt8 := tw1 o ++ flatW ([[125], k_fn, k_main, [40], [41], [123]] ++ reps w_wl i)
def tw3 (o l i : Nat) : List UInt8 := tw2 o l ++ flatW (reps w_cf i)
theorem reps_succ {α : Type} (l : List α) (n : Nat) : reps l (n + 1) = reps l n ++ l := by rw [reps, reps_comm]
theorem tw1_succ (i : Nat) : tw1 (i + 1) = tw1 i ++ [119, 104, 105, 108, 101, 32, 48, 32, 123, 32, 102, 32, 40, 32, 41, 32, 59, 32, 125, 32] := by
  unfold tw1; rw [reps_succ, ← List.append_assoc, flatW_append]; rfl
theorem tw2_succ (o i : Nat) : tw2 o (i + 1) = tw2 o i ++ [119, 104, 105, 108, 101, 32, 108, 101, 110, 32, 40, 32, 91, 32, 93, 32, 41, 32, 123, 32, 125, 32] := by
  unfold tw2; rw [reps_succ, ← List.append_assoc, flatW_append, ← List.append_assoc]; rfl
theorem tw3_succ (o l i : Nat) : tw3 o l (i + 1) = tw3 o l i ++ [102, 32, 40, 32, 41, 32, 59, 32] := by
  unfold tw3; rw [reps_succ, flatW_append, ← List.append_assoc]; rfl
theorem tw2_zero (o : Nat) : tw2 o 0 = tw1 o ++ [125, 32, 102, 110, 32, 109, 97, 105, 110, 32, 40, 32, 41, 32, 123, 32] := rfl
theorem tw3_zero (o l : Nat) : tw3 o l 0 = tw2 o l := by unfold tw3; simp [reps, flatW]
theorem tw_all (o l c : Nat) : tw3 o l c = flatW (tickW o l c) := by
  unfold tw3 tw2 tw1 tickW
  simp only [flatW_append, List.append_assoc]
theorem ticksOf_app : ∀ (a b : List Ins) (n : Int), ticksOf (a ++ b) n = (ticksOf a n).bind fun m => ticksOf b m
  | [], b, n => rfl
  | i :: a, b, n => by
    rw [List.cons_append, ticksOf, ticksOf]
    split
    · split
      · exact ticksOf_app a b _
      · rfl
    · exact ticksOf_app a b _
def GtJ1 (h0 : H) (l c o : Nat) : Nat → List V → H → Prop := fun m fr' h' => ∃ (i : Nat) (s : ByteArray), m + i = o + 1 ∧ i ≤ o ∧ Fr h0 h' ∧ s.data.toList = tw1 i ∧ s.size ≤ 20 * i + 20 ∧
  fr'.length = 117 ∧ ev fr' (.tmp 0) = .lit (.int .i64 (l : Nat)) ∧ ev fr' (.tmp 1) = .lit (.int .i64 (c : Nat)) ∧ ev fr' (.tmp 2) = .lit (.int .i64 (o : Nat)) ∧ ev fr' (.tmp 7) = .lit (.string s) ∧ ev fr' (.tmp 8) = .lit (.int .i64 (i : Nat))
def GtJ2 (h0 : H) (l c o : Nat) : Nat → List V → H → Prop := fun m fr' h' => ∃ (i : Nat) (s : ByteArray), m + i = l + 1 ∧ i ≤ l ∧ Fr h0 h' ∧ s.data.toList = tw2 o i ∧ s.size ≤ 300 + 22 * i ∧
  fr'.length = 117 ∧ ev fr' (.tmp 0) = .lit (.int .i64 (l : Nat)) ∧ ev fr' (.tmp 1) = .lit (.int .i64 (c : Nat)) ∧ ev fr' (.tmp 2) = .lit (.int .i64 (o : Nat)) ∧ ev fr' (.tmp 7) = .lit (.string s) ∧ ev fr' (.tmp 9) = .lit (.int .i64 (i : Nat))
def GtJ3 (h0 : H) (l c o : Nat) : Nat → List V → H → Prop := fun m fr' h' => ∃ (i : Nat) (s : ByteArray), m + i = c + 1 ∧ i ≤ c ∧ Fr h0 h' ∧ s.data.toList = tw3 o l i ∧ s.size ≤ 600 + 8 * i ∧
  fr'.length = 117 ∧ ev fr' (.tmp 0) = .lit (.int .i64 (l : Nat)) ∧ ev fr' (.tmp 1) = .lit (.int .i64 (c : Nat)) ∧ ev fr' (.tmp 2) = .lit (.int .i64 (o : Nat)) ∧ ev fr' (.tmp 7) = .lit (.string s) ∧ ev fr' (.tmp 10) = .lit (.int .i64 (i : Nat))
def GtK (h0 hb : H) (l c o qa : Nat) (sfs : List SF) (N : Int) : Nat → List V → H → Prop := fun m fr' h' => ∃ (f : Nat) (n : Int), m + f = 3 ∧ f ≤ 2 ∧ ticksOf ((sfs.drop f).flatMap (·.code)) n = some N ∧ 0 ≤ n ∧ n ≤ 1000 * f ∧ h' = hb ∧
  fr'.length = 117 ∧ ev fr' (.tmp 0) = .lit (.int .i64 (l : Nat)) ∧ ev fr' (.tmp 1) = .lit (.int .i64 (c : Nat)) ∧ ev fr' (.tmp 2) = .lit (.int .i64 (o : Nat)) ∧ ev fr' (.tmp 11) = .ptr qa 0 ∧ ev fr' (.tmp 14) = .lit (.int .i64 n) ∧ ev fr' (.tmp 15) = .lit (.int .i64 (f : Nat))
def GtL (hb : H) (l c o qa f : Nat) (code : List Ins) (n2 : Int) : Nat → List V → H → Prop := fun m fr' h' => ∃ (k : Nat) (n : Int), m + k = code.length + 1 ∧ k ≤ code.length ∧ ticksOf (code.drop k) n = some n2 ∧ 0 ≤ n ∧ n ≤ 1000 * f + k ∧ h' = hb ∧
  fr'.length = 117 ∧ ev fr' (.tmp 0) = .lit (.int .i64 (l : Nat)) ∧ ev fr' (.tmp 1) = .lit (.int .i64 (c : Nat)) ∧ ev fr' (.tmp 2) = .lit (.int .i64 (o : Nat)) ∧ ev fr' (.tmp 11) = .ptr qa 0 ∧ ev fr' (.tmp 14) = .lit (.int .i64 n) ∧ ev fr' (.tmp 15) = .lit (.int .i64 (f : Nat)) ∧ ev fr' (.tmp 16) = .lit (.int .i64 (k : Nat))
def TickSrc : Prop := ∀ (b : ByteArray) (o l c : Nat), o ≤ 7 → l ≤ 7 → c ≤ 7 → b.data.toList = flatW (tickW o l c) ++ [125] → b.size ≤ 4000 →
    ∃ sr r, srcT 1000000 b = some sr ∧ genR 1000000 sr = some r ∧ r.e = 0 ∧ r.fns.length = 2 ∧ r.main = 1 ∧ ticksOf (r.fns.flatMap (·.code)) 0 = some ((2 * o + l + c : Nat) : Int) ∧ ∀ F ∈ r.fns, F.code.length ≤ 1000
theorem ticks_calls (hts : TickSrc) (h : H) (a b d : Int) : XCalls e 8 [.lit (.int .i64 a), .lit (.int .i64 b), .lit (.int .i64 d)] h (fun v h' => v = .lit (.bool true) ∧ Fr h h') := by
  obtain ⟨l, hl, el⟩ := and_7 a
  obtain ⟨c, hc, ec⟩ := and_7 b
  obtain ⟨o, ho, eo⟩ := and_7 d
  refine XCalls.of Tryz.func8 rfl (by kernel_rfl) ?_
  rw [Tryz.ntmps8]
  simp [-Int.natCast_add, isM, xappendM, rowsIn, el, ec, eo]
  refine XW.loopH (GtJ1 h l c o) (o + 1) ?_ ?_
  · refine ⟨0, ⟨#[102, 110, 32, 102, 32, 40, 32, 41, 32, 123, 32]⟩, by omega, by omega, Fr.refl _, rfl, by decide, ?_⟩
    simp [-Int.natCast_add, isM, xappendM, rowsIn]
  rintro m fr' h' ⟨i, s, hm, hi, hF, hs, hz, e0, e1, e2, e3, e4, e5⟩
  rcases Nat.lt_or_ge i o with hil | hil
  · have hil' : (i : Int) < (o : Int) := by omega
    have hw : IntKind.i64.wrap ((i : Int) + 1) = ((i + 1 : Nat) : Int) := wrapS (a := i) (b := 1) (by omega)
    have b5 := big1 (n := s.size) (by omega) 20 (by omega)
    simp [-Int.natCast_add, isM, xappendM, rowsIn, e0, e1, e2, e3, e4, e5, hil, hil', ltB_t, bsz, b5]
    refine ⟨m - 1, by omega, i + 1, s ++ ⟨#[119, 104, 105, 108, 101, 32, 48, 32, 123, 32, 102, 32, 40, 32, 41, 32, 59, 32, 125, 32]⟩, by omega, by omega, hF, ?_, ?_, ?_⟩
    · rw [tw1_succ, ← hs]; simp
    · simp [bsz]; omega
    · simp [-Int.natCast_add, isM, xappendM, rowsIn, e0, e1, e2, e3, e4, e5, hw]
  have hie : i = o := by omega
  have hlf : ltB (i : Int) (o : Int) = false := ltB_f (by omega)
  rw [hie] at hs
  have b5 := big1 (n := s.size) (by omega) 16 (by omega)
  simp [-Int.natCast_add, isM, xappendM, rowsIn, e0, e1, e2, e3, e4, e5, hlf, bsz, b5]
  refine XW.loopH (GtJ2 h l c o) (l + 1) ?_ ?_
  · refine ⟨0, s ++ ⟨#[125, 32, 102, 110, 32, 109, 97, 105, 110, 32, 40, 32, 41, 32, 123, 32]⟩, by omega, by omega, hF, ?_, ?_, ?_⟩
    · rw [tw2_zero, ← hs]; simp
    · simp [bsz]; omega
    · simp [-Int.natCast_add, isM, xappendM, rowsIn, e0, e1, e2, e3, e4, e5]
  clear e0 e1 e2 e3 e4 e5 hF hs hz b5 hlf hie hil hi hm
  rintro m fr' h' ⟨i, s, hm, hi, hF, hs, hz, e0, e1, e2, e3, e4, e5⟩
  rcases Nat.lt_or_ge i l with hil | hil
  · have hil' : (i : Int) < (l : Int) := by omega
    have hw : IntKind.i64.wrap ((i : Int) + 1) = ((i + 1 : Nat) : Int) := wrapS (a := i) (b := 1) (by omega)
    have b5 := big1 (n := s.size) (by omega) 22 (by omega)
    simp [-Int.natCast_add, isM, xappendM, rowsIn, e0, e1, e2, e3, e4, e5, hil, hil', ltB_t, bsz, b5]
    refine ⟨m - 1, by omega, i + 1, s ++ ⟨#[119, 104, 105, 108, 101, 32, 108, 101, 110, 32, 40, 32, 91, 32, 93, 32, 41, 32, 123, 32, 125, 32]⟩, by omega, by omega, hF, ?_, ?_, ?_⟩
    · rw [tw2_succ, ← hs]; simp
    · simp [bsz]; omega
    · simp [-Int.natCast_add, isM, xappendM, rowsIn, e0, e1, e2, e3, e4, e5, hw]
  have hie : i = l := by omega
  have hlf : ltB (i : Int) (l : Int) = false := ltB_f (by omega)
  rw [hie] at hs
  simp [-Int.natCast_add, isM, xappendM, rowsIn, e0, e1, e2, e3, e4, e5, hlf]
  refine XW.loopH (GtJ3 h l c o) (c + 1) ?_ ?_
  · refine ⟨0, s, by omega, by omega, hF, by rw [tw3_zero]; exact hs, by omega, ?_⟩
    simp [-Int.natCast_add, isM, xappendM, rowsIn, e0, e1, e2, e3, e4, e5]
  clear e0 e1 e2 e3 e4 e5 hF hs hz hlf hie hil hi hm
  rintro m fr' h' ⟨i, s, hm, hi, hF, hs, hz, e0, e1, e2, e3, e4, e5⟩
  rcases Nat.lt_or_ge i c with hil | hil
  · have hil' : (i : Int) < (c : Int) := by omega
    have hw : IntKind.i64.wrap ((i : Int) + 1) = ((i + 1 : Nat) : Int) := wrapS (a := i) (b := 1) (by omega)
    have b5 := big1 (n := s.size) (by omega) 8 (by omega)
    simp [-Int.natCast_add, isM, xappendM, rowsIn, e0, e1, e2, e3, e4, e5, hil, hil', ltB_t, bsz, b5]
    refine ⟨m - 1, by omega, i + 1, s ++ ⟨#[102, 32, 40, 32, 41, 32, 59, 32]⟩, by omega, by omega, hF, ?_, ?_, ?_⟩
    · rw [tw3_succ, ← hs]; simp
    · simp [bsz]; omega
    · simp [-Int.natCast_add, isM, xappendM, rowsIn, e0, e1, e2, e3, e4, e5, hw]
  have hie : i = c := by omega
  have hlf : ltB (i : Int) (c : Int) = false := ltB_f (by omega)
  rw [hie, tw_all] at hs
  have b5 := big1 (n := s.size) (by omega) 1 (by omega)
  obtain ⟨sr, r, hsr, hr, he, hfl, hmain, htk, hcl⟩ := hts (s ++ ⟨#[125]⟩) o l c ho hl hc (by simp [hs]) (by simp [bsz]; omega)
  simp [-Int.natCast_add, isM, xappendM, rowsIn, e0, e1, e2, e3, e4, e5, hlf, bsz, b5]
  refine (gsrc_calls 1000000 1000000 (Nat.le_refl _) h' _ sr hsr r hr).mono ?_
  rintro _ h4 ⟨u, rfl, hF4, fid, fsz, sfs, rfl, g1, g2, g3⟩
  have hsl : sfs.length = 2 := by rw [← hfl, ← g1, List.length_map]
  have z5 := g2 (by intro h0; rw [h0] at hsl; cases hsl)
  subst z5
  have hn4 := hF4.next
  have hn0 := hF.next
  have htk2 : ticksOf (sfs.flatMap (·.code)) 0 = some ((2 * o + l + c : Nat) : Int) := by
    rw [← htk, ← g1, List.flatMap_map]
    rfl
  have hcl2 : ∀ F ∈ sfs, F.code.length ≤ 1000 := fun F hF' => hcl (SF.sg F) (by rw [← g1]; exact List.mem_map.2 ⟨F, hF', rfl⟩)
  have he' : (r.e == 0) = true := by rw [he]; rfl
  have hm1 : (r.main == 1) = true := by rw [hmain]; rfl
  have hFb : ∀ o o', Fr h ((h4.new o).put h4.next o') := fun o o' => ((hF.trans hF4).new1 _).put (by omega) _
  unfold prV
  simp [-Int.natCast_add, isM, xappendM, rowsIn, e0, e1, e2, e3, e4, e5, he, hmain, hsl]
  obtain ⟨hb, hhb⟩ : ∃ hb, (h4.new (.cells [.slc 0 0 [], .lit (.int .i64 0)] 50)).put h4.next (.cells [.slc fid 5 (sfs.map SF.v), .lit (.int .i64 1)] 50) = hb := ⟨_, rfl⟩
  have hob : hb.obj h4.next = some (.cells [.slc fid 5 (sfs.map SF.v), .lit (.int .i64 1)] 50) := by rw [← hhb]; exact H.put_same _ _ _
  have hab : hb.arr = h4.arr := by rw [← hhb]; rfl
  have hFhb : Fr h hb := by rw [← hhb]; exact hFb _ _
  rw [hhb]
  refine XW.loopH (GtK h hb l c o h4.next sfs ((2 * o + l + c : Nat) : Int)) 3 ?_ ?_
  · refine ⟨0, 0, by omega, by omega, by simpa using htk2, by omega, by omega, rfl, ?_⟩
    simp [-Int.natCast_add, isM, xappendM, rowsIn, e0, e1, e2, e3, e4, e5]
  clear e0 e1 e2 e3 e4 e5 htk2 hm
  rintro m fr' hx ⟨f, n, hm, hf, htk, n0, n1, eh, e0, e1, e2, e3, e4, e5, e6⟩
  obtain rfl : hb = hx := eh.symm
  rcases Nat.lt_or_ge f 2 with hf2 | hf2
  · have hfl2 : f < sfs.length := by omega
    have hf2' : (f : Int) < 2 := by omega
    have hf2l : (f : Int) < (sfs.length : Int) := by omega
    have hw : IntKind.i64.wrap ((f : Int) + 1) = ((f + 1 : Nat) : Int) := wrapS (a := f) (b := 1) (by omega)
    rw [List.drop_eq_getElem_cons hfl2, List.flatMap_cons, ticksOf_app] at htk
    obtain ⟨⟨cid, cr, hcv, hcid, hcr⟩, _⟩ := g3 sfs[f] (List.getElem_mem hfl2)
    have hcl3 := hcl2 sfs[f] (List.getElem_mem hfl2)
    have hsv := SF.v_eq sfs[f]
    rw [hcv] at hsv
    have hcr' : hb.arr cid = some ⟨sfs[f].code.map insV ++ cr, 3, 58⟩ := by rw [hab]; exact hcr
    obtain ⟨n2, hn2⟩ : ∃ n2, ticksOf sfs[f].code n = some n2 := by
      cases hx : ticksOf sfs[f].code n with
      | none => rw [hx] at htk; cases htk
      | some n2 => exact ⟨n2, rfl⟩
    rw [hn2] at htk
    simp only [Option.bind_some] at htk
    simp [-Int.natCast_add, isM, xappendM, rowsIn, e0, e1, e2, e3, e4, e5, e6, hf2', ltB_t]
    refine XW.loopH (GtL hb l c o h4.next f sfs[f].code n2) (sfs[f].code.length + 1) ?_ ?_
    · refine ⟨0, n, by omega, by omega, by simpa using hn2, n0, by omega, rfl, ?_⟩
      simp [-Int.natCast_add, isM, xappendM, rowsIn, e0, e1, e2, e3, e4, e5, e6]
    clear e0 e1 e2 e3 e4 e5 e6 hn2 n0 n1
    rintro m' fr' hx ⟨k, n, hmk, hk, hn2, n0, n1, eh, e0, e1, e2, e3, e4, e5, e6, e7⟩
    obtain rfl : hb = hx := eh.symm
    have hlenv : (SF.v sfs[f]).length = 5 := rfl
    rcases Nat.lt_or_ge k sfs[f].code.length with hkl | hkl
    · have hkl' : (k : Int) < (sfs[f].code.length : Int) := by omega
      have hwk : IntKind.i64.wrap ((k : Int) + 1) = ((k + 1 : Nat) : Int) := wrapS (a := k) (b := 1) (by omega)
      have hwn : IntKind.i64.wrap (n + 1) = n + 1 := by
        simp [IntKind.wrap, IntKind.bits, IntKind.signed]
        omega
      have hrowc : (sfs[f].code.map insV ++ cr)[k]? = some [.lit (.int .i64 sfs[f].code[k].1), .lit (.int .i64 sfs[f].code[k].2.1), .lit (.int .i64 sfs[f].code[k].2.2)] := by
        rw [List.getElem?_append_left (by simpa using hkl), List.getElem?_map, List.getElem?_eq_getElem hkl]
        rfl
      rw [List.drop_eq_getElem_cons hkl, ticksOf] at hn2
      cases h12 : (sfs[f].code[k].1 == 12)
      · rw [h12] at hn2
        simp only [Bool.false_eq_true, if_false] at hn2
        simp [-Int.natCast_add, isM, xappendM, rowsIn, -List.map_append, e0, e1, e2, e3, e4, e5, e6, e7, hob, hfl2, hf2l, hsv, hkl, hkl', ltB_t, hcr', hrowc, h12]
        refine ⟨m' - 1, by omega, k + 1, n, by omega, by omega, hn2, n0, by omega, rfl, ?_⟩
        simp [-Int.natCast_add, isM, xappendM, rowsIn, e0, e1, e2, e3, e4, e5, e6, e7, hwk]
      · rw [h12] at hn2
        simp only [if_true] at hn2
        split at hn2
        case isFalse => cases hn2
        rename_i hA
        have hA' : sfs[f].code[k].2.1 = n + 1 := by simpa using hA
        simp [-Int.natCast_add, isM, xappendM, rowsIn, -List.map_append, e0, e1, e2, e3, e4, e5, e6, e7, hob, hfl2, hf2l, hsv, hkl, hkl', ltB_t, hcr', hrowc, h12, hA', hwn]
        refine ⟨m' - 1, by omega, k + 1, n + 1, by omega, by omega, hn2, by omega, by omega, rfl, ?_⟩
        simp [-Int.natCast_add, isM, xappendM, rowsIn, e0, e1, e2, e3, e4, e5, e6, e7, hwk, hwn]
    · have hlf : ltB (k : Int) (sfs[f].code.length : Int) = false := ltB_f (by omega)
      rw [List.drop_of_length_le (by omega)] at hn2
      simp only [ticksOf] at hn2
      obtain rfl := Option.some.inj hn2
      simp [-Int.natCast_add, isM, xappendM, rowsIn, -List.map_append, e0, e1, e2, e3, e4, e5, e6, e7, hob, hfl2, hf2l, hsv, hlf]
      refine ⟨m - 1, by omega, f + 1, n, by omega, by omega, htk, n0, by omega, rfl, ?_⟩
      simp [-Int.natCast_add, isM, xappendM, rowsIn, e0, e1, e2, e3, e4, e5, e6, e7, hw]
  · have hfe : f = 2 := by omega
    subst hfe
    have hlf : ltB 2 2 = false := rfl
    rw [List.drop_of_length_le (by omega)] at htk
    simp only [List.flatMap_nil, ticksOf] at htk
    obtain rfl := Option.some.inj htk
    have hw1 : IntKind.i64.wrap (2 * (o : Int)) = 2 * (o : Int) := by
      simp [IntKind.wrap, IntKind.bits, IntKind.signed]
      omega
    have hw2 : IntKind.i64.wrap (2 * (o : Int) + (l : Int)) = 2 * (o : Int) + (l : Int) := by
      simp [IntKind.wrap, IntKind.bits, IntKind.signed]
      omega
    have hw3 : IntKind.i64.wrap (2 * (o : Int) + (l : Int) + (c : Int)) = 2 * (o : Int) + (l : Int) + (c : Int) := by
      simp [IntKind.wrap, IntKind.bits, IntKind.signed]
      omega
    have hfin : (((2 * o + l + c : Nat) : Int) == 2 * (o : Int) + (l : Int) + (c : Int)) = true := by
      simp
    generalize ((2 * o + l + c : Nat) : Int) = NN at *
    simp [-Int.natCast_add, isM, xappendM, rowsIn, e0, e1, e2, e3, e4, e5, e6, hlf, hw1, hw2, hw3, hfin]
    refine (awake8_calls _).mono ?_
    rintro _ h5 ⟨rfl, hF5⟩
    simp [-Int.natCast_add, isM, xappendM, rowsIn, e0, e1, e2, e3, e4, e5, e6]
    exact hFhb.trans hF5
def bt1 (i : Nat) : List UInt8 := flatP (p_head ++ reps p_eq i)
theorem bt1_succ (i : Nat) : bt1 (i + 1) = bt1 i ++ [49, 61, 61, 49, 59, 32] := by
  unfold bt1; rw [reps_succ, ← List.append_assoc, flatP_append]; rfl
theorem bt_all (n : Nat) : bt1 n ++ [125] = flatP (p_bound n) := by
  unfold bt1 p_bound
  rw [← List.append_assoc, flatP_append (p_head ++ reps p_eq n)]
  rfl
def nt1 (i : Nat) : List UInt8 := reps [49, 32, 43, 32, 40, 32] i
def nt2 (d i : Nat) : List UInt8 := nt1 d ++ [49] ++ reps [32, 41] i
theorem shift_rep : ∀ n, (32 : UInt8) :: reps [41, 32] n = reps [32, 41] n ++ [32]
  | 0 => rfl
  | n + 1 => by
    rw [reps, reps]
    have := shift_rep n
    simp only [List.cons_append, List.nil_append] at this ⊢
    rw [this]
theorem flat_reps (w : List (List UInt8)) : ∀ n, flatW (reps w n) = reps (flatW w) n
  | 0 => rfl
  | n + 1 => by rw [reps, reps, flatW_append, flat_reps w n]
theorem nt_all (d : Nat) : [102, 110, 32, 109, 97, 105, 110, 32, 40, 32, 41, 32, 123, 32, 112, 114, 105, 110, 116, 32] ++ nt2 d d ++ [32, 59, 32, 125] = flatW (nestW d) ++ [125] := by
  unfold nt2 nt1 nestW
  rw [flatW_append, flatW_append, flat_reps]
  have e1 : flatW [k_fn, k_main, [40], [41], [123], k_print] = [102, 110, 32, 109, 97, 105, 110, 32, 40, 32, 41, 32, 123, 32, 112, 114, 105, 110, 116, 32] := rfl
  have e2 : flatW w_one = [49, 32, 43, 32, 40, 32] := rfl
  rw [e1, e2, flatW_cons, flatW_append, flat_reps]
  have e3 : flatW [[(41 : UInt8)]] = [41, 32] := rfl
  have e4 : flatW [[(59 : UInt8)]] = [59, 32] := rfl
  rw [e3, e4]
  have h0 := shift_rep d
  generalize reps [(41 : UInt8), 32] d = B at h0 ⊢
  generalize reps [(32 : UInt8), 41] d = C at h0 ⊢
  have h1 : ∀ X, 32 :: (B ++ X) = C ++ 32 :: X := fun X => by rw [← List.cons_append, h0]; simp
  simp only [List.append_assoc, List.cons_append, List.nil_append, h1]
def GuJ1 (h0 : H) (b : Int) (n : Nat) : Nat → List V → H → Prop := fun m fr' h' => ∃ (i : Nat) (s : ByteArray), m + i = n + 1 ∧ i ≤ n ∧ Fr h0 h' ∧ s.data.toList = bt1 i ∧ s.size ≤ 6 * i + 20 ∧
  fr'.length = 121 ∧ ev fr' (.tmp 0) = .lit (.int .i64 (n : Nat)) ∧ ev fr' (.tmp 1) = .lit (.int .i64 b) ∧ ev fr' (.tmp 5) = .lit (.string s) ∧ ev fr' (.tmp 6) = .lit (.int .i64 (i : Nat))
def GuJ2 (h0 : H) (d : Nat) : Nat → List V → H → Prop := fun m fr' h' => ∃ (i : Nat) (s : ByteArray), m + i = d + 1 ∧ i ≤ d ∧ Fr h0 h' ∧ s.data.toList = nt1 i ∧ s.size ≤ 6 * i ∧
  fr'.length = 121 ∧ ev fr' (.tmp 1) = .lit (.int .i64 (d : Nat)) ∧ ev fr' (.tmp 10) = .lit (.string s) ∧ ev fr' (.tmp 11) = .lit (.int .i64 (i : Nat))
def GuJ3 (h0 : H) (d : Nat) : Nat → List V → H → Prop := fun m fr' h' => ∃ (i : Nat) (s : ByteArray), m + i = d + 1 ∧ i ≤ d ∧ Fr h0 h' ∧ s.data.toList = nt2 d i ∧ s.size ≤ 200 + 2 * i ∧
  fr'.length = 121 ∧ ev fr' (.tmp 1) = .lit (.int .i64 (d : Nat)) ∧ ev fr' (.tmp 10) = .lit (.string s) ∧ ev fr' (.tmp 12) = .lit (.int .i64 (i : Nat))
def BoundSrc : Prop := ∀ (b : ByteArray) (n : Nat), n ≤ 600 → b.data.toList = flatP (p_bound n) → b.size ≤ 4000 →
    ∃ sr r, srcT 1000000 b = some sr ∧ genR 1000000 sr = some r ∧ (if 1000 < 4 * n + 2 then r.e = 5 ∧ r.fns = [] else r.e = 0 ∧ ∃ F, r.fns = [F] ∧ F.code.length = 4 * n + 2)
def NestAll : Prop := ∀ d, d ≤ 23 → nestOk d = true
/-- the second half of GenBounds, given what stands in the frame -/
def GuP (h0 : H) (b : Int) : List V → H → Prop := fun fr' h' => Fr h0 h' ∧ fr'.length = 121 ∧ ev fr' (.tmp 1) = .lit (.int .i64 b)
theorem bounds_calls (hbs : BoundSrc) (hna : NestAll) (h : H) (a b : Int) : XCalls e 9 [.lit (.int .i64 a), .lit (.int .i64 b)] h (fun v h' => v = .lit (.bool true) ∧ Fr h h') := by
  obtain ⟨n, hn, en⟩ := and_mod a 300 (by decide)
  obtain ⟨d, hd, ed⟩ := and_mod b 24 (by decide)
  refine XCalls.of Tryz.func9 rfl (by kernel_rfl) ?_
  rw [Tryz.ntmps9]
  simp [-Int.natCast_add, isM, xappendM, rowsIn, en]
  refine XW.loopH (GuJ1 h b n) (n + 1) ?_ ?_
  · refine ⟨0, ⟨#[102, 110, 32, 109, 97, 105, 110, 32, 40, 32, 41, 32, 123, 32]⟩, by omega, by omega, Fr.refl _, rfl, by decide, ?_⟩
    simp [-Int.natCast_add, isM, xappendM, rowsIn]
  rintro m fr' h' ⟨i, s, hm, hi, hF, hs, hz, e0, e1, e2, e3, e4⟩
  rcases Nat.lt_or_ge i n with hil | hil
  · have hil' : (i : Int) < (n : Int) := by omega
    have hw : IntKind.i64.wrap ((i : Int) + 1) = ((i + 1 : Nat) : Int) := wrapS (a := i) (b := 1) (by omega)
    have b5 := big1 (n := s.size) (by omega) 6 (by omega)
    simp [-Int.natCast_add, isM, xappendM, rowsIn, e0, e1, e2, e3, e4, hil, hil', ltB_t, bsz, b5]
    refine ⟨m - 1, by omega, i + 1, s ++ ⟨#[49, 61, 61, 49, 59, 32]⟩, by omega, by omega, hF, ?_, ?_, ?_⟩
    · rw [bt1_succ, ← hs]; simp
    · simp [bsz]; omega
    · simp [-Int.natCast_add, isM, xappendM, rowsIn, e0, e1, e2, e3, e4, hw]
  have hie : i = n := by omega
  have hlf : ltB (i : Int) (n : Int) = false := ltB_f (by omega)
  rw [hie] at hs
  have b5 := big1 (n := s.size) (by omega) 1 (by omega)
  obtain ⟨sr, r, hsr, hr, hres⟩ := hbs (s ++ ⟨#[125]⟩) n (by omega) (by rw [← bt_all, ← hs]; simp) (by simp [bsz]; omega)
  have hw1 : IntKind.i64.wrap (4 * (n : Int)) = 4 * (n : Int) := by
    simp [IntKind.wrap, IntKind.bits, IntKind.signed]
    omega
  have hw2 : IntKind.i64.wrap (4 * (n : Int) + 2) = 4 * (n : Int) + 2 := by
    simp [IntKind.wrap, IntKind.bits, IntKind.signed]
    omega
  simp [-Int.natCast_add, isM, xappendM, rowsIn, e0, e1, e2, e3, e4, hlf, bsz, b5]
  refine (gsrc_calls 1000000 1000000 (Nat.le_refl _) h' _ sr hsr r hr).mono ?_
  rintro _ h4 ⟨u, rfl, hF4, fid, fsz, sfs, rfl, g1, g2, g3⟩
  have hn4 := hF4.next
  have hn0 := hF.next
  have hFb : ∀ o o', Fr h ((h4.new o).put h4.next o') := fun o o' => ((hF.trans hF4).new1 _).put (by omega) _
  unfold prV
  have hFx : ∃ hb, (h4.new (.cells [.slc 0 0 [], .lit (.int .i64 0)] 50)).put h4.next (.cells [.slc fid fsz (sfs.map SF.v), .lit (.int .i64 r.main)] 50) = hb ∧ Fr h hb := ⟨_, rfl, hFb _ _⟩
  obtain ⟨hb, hhb, hFhb⟩ := hFx
  by_cases hbig : 1000 < 4 * n + 2
  case pos =>
    rw [if_pos hbig] at hres
    obtain ⟨he, hfn⟩ := hres
    have hsf : sfs = [] := by rw [hfn] at g1; exact List.map_eq_nil_iff.1 g1
    subst hsf
    have hgt : ltB 1000 (4 * (n : Int) + 2) = true := ltB_t (by omega)
    simp [-Int.natCast_add, isM, xappendM, rowsIn, e0, e1, e2, e3, e4, hw1, hw2, hgt, he, ed]
    simp only [List.map_nil] at hhb
    rw [hhb]
    refine XW.loopH (GuJ2 h d) (d + 1) ?_ ?_
    · refine ⟨0, ⟨#[]⟩, by omega, by omega, hFhb, rfl, by decide, ?_⟩
      simp [-Int.natCast_add, isM, xappendM, rowsIn, e0, e1, e2, e3, e4]
    clear e0 e1 e2 e3 e4 hF hs hz b5 hlf hie hil hi hm hhb hFb g1 g2 g3
    rintro m fr' h' ⟨i, s, hm, hi, hF, hs, hz, e0, e1, e2, e3⟩
    rcases Nat.lt_or_ge i d with hil | hil
    · have hil' : (i : Int) < (d : Int) := by omega
      have hw : IntKind.i64.wrap ((i : Int) + 1) = ((i + 1 : Nat) : Int) := wrapS (a := i) (b := 1) (by omega)
      have b5 := big1 (n := s.size) (by omega) 6 (by omega)
      simp [-Int.natCast_add, isM, xappendM, rowsIn, e0, e1, e2, e3, hil, hil', ltB_t, bsz, b5]
      refine ⟨m - 1, by omega, i + 1, s ++ ⟨#[49, 32, 43, 32, 40, 32]⟩, by omega, by omega, hF, ?_, ?_, ?_⟩
      · unfold nt1 at hs ⊢; rw [reps_succ, ← hs]; simp
      · simp [bsz]; omega
      · simp [-Int.natCast_add, isM, xappendM, rowsIn, e0, e1, e2, e3, hw]
    have hie : i = d := by omega
    have hlf : ltB (i : Int) (d : Int) = false := ltB_f (by omega)
    rw [hie] at hs
    have b5 := big1 (n := s.size) (by omega) 1 (by omega)
    simp [-Int.natCast_add, isM, xappendM, rowsIn, e0, e1, e2, e3, hlf, bsz, b5]
    refine XW.loopH (GuJ3 h d) (d + 1) ?_ ?_
    · refine ⟨0, s ++ ⟨#[49]⟩, by omega, by omega, hF, ?_, ?_, ?_⟩
      · unfold nt2; rw [← hs]; simp [reps]
      · simp [bsz]; omega
      · simp [-Int.natCast_add, isM, xappendM, rowsIn, e0, e1, e2, e3]
    clear e0 e1 e2 e3 hF hs hz b5 hlf hie hil hi hm
    rintro m fr' h' ⟨i, s, hm, hi, hF, hs, hz, e0, e1, e2, e3⟩
    rcases Nat.lt_or_ge i d with hil | hil
    · have hil' : (i : Int) < (d : Int) := by omega
      have hw : IntKind.i64.wrap ((i : Int) + 1) = ((i + 1 : Nat) : Int) := wrapS (a := i) (b := 1) (by omega)
      have b5 := big1 (n := s.size) (by omega) 2 (by omega)
      simp [-Int.natCast_add, isM, xappendM, rowsIn, e0, e1, e2, e3, hil, hil', ltB_t, bsz, b5]
      refine ⟨m - 1, by omega, i + 1, s ++ ⟨#[32, 41]⟩, by omega, by omega, hF, ?_, ?_, ?_⟩
      · unfold nt2 at hs ⊢; rw [reps_succ, ← List.append_assoc, ← hs]; simp
      · simp [bsz]; omega
      · simp [-Int.natCast_add, isM, xappendM, rowsIn, e0, e1, e2, e3, hw]
    have hie : i = d := by omega
    have hlf : ltB (i : Int) (d : Int) = false := ltB_f (by omega)
    rw [hie] at hs
    have b6 : (9223372036854775807 < ((20 + s.size : Nat) : Int)) = False := by simp; omega
    have b7 : (9223372036854775807 < ((20 + s.size + 4 : Nat) : Int)) = False := by simp; omega
    obtain ⟨sr, r, F, hsr, hr, he, hfn, hp0, hv⟩ := nest_src ((⟨#[102, 110, 32, 109, 97, 105, 110, 32, 40, 32, 41, 32, 123, 32, 112, 114, 105, 110, 116, 32]⟩ ++ s) ++ ⟨#[32, 59, 32, 125]⟩) d (by rw [← nt_all, ← hs]; simp) (by simp [bsz]; omega) (hna d (by omega))
    simp [-Int.natCast_add, isM, xappendM, rowsIn, e0, e1, e2, e3, hlf, bsz, b6, b7]
    refine (gsrc_calls 1000000 1000000 (Nat.le_refl _) h' _ sr hsr r hr).mono ?_
    rintro _ h4 ⟨u, rfl, hF4, fid, fsz, sfs, rfl, g1, g2, g3⟩
    have hn4 := hF4.next
    have hn0 := hF.next
    obtain ⟨sf, rfl, rfl⟩ : ∃ sf, sfs = [sf] ∧ sf.sg = F := by
      rw [hfn] at g1
      cases sfs with
      | nil => simp at g1
      | cons s t =>
        cases t with
        | nil => simp at g1; exact ⟨s, rfl, g1⟩
        | cons => simp at g1
    have hgt : ltB 23 (d : Int) = false := ltB_f (by omega)
    have hwd : IntKind.i64.wrap ((d : Int) + 1) = ((d + 1 : Nat) : Int) := wrapS (a := d) (b := 1) (by omega)
    have hFb : ∀ o o', Fr h ((h4.new o).put h4.next o') := fun o o' => ((hF.trans hF4).new1 _).put (by omega) _
    have hvc : ∀ o o', XCalls e 26 [.agg (prV fid fsz [sf] r.main), .lit (.int .i64 ((0 : Nat) : Int))] ((h4.new o).put h4.next o') (fun v h' => v = .tup [.lit (.int .i64 ((d + 1 : Nat) : Int)), .lit (.int .i64 0)] ∧ Fr ((h4.new o).put h4.next o') h') := by
      intro o o'
      refine Virtual_calls _ fid fsz [sf] r.main (fun _ => g2 (by simp)) 0 (by simp) ((g3 sf (by simp)).fr ((Fr.new _ _).put (Nat.le_refl _) _)) 1000000 _ ?_
      have hps : [sf].map (·.params) = [0] := by
        change sf.params = 0 at hp0
        simp [hp0]
      rw [hps]
      exact hv
    rw [show ((0 : Nat) : Int) = 0 from rfl] at hvc
    unfold prV at hvc ⊢
    simp [-Int.natCast_add, isM, xappendM, rowsIn, e0, e1, e2, e3, he, hgt]
    simp only [List.map_cons, List.map_nil] at hvc
    refine (hvc _ _).mono ?_
    rintro _ h5 ⟨rfl, hF5⟩
    simp [-Int.natCast_add, isM, xappendM, rowsIn, e0, e1, e2, e3, he, hgt, hwd]
    refine (awake8_calls _).mono ?_
    rintro _ h6 ⟨rfl, hF6⟩
    simp [-Int.natCast_add, isM, xappendM, rowsIn, e0, e1, e2, e3]
    exact ((hFb _ _).trans hF5).trans hF6
  case neg =>
    rw [if_neg hbig] at hres
    obtain ⟨he, F, hfn, hfl⟩ := hres
    obtain ⟨sf, rfl, rfl⟩ : ∃ sf, sfs = [sf] ∧ sf.sg = F := by
      rw [hfn] at g1
      cases sfs with
      | nil => simp at g1
      | cons s t =>
        cases t with
        | nil => simp at g1; exact ⟨s, rfl, g1⟩
        | cons => simp at g1
    have z5 := g2 (by simp)
    subst z5
    obtain ⟨⟨cid, cr, hcv, hcid, hcr⟩, _⟩ := g3 sf (by simp)
    have hsv := SF.v_eq sf
    change sf.code.length = _ at hfl
    obtain ⟨M, hM⟩ : ∃ M, 4 * n + 2 = M := ⟨_, rfl⟩
    rw [hM] at hfl
    rw [hfl] at hcv
    rw [hcv] at hsv
    have hgt : ltB 1000 (4 * (n : Int) + 2) = false := ltB_f (by omega)
    have heq : ((M : Int) == 4 * (n : Int) + 2) = true := by simp; omega
    simp [-Int.natCast_add, isM, xappendM, rowsIn, e0, e1, e2, e3, e4, hw1, hw2, hgt, he, ed, hsv, heq]
    simp only [List.map_cons, List.map_nil, hsv] at hhb
    rw [hhb]
    refine XW.loopH (GuJ2 h d) (d + 1) ?_ ?_
    · refine ⟨0, ⟨#[]⟩, by omega, by omega, hFhb, rfl, by decide, ?_⟩
      simp [-Int.natCast_add, isM, xappendM, rowsIn, e0, e1, e2, e3, e4]
    clear e0 e1 e2 e3 e4 hF hs hz b5 hlf hie hil hi hm hhb hFb g1 g2 g3
    rintro m fr' h' ⟨i, s, hm, hi, hF, hs, hz, e0, e1, e2, e3⟩
    rcases Nat.lt_or_ge i d with hil | hil
    · have hil' : (i : Int) < (d : Int) := by omega
      have hw : IntKind.i64.wrap ((i : Int) + 1) = ((i + 1 : Nat) : Int) := wrapS (a := i) (b := 1) (by omega)
      have b5 := big1 (n := s.size) (by omega) 6 (by omega)
      simp [-Int.natCast_add, isM, xappendM, rowsIn, e0, e1, e2, e3, hil, hil', ltB_t, bsz, b5]
      refine ⟨m - 1, by omega, i + 1, s ++ ⟨#[49, 32, 43, 32, 40, 32]⟩, by omega, by omega, hF, ?_, ?_, ?_⟩
      · unfold nt1 at hs ⊢; rw [reps_succ, ← hs]; simp
      · simp [bsz]; omega
      · simp [-Int.natCast_add, isM, xappendM, rowsIn, e0, e1, e2, e3, hw]
    have hie : i = d := by omega
    have hlf : ltB (i : Int) (d : Int) = false := ltB_f (by omega)
    rw [hie] at hs
    have b5 := big1 (n := s.size) (by omega) 1 (by omega)
    simp [-Int.natCast_add, isM, xappendM, rowsIn, e0, e1, e2, e3, hlf, bsz, b5]
    refine XW.loopH (GuJ3 h d) (d + 1) ?_ ?_
    · refine ⟨0, s ++ ⟨#[49]⟩, by omega, by omega, hF, ?_, ?_, ?_⟩
      · unfold nt2; rw [← hs]; simp [reps]
      · simp [bsz]; omega
      · simp [-Int.natCast_add, isM, xappendM, rowsIn, e0, e1, e2, e3]
    clear e0 e1 e2 e3 hF hs hz b5 hlf hie hil hi hm
    rintro m fr' h' ⟨i, s, hm, hi, hF, hs, hz, e0, e1, e2, e3⟩
    rcases Nat.lt_or_ge i d with hil | hil
    · have hil' : (i : Int) < (d : Int) := by omega
      have hw : IntKind.i64.wrap ((i : Int) + 1) = ((i + 1 : Nat) : Int) := wrapS (a := i) (b := 1) (by omega)
      have b5 := big1 (n := s.size) (by omega) 2 (by omega)
      simp [-Int.natCast_add, isM, xappendM, rowsIn, e0, e1, e2, e3, hil, hil', ltB_t, bsz, b5]
      refine ⟨m - 1, by omega, i + 1, s ++ ⟨#[32, 41]⟩, by omega, by omega, hF, ?_, ?_, ?_⟩
      · unfold nt2 at hs ⊢; rw [reps_succ, ← List.append_assoc, ← hs]; simp
      · simp [bsz]; omega
      · simp [-Int.natCast_add, isM, xappendM, rowsIn, e0, e1, e2, e3, hw]
    have hie : i = d := by omega
    have hlf : ltB (i : Int) (d : Int) = false := ltB_f (by omega)
    rw [hie] at hs
    have b6 : (9223372036854775807 < ((20 + s.size : Nat) : Int)) = False := by simp; omega
    have b7 : (9223372036854775807 < ((20 + s.size + 4 : Nat) : Int)) = False := by simp; omega
    obtain ⟨sr, r, F, hsr, hr, he, hfn, hp0, hv⟩ := nest_src ((⟨#[102, 110, 32, 109, 97, 105, 110, 32, 40, 32, 41, 32, 123, 32, 112, 114, 105, 110, 116, 32]⟩ ++ s) ++ ⟨#[32, 59, 32, 125]⟩) d (by rw [← nt_all, ← hs]; simp) (by simp [bsz]; omega) (hna d (by omega))
    simp [-Int.natCast_add, isM, xappendM, rowsIn, e0, e1, e2, e3, hlf, bsz, b6, b7]
    refine (gsrc_calls 1000000 1000000 (Nat.le_refl _) h' _ sr hsr r hr).mono ?_
    rintro _ h4 ⟨u, rfl, hF4, fid, fsz, sfs, rfl, g1, g2, g3⟩
    have hn4 := hF4.next
    have hn0 := hF.next
    obtain ⟨sf, rfl, rfl⟩ : ∃ sf, sfs = [sf] ∧ sf.sg = F := by
      rw [hfn] at g1
      cases sfs with
      | nil => simp at g1
      | cons s t =>
        cases t with
        | nil => simp at g1; exact ⟨s, rfl, g1⟩
        | cons => simp at g1
    have hgt : ltB 23 (d : Int) = false := ltB_f (by omega)
    have hwd : IntKind.i64.wrap ((d : Int) + 1) = ((d + 1 : Nat) : Int) := wrapS (a := d) (b := 1) (by omega)
    have hFb : ∀ o o', Fr h ((h4.new o).put h4.next o') := fun o o' => ((hF.trans hF4).new1 _).put (by omega) _
    have hvc : ∀ o o', XCalls e 26 [.agg (prV fid fsz [sf] r.main), .lit (.int .i64 ((0 : Nat) : Int))] ((h4.new o).put h4.next o') (fun v h' => v = .tup [.lit (.int .i64 ((d + 1 : Nat) : Int)), .lit (.int .i64 0)] ∧ Fr ((h4.new o).put h4.next o') h') := by
      intro o o'
      refine Virtual_calls _ fid fsz [sf] r.main (fun _ => g2 (by simp)) 0 (by simp) ((g3 sf (by simp)).fr ((Fr.new _ _).put (Nat.le_refl _) _)) 1000000 _ ?_
      have hps : [sf].map (·.params) = [0] := by
        change sf.params = 0 at hp0
        simp [hp0]
      rw [hps]
      exact hv
    rw [show ((0 : Nat) : Int) = 0 from rfl] at hvc
    unfold prV at hvc ⊢
    simp [-Int.natCast_add, isM, xappendM, rowsIn, e0, e1, e2, e3, he, hgt]
    simp only [List.map_cons, List.map_nil] at hvc
    refine (hvc _ _).mono ?_
    rintro _ h5 ⟨rfl, hF5⟩
    simp [-Int.natCast_add, isM, xappendM, rowsIn, e0, e1, e2, e3, he, hgt, hwd]
    refine (awake8_calls _).mono ?_
    rintro _ h6 ⟨rfl, hF6⟩
    simp [-Int.natCast_add, isM, xappendM, rowsIn, e0, e1, e2, e3]
    exact ((hFb _ _).trans hF5).trans hF6
theorem genTicks_calls (h : H) (a b d : Int) : XCalls e 8 [.lit (.int .i64 a), .lit (.int .i64 b), .lit (.int .i64 d)] h (fun v h' => v = .lit (.bool true) ∧ Fr h h') := ticks_calls tick_src h a b d
theorem genBounds_calls (h : H) (a b : Int) : XCalls e 9 [.lit (.int .i64 a), .lit (.int .i64 b)] h (fun v h' => v = .lit (.bool true) ∧ Fr h h') := bounds_calls bound_src nest_all h a b
end Go.Proofs.YtjofmihdeblbmaaGreatDoor.Xa
