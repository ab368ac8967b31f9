/- XA: ScopeBlocks walked. -/
import Derived.Test.YtjofmihdeblbmaaGreatDoorXaM33
import Derived.Test.YtjofmihdeblbmaaGreatDoorXaM36
import Derived.Test.YtjofmihdeblbmaaGreatDoorXaM37
namespace Go.Proofs.YtjofmihdeblbmaaGreatDoor.Xa
open Go Go.RowKit
set_option linter.unusedVariables false
set_option linter.unusedSimpArgs false
set_option maxRecDepth 100000
set_option maxHeartbeats 1000000
theorem XW.loopQ {E : Env} {Q : XE → List V → H → Prop} {fr : List V} {h : H} {c : Code} (J : Nat → List V → H → Prop) (n : Nat) (P : XE → List V → H → Prop) (h0 : J n fr h)
    (round : ∀ n fr h, J n fr h → xcode E c (@unhide _ ⟨seqQ (fun fr' h' => ∃ m, m < n ∧ J m fr' h') P⟩) fr h) (post : ∀ e fr h, P e fr h → Q e fr h) : XW E (.loop c) Q fr h :=
  XW.mono (XW.loopH J n h0 round) post
/-- a row of numbers that may be cut and grown in place -/
def SeenV (h : H) (lo : Nat) (v : V) (l : List Int) : Prop :=
  (v = .slc 0 0 [] ∧ l = []) ∨ ∃ id r, v = .msl id 0 l.length 1 ∧ lo ≤ id ∧ id < h.next ∧ h.arr id = some ⟨l.map intV ++ r, 1, 3⟩
attribute [local simp] hid2 hid3 hid4 xcode_skip xcode_region xcode_draw xcode_loop xcode_seq xcode_cond xcode_block xcode_scope xcode_exit xcode_ret xops_nil xops_cons xd_nil xd_cons xstep_eq annot fillOf findFill findStore srcOf kcls cls qval qvalN xwant dstAt want1 xdo xop ev_const ev_global ev_func ev_zero ev_succ ev_undefs ev_hit ev_miss put_none put_len undefs_len xnil xfieldAddr fieldOf eT emtb seqQ blockQ xload xstore splice V.storable V.one V.cells mk xbinop xbin xun xbuiltin xindexAddr nilOr xindex xint cv cv1 retQ xres_tmp xres_cell xres_nil xresult xbuild xfill xbuildSlice xrows Nat.testBit places xfield item sideOk pendOk pendOf tyT1 tyT2 tyT3 tyT4 tyT5 tyT9 tyT22 tyT23 tyT24 tyT25 tyT26 tyT30 tyT34 tyT39 tyT41 tyT47 tyT48 tyT50 tyT53 tyT54 tyT56 tyT58 tyT63 tyT70 tyT76 tyT78 tyT80 tyT84 tyT87 tyT89 tyT96 tyT98 tyT100 tyT102 tyT108 tyT110 tyT112 tyT113 tyT115 tyT119 tyT121 tyT124 tyT138 tyT139 tyT141 tyT142 tyT143 tyT145 tyT147 tyT149 tyT155 tyT158 tyT164 tyT179 tyT186 tyT188 tyT189 tyT194 tyT197 tyT200 tyT216 tyT242 tyT245 H.put_get H.new_get H.row_obj H.grow_obj H.bump_obj H.newArr_obj H.putArr_obj H.moveArr_obj H.put_arr H.new_arr H.row_arr H.grow_arr H.bump_arr H.newArr_get H.putArr_get H.moveArr_get H.put_ext H.new_ext H.newArr_ext H.putArr_ext H.moveArr_ext H.bump_ext H.row_get H.grow_get H.new_next H.row_next H.bump_next H.put_next H.grow_next H.newArr_next H.putArr_next H.moveArr_next H.app_next H.app_obj H.app_arr H.app_get bne emT emM xapp_em xmakeSlice xslice xlookup xmapUpdate keyShape
theorem seen_app {h : H} {lo : Nat} {v : V} {l : List Int} (hN : SeenV h lo v l) (hl : l.length ≤ 1000000) (hlo : lo ≤ h.next) (k : Int) :
    ∃ h3, xappendM (em [23]) 23 v (.msl h.next 0 1 1) (h.newArr ⟨[intV k], 1, 3⟩) = some (.msl (h.next + 1) 0 (l.length + 1) 1, h3) ∧
      SeenV h3 lo (.msl (h.next + 1) 0 (l.length + 1) 1) (l ++ [k]) ∧ (∀ h0, Fr h0 h → h0.next ≤ lo → Fr h0 h3) := by
  have hT : tyT 23 = some ty23 := rfl
  have hE : tyT 3 = some ty3 := rfl
  rcases hN with ⟨rfl, rfl⟩ | ⟨id, r, rfl, g1, g2, g3⟩
  · refine ⟨(h.newArr ⟨[intV k], 1, 3⟩).newArr ⟨[intV k], 1, 3⟩, ?_, .inr ⟨h.next + 1, [], by simp, by omega, by simp [H.newArr_next], by simp [H.newArr_get, H.newArr_next]⟩, fun h0 hF hl => ?_⟩
    · simp [-Int.natCast_add, isM, xappendM, rowsIn, hT, hE, intV, maxLen]
    · repeat' first | exact Fr.refl _ | assumption | refine Fr.put ?_ (by omega) _ | refine Fr.new1 ?_ _ | refine Fr.row1 ?_ _ | refine Fr.bump1 ?_ | refine Fr.app ?_ (by first | assumption | omega) _ | refine Fr.grow ?_ (by omega) _ | refine Fr.newArr1 ?_ _ | refine Fr.putArr ?_ (by omega) _ | refine Fr.moveArr ?_ (by omega) _ | refine Fr.trans ?_ (by assumption)
  · refine ⟨(h.newArr ⟨[intV k], 1, 3⟩).moveArr id ⟨l.map intV ++ [intV k], 1, 3⟩, ?_, .inr ⟨h.next + 1, [], by simp, by omega, by simp [H.newArr_next, H.moveArr_next], by simp [H.moveArr_get, H.newArr_next]⟩, fun h0 hF hl => ?_⟩
    · have n1 : id ≠ h.next := by omega
      simp [-Int.natCast_add, isM, xappendM, rowsIn, hT, hE, intV, maxLen, n1, g3]
      omega
    · have := hF.next
      repeat' first | exact Fr.refl _ | assumption | refine Fr.put ?_ (by omega) _ | refine Fr.new1 ?_ _ | refine Fr.row1 ?_ _ | refine Fr.bump1 ?_ | refine Fr.app ?_ (by first | assumption | omega) _ | refine Fr.grow ?_ (by omega) _ | refine Fr.newArr1 ?_ _ | refine Fr.putArr ?_ (by omega) _ | refine Fr.moveArr ?_ (by omega) _ | refine Fr.trans ?_ (by assumption)
def blHead : List (List UInt8) := [k_fn, n_main.w, [40], [41], [123]]
def blT (z : Zip) : List UInt8 := flatW (blHead ++ openW z)
def BlPost (h : H) (fr : List V) (h' : H) : Prop := ∃ (z : Zip) (d : Nat) (s : ByteArray) (lets uses : Nat) (good : Bool), BlS z 31 ∧ z.length = d + 1 ∧ d ≤ 15 ∧ Fr h h' ∧ s.data.toList = blT z ∧ (openRun z).locals ≤ 64 ∧ (openRun z).e = (if good = true then 0 else 11) ∧
  (good = true → (openRun z).locals = (lets : Nat) ∧ (openRun z).slots.length = lets + uses ∧ lets + uses ≤ 1000) ∧ fr.length = 141 ∧ ev fr (.tmp 3) = .lit (.string s) ∧ ev fr (.tmp 4) = .lit (.int .i64 (d : Nat)) ∧ ev fr (.tmp 6) = .lit (.int .i64 (lets : Nat)) ∧ ev fr (.tmp 7) = .lit (.int .i64 (uses : Nat)) ∧ ev fr (.tmp 8) = .lit (.bool good)
def BlP (h : H) : XE → List V → H → Prop := fun x fr h' => x = .exit 0 ∧ BlPost h fr h'
structure BlG (z : Zip) (d : Nat) (o : Option Nat) (lets uses i : Nat) : Prop where
  b : BlS z i
  len : z.length = d + 1
  deep : d ≤ 15
  seen : Seen z o
  e : (openRun z).e = 0
  locals : (openRun z).locals = (lets : Nat)
  slots : (openRun z).slots.length = lets + uses
  few : lets + uses ≤ i
theorem blT_snoc (l : List Sm) (z : Zip) (t : Sm) : blT ((l ++ [t]) :: z) = blT (l :: z) ++ flatW t.ws := by
  unfold blT
  rw [openW_snoc, ← List.append_assoc, flatW_append]
theorem BlG.skip {z : Zip} {d : Nat} {o : Option Nat} {L U i : Nat} (g : BlG z d o L U i) : BlG z d o L U (i + 1) :=
  ⟨g.b.mono (by omega), g.len, g.deep, g.seen, g.e, g.locals, g.slots, by have := g.few; omega⟩
theorem BlG.open {z : Zip} {d : Nat} {o : Option Nat} {L U i : Nat} (g : BlG z d o L U i) (hd : d < 15) : BlG ([] :: z) (d + 1) o L U (i + 1) ∧ blT ([] :: z) = blT z ++ [105, 102, 32, 49, 32, 123, 32] := by
  have hl := g.len
  cases z with
  | nil => simp at hl
  | cons l z =>
    refine ⟨⟨g.b.open (by simp at hl; omega), by simpa using hl, by omega, g.seen.open, g.e, g.locals, g.slots, by have := g.few; omega⟩, ?_⟩
    unfold blT
    rw [openW_open, ← List.append_assoc, flatW_append]
    rfl
theorem BlG.close {z : Zip} {d : Nat} {o : Option Nat} {L U i : Nat} (g : BlG z (d + 1) o L U i) : ∃ z', BlG z' d (popO d o) L U (i + 1) ∧ blT z' = blT z ++ [125, 32] := by
  have hl := g.len
  match z, hl, g with
  | [], hl, _ => simp at hl
  | [_], hl, _ => simp at hl
  | l0 :: l1 :: z, hl, g =>
    have hz : z.length = d := by simpa using hl
    obtain ⟨r1, r2, r3⟩ := close_run (l0 := l0) (l1 := l1) (z := z)
    have hs := g.seen.close g.e
    rw [hz] at hs
    refine ⟨(l1 ++ [.ifS l0]) :: z, ⟨g.b.close, by simp [hz], by have := g.deep; omega, hs, by rw [r1, g.e], by rw [r2, g.locals], by rw [r3, g.slots], by have := g.few; omega⟩, ?_⟩
    unfold blT
    rw [openW_close, ← List.append_assoc, flatW_append]
    rfl
theorem BlG.let_ {z : Zip} {d : Nat} {L U i : Nat} (g : BlG z d none L U i) (hi : i ≤ 30) : ∃ z', BlG z' d (some d) (L + 1) U (i + 1) ∧ blT z' = blT z ++ [108, 101, 116, 32, 120, 32, 61, 32, 49, 32, 59, 32] := by
  have hl := g.len
  cases z with
  | nil => simp at hl
  | cons l z =>
    have hz : z.length = d := by simpa using hl
    obtain ⟨r1, r2, r3⟩ := let_good g.seen g.e
    have hs := g.seen.let_ g.e
    rw [hz] at hs
    have hf := g.few
    refine ⟨(l ++ [.letS nX]) :: z, ⟨g.b.snoc _ (.inl rfl), by simp [hz], g.deep, hs, r1, by rw [r2, g.locals, wr_id (by omega) (by omega)]; omega, by rw [r3, g.slots]; omega, by omega⟩, ?_⟩
    rw [blT_snoc]
    rfl
theorem BlG.use {z : Zip} {d k : Nat} {L U i : Nat} (g : BlG z d (some k) L U i) : ∃ z', BlG z' d (some k) L (U + 1) (i + 1) ∧ blT z' = blT z ++ [112, 114, 105, 110, 116, 32, 120, 32, 59, 32] := by
  have hl := g.len
  cases z with
  | nil => simp at hl
  | cons l z =>
    have hz : z.length = d := by simpa using hl
    obtain ⟨r0, r1, r2, r3⟩ := use_good g.seen g.e
    have hf := g.few
    refine ⟨(l ++ [.prS nX]) :: z, ⟨g.b.snoc _ (.inr rfl), by simp [hz], g.deep, r0, r1, by rw [r2, g.locals], by rw [r3, g.slots]; omega, by omega⟩, ?_⟩
    rw [blT_snoc]
    rfl
theorem run_locals (t : Sm) (ht : t = .letS nX ∨ t = .prS nX) (s : CS) (h : s.locals ≤ 60) (h0 : 0 ≤ s.locals) : (t.run s).locals ≤ 64 := by
  have hw : (wrongC s 11).locals = s.locals := by unfold wrongC; split <;> rfl
  rcases ht with rfl | rfl
  · rw [Sm.run]
    split
    · unfold letC
      have h1 : wr (s.locals + 1) = s.locals + 1 := wr_id (by omega) (by omega)
      split
      · simp only [hw, h1]; omega
      · simp only [h1]; omega
    · omega
  · rw [Sm.run]
    split
    · unfold useC
      split
      · simp only; omega
      · simp only [hw]; omega
    · omega
theorem BlG.letBad {z : Zip} {d k : Nat} {L U i : Nat} (g : BlG z d (some k) L U i) (hi : i ≤ 30) : ∃ z', BlS z' 31 ∧ z'.length = d + 1 ∧ (openRun z').e = 11 ∧ (openRun z').locals ≤ 64 ∧ blT z' = blT z ++ [108, 101, 116, 32, 120, 32, 61, 32, 49, 32, 59, 32] := by
  have hl := g.len
  cases z with
  | nil => simp at hl
  | cons l z =>
    have hz : z.length = d := by simpa using hl
    have hf := g.few
    refine ⟨(l ++ [.letS nX]) :: z, (g.b.snoc _ (.inl rfl)).mono (by omega), by simp [hz], let_bad g.seen g.e, ?_, ?_⟩
    · rw [openRun_snoc]
      exact run_locals _ (.inl rfl) _ (by rw [g.locals]; omega) (by rw [g.locals]; omega)
    · rw [blT_snoc]
      rfl
theorem BlG.useBad {z : Zip} {d : Nat} {L U i : Nat} (g : BlG z d none L U i) (hi : i ≤ 30) : ∃ z', BlS z' 31 ∧ z'.length = d + 1 ∧ (openRun z').e = 11 ∧ (openRun z').locals ≤ 64 ∧ blT z' = blT z ++ [112, 114, 105, 110, 116, 32, 120, 32, 59, 32] := by
  have hl := g.len
  cases z with
  | nil => simp at hl
  | cons l z =>
    have hz : z.length = d := by simpa using hl
    have hf := g.few
    refine ⟨(l ++ [.prS nX]) :: z, (g.b.snoc _ (.inr rfl)).mono (by omega), by simp [hz], use_bad g.seen g.e, ?_, ?_⟩
    · rw [openRun_snoc]
      exact run_locals _ (.inr rfl) _ (by rw [g.locals]; omega) (by rw [g.locals]; omega)
    · rw [blT_snoc]
      rfl
def oL : Option Nat → List Int | none => [] | some k => [(k : Int)]
def BlJ (acts : List Int) (aid asz : Nat) (h : H) : Nat → List V → H → Prop := fun m fr' h' => ∃ (i : Nat) (z : Zip) (d : Nat) (o : Option Nat) (lets uses : Nat) (s : ByteArray) (v : V), m + i = 31 ∧ i ≤ 30 ∧ Fr h h' ∧ BlG z d o lets uses i ∧ s.data.toList = blT z ∧ SeenV h' h.next v (oL o) ∧
  fr'.length = 141 ∧ ev fr' (.tmp 0) = .slc aid asz (acts.map intV) ∧ ev fr' (.tmp 3) = .lit (.string s) ∧ ev fr' (.tmp 4) = .lit (.int .i64 (d : Nat)) ∧ ev fr' (.tmp 5) = v ∧ ev fr' (.tmp 6) = .lit (.int .i64 (lets : Nat)) ∧ ev fr' (.tmp 7) = .lit (.int .i64 (uses : Nat)) ∧ ev fr' (.tmp 8) = .lit (.bool true) ∧ ev fr' (.tmp 9) = .lit (.int .i64 (i : Nat))
theorem blT_size {z : Zip} {k : Nat} (h : BlS z k) {s : ByteArray} (hs : s.data.toList = blT z) (hk : k ≤ 31) : s.size ≤ 1000 := by
  have h1 := h.len
  have h2 : (flatW blHead).length = 14 := by decide +kernel
  rw [size_data, hs]
  unfold blT
  rw [flatW_append, List.length_append, h2]
  omega
def BlJ2 (z : Zip) (d : Nat) (s : ByteArray) (lets uses : Nat) (good : Bool) (h : H) : Nat → List V → H → Prop := fun k fr h' => ∃ (j : Nat) (s' : ByteArray), k = j + 1 ∧ j ≤ d ∧ Fr h h' ∧ s'.data.toList = s.data.toList ++ flatW (List.replicate (d - j) [125]) ∧ s'.size ≤ 2000 + 20 * (d - j) ∧ fr.length = 141 ∧ ev fr (.tmp 3) = .lit (.string s') ∧ ev fr (.tmp 4) = .lit (.int .i64 (j : Nat)) ∧ ev fr (.tmp 6) = .lit (.int .i64 (lets : Nat)) ∧ ev fr (.tmp 7) = .lit (.int .i64 (uses : Nat)) ∧ ev fr (.tmp 8) = .lit (.bool good)
theorem blocks_calls (h : H) (hp : 0 < h.next) (acts : List Int) (aid asz : Nat) (ha : rowOk asz acts) (hal : (acts.length : Int) ≤ 9223372036854775807) :
    XCalls e 5 [.slc aid asz (acts.map intV)] h (fun v h' => v = .lit (.bool true) ∧ Fr h h') := by
  refine XCalls.ofM [23] ?_
  refine XCalls.of Tryz.func5 rfl (by kernel_rfl) ?_
  rw [Tryz.ntmps5]
  simp [-Int.natCast_add, isM, xappendM, rowsIn]
  refine XW.loopQ (BlJ acts aid asz h) 31 (BlP h) ?_ ?_ ?_
  · refine ⟨0, [[]], 0, none, 0, 0, ⟨#[102, 110, 32, 109, 97, 105, 110, 32, 40, 32, 41, 32, 123, 32]⟩, .slc 0 0 [], by omega, by omega, Fr.refl _, ⟨BlS.zero, rfl, by omega, .none1 [] rfl, rfl, rfl, rfl, by omega⟩, by decide +kernel, .inl ⟨rfl, rfl⟩, ?_⟩
    simp [-Int.natCast_add, isM, xappendM, rowsIn]
  · rintro k fr' h' ⟨i, z, d, o, lets, uses, s, v, hk, hi, hF, g, hs, hv, e0, e1, e2, e3, e4, e5, e6, e7, e8⟩
    have hz := blT_size g.b hs (by omega)
    have hnx := hF.next
    have b1 := big1 (n := s.size) (by omega)
    have fin : ∀ fr2 h2, Fr h h2 → (fr2.length = 141 ∧ ev fr2 (.tmp 3) = .lit (.string s) ∧ ev fr2 (.tmp 4) = .lit (.int .i64 (d : Nat)) ∧ ev fr2 (.tmp 6) = .lit (.int .i64 (lets : Nat)) ∧ ev fr2 (.tmp 7) = .lit (.int .i64 (uses : Nat)) ∧ ev fr2 (.tmp 8) = .lit (.bool true)) → BlP h (.exit 0) fr2 h2 :=
      fun fr2 h2 hF2 q => ⟨rfl, z, d, s, lets, uses, true, g.b.mono (by omega), g.len, g.deep, hF2, hs, by rw [g.locals]; have := g.few; omega, g.e, fun _ => ⟨g.locals, g.slots, by have := g.few; omega⟩, q⟩
    have hM : isM (em [23]) 23 v = true := by rcases hv with ⟨rfl, _⟩ | ⟨_, _, rfl, _⟩ <;> rfl
    have hol : (oL o).length ≤ 1 := by cases o <;> simp [oL]
    have hw0 : IntKind.i64.wrap 0 = 0 := by decide
    by_cases hlt : i < acts.length
    · have hlt' : (i : Int) < (acts.length : Int) := by omega
      by_cases h30 : i < 30
      · have h30' : (i : Int) < 30 := by omega
        have hne : acts ≠ [] := by intro h0; rw [h0] at hlt; cases hlt
        have z1 := ha hne
        subst z1
        obtain ⟨y, hy⟩ : ∃ y, IntKind.i64.wrap ↑((acts[i] % 2 ^ IntKind.i64.bits).toNat &&& 3 % 2 ^ IntKind.i64.bits) = y := ⟨_, rfl⟩
        have hw9 : IntKind.i64.wrap ((i : Int) + 1) = ((i + 1 : Nat) : Int) := wrapS (a := i) (b := 1) (by omega)
        by_cases y0 : y = 0
        · subst y0
          by_cases hd : d < 15
          · have hd' : (d : Int) < 15 := by omega
            have hwd : IntKind.i64.wrap ((d : Int) + 1) = ((d + 1 : Nat) : Int) := wrapS (a := d) (b := 1) (by omega)
            simp [-Int.natCast_add, isM, xappendM, rowsIn, e0, e1, e2, e3, e4, e5, e6, e7, e8, hlt, hlt', h30, h30', ltB_t, hy, hd, hd', bsz, b1, intV]
            obtain ⟨g2, ht⟩ := g.open hd
            refine ⟨k - 1, by omega, i + 1, _, d + 1, o, lets, uses, s ++ ⟨#[105, 102, 32, 49, 32, 123, 32]⟩, v, by omega, by omega, hF, g2, by rw [ht, ← hs]; simp, hv, ?_⟩
            simp [-Int.natCast_add, isM, xappendM, rowsIn, e0, e1, e2, e3, e4, e5, e6, e7, e8, hw9, hwd, intV]
          · have hd' : ltB (d : Int) 15 = false := ltB_f (by omega)
            simp [-Int.natCast_add, isM, xappendM, rowsIn, e0, e1, e2, e3, e4, e5, e6, e7, e8, hlt, hlt', h30, h30', ltB_t, hy, hd', bsz, b1, intV]
            refine ⟨k - 1, by omega, i + 1, z, d, o, lets, uses, s, v, by omega, by omega, hF, g.skip, hs, hv, ?_⟩
            simp [-Int.natCast_add, isM, xappendM, rowsIn, e0, e1, e2, e3, e4, e5, e6, e7, e8, hw9, intV]
        have y0' : (y == 0) = false := by simpa using y0
        by_cases y1 : y = 1
        · subst y1
          by_cases hd : 0 < d
          · obtain ⟨d, rfl⟩ : ∃ d', d = d' + 1 := ⟨d - 1, by omega⟩
            have hd' : ltB 0 ((d + 1 : Nat) : Int) = true := ltB_t (by omega)
            have hwd : IntKind.i64.wrap (((d + 1 : Nat) : Int) - 1) = (d : Int) := by
              rw [wrapD (by have := g.deep; omega)]; omega
            obtain ⟨z', g2, ht⟩ := g.close
            cases o with
            | none =>
              have hv0 := hv
              rcases hv with ⟨rfl, _⟩ | ⟨id, r, rfl, v1, v2, v3⟩
              · simp [-Int.natCast_add, isM, xappendM, rowsIn, e0, e1, e2, e3, e4, e5, e6, e7, e8, hlt, hlt', h30, h30', ltB_t, hy, hd', bsz, b1, intV, hwd]
                refine ⟨k - 1, by omega, i + 1, z', d, none, lets, uses, s ++ ⟨#[125, 32]⟩, _, by omega, by omega, hF, g2, by rw [ht, ← hs]; simp, hv0, ?_⟩
                simp [-Int.natCast_add, isM, xappendM, rowsIn, e0, e1, e2, e3, e4, e5, e6, e7, e8, hw9, hwd, intV]
              · simp only [oL, List.length_nil] at e4 hv0
                simp [-Int.natCast_add, isM, xappendM, rowsIn, e0, e1, e2, e3, e4, e5, e6, e7, e8, hlt, hlt', h30, h30', ltB_t, hy, hd', bsz, b1, intV, hwd]
                refine ⟨k - 1, by omega, i + 1, z', d, none, lets, uses, s ++ ⟨#[125, 32]⟩, _, by omega, by omega, hF, g2, by rw [ht, ← hs]; simp, hv0, ?_⟩
                simp [-Int.natCast_add, isM, xappendM, rowsIn, e0, e1, e2, e3, e4, e5, e6, e7, e8, hw9, hwd, intV]
            | some q =>
              have hv0 := hv
              rcases hv with ⟨_, h0⟩ | ⟨id, r, rfl, v1, v2, v3⟩
              · cases h0
              simp only [oL, List.length_cons, List.length_nil, List.map_cons, List.map_nil, List.cons_append, List.nil_append, intV] at e4 v3
              by_cases hq : d < q
              · have hq' : (d : Int) < (q : Int) := by omega
                have hp : popO d (some q) = none := by simp [popO, hq]
                rw [hp] at g2
                simp [-Int.natCast_add, isM, xappendM, rowsIn, e0, e1, e2, e3, e4, e5, e6, e7, e8, hlt, hlt', h30, h30', ltB_t, hy, hd', bsz, b1, intV, hwd, hw0, v3, hq, hq']
                refine ⟨k - 1, by omega, i + 1, z', d, none, lets, uses, s ++ ⟨#[125, 32]⟩, .msl id 0 0 1, by omega, by omega, hF, g2, by rw [ht, ← hs]; simp, .inr ⟨id, _, rfl, v1, v2, v3⟩, ?_⟩
                simp [-Int.natCast_add, isM, xappendM, rowsIn, e0, e1, e2, e3, e4, e5, e6, e7, e8, hw9, hwd, intV]
              · have hq' : ltB (d : Int) (q : Int) = false := ltB_f (by omega)
                have hp : popO d (some q) = some q := by simp [popO, hq]
                rw [hp] at g2
                simp [-Int.natCast_add, isM, xappendM, rowsIn, e0, e1, e2, e3, e4, e5, e6, e7, e8, hlt, hlt', h30, h30', ltB_t, hy, hd', bsz, b1, intV, hwd, hw0, v3, hq']
                refine ⟨k - 1, by omega, i + 1, z', d, some q, lets, uses, s ++ ⟨#[125, 32]⟩, .msl id 0 1 1, by omega, by omega, hF, g2, by rw [ht, ← hs]; simp, .inr ⟨id, r, rfl, v1, v2, v3⟩, ?_⟩
                simp [-Int.natCast_add, isM, xappendM, rowsIn, e0, e1, e2, e3, e4, e5, e6, e7, e8, hw9, hwd, intV]
          · have hd' : ltB 0 (d : Int) = false := ltB_f (by omega)
            simp [-Int.natCast_add, isM, xappendM, rowsIn, e0, e1, e2, e3, e4, e5, e6, e7, e8, hlt, hlt', h30, h30', ltB_t, hy, hd', bsz, b1, intV]
            refine ⟨k - 1, by omega, i + 1, z, d, o, lets, uses, s, v, by omega, by omega, hF, g.skip, hs, hv, ?_⟩
            simp [-Int.natCast_add, isM, xappendM, rowsIn, e0, e1, e2, e3, e4, e5, e6, e7, e8, hw9, intV]
        have y1' : (y == 1) = false := by simpa using y1
        have hwl : IntKind.i64.wrap ((lets : Int) + 1) = ((lets + 1 : Nat) : Int) := wrapS (a := lets) (b := 1) (by have := g.few; omega)
        have hwu : IntKind.i64.wrap ((uses : Int) + 1) = ((uses + 1 : Nat) : Int) := wrapS (a := uses) (b := 1) (by have := g.few; omega)
        by_cases y2 : y = 2
        · subst y2
          obtain ⟨h3, x1, x2, x3⟩ := seen_app hv (by omega) (by omega) (d : Int)
          have hF3 := x3 h hF (Nat.le_refl _)
          simp only [intV] at x1
          cases o with
          | none =>
            obtain ⟨z', g2, ht⟩ := g.let_ hi
            simp only [oL, List.length_nil, List.nil_append] at x1 x2
            rcases hv with ⟨rfl, _⟩ | ⟨id, r, rfl, v1, v2, v3⟩
            · simp [-Int.natCast_add, e0, e1, e2, e3, e4, e5, e6, e7, e8, hlt, hlt', h30, h30', ltB_t, hy, bsz, b1, intV, hM, x1]
              refine ⟨k - 1, by omega, i + 1, z', d, some d, lets + 1, uses, s ++ ⟨#[108, 101, 116, 32, 120, 32, 61, 32, 49, 32, 59, 32]⟩, _, by omega, by omega, hF3, g2, by rw [ht, ← hs]; simp, x2, ?_⟩
              simp [-Int.natCast_add, isM, xappendM, rowsIn, e0, e1, e2, e3, e4, e5, e6, e7, e8, hw9, hwl, intV]
            · simp only [oL, List.length_nil] at e4 hM x1
              simp [-Int.natCast_add, e0, e1, e2, e3, e4, e5, e6, e7, e8, hlt, hlt', h30, h30', ltB_t, hy, bsz, b1, intV, hM, x1]
              refine ⟨k - 1, by omega, i + 1, z', d, some d, lets + 1, uses, s ++ ⟨#[108, 101, 116, 32, 120, 32, 61, 32, 49, 32, 59, 32]⟩, _, by omega, by omega, hF3, g2, by rw [ht, ← hs]; simp, x2, ?_⟩
              simp [-Int.natCast_add, isM, xappendM, rowsIn, e0, e1, e2, e3, e4, e5, e6, e7, e8, hw9, hwl, intV]
          | some q =>
            obtain ⟨z', p1, p2, p3, p4, ht⟩ := g.letBad hi
            rcases hv with ⟨_, h0⟩ | ⟨id, r, rfl, v1, v2, v3⟩
            · cases h0
            simp only [oL, List.length_cons, List.length_nil, List.map_cons, List.map_nil, List.cons_append, List.nil_append, intV] at e4 hM x1
            simp [-Int.natCast_add, e0, e1, e2, e3, e4, e5, e6, e7, e8, hlt, hlt', h30, h30', ltB_t, hy, bsz, b1, intV, hM, x1]
            refine ⟨rfl, z', d, s ++ ⟨#[108, 101, 116, 32, 120, 32, 61, 32, 49, 32, 59, 32]⟩, lets + 1, uses, false, p1, p2, g.deep, hF3, by rw [ht, ← hs]; simp, p4, p3, by simp, ?_⟩
            simp [-Int.natCast_add, isM, xappendM, rowsIn, e0, e1, e2, e3, e4, e5, e6, e7, e8, hw9, hwl, intV]
        have y2' : (y == 2) = false := by simpa using y2
        cases o with
        | some q =>
          obtain ⟨z', g2, ht⟩ := g.use
          have hv0 := hv
          rcases hv with ⟨_, h0⟩ | ⟨id, r, rfl, v1, v2, v3⟩
          · cases h0
          simp only [oL, List.length_cons, List.length_nil] at e4 hv0
          simp [-Int.natCast_add, e0, e1, e2, e3, e4, e5, e6, e7, e8, hlt, hlt', h30, h30', ltB_t, hy, y0', y1', y2', bsz, b1, intV]
          refine ⟨k - 1, by omega, i + 1, z', d, some q, lets, uses + 1, s ++ ⟨#[112, 114, 105, 110, 116, 32, 120, 32, 59, 32]⟩, _, by omega, by omega, hF, g2, by rw [ht, ← hs]; simp, hv0, ?_⟩
          simp [-Int.natCast_add, isM, xappendM, rowsIn, e0, e1, e2, e3, e4, e5, e6, e7, e8, hw9, hwu, intV]
        | none =>
          obtain ⟨z', p1, p2, p3, p4, ht⟩ := g.useBad hi
          rcases hv with ⟨rfl, _⟩ | ⟨id, r, rfl, v1, v2, v3⟩
          · simp [-Int.natCast_add, e0, e1, e2, e3, e4, e5, e6, e7, e8, hlt, hlt', h30, h30', ltB_t, hy, y0', y1', y2', bsz, b1, intV, show ltB 0 0 = false from rfl]
            refine ⟨rfl, z', d, s ++ ⟨#[112, 114, 105, 110, 116, 32, 120, 32, 59, 32]⟩, lets, uses + 1, false, p1, p2, g.deep, hF, by rw [ht, ← hs]; simp, p4, p3, by simp, ?_⟩
            simp [-Int.natCast_add, isM, xappendM, rowsIn, e0, e1, e2, e3, e4, e5, e6, e7, e8, hw9, hwu, intV]
          · simp only [oL, List.length_nil] at e4
            simp [-Int.natCast_add, e0, e1, e2, e3, e4, e5, e6, e7, e8, hlt, hlt', h30, h30', ltB_t, hy, y0', y1', y2', bsz, b1, intV, show ltB 0 0 = false from rfl]
            refine ⟨rfl, z', d, s ++ ⟨#[112, 114, 105, 110, 116, 32, 120, 32, 59, 32]⟩, lets, uses + 1, false, p1, p2, g.deep, hF, by rw [ht, ← hs]; simp, p4, p3, by simp, ?_⟩
            simp [-Int.natCast_add, isM, xappendM, rowsIn, e0, e1, e2, e3, e4, e5, e6, e7, e8, hw9, hwu, intV]
      · have hf : ltB (i : Int) 30 = false := ltB_f (by omega)
        simp [-Int.natCast_add, isM, xappendM, rowsIn, e0, e1, e2, e3, e4, e5, e6, e7, e8, hlt, hlt', ltB_t, hf]
        exact fin _ _ hF (by simp [-Int.natCast_add, isM, xappendM, rowsIn, e0, e1, e2, e3, e4, e5, e6, e7, e8])
    · have hf : ltB (i : Int) (acts.length : Int) = false := ltB_f (by omega)
      simp [-Int.natCast_add, isM, xappendM, rowsIn, e0, e1, e2, e3, e4, e5, e6, e7, e8, hf]
      exact fin _ _ hF (by simp [-Int.natCast_add, isM, xappendM, rowsIn, e0, e1, e2, e3, e4, e5, e6, e7, e8])
  · rintro _ fr' h' ⟨rfl, z, d, s, lets, uses, good, k1, k2, k3, hF, hs, k4, k5, k6, e0, e1, e2, e3, e4, e5⟩
    have hsz := blT_size k1 hs (Nat.le_refl _)
    simp [-Int.natCast_add, isM, xappendM, rowsIn]
    refine XW.loopH (BlJ2 z d s lets uses good h) (d + 1) ?_ ?_
    · exact ⟨d, s, rfl, Nat.le_refl _, hF, by simp [flatW], by omega, e0, e1, e2, e3, e4, e5⟩
    · clear e0 e1 e2 e3 e4 e5 hF fr' h'
      rintro k fr' h' ⟨j, s', rfl, hj, hF, hs', hz', e0, e1, e2, e3, e4, e5⟩
      have b1 := big1 (n := s'.size) (by omega)
      by_cases hj0 : 0 < j
      · obtain ⟨q, rfl⟩ : ∃ q, j = q + 1 := ⟨j - 1, by omega⟩
        have hjt : ltB 0 ((q + 1 : Nat) : Int) = true := ltB_t (by omega)
        have hwq : IntKind.i64.wrap (((q + 1 : Nat) : Int) - 1) = (q : Int) := by
          rw [wrapD (by omega)]; omega
        simp [-Int.natCast_add, isM, xappendM, rowsIn, e0, e1, e2, e3, e4, e5, hjt, bsz, b1]
        refine ⟨q + 1, by omega, q, s' ++ ⟨#[125, 32]⟩, rfl, by omega, hF, ?_, ?_, ?_⟩
        · rw [show d - q = d - (q + 1) + 1 by omega, List.replicate_succ']
          simp [hs', flatW]
        · simp [bsz]; omega
        · simp [-Int.natCast_add, isM, xappendM, rowsIn, e0, e1, e2, e3, e4, e5, hwq]
      · obtain rfl : j = 0 := by omega
        have hjf : ltB 0 ((0 : Nat) : Int) = false := rfl
        simp only [Int.natCast_zero] at e2 hjf
        simp [-Int.natCast_add, isM, xappendM, rowsIn, e0, e1, e2, e3, e4, e5, hjf, bsz, b1]
        have hd : (s' ++ ⟨#[125]⟩).data.toList = flatW (blInit z) ++ [125] := by
          simp [hs', hs, blT, blInit, blHead, k2, flatW]
        have hb := blocks_src k1 (s' ++ ⟨#[125]⟩) (by omega) hd k4
        cases good with
        | true =>
          rw [if_pos rfl] at k5
          rw [if_pos k5] at hb
          obtain ⟨q, r, hsrc, hr1, hr2, hr3⟩ := hb
          obtain ⟨w1, w2, w3⟩ := k6 rfl
          refine ((srcT_calls 1000000 (Nat.le_refl _) _ _ _ hsrc).mono ?_).toM
          rintro _ h2 ⟨hF2, id2, sz2, oid2, osz2, ts2, os2, rfl, q1, q2, q3, q4, q5, q6⟩
          obtain ⟨o, rfl, ho⟩ : ∃ o, os2 = [o] ∧ o.r = r := by
            match os2, q2 with
            | [], q2 => cases q2
            | [o], q2 => exact ⟨o, rfl, by simpa using q2⟩
            | _ :: _ :: _, q2 => simp at q2
          have q6' := q6 (by simp)
          have hlu : IntKind.i64.wrap ((lets : Int) + (uses : Int)) = ((lets + uses : Nat) : Int) := wrapS (a := lets) (b := uses) (by omega)
          have hr4 : o.r.locals = (lets : Nat) := by rw [ho, hr1, w1]
          have hr5 : o.r.slots.length = lets + uses := by rw [ho, hr2, w2]
          unfold FunT.v sfV
          simp [-Int.natCast_add, isM, xappendM, rowsIn, e0, e1, e2, e3, e4, e5, hr4, hr5, q6', hlu]
          refine ((awake_calls _).mono ?_).toM
          rintro _ h3 ⟨rfl, hF3⟩
          simp [-Int.natCast_add, isM, xappendM, rowsIn, e0, e1, e2, e3, e4, e5]
          exact (hF.trans hF2).trans hF3
        | false =>
          rw [if_neg (by decide)] at k5
          rw [if_neg (by rw [k5]; decide), k5] at hb
          refine ((srcT_calls 1000000 (Nat.le_refl _) _ _ _ hb).mono ?_).toM
          rintro _ h2 ⟨hF2, id2, sz2, oid2, osz2, ts2, os2, rfl, q1, q2, q3, q4, q5, q6⟩
          simp [-Int.natCast_add, isM, xappendM, rowsIn, e0, e1, e2, e3, e4, e5]
          refine ((awake_calls _).mono ?_).toM
          rintro _ h3 ⟨rfl, hF3⟩
          simp [-Int.natCast_add, isM, xappendM, rowsIn, e0, e1, e2, e3, e4, e5]
          exact (hF.trans hF2).trans hF3
end Go.Proofs.YtjofmihdeblbmaaGreatDoor.Xa
