/- XA, joined: awake of law 5; ParseDeep plain; ParseDeep walked. -/
import Derived.Test.YtjofmihdeblbmaaGreatDoorXaM34
import Derived.Test.YtjofmihdeblbmaaGreatDoorXaM43
/- XA: ratlinelaw5.awake; ParseDeep: its 240 texts, evaluated. -/
namespace Go.Proofs.YtjofmihdeblbmaaGreatDoor.Xa
open Go Go.RowKit
set_option linter.unusedVariables false
set_option linter.unusedSimpArgs false
set_option maxRecDepth 100000
set_option maxHeartbeats 4000000
theorem eqB_eq {a b : ByteArray} (h : eqB a b = true) : a = b := by
  unfold eqB at h
  simp only [beq_iff_eq] at h
  apply ByteArray.ext
  exact Array.toList_inj.1 h
def a5t : ByteArray := ⟨#[97, 32, 43, 32, 98, 32, 42, 32, 50, 32, 60, 32, 51]⟩
def a5p : ByteArray := ⟨#[102, 110, 32, 109, 97, 105, 110, 32, 40, 32, 41, 32, 123, 32, 125]⟩
def a5q (r : Nd × Int × Int) : Bool := r.2.2 == 0 && (r.2.1 == 0 && (r.1.kind == 11 && (r.1.op == 8 && (r.1.kids.length == 2 && (chk (grN 60 [r.1] 0 4000) (fun g => !g.1) && (smN 60 r.1 r.1 &&
  chk (prNode 60 [] r.1 1) (fun ws => decide (2 ≤ ws.length) && (decide (ws.length ≤ 1000000) && eqB (joinB ws) a5t))))))))
theorem a5_ok : chk (exprT 60 a5t) a5q = true := by decide +kernel
theorem a5p_ok : chk (progT 40 a5p) (fun r => r.2.2 == 0 && match r.1 with | [f] => eqB f.name ⟨#[109, 97, 105, 110]⟩ | _ => false) = true := by decide +kernel
attribute [local simp] hid2 hid3 hid4 xcode_skip xcode_region xcode_draw xcode_loop xcode_seq xcode_cond xcode_block xcode_scope xcode_exit xcode_ret xops_nil xops_cons xd_nil xd_cons xstep_eq annot fillOf findFill findStore srcOf kcls cls qval qvalN xwant dstAt want1 xdo xop ev_const ev_global ev_func ev_zero ev_succ ev_undefs ev_hit ev_miss put_none put_len undefs_len xnil xfieldAddr fieldOf eT emtb seqQ blockQ xload xstore splice V.storable V.one V.cells mk xbinop xbin xun xbuiltin xindexAddr nilOr xindex xint cv cv1 retQ xres_tmp xres_cell xres_nil xresult xbuild xfill xbuildSlice xrows Nat.testBit places xfield item sideOk pendOk pendOf tyT1 tyT2 tyT3 tyT4 tyT5 tyT9 tyT22 tyT23 tyT24 tyT25 tyT26 tyT30 tyT34 tyT39 tyT41 tyT47 tyT48 tyT50 tyT53 tyT54 tyT56 tyT58 tyT63 tyT70 tyT76 tyT78 tyT80 tyT84 tyT87 tyT89 tyT96 tyT98 tyT100 tyT102 tyT108 tyT110 tyT112 tyT113 tyT115 tyT119 tyT121 tyT124 tyT138 tyT139 tyT141 tyT142 tyT143 tyT145 tyT147 tyT149 tyT155 tyT158 tyT164 tyT179 tyT186 tyT188 tyT189 tyT194 tyT197 tyT200 tyT216 tyT242 tyT245 H.put_get H.new_get H.row_obj H.grow_obj H.bump_obj H.newArr_obj H.putArr_obj H.moveArr_obj H.put_arr H.new_arr H.row_arr H.grow_arr H.bump_arr H.newArr_get H.putArr_get H.moveArr_get H.put_ext H.new_ext H.newArr_ext H.putArr_ext H.moveArr_ext H.bump_ext H.row_get H.grow_get H.new_next H.row_next H.bump_next H.put_next H.grow_next H.newArr_next H.putArr_next H.moveArr_next H.app_next H.app_obj H.app_arr H.app_get bne emT emM xapp_em xmakeSlice xslice xlookup xmapUpdate keyShape
theorem awake5_calls (h : H) : XCalls e 19 [] h (fun v h' => v = .lit (.bool true) ∧ Fr h h') := by
  obtain ⟨⟨nd, at_, er⟩, hx, hq⟩ := opt_of a5_ok
  simp only [a5q, Bool.and_eq_true, beq_iff_eq] at hq
  obtain ⟨rfl, rfl, q1, q2, q3, q4, q5, q6⟩ := hq
  obtain ⟨⟨g1, left⟩, hg, hg1⟩ := opt_of q4
  obtain ⟨ws, hw, hw1⟩ := opt_of q6
  simp only [Bool.and_eq_true, decide_eq_true_eq] at hw1
  obtain ⟨w1, w2, w3⟩ := hw1
  have hj : joinB ws = a5t := eqB_eq w3
  have hg0 : g1 = false := by simpa using hg1
  subst hg0
  obtain ⟨⟨fl, pa, pe⟩, hp, hp1⟩ := opt_of a5p_ok
  simp only [Bool.and_eq_true, beq_iff_eq] at hp1
  obtain ⟨rfl, hp2⟩ := hp1
  split at hp2
  case h_2 => cases hp2
  rename_i F
  have hF := eqB_eq hp2
  refine XCalls.of Tryz.func19 rfl (by kernel_rfl) ?_
  rw [Tryz.ntmps19]
  simp [-Int.natCast_add, isM, xappendM, rowsIn]
  refine (exprT_calls 60 (by decide) _ a5t _ hx).mono ?_
  rintro _ h1 ⟨hF1, T, hT, rfl⟩
  simp only at hT
  subst hT
  simp [-Int.natCast_add, isM, xappendM, rowsIn, TN.v_len, TN.v_take, TN.v_drop]
  refine (show_calls 60 (by decide) _ T ws left 0 T.nd hg hw w1 w2 (by rw [hj]; decide) (by rw [hj]; exact hx) q5).mono ?_
  rintro _ h2 ⟨rfl, hF2⟩
  simp [-Int.natCast_add, isM, xappendM, rowsIn]
  refine (progT_calls 40 (by decide) _ a5p _ hp).mono ?_
  rintro _ h3 ⟨hF3, id, sz, ts, rfl, hts⟩
  obtain ⟨t1, t2, t3⟩ := hts
  simp only at t1
  obtain ⟨t, rfl, rfl⟩ : ∃ t, ts = [t] ∧ t.fn = F := by
    match ts, t1 with
    | [], t1 => cases t1
    | [t], t1 => exact ⟨t, rfl, by simpa using t1⟩
    | _ :: _ :: _, t1 => simp at t1
  have z7 := t3 (by simp)
  subst z7
  have hnm : t.name = ⟨#[109, 97, 105, 110]⟩ := hF
  have hn1 := hF1.next
  have hn2 := hF2.next
  simp only [H.put_next, H.new_next] at hn2
  have hb := (hF3.obj h1.next (by omega)).trans ((hF2.obj h1.next (by simp only [H.put_next, H.new_next]; omega)).trans (H.put_same _ _ _))
  rw [TN.v_eq T] at hb
  rw [TN.nd_kind] at q1
  rw [TN.nd_op] at q2
  rw [TN.nd_kids, List.length_map] at q3
  have hbt : (joinB ws).toList = a5t.toList := by rw [hj]
  rw [hj]
  unfold FnT.v
  simp [-Int.natCast_add, isM, xappendM, rowsIn, hb, q1, q2, q3, hnm, bytes_list, a5t]
  exact ((hF1.trans (((Fr.new _ _).put (Nat.le_refl _) _))).trans hF2).trans hF3
end Go.Proofs.YtjofmihdeblbmaaGreatDoor.Xa
/- XA: plain: ParseDeep's 240 texts, evaluated. -/
namespace Go.Proofs.YtjofmihdeblbmaaGreatDoor.Xa
open Go Go.RowKit
set_option linter.unusedVariables false
set_option linter.unusedSimpArgs false
set_option maxRecDepth 100000
set_option maxHeartbeats 4000000
def dpO : Nat → List UInt8
  | 0 => [40, 32] | 1 => [91, 32] | 2 => [102, 32, 40, 32] | 3 => [97, 32, 91, 32] | 4 => [45, 32] | _ => [33, 32]
def dpE : Nat → List UInt8
  | 0 => [32, 41] | 1 => [32, 93] | 2 => [32, 41] | 3 => [32, 93] | _ => []
def dpOw : Nat → List (List UInt8)
  | 0 => [[40]] | 1 => [[91]] | 2 => [[102], [40]] | 3 => [[97], [91]] | 4 => [[45]] | _ => [[33]]
def dpEw : Nat → List UInt8
  | 0 => [41] | 1 => [93] | 2 => [41] | _ => [93]
def dpWant : Nat → Int
  | 0 => 48 | 1 => 48 | 2 => 96 | 3 => 98 | _ => 48
def rp {α : Type} (n : Nat) (l : List α) : List α := (List.replicate n l).flatten
def dpText (n k : Nat) : List UInt8 := rp n (dpO k) ++ 97 :: rp n (dpE k)
def dpInit (n k : Nat) : List (List UInt8) := if k < 4 then rp n (dpOw k) ++ [97] :: List.replicate (n - 1) (dpEw k) else rp n (dpOw k)
def dpLast (k : Nat) : List UInt8 := if k < 4 then dpEw k else [97]
def dpOk (n k : Nat) : Bool :=
  (dpText n k == flatW (dpInit n k) ++ dpLast k) && ((dpInit n k).all goodW && (goodW (dpLast k) && (decide ((dpText n k).length ≤ 4000) &&
  chk (pLevel 1000000 ⟨0, 0, toksAt 0 (dpInit n k ++ [dpLast k]), ((dpText n k).length : Nat)⟩ ⟨0, 0, 0, 0⟩ 1) (fun r => let q := exprR ⟨0, 0, toksAt 0 (dpInit n k ++ [dpLast k]), ((dpText n k).length : Nat)⟩ r
    if n ≤ 24 then q.2.2 == 0 && q.2.1 == 0 else q.2.2 == 21 && q.2.1 == dpWant k))))
theorem dpOk_all : ∀ n < 40, ∀ k < 6, dpOk (n + 1) k = true := by decide +kernel
theorem deep_expr (n k : Nat) (hn : 1 ≤ n ∧ n ≤ 40) (hk : k < 6) (b : ByteArray) (hb : b.data.toList = dpText n k) :
    ∃ r, exprT 1000000 b = some r ∧ (n ≤ 24 → r.2.2 = 0 ∧ r.2.1 = 0) ∧ (24 < n → r.2.2 = 21 ∧ r.2.1 = dpWant k) := by
  have h := dpOk_all (n - 1) (by omega) k hk
  rw [show n - 1 + 1 = n by omega] at h
  unfold dpOk at h
  simp only [Bool.and_eq_true, beq_iff_eq, decide_eq_true_eq] at h
  obtain ⟨h1, h2, h3, h4, h5⟩ := h
  obtain ⟨r, hr, hq⟩ := opt_of h5
  have hsz : b.size = (dpText n k).length := by rw [size_data, hb]
  have ht := tokens_words b (by omega) (dpInit n k) (dpLast k) (fun w hw => by simpa using List.all_eq_true.1 h2 w hw) h3 (by rw [hb, h1])
  have hlen := len_flat (dpInit n k)
  have hz : (flatW (dpInit n k)).length ≤ (dpText n k).length := by rw [h1]; simp
  refine ⟨exprR ⟨0, 0, toksAt 0 (dpInit n k ++ [dpLast k]), b.size⟩ r, ?_, ?_, ?_⟩
  · unfold exprT
    rw [ht]
    simp only
    rw [if_pos (by rw [toksAt_len]; simp; omega), hsz, hr]
  · intro h24
    simp only [h24, if_true, Bool.and_eq_true, beq_iff_eq] at hq
    rw [hsz]
    exact hq
  · intro h24
    simp only [show ¬ n ≤ 24 by omega, if_false, Bool.and_eq_true, beq_iff_eq] at hq
    rw [hsz]
    exact hq
theorem rp_succ {α : Type} (n : Nat) (l : List α) : rp (n + 1) l = rp n l ++ l := by
  unfold rp
  rw [List.replicate_succ', List.flatten_append]
  simp
theorem rp_zero {α : Type} (l : List α) : rp 0 l = [] := rfl
end Go.Proofs.YtjofmihdeblbmaaGreatDoor.Xa
/- XA: ParseDeep walked. -/
namespace Go.Proofs.YtjofmihdeblbmaaGreatDoor.Xa
open Go Go.RowKit
set_option linter.unusedVariables false
set_option linter.unusedSimpArgs false
set_option maxRecDepth 100000
set_option maxHeartbeats 2000000
def dpOb : Nat → ByteArray
  | 0 => ⟨#[40, 32]⟩ | 1 => ⟨#[91, 32]⟩ | 2 => ⟨#[102, 32, 40, 32]⟩ | 3 => ⟨#[97, 32, 91, 32]⟩ | 4 => ⟨#[45, 32]⟩ | _ => ⟨#[33, 32]⟩
def dpEb : Nat → ByteArray
  | 0 => ⟨#[32, 41]⟩ | 1 => ⟨#[32, 93]⟩ | 2 => ⟨#[32, 41]⟩ | 3 => ⟨#[32, 93]⟩ | _ => ⟨#[]⟩
theorem dpOb_list : ∀ k < 6, (dpOb k).data.toList = dpO k ∧ (dpEb k).data.toList = dpE k ∧ (dpOb k).size ≤ 4 ∧ (dpEb k).size ≤ 2 := by decide
def DpJ (n k : Nat) (h : H) : Nat → List V → H → Prop := fun m fr' h' => ∃ (i : Nat) (s t : ByteArray), m + i = n + 1 ∧ i ≤ n ∧ Fr h h' ∧ s.data.toList = rp i (dpO k) ∧ t.data.toList = rp i (dpE k) ∧ s.size ≤ 4 * i ∧ t.size ≤ 2 * i ∧ fr'.length = 78 ∧ ev fr' (.tmp 0) = .lit (.int .i64 (n : Nat)) ∧ ev fr' (.tmp 5) = .lit (.int .i64 (k : Nat)) ∧
  ev fr' (.tmp 6) = .lit (.string (dpOb k)) ∧ ev fr' (.tmp 7) = .lit (.string (dpEb k)) ∧ ev fr' (.tmp 8) = .lit (.string s) ∧ ev fr' (.tmp 9) = .lit (.string t) ∧ ev fr' (.tmp 10) = .lit (.int .i64 (i : Nat))
theorem ixO (k : Nat) (hk : k < 6) : ([[V.lit (Value.string ⟨#[40, 32]⟩)], [V.lit (Value.string ⟨#[91, 32]⟩)], [V.lit (Value.string ⟨#[102, 32, 40, 32]⟩)], [V.lit (Value.string ⟨#[97, 32, 91, 32]⟩)], [V.lit (Value.string ⟨#[45, 32]⟩)], [V.lit (Value.string ⟨#[33, 32]⟩)]])[k]'(by simpa using hk) = [V.lit (Value.string (dpOb k))] := by
  have hkc : k = 0 ∨ k = 1 ∨ k = 2 ∨ k = 3 ∨ k = 4 ∨ k = 5 := by omega
  rcases hkc with rfl | rfl | rfl | rfl | rfl | rfl <;> rfl
theorem ixE (k : Nat) (hk : k < 6) : ([[V.lit (Value.string ⟨#[32, 41]⟩)], [V.lit (Value.string ⟨#[32, 93]⟩)], [V.lit (Value.string ⟨#[32, 41]⟩)], [V.lit (Value.string ⟨#[32, 93]⟩)], [V.lit (Value.string ⟨#[]⟩)], [V.lit (Value.string ⟨#[]⟩)]])[k]'(by simpa using hk) = [V.lit (Value.string (dpEb k))] := by
  have hkc : k = 0 ∨ k = 1 ∨ k = 2 ∨ k = 3 ∨ k = 4 ∨ k = 5 := by omega
  rcases hkc with rfl | rfl | rfl | rfl | rfl | rfl <;> rfl
theorem want_eq : ∀ k < 6, dpWant k = 24 * ((dpOb k).size : Int) + (if k = 3 then 2 else 0) := by decide
attribute [local simp] hid2 hid3 hid4 xcode_skip xcode_region xcode_draw xcode_loop xcode_seq xcode_cond xcode_block xcode_scope xcode_exit xcode_ret xops_nil xops_cons xd_nil xd_cons xstep_eq annot fillOf findFill findStore srcOf kcls cls qval qvalN xwant dstAt want1 xdo xop ev_const ev_global ev_func ev_zero ev_succ ev_undefs ev_hit ev_miss put_none put_len undefs_len xnil xfieldAddr fieldOf eT emtb seqQ blockQ xload xstore splice V.storable V.one V.cells mk xbinop xbin xun xbuiltin xindexAddr nilOr xindex xint cv cv1 retQ xres_tmp xres_cell xres_nil xresult xbuild xfill xbuildSlice xrows Nat.testBit places xfield item sideOk pendOk pendOf tyT1 tyT2 tyT3 tyT4 tyT5 tyT9 tyT22 tyT23 tyT24 tyT25 tyT26 tyT30 tyT34 tyT39 tyT41 tyT47 tyT48 tyT50 tyT53 tyT54 tyT56 tyT58 tyT63 tyT70 tyT76 tyT78 tyT80 tyT84 tyT87 tyT89 tyT96 tyT98 tyT100 tyT102 tyT108 tyT110 tyT112 tyT113 tyT115 tyT119 tyT121 tyT124 tyT138 tyT139 tyT141 tyT142 tyT143 tyT145 tyT147 tyT149 tyT155 tyT158 tyT164 tyT179 tyT186 tyT188 tyT189 tyT194 tyT197 tyT200 tyT216 tyT242 tyT245 H.put_get H.new_get H.row_obj H.grow_obj H.bump_obj H.newArr_obj H.putArr_obj H.moveArr_obj H.put_arr H.new_arr H.row_arr H.grow_arr H.bump_arr H.newArr_get H.putArr_get H.moveArr_get H.put_ext H.new_ext H.newArr_ext H.putArr_ext H.moveArr_ext H.bump_ext H.row_get H.grow_get H.new_next H.row_next H.bump_next H.put_next H.grow_next H.newArr_next H.putArr_next H.moveArr_next H.app_next H.app_obj H.app_arr H.app_get bne emT emM xapp_em xmakeSlice xslice xlookup xmapUpdate keyShape
theorem deep_calls (h : H) (hp : 0 < h.next) (a b : Int) : XCalls e 7 [.lit (.int .i64 a), .lit (.int .i64 b)] h (fun v h' => v = .lit (.bool true) ∧ Fr h h') := by
  obtain ⟨n0, hn0, en⟩ := and_mod a 40 (by decide)
  obtain ⟨k, hk, ek⟩ := and_mod b 6 (by decide)
  have hw0 : IntKind.i64.wrap ((n0 : Int) + 1) = ((n0 + 1 : Nat) : Int) := wrapS (a := n0) (b := 1) (by omega)
  have hk6 : (k : Int) < 6 := hk
  have hk6' : k < 6 := by omega
  obtain ⟨d1, d2, d3, d4⟩ := dpOb_list k hk6'
  refine XCalls.of Tryz.func7 rfl (by kernel_rfl) ?_
  rw [Tryz.ntmps7]
  obtain ⟨n, rfl⟩ : ∃ n, n0 + 1 = n := ⟨_, rfl⟩
  simp [-Int.natCast_add, isM, xappendM, rowsIn, en, ek, hw0, hk6, hk6', ixO, ixE]
  refine XW.loopH (DpJ (n0 + 1) k h) (n0 + 2) ?_ ?_
  · refine ⟨0, ⟨#[]⟩, ⟨#[]⟩, by omega, by omega, ((Fr.refl _).row1 _).row1 _, rfl, rfl, by decide, by decide, ?_⟩
    simp [-Int.natCast_add, isM, xappendM, rowsIn]
  rintro m fr' h' ⟨i, s, t, hm, hi, hF, hs, ht, hz1, hz2, e0, e1, e2, e3, e4, e5, e6, e7⟩
  have hnx := hF.next
  have b1 := big1 (n := s.size) (by omega)
  have b2 := big1 (n := t.size) (by omega)
  have b3 := b1 (dpOb k).size (by omega)
  have b4 := b2 (dpEb k).size (by omega)
  by_cases hlt : i < n0 + 1
  · have hlt' : (i : Int) < ((n0 + 1 : Nat) : Int) := by omega
    have hw9 : IntKind.i64.wrap ((i : Int) + 1) = ((i + 1 : Nat) : Int) := wrapS (a := i) (b := 1) (by omega)
    simp [-Int.natCast_add, isM, xappendM, rowsIn, e0, e1, e2, e3, e4, e5, e6, e7, hlt, hlt', ltB_t, b3, b4]
    refine ⟨m - 1, by omega, i + 1, s ++ dpOb k, t ++ dpEb k, by omega, by omega, hF, ?_, ?_, ?_, ?_, ?_⟩
    · rw [rp_succ, ← hs, ← d1]; simp
    · rw [rp_succ, ← ht, ← d2]; simp
    · simp; omega
    · simp; omega
    · simp [-Int.natCast_add, isM, xappendM, rowsIn, e0, e1, e2, e3, e4, e5, e6, e7, hw9]
  · have hin : i = n0 + 1 := by omega
    rw [hin] at hs ht
    have hlf : ltB (i : Int) ((n0 + 1 : Nat) : Int) = false := ltB_f (by omega)
    have b5 := b1 1 (by omega)
    have b6 : (9223372036854775807 < ((s.size + 1 + t.size : Nat) : Int)) = False := by simp; omega
    have hd : (s ++ ⟨#[97]⟩ ++ t).data.toList = dpText (n0 + 1) k := by
      simp [dpText, hs, ht]
    obtain ⟨r, hr, r1, r2⟩ := deep_expr (n0 + 1) k ⟨by omega, by omega⟩ hk6' _ hd
    simp [-Int.natCast_add, isM, xappendM, rowsIn, e0, e1, e2, e3, e4, e5, e6, e7, hlf, bsz, b5, b6]
    refine (exprT_calls 1000000 (Nat.le_refl _) _ _ r hr).mono ?_
    rintro _ h1 ⟨hF1, T, hT, rfl⟩
    have hn1 := hF1.next
    have hF2 : ∀ o o', Fr h ((h1.new o).put h1.next o') := fun o o' => ((hF.trans hF1).new1 _).put (by omega) _
    by_cases h24 : n0 + 1 ≤ 24
    · obtain ⟨q1, q2⟩ := r1 h24
      have hle : leB ((n0 + 1 : Nat) : Int) 24 = true := leB_t (by omega)
      simp [-Int.natCast_add, isM, xappendM, rowsIn, e0, e1, e2, e3, e4, e5, e6, e7, hle, q1, q2, TN.v_len, TN.v_take, TN.v_drop]
      refine (awake5_calls _).mono ?_
      rintro _ h2 ⟨rfl, hF3⟩
      simp [-Int.natCast_add, isM, xappendM, rowsIn, e0, e1, e2, e3, e4, e5, e6, e7]
      exact (hF2 _ _).trans hF3
    · obtain ⟨q1, q2⟩ := r2 (by omega)
      have hle : leB ((n0 + 1 : Nat) : Int) 24 = false := leB_f (by omega)
      have hwt := want_eq k hk6'
      have hwm : IntKind.i64.wrap (24 * ((dpOb k).size : Int)) = 24 * ((dpOb k).size : Int) := by
        simp [IntKind.wrap, IntKind.bits, IntKind.signed]
        omega
      by_cases h3 : k = 3
      · rw [if_pos h3] at hwt
        have hw2 : IntKind.i64.wrap (24 * ((dpOb k).size : Int) + 2) = dpWant k := by
          rw [hwt]
          simp [IntKind.wrap, IntKind.bits, IntKind.signed]
          omega
        have h3' : ((k : Int) == 3) = true := by simp; omega
        simp [-Int.natCast_add, isM, xappendM, rowsIn, e0, e1, e2, e3, e4, e5, e6, e7, hle, q1, q2, TN.v_len, TN.v_take, TN.v_drop, hwm, hw2, h3']
        refine (awake5_calls _).mono ?_
        rintro _ h2 ⟨rfl, hF3⟩
        simp [-Int.natCast_add, isM, xappendM, rowsIn, e0, e1, e2, e3, e4, e5, e6, e7]
        exact (hF2 _ _).trans hF3
      · rw [if_neg h3] at hwt
        have h3' : ((k : Int) == 3) = false := by simp; omega
        have hw2 : 24 * ((dpOb k).size : Int) = dpWant k := by omega
        have hwm2 : IntKind.i64.wrap (dpWant k) = dpWant k := by rw [← hw2]; exact hwm
        simp [-Int.natCast_add, isM, xappendM, rowsIn, e0, e1, e2, e3, e4, e5, e6, e7, hle, q1, q2, TN.v_len, TN.v_take, TN.v_drop, hwm, hw2, hwm2, h3']
        refine (awake5_calls _).mono ?_
        rintro _ h2 ⟨rfl, hF3⟩
        simp [-Int.natCast_add, isM, xappendM, rowsIn, e0, e1, e2, e3, e4, e5, e6, e7]
        exact (hF2 _ _).trans hF3
end Go.Proofs.YtjofmihdeblbmaaGreatDoor.Xa
