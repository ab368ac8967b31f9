/- XA, joined: XaLx XaLy XaEv XaEw. -/
import Derived.Test.YtjofmihdeblbmaaGreatDoorXaM19
import Derived.Test.YtjofmihdeblbmaaGreatDoorLexF2
import Derived.Test.YtjofmihdeblbmaaGreatDoorXaM25
import Derived.Test.YtjofmihdeblbmaaGreatDoorXaM31
/- XA: lex: the words' contracts over the abstract heap; token, Tokens. -/
namespace Go.Proofs.YtjofmihdeblbmaaGreatDoor.Xa
open Go Go.RowKit
set_option linter.unusedVariables false
set_option linter.unusedSimpArgs false
set_option maxRecDepth 100000
set_option maxHeartbeats 1000000
theorem laid_of {κ : Kp} {h : H} {w : World} (hI : e.I κ.w0) (R : Rel e.P κ h w) : Laid w := by
  obtain ⟨h1, h2, h3⟩ : Inv κ.w0 := hI
  exact (Laid.mk h1 h2 h3).below R.below
/-- A call that makes memory at most, with a plain result. -/
theorem XCalls.plain {f : FuncId} {s : Value} {h : H} {v : V} {c : Value} (hE : Enter e.P f) (hs : one s = true) (hc : ∀ w, Laid w → Calls e.P f #[s] w fun e' w' => e' = .returned c ∧ Below w.heap.size w w') (hv : ∀ κ, VRel κ v c) :
    XCalls e f [.lit s] h (fun v' h' => v' = v ∧ h' = h) := by
  refine ⟨hE, fun κ w cargs hI R ha => ?_⟩
  have hargs : cargs = #[s] := by
    have h1 : V.one (.lit s) = true := by cases s <;> first | rfl | cases hs
    have := VRels.uniq (κ := κ) (by simp [h1]) ha (.cons (.lit s) .nil)
    cases cargs; simp_all
  subst hargs
  refine (hc w (laid_of hI R)).mono ?_
  rintro e' w' ⟨rfl, hB⟩
  exact ⟨κ, v, c, h, rfl, Kp.le.refl κ, hv κ, R.under hB, rfl, rfl⟩
def tokV (r : Int × ByteArray × Int × Int × Int) : V := .tup [.agg [.lit (.int .i64 r.1), .lit (.string r.2.1), .lit (.int .i64 r.2.2.1), .lit (.int .i64 r.2.2.2.1)], .lit (.int .i64 r.2.2.2.2)]
def tokC (r : Int × ByteArray × Int × Int × Int) : Value := .tuple #[.agg #[.int .i64 r.1, .string r.2.1, .int .i64 r.2.2.1, .int .i64 r.2.2.2.1], .int .i64 r.2.2.2.2]
theorem tokV_rel (κ : Kp) (r : Int × ByteArray × Int × Int × Int) : VRel κ (tokV r) (tokC r) :=
  .tup (.cons (.agg (.cons (.lit _) (.cons (.lit _) (.cons (.lit _) (.cons (.lit _) .nil)))) (by simp [V.one])) (.cons (.lit _) .nil))
theorem skipX (h : H) (s : ByteArray) (hs : s.size ≤ 9223372036854775807) : XCalls e 119 [.lit (.string s)] h (fun v h' => v = .lit (.int .i64 ((skipB false s.data.toList : Nat) : Int)) ∧ h' = h) :=
  XCalls.plain ⟨_, _, Tryz.func119, rfl, by kernel_rfl⟩ rfl (fun w _ => (skip_walk s w hs).mono (by rintro e w' ⟨rfl, rfl⟩; exact ⟨rfl, Below.refl _ _⟩)) (fun κ => .lit _)
theorem letterX (h : H) (c : Int) : XCalls e 170 [.lit (.int .u8 c)] h (fun v h' => v = .lit (.bool (isLet c)) ∧ h' = h) :=
  XCalls.plain ⟨_, _, Tryz.func170, rfl, by kernel_rfl⟩ rfl (fun w _ => (letter_walk c w).mono (by rintro e w' ⟨rfl, rfl⟩; exact ⟨rfl, Below.refl _ _⟩)) (fun κ => .lit _)
theorem digitX (h : H) (c : Int) : XCalls e 172 [.lit (.int .u8 c)] h (fun v h' => v = .lit (.bool (isDig c)) ∧ h' = h) :=
  XCalls.plain ⟨_, _, Tryz.func172, rfl, by kernel_rfl⟩ rfl (fun w _ => (digit_walk c w).mono (by rintro e w' ⟨rfl, rfl⟩; exact ⟨rfl, Below.refl _ _⟩)) (fun κ => .lit _)
theorem nameX (h : H) (s : ByteArray) (r : Int × ByteArray × Int × Int × Int) (hr : lex_name.f s = some r) : XCalls e 171 [.lit (.string s)] h (fun v h' => v = tokV r ∧ h' = h) :=
  XCalls.plain ⟨_, _, Tryz.func171, rfl, by kernel_rfl⟩ rfl (fun w hL => lex_name.calls0 s _ _ _ _ _ w hr hL.maxLen) (fun κ => tokV_rel κ r)
theorem numberX (h : H) (s : ByteArray) (r : Int × ByteArray × Int × Int × Int) (hr : lex_number.f s = some r) : XCalls e 173 [.lit (.string s)] h (fun v h' => v = tokV r ∧ h' = h) :=
  XCalls.plain ⟨_, _, Tryz.func173, rfl, by kernel_rfl⟩ rfl (fun w hL => lex_number.calls0 s _ _ _ _ _ w hr hL) (fun κ => tokV_rel κ r)
theorem textX (h : H) (s : ByteArray) (r : Int × ByteArray × Int × Int × Int) (hr : lex_text.f s = some r) : XCalls e 174 [.lit (.string s)] h (fun v h' => v = tokV r ∧ h' = h) :=
  XCalls.plain ⟨_, _, Tryz.func174, rfl, by kernel_rfl⟩ rfl (fun w hL => lex_text.calls0 s _ _ _ _ _ w hr) (fun κ => tokV_rel κ r)
theorem lopX (h : H) (s : ByteArray) (r : Int × ByteArray × Int × Int × Int) (hr : lex_op.f s = some r) : XCalls e 175 [.lit (.string s)] h (fun v h' => v = tokV r ∧ h' = h) :=
  XCalls.plain ⟨_, _, Tryz.func175, rfl, by kernel_rfl⟩ rfl (fun w hL => lex_op.calls0 s _ _ _ _ _ w hr) (fun κ => tokV_rel κ r)
end Go.Proofs.YtjofmihdeblbmaaGreatDoor.Xa
/- XA: lex: token, Tokens. -/
namespace Go.Proofs.YtjofmihdeblbmaaGreatDoor.Xa
open Go Go.RowKit
set_option linter.unusedVariables false
set_option linter.unusedSimpArgs false
set_option maxRecDepth 100000
set_option maxHeartbeats 1000000
abbrev TR := Int × ByteArray × Int × Int × Int
def tokF (s : ByteArray) : Option TR :=
  match s[0]? with
  | some c => if isLet (c.toNat : Int) then lex_name.f s else if isDig (c.toNat : Int) then lex_number.f s else if (c.toNat : Int) == 34 then lex_text.f s else lex_op.f s
  | none => none
attribute [local simp] hid2 hid3 hid4 xcode_skip xcode_region xcode_draw xcode_loop xcode_seq xcode_cond xcode_block xcode_scope xcode_exit xcode_ret xops_nil xops_cons xd_nil xd_cons xstep_eq annot fillOf findFill findStore srcOf kcls cls qval qvalN xwant dstAt want1 xdo xop ev_const ev_global ev_func ev_zero ev_succ ev_undefs ev_hit ev_miss put_none put_len undefs_len xnil xfieldAddr fieldOf eT emtb seqQ blockQ xload xstore splice V.storable V.one V.cells mk xbinop xbin xun xbuiltin xindexAddr nilOr xindex xint cv cv1 retQ xres_tmp xres_cell xres_nil xresult xbuild xfill xbuildSlice xrows Nat.testBit places xfield item sideOk pendOk pendOf tyT1 tyT2 tyT3 tyT4 tyT5 tyT9 tyT22 tyT23 tyT24 tyT25 tyT26 tyT30 tyT34 tyT39 tyT41 tyT47 tyT48 tyT50 tyT53 tyT54 tyT56 tyT58 tyT63 tyT70 tyT76 tyT78 tyT80 tyT84 tyT87 tyT89 tyT96 tyT98 tyT100 tyT102 tyT108 tyT110 tyT112 tyT113 tyT115 tyT119 tyT121 tyT124 tyT138 tyT139 tyT141 tyT142 tyT143 tyT145 tyT147 tyT149 tyT155 tyT158 tyT164 tyT179 tyT186 tyT188 tyT189 tyT194 tyT197 tyT200 tyT216 tyT242 tyT245 H.put_get H.new_get H.row_obj H.grow_obj H.bump_obj H.newArr_obj H.putArr_obj H.moveArr_obj H.put_arr H.new_arr H.row_arr H.grow_arr H.bump_arr H.newArr_get H.putArr_get H.moveArr_get H.put_ext H.new_ext H.newArr_ext H.putArr_ext H.moveArr_ext H.bump_ext H.row_get H.grow_get H.new_next H.row_next H.bump_next H.put_next H.grow_next H.newArr_next H.putArr_next H.moveArr_next H.app_next H.app_obj H.app_arr H.app_get bne emT emM xapp_em xmakeSlice xslice xlookup xmapUpdate keyShape
theorem token_calls (h : H) (s : ByteArray) (r : TR) (hr : tokF s = some r) : XCalls e 120 [.lit (.string s)] h (fun v h' => v = tokV r ∧ Fr h h') := by
  unfold tokF at hr
  split at hr
  case h_2 => cases hr
  rename_i c hc
  refine XCalls.of Tryz.func120 rfl (by kernel_rfl) ?_
  rw [Tryz.ntmps120]
  have fin : ∀ o, Fr h ((h.new (.cells [.lit (.int .i64 0), .lit (.string ⟨#[]⟩), .lit (.int .i64 0), .lit (.int .i64 0)] 138)).put h.next o) := fun o => by
    repeat' first | exact Fr.refl _ | assumption | refine Fr.put ?_ (by omega) _ | refine Fr.new1 ?_ _ | refine Fr.row1 ?_ _ | refine Fr.bump1 ?_ | refine Fr.app ?_ (by first | assumption | omega) _ | refine Fr.grow ?_ (by omega) _ | refine Fr.newArr1 ?_ _ | refine Fr.putArr ?_ (by omega) _ | refine Fr.moveArr ?_ (by omega) _ | refine Fr.trans ?_ (by assumption)
  simp [-Int.natCast_add, isM, xappendM, rowsIn, hc]
  refine (letterX _ _).mono ?_
  rintro _ h' ⟨rfl, eh⟩
  rw [eh]
  clear eh h'
  cases h1 : isLet (c.toNat : Int)
  · simp only [h1, Bool.false_eq_true, if_false] at hr
    simp [-Int.natCast_add, isM, xappendM, rowsIn, hc]
    refine (digitX _ _).mono ?_
    rintro _ h' ⟨rfl, eh⟩
    rw [eh]
    clear eh h'
    cases h2 : isDig (c.toNat : Int)
    · simp only [h2, Bool.false_eq_true, if_false] at hr
      cases h3 : ((c.toNat : Int) == 34)
      · simp only [h3, Bool.false_eq_true, if_false] at hr
        simp [-Int.natCast_add, isM, xappendM, rowsIn, hc, h3]
        refine (lopX _ s r hr).mono ?_
        rintro _ h' ⟨rfl, eh⟩
        rw [eh]
        clear eh h'
        unfold tokV
        simp [-Int.natCast_add, isM, xappendM, rowsIn]
        exact fin _
      · simp only [h3, if_true] at hr
        simp [-Int.natCast_add, isM, xappendM, rowsIn, hc, h3]
        refine (textX _ s r hr).mono ?_
        rintro _ h' ⟨rfl, eh⟩
        rw [eh]
        clear eh h'
        unfold tokV
        simp [-Int.natCast_add, isM, xappendM, rowsIn]
        exact fin _
    · simp only [h2, if_true] at hr
      simp [-Int.natCast_add, isM, xappendM, rowsIn, hc]
      refine (numberX _ s r hr).mono ?_
      rintro _ h' ⟨rfl, eh⟩
      rw [eh]
      clear eh h'
      unfold tokV
      simp [-Int.natCast_add, isM, xappendM, rowsIn]
      exact fin _
  · simp only [h1, if_true] at hr
    simp [-Int.natCast_add, isM, xappendM, rowsIn, hc]
    refine (nameX _ s r hr).mono ?_
    rintro _ h' ⟨rfl, eh⟩
    rw [eh]
    clear eh h'
    unfold tokV
    simp [-Int.natCast_add, isM, xappendM, rowsIn]
    exact fin _
def tokL (s : ByteArray) : Nat → Nat → List Tok → Option (List Tok × Int × Int)
  | 0, _, _ => none
  | f + 1, at_, acc => if at_ < s.size then match tokF (s.extract at_ s.size) with
      | some r => if r.2.2.2.2 == 0 then some ([], (at_ : Int), 10)
        else if leB 0 r.2.2.2.2 && decide (at_ + r.2.2.2.2.toNat ≤ s.size) then
          tokL s f (at_ + r.2.2.2.2.toNat + skipB false (s.data.toList.drop (at_ + r.2.2.2.2.toNat))) (acc ++ [⟨r.1, r.2.1, r.2.2.1, (at_ : Int)⟩])
        else none
      | none => none
    else some (acc, 0, 0)
def tokensR (s : ByteArray) : Option (List Tok × Int × Int) :=
  if 4000 < s.size then some ([], 0, 2) else tokL s 4001 (skipB false s.data.toList) []
theorem skipB_le : ∀ (l : List UInt8) (b : Bool), skipB b l ≤ l.length
  | [], b => by cases b <;> simp [skipB]
  | c :: l, b => by
    have h1 := skipB_le l false
    have h2 := skipB_le l true
    cases b <;> simp only [skipB, List.length_cons] <;> repeat' split
    all_goals omega
def TokQ (h : H) (toks : List Tok) (a ee : Int) : V → H → Prop := fun v h' => Fr h h' ∧ ∃ id sz, v = .tup [.slc id sz (toks.map Tok.v), .lit (.int .i64 a), .lit (.int .i64 ee)] ∧ (toks = [] → id = 0 ∨ sz = 4) ∧ (toks ≠ [] → sz = 4) ∧ (id = 0 → toks = [] ∧ sz = 0)
def TokJ (s : ByteArray) (h : H) (r : List Tok × Int × Int) : Nat → List V → H → Prop := fun m fr' h' => ∃ (at_ : Nat) (acc : List Tok) (id sz : Nat), m + acc.length ≤ 4001 ∧ at_ ≤ s.size ∧ tokL s m at_ acc = some r ∧ Fr h h' ∧ Own h' id sz acc.length 4 h.next ∧
  fr'.length = 42 ∧ ev fr' (.tmp 0) = .lit (.string s) ∧ ev fr' (.tmp 2) = .slc id sz (acc.map Tok.v) ∧ ev fr' (.tmp 3) = .lit (.int .i64 (at_ : Nat)) ∧ ev fr' (.tmp 4) = .lit (.int .i64 0)
theorem wrap_add {a b : Nat} (h : a + b < 1000000) : IntKind.i64.wrap ((a : Int) + (b : Int)) = ((a + b : Nat) : Int) := by
  have : (a : Int) + b < 1000000 := by omega
  simp [IntKind.wrap, IntKind.bits, IntKind.signed]
  omega
theorem tokens_q (h : H) (s : ByteArray) (r : List Tok × Int × Int) (hr : tokensR s = some r) : XCalls e 72 [.lit (.string s)] h (TokQ h r.1 r.2.1 r.2.2) := by
  unfold tokensR at hr
  refine XCalls.of Tryz.func72 rfl (by kernel_rfl) ?_
  rw [Tryz.ntmps72]
  by_cases hs : 4000 < s.size
  · rw [if_pos hs] at hr
    obtain rfl := Option.some.inj hr
    have hs' : ltB 4000 (s.size : Int) = true := ltB_t (by omega)
    simp [-Int.natCast_add, isM, xappendM, rowsIn, hs']
    exact ⟨Fr.refl _, 0, 0, by simp⟩
  · rw [if_neg hs] at hr
    have hs' : ltB 4000 (s.size : Int) = false := ltB_f (by omega)
    have hsl : s.data.toList.length = s.size := rfl
    simp [-Int.natCast_add, isM, xappendM, rowsIn, hs']
    refine (skipX _ _ (by omega)).mono ?_
    rintro _ h' ⟨rfl, eh⟩
    rw [eh]
    clear eh h'
    simp [-Int.natCast_add, isM, xappendM, rowsIn]
    refine XW.loopH (TokJ s h r) 4001 ?_ ?_
    · refine ⟨_, [], 0, 0, by simp, by rw [← hsl]; exact skipB_le _ _, hr, Fr.refl _, Own.nil _ _ _, ?_⟩
      simp [-Int.natCast_add, isM, xappendM, rowsIn]
    · clear hr
      rintro m fr' h' ⟨at_, acc, id, sz, hm, hat, hr, hF, hO, e0, e1, e2, e3, e4⟩
      have hlow := hO.low
      have hnx := hF.next
      cases m with
      | zero => unfold tokL at hr; cases hr
      | succ m =>
      unfold tokL at hr
      by_cases hlt : at_ < s.size
      · rw [if_pos hlt] at hr
        split at hr
        case h_2 => cases hr
        rename_i t ht
        have hlt' : (at_ : Int) < (s.size : Int) := by omega
        simp [-Int.natCast_add, isM, xappendM, rowsIn, e0, e1, e2, e3, e4, ltB_t, hlt, hlt', hat]
        refine (token_calls _ _ t ht).mono ?_
        rintro _ h1 ⟨rfl, hF1⟩
        have hn1 := hF1.next
        unfold tokV
        cases hz : (t.2.2.2.2 == 0)
        · have hz' : ¬ t.2.2.2.2 = 0 := by simpa using hz
          simp only [hz, Bool.false_eq_true, if_false] at hr
          split at hr
          case isFalse => cases hr
          rename_i hg
          simp only [Bool.and_eq_true, decide_eq_true_eq, leB] at hg
          obtain ⟨hg0, hg1⟩ := hg
          obtain ⟨n, hn⟩ : ∃ n : Nat, t.2.2.2.2 = (n : Int) := ⟨t.2.2.2.2.toNat, by omega⟩
          rw [hn] at hg1 hr hz hz'
          simp only [Int.toNat_natCast] at hg1 hr
          have hw1 := wrap_add (a := at_) (b := n) (by omega)
          simp [-Int.natCast_add, isM, xappendM, rowsIn, e0, e1, e2, e3, e4, hn, hz, hz', hw1]
          rw [xapp_own 87 (w := 4) rfl rfl rfl rfl (by decide) (lo := h.next) ?a1 ?a2 ?a3 ?a4 ?a5]
          case a1 =>
            rw [List.length_map]
            refine hO.mono (hF1.trans ?_)
            repeat' first | exact Fr.refl _ | assumption | refine Fr.put ?_ (by omega) _ | refine Fr.new1 ?_ _ | refine Fr.row1 ?_ _ | refine Fr.bump1 ?_ | refine Fr.app ?_ (by first | assumption | omega) _ | refine Fr.grow ?_ (by omega) _ | refine Fr.newArr1 ?_ _ | refine Fr.putArr ?_ (by omega) _ | refine Fr.moveArr ?_ (by omega) _ | refine Fr.trans ?_ (by assumption)
          case a2 => simp
          case a3 => simp
          case a4 => simp; omega
          case a5 => simp [maxLen]; omega
          have hat1 : at_ + n ≤ s.size := hg1
          have hd : (s.extract (at_ + n) s.size).data.toList = s.data.toList.drop (at_ + n) := extract_list s (at_ + n)
          have hsz2 : (s.extract (at_ + n) s.size).size ≤ 9223372036854775807 := by
            have : (s.extract (at_ + n) s.size).size = (s.extract (at_ + n) s.size).data.toList.length := rfl
            rw [this, hd, List.length_drop]; omega
          have hg1' : (at_ : Int) + (n : Int) ≤ (s.size : Int) := by omega
          have hnn : (0 : Int) ≤ (at_ : Int) + (n : Int) := by omega
          have htn : ((at_ : Int) + (n : Int)).toNat = at_ + n := by omega
          simp [-Int.natCast_add, isM, xappendM, rowsIn, e0, e1, e2, e3, e4, hn, hw1, hat1, hg1', hnn, htn]
          refine (skipX _ _ hsz2).mono ?_
          rintro _ h'' ⟨rfl, eh⟩
          rw [eh]
          clear eh h''
          have hsk := skipB_le (s.data.toList.drop (at_ + n)) false
          rw [List.length_drop, hsl] at hsk
          have hw2 := wrap_add (a := at_ + n) (b := skipB false (s.data.toList.drop (at_ + n))) (by omega)
          have hd2 : List.take (s.size - (at_ + n)) (List.drop (at_ + n) s.data.toList) = List.drop (at_ + n) s.data.toList := List.take_of_length_le (by rw [List.length_drop, hsl]; omega)
          simp [-Int.natCast_add, isM, xappendM, rowsIn, e0, e1, e2, e3, e4, hd2, hw2]
          have hlen2 : (acc ++ [(⟨t.1, t.2.1, t.2.2.1, (at_ : Int)⟩ : Tok)]).length = acc.length + 1 := by simp
          refine ⟨m, by omega, _, acc ++ [⟨t.1, t.2.1, t.2.2.1, (at_ : Int)⟩], h1.next + 1 + 1, 4, by rw [hlen2]; omega, ?_, hr, ?_, ?_, ?_⟩
          · omega
          · repeat' first | exact Fr.refl _ | assumption | refine Fr.put ?_ (by omega) _ | refine Fr.new1 ?_ _ | refine Fr.row1 ?_ _ | refine Fr.bump1 ?_ | refine Fr.app ?_ (by first | assumption | omega) _ | refine Fr.grow ?_ (by omega) _ | refine Fr.newArr1 ?_ _ | refine Fr.putArr ?_ (by omega) _ | refine Fr.moveArr ?_ (by omega) _ | refine Fr.trans ?_ (by assumption)
          · rw [hlen2]
            exact Own.app (by simp [H.row_next, H.put_next, H.new_next]; omega) (by simp [H.row_next])
          · simp [-Int.natCast_add, isM, xappendM, rowsIn, e0, e1, e2, e3, e4, Tok.v, hw2, hd2]
        · have hz' : t.2.2.2.2 = 0 := by simpa using hz
          simp only [hz, if_true] at hr
          obtain rfl := Option.some.inj hr
          simp [-Int.natCast_add, isM, xappendM, rowsIn, e0, e1, e2, e3, e4, hz']
          refine ⟨?_, 0, 0, by simp⟩
          repeat' first | exact Fr.refl _ | assumption | refine Fr.put ?_ (by omega) _ | refine Fr.new1 ?_ _ | refine Fr.row1 ?_ _ | refine Fr.bump1 ?_ | refine Fr.app ?_ (by first | assumption | omega) _ | refine Fr.grow ?_ (by omega) _ | refine Fr.newArr1 ?_ _ | refine Fr.putArr ?_ (by omega) _ | refine Fr.moveArr ?_ (by omega) _ | refine Fr.trans ?_ (by assumption)
      · rw [if_neg hlt] at hr
        obtain rfl := Option.some.inj hr
        have hlt' : ltB (at_ : Int) (s.size : Int) = false := ltB_f (by omega)
        simp [-Int.natCast_add, isM, xappendM, rowsIn, e0, e1, e2, e3, e4, hlt']
        refine ⟨hF, id, sz, rfl, ?_, ?_, ?_⟩
        · intro h0
          rcases hO with ⟨_, q, _⟩ | ⟨_, _, q, _⟩
          · exact .inl q
          · exact .inr q
        · intro h0
          rcases hO with ⟨q, _⟩ | ⟨_, _, q, _⟩
          · exact absurd (List.length_eq_zero_iff.1 q) h0
          · exact q
        · intro h0
          rcases hO with ⟨q, _, q2⟩ | ⟨_, _, _, _, q⟩
          · exact ⟨List.length_eq_zero_iff.1 q, q2⟩
          · exact absurd h0 q
end Go.Proofs.YtjofmihdeblbmaaGreatDoor.Xa
/- XA: a text's way through Tokens, Program, Source, as one plain function. -/
namespace Go.Proofs.YtjofmihdeblbmaaGreatDoor.Xa
open Go Go.RowKit
set_option linter.unusedVariables false
set_option linter.unusedSimpArgs false
set_option maxRecDepth 100000
set_option maxHeartbeats 1000000
theorem tokens_calls (h : H) (s : ByteArray) (r : List Tok × Int × Int) (hr : tokensR s = some r) : XCalls e 72 [.lit (.string s)] h (TokP h r.1 r.2.1 r.2.2) := by
  refine (tokens_q h s r hr).conv ?_
  rintro v h' ⟨hF, id, sz, rfl, q1, q2, q3⟩
  refine ⟨_, ⟨id, rfl, hF⟩, fun κ cc hv => ?_⟩
  cases hv with
  | tup hv =>
    cases hv with
    | cons hv ht =>
      refine .tup (.cons ?_ ht)
      by_cases h0 : r.1 = []
      · by_cases hid : id = 0
        · obtain ⟨_, hz⟩ := q3 hid
          rw [h0, hid, hz] at hv
          rw [h0, hid]
          exact nil_any hv
        · rcases q1 h0 with q | q
          · exact absurd q hid
          · rw [q] at hv; exact hv
      · rw [q2 h0] at hv; exact hv
/-- the parser's plain functions look at the tokens and the length alone -/
structure PcEq (f : Nat) (c d : PC) : Prop where
  level : ∀ s n, pLevel f c s n = pLevel f d s n
  logic : ∀ s n, pLogic f c s n = pLogic f d s n
  logicL : ∀ s t k n nd, pLogicL f c s t k n nd = pLogicL f d s t k n nd
  row : ∀ s n, pRow f c s n = pRow f d s n
  rowL : ∀ s n o nd, pRowL f c s n o nd = pRowL f d s n o nd
  unary : ∀ s, pUnary f c s = pUnary f d s
  un : ∀ s o, pUn f c s o = pUn f d s o
  index : ∀ s, pIndex f c s = pIndex f d s
  indexL : ∀ s nd, pIndexL f c s nd = pIndexL f d s nd
  list : ∀ s t, pList f c s t = pList f d s t
  listL : ∀ s t m acc, pListL f c s t m acc = pListL f d s t m acc
  plain : ∀ s, pPlain f c s = pPlain f d s
  named : ∀ s, pNamed f c s = pNamed f d s
  other : ∀ s, pOther f c s = pOther f d s
  block : ∀ s, pBlock f c s = pBlock f d s
  blockL : ∀ s acc, pBlockL f c s acc = pBlockL f d s acc
  iff_ : ∀ s, pIff f c s = pIff f d s
  stat : ∀ s, pStat f c s = pStat f d s
  simple : ∀ s, pSimple f c s = pSimple f d s
  params : ∀ s m acc, pParams f c s m acc = pParams f d s m acc
section
variable (p q p' q' : Nat) (l : List Tok) (n : Int)
theorem isB_eq : isB ⟨p, q, l, n⟩ = isB ⟨p', q', l, n⟩ := rfl
theorem opS_eq : opS ⟨p, q, l, n⟩ = opS ⟨p', q', l, n⟩ := rfl
theorem wrongS_eq : wrongS ⟨p, q, l, n⟩ = wrongS ⟨p', q', l, n⟩ := rfl
theorem wantS_eq : wantS ⟨p, q, l, n⟩ = wantS ⟨p', q', l, n⟩ := rfl
theorem kindOf_eq : kindOf ⟨p, q, l, n⟩ = kindOf ⟨p', q', l, n⟩ := rfl
theorem nameS_eq : nameS ⟨p, q, l, n⟩ = nameS ⟨p', q', l, n⟩ := rfl
theorem nameV_eq : nameV ⟨p, q, l, n⟩ = nameV ⟨p', q', l, n⟩ := rfl
theorem entS_eq : entS ⟨p, q, l, n⟩ = entS ⟨p', q', l, n⟩ := rfl
theorem textAt_eq : textAt ⟨p, q, l, n⟩ = textAt ⟨p', q', l, n⟩ := rfl
theorem numAt_eq : numAt ⟨p, q, l, n⟩ = numAt ⟨p', q', l, n⟩ := rfl
theorem calls1_eq : calls1 ⟨p, q, l, n⟩ = calls1 ⟨p', q', l, n⟩ := rfl
theorem sets1_eq : sets1 ⟨p, q, l, n⟩ = sets1 ⟨p', q', l, n⟩ := rfl
theorem begS_eq : begS ⟨p, q, l, n⟩ = begS ⟨p', q', l, n⟩ := rfl
theorem fnS_eq : fnS ⟨p, q, l, n⟩ = fnS ⟨p', q', l, n⟩ := rfl
theorem parS_eq : parS ⟨p, q, l, n⟩ = parS ⟨p', q', l, n⟩ := rfl
theorem semi_eq : semi ⟨p, q, l, n⟩ = semi ⟨p', q', l, n⟩ := rfl
theorem findL_eq (s : PS) : ∀ bs, findL ⟨p, q, l, n⟩ s bs = findL ⟨p', q', l, n⟩ s bs
  | [] => rfl
  | b :: r => by
    unfold findL
    rw [isB_eq p q p' q', opS_eq p q p' q', findL_eq s r]
theorem findS_eq : findS ⟨p, q, l, n⟩ = findS ⟨p', q', l, n⟩ := by
  funext s k
  exact findL_eq p q p' q' l n s _
end
theorem pcEq_zero (c d : PC) : PcEq 0 c d := by
  constructor <;> intros <;> first | simp only [pLevel, pLogic, pLogicL, pRow, pRowL, pUnary, pUn, pIndex, pIndexL, pList, pListL, pPlain, pNamed, pOther, pBlock, pBlockL, pIff, pStat, pSimple, pParams]
theorem pcEq (p q p' q' : Nat) (l : List Tok) (n : Int) : ∀ f, PcEq f ⟨p, q, l, n⟩ ⟨p', q', l, n⟩
  | 0 => pcEq_zero _ _
  | f + 1 => by
    have i := pcEq p q p' q' l n f
    constructor <;> intros
    all_goals first | rw [pLevel, pLevel] | rw [pLogic, pLogic] | rw [pLogicL, pLogicL] | rw [pRow, pRow] | rw [pRowL, pRowL] | rw [pUnary, pUnary] | rw [pUn, pUn] | rw [pIndex, pIndex] | rw [pIndexL, pIndexL] | rw [pList, pList] | rw [pListL, pListL] | rw [pPlain, pPlain] | rw [pNamed, pNamed] | rw [pOther, pOther] | rw [pBlock, pBlock] | rw [pBlockL, pBlockL] | rw [pIff, pIff] | rw [pStat, pStat] | rw [pSimple, pSimple] | rw [pParams, pParams]
    all_goals simp only [i.level, i.logic, i.logicL, i.row, i.rowL, i.unary, i.un, i.index, i.indexL, i.list, i.listL, i.plain, i.named, i.other, i.block, i.blockL, i.iff_, i.stat, i.simple, i.params, isB_eq p q p' q' l n, opS_eq p q p' q' l n, wrongS_eq p q p' q' l n, wantS_eq p q p' q' l n, kindOf_eq p q p' q' l n, nameS_eq p q p' q' l n, nameV_eq p q p' q' l n, entS_eq p q p' q' l n, textAt_eq p q p' q' l n, numAt_eq p q p' q' l n, calls1_eq p q p' q' l n, sets1_eq p q p' q' l n, begS_eq p q p' q' l n, findS_eq p q p' q' l n, semi_eq p q p' q' l n]
end Go.Proofs.YtjofmihdeblbmaaGreatDoor.Xa
/- XA: a text's way through Tokens, Program, Source, as one plain function of the text. -/
namespace Go.Proofs.YtjofmihdeblbmaaGreatDoor.Xa
open Go Go.RowKit
set_option linter.unusedVariables false
set_option linter.unusedSimpArgs false
set_option maxRecDepth 100000
set_option maxHeartbeats 1000000
section
variable (p q p' q' : Nat) (l : List Tok) (n : Int)
theorem pPar_eq (f : Nat) (s : PS) : pPar f ⟨p, q, l, n⟩ s = pPar f ⟨p', q', l, n⟩ s := by
  unfold pPar
  simp only [isB_eq p q p' q' l n, opS_eq p q p' q' l n, (pcEq p q p' q' l n f).params]
theorem pFun_eq (f : Nat) (s : PS) : pFun f ⟨p, q, l, n⟩ s = pFun f ⟨p', q', l, n⟩ s := by
  unfold pFun
  simp only [pPar_eq p q p' q' l n, parS_eq p q p' q' l n, fnS_eq p q p' q' l n, nameV_eq p q p' q' l n, (pcEq p q p' q' l n f).block]
theorem pProgL_eq (f : Nat) : ∀ m s b acc, pProgL f m ⟨p, q, l, n⟩ s b acc = pProgL f m ⟨p', q', l, n⟩ s b acc
  | 0, _, _, _ => by rw [pProgL, pProgL]
  | m + 1, s, b, acc => by
    rw [pProgL, pProgL]
    simp only [pFun_eq p q p' q' l n, pProgL_eq f m]
end
/-- the parser, of a text -/
def progT (f : Nat) (b : ByteArray) : Option (List FnN × Int × Int) :=
  match tokensR b with
  | none => none
  | some (toks, a, ee) => if toks.length ≤ 1000000 then match pProgL f f ⟨0, 0, toks, b.size⟩ ⟨0, 0, a, ee⟩ false [] with
      | none => none
      | some r => some (progR r)
    else none
theorem progT_calls (f : Nat) (hf : f ≤ 1000000) (h : H) (b : ByteArray) (r : List FnN × Int × Int) (hr : progT f b = some r) : XCalls e 28 [.lit (.string b)] h (ProgP h r) := by
  unfold progT at hr
  split at hr
  case h_1 => cases hr
  rename_i toks a ee ht
  split at hr
  case isFalse => cases hr
  rename_i hl
  split at hr
  case h_1 => cases hr
  rename_i r0 hp
  obtain rfl := Option.some.inj hr
  exact program_calls f hf h b toks hl a ee r0 (fun p tid => by rw [← hp]; exact pProgL_eq p tid 0 0 toks b.size f f ⟨0, 0, a, ee⟩ false []) (fun h => tokens_calls h b (toks, a, ee) ht)
/-- scope's Source, of a text -/
def srcT (f : Nat) (b : ByteArray) : Option SrcR :=
  match progT f b with
  | none => none
  | some p => if p.1.length ≤ 1000 ∧ (p.1.all fun F => decide (F.params.length ≤ 1000000)) = true then srcR f p else none
theorem srcT_calls (f : Nat) (hf : f ≤ 1000000) (h : H) (b : ByteArray) (r : SrcR) (hr : srcT f b = some r) : XCalls e 13 [.lit (.string b)] h (SrcP h r) := by
  unfold srcT at hr
  split at hr
  case h_1 => cases hr
  rename_i p hp
  split at hr
  case isFalse => cases hr
  rename_i hg
  exact source_calls f h b p r hr hg.1 (fun F hF => by simpa using List.all_eq_true.1 hg.2 F hF) (fun h => progT_calls f hf h b p hp)
def bytesOf (s : List Nat) : ByteArray := ⟨(s.map UInt8.ofNat).toArray⟩
def aw1 : ByteArray := ⟨#[102, 110, 32, 109, 97, 105, 110, 40, 41, 32, 123, 32, 120, 32, 61, 32, 49, 59, 32, 125]⟩
def aw2 : ByteArray := ⟨#[102, 110, 32, 109, 97, 105, 110, 40, 41, 32, 123, 32, 108, 101, 116, 32, 120, 32, 61, 32, 49, 59, 32, 120, 32, 61, 32, 120, 59, 32, 125]⟩
theorem aw1_toks : (match tokensR aw1 with | some t => t.1.length == 10 && t.2.2 == 0 | none => false) = true := by decide +kernel
theorem aw1_prog : (match progT 40 aw1 with | some r => r.1.length == 1 && r.2.2 == 0 | none => false) = true := by decide +kernel
theorem aw1_src : (match srcT 40 aw1 with | some r => r.e == 11 | none => false) = true := by decide +kernel
theorem aw2_src : (match srcT 40 aw2 with | some r => r.e == 0 && r.f.length == 1 | none => false) = true := by decide +kernel
end Go.Proofs.YtjofmihdeblbmaaGreatDoor.Xa
