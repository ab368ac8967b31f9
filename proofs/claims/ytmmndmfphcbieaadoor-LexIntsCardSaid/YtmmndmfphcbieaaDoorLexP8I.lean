/- The pure statement of LexInts. -/
import Derived.Test.YtmmndmfphcbieaaDoorLexP8T
import Derived.Test.YtmmndmfphcbieaaDoorXLexLLexInts
import Derived.Laws.Bits128
namespace Go.Proofs.YtmmndmfphcbieaaDoor.XLex
open Go.RowKit Go.Proofs.YtmmndmfphcbieaaDoorW.PrintWords Go.Proofs.YtmmndmfphcbieaaDoorW.PrintLast Go.Proofs.YtmmndmfphcbieaaDoorW.PrintMore
theorem and7 (n : Int) : bits .and .i64 n 7 = n % 8 := by
  have h7 : (BitVec.ofInt 64 7).toNat = 2 ^ 3 - 1 := by decide
  have key : (BitVec.ofInt 64 n &&& BitVec.ofInt 64 7).toNat = (n % ((2 ^ 64 : Nat) : Int)).toNat % 2 ^ 3 := by
    rw [BitVec.toNat_and, BitVec.toNat_ofInt, h7, Nat.and_two_pow_sub_one_eq_mod]
  show IntKind.i64.wrap ((BitVec.ofInt 64 n &&& BitVec.ofInt 64 7).toNat : Nat) = n % 8
  rw [key, IntKind.wrap_i64]
  omega
/-- a digit's byte -/
def digB (d : Nat) : UInt8 := UInt8.ofNat (48 + d)
theorem digB_nat {d : Nat} (h : d ≤ 9) : (digB d).toNat = 48 + d := by unfold digB; exact UInt8.toNat_ofNat_of_lt' (by show 48 + d < 256; omega)
theorem digB_dgt {d : Nat} (h : d ≤ 9) : dgt (digB d) = d := by rw [dgt_eq, digB_nat h]; omega
theorem digB_is {d : Nat} (h : d ≤ 9) : isDig ((digB d).toNat : Int) = true := (isDig_iff _).2 (by rw [digB_nat h]; omega)
theorem dig_ext : ∀ d : Nat, d ≤ 9 → (⟨#[48, 49, 50, 51, 52, 53, 54, 55, 56, 57]⟩ : ByteArray).extract d (d + 1) = ⟨#[digB d]⟩
  | 0, _ => rfl | 1, _ => rfl | 2, _ => rfl | 3, _ => rfl | 4, _ => rfl | 5, _ => rfl | 6, _ => rfl | 7, _ => rfl | 8, _ => rfl | 9, _ => rfl
  | n + 10, h => by omega
/-- digits that tell n -/
structure Digs (n : Nat) (l : List UInt8) : Prop where
  all : allDig l
  val : valD 0 l = n
  ne : l ≠ []
theorem allDig_append {l m : List UInt8} (hl : allDig l) (hm : allDig m) : allDig (l ++ m) := by
  intro c hc
  rcases List.mem_append.1 hc with h | h
  · exact hl c h
  · exact hm c h
theorem allDig_one {d : Nat} (h : d ≤ 9) : allDig [digB d] := by
  intro c hc
  rw [List.mem_singleton] at hc
  rw [hc]
  exact digB_is h
theorem Digs.snoc {n d : Nat} {l : List UInt8} (h : Digs n l) (hd : d ≤ 9) : Digs (10 * n + d) (l ++ [digB d]) where
  all := allDig_append h.all (allDig_one hd)
  val := by rw [valD_snoc, h.val, digB_dgt hd]; omega
  ne := by simp
theorem Digs.zero {n : Nat} {l : List UInt8} (h : Digs n l) : Digs n (48 :: l) where
  all := allDig_append (l := [48]) (allDig_one (d := 0) (by decide)) h.all
  val := by
    rw [valD_cons, show dgt 48 = 0 from digB_dgt (d := 0) (by decide)]
    exact h.val
  ne := by simp
theorem digits_l0 : ∀ (m n : Nat) (acc : ByteArray), 1 ≤ m → n < 10 ^ m → n < 9223372036854775808 → acc.size + m ≤ 1000 →
    ∃ l, Digs n l ∧ l.length ≤ m ∧ Ev (fun k => ratlineref1_Digits.l0 k n acc) ((⟨l.toArray⟩ : ByteArray) ++ acc) := by
  intro m
  induction m with
  | zero => intro n acc h; omega
  | succ m ih =>
    intro n acc _ hn hn2 ha
    have hsz : ∀ d, d ≤ 9 → ((⟨#[48, 49, 50, 51, 52, 53, 54, 55, 56, 57]⟩ : ByteArray).extract d (d + 1)).size + acc.size ≤ 9223372036854775807 := by
      intro d hd; rw [dig_ext d hd]; show 1 + acc.size ≤ _; omega
    by_cases h9 : n ≤ 9
    · refine ⟨[digB n], ⟨allDig_one h9, by rw [valD_cons, valD_nil, digB_dgt h9]; omega, by simp⟩, by simp, ?_⟩
      refine Ev.step (f := fun _ => some _) (fun k => ?_) (Ev.now _)
      have hs := hsz n h9
      simp only [ratlineref1_Digits.l0]
      rw [if_neg (by omega), if_pos (by omega), wrap_id (by omega) (by omega), if_pos (by omega), if_pos (by omega), Int.toNat_natCast, show ((n : Int) + 1).toNat = n + 1 from rfl, if_pos hs, dig_ext n h9]
    · have hm : 1 ≤ m := by
        cases m with
        | zero => simp at hn; omega
        | succ m => omega
      have hd : n % 10 ≤ 9 := by omega
      have hq : n / 10 < 10 ^ m := by rw [Nat.pow_succ] at hn; omega
      obtain ⟨l, h1, h2, h3⟩ := ih (n / 10) ((⟨#[digB (n % 10)]⟩ : ByteArray) ++ acc) hm hq (by omega) (by rw [ByteArray.size_append]; show 1 + acc.size + m ≤ 1000; omega)
      refine ⟨l ++ [digB (n % 10)], ?_, by simp; omega, ?_⟩
      · have := h1.snoc hd
        rw [show 10 * (n / 10) + n % 10 = n by omega] at this
        exact this
      · have e : (⟨l.toArray⟩ : ByteArray) ++ ((⟨#[digB (n % 10)]⟩ : ByteArray) ++ acc) = (⟨(l ++ [digB (n % 10)]).toArray⟩ : ByteArray) ++ acc := by
          apply bytes_ext; simp [ByteArray.data_append]
        rw [e] at h3
        refine Ev.step (fun k => ?_) h3
        have hs := hsz (n % 10) hd
        have et : Int.tmod (n : Int) 10 = ((n % 10 : Nat) : Int) := by rw [Int.tmod_eq_emod_of_nonneg (by omega)]; omega
        have ed : Int.tdiv (n : Int) 10 = ((n / 10 : Nat) : Int) := by rw [Int.tdiv_eq_ediv_of_nonneg (by omega)]; omega
        simp only [ratlineref1_Digits.l0]
        rw [if_pos (by omega), et, ed, if_pos (by omega), wrap_id (x := ((n % 10 : Nat) : Int) + 1) (by omega) (by omega), if_pos (by omega), if_pos (by omega), Int.toNat_natCast, show (((n % 10 : Nat) : Int) + 1).toNat = n % 10 + 1 from rfl, if_pos hs, dig_ext _ hd, wrap_id (by omega) (by omega)]
theorem digits_ev (n : Nat) (hn : n < 9223372036854775808) : ∃ l, Digs n l ∧ l.length ≤ 19 ∧ Ev (fun k => ratlineref1_Digits.f k n) (⟨l.toArray⟩ : ByteArray) := by
  obtain ⟨l, h1, h2, h3⟩ := digits_l0 19 n ⟨#[]⟩ (by decide) (Nat.lt_of_lt_of_le hn (by decide)) hn (by decide)
  refine ⟨l, h1, h2, ?_⟩
  have e : (⟨l.toArray⟩ : ByteArray) ++ (⟨#[]⟩ : ByteArray) = ⟨l.toArray⟩ := by apply bytes_ext; simp [ByteArray.data_append]
  rw [e] at h3
  refine Ev.step (fun k => ?_) h3
  simp only [ratlineref1_Digits.f]
  rw [if_neg (by omega), if_neg (by omega)]
/-! the words of digits -/
def sufL (im : Bool) : List UInt8 := if im then [105] else []
def kindI (im : Bool) : Int := if im then 4 else 3
theorem span_digs (r : List UInt8) (hr : spanI isDig r = 0) : ∀ l : List UInt8, allDig l → spanI isDig (l ++ r) = l.length
  | [], _ => by rw [List.nil_append, hr]; rfl
  | c :: l, h => by
    rw [List.cons_append, spanI, if_pos (h c List.mem_cons_self), span_digs r hr l (fun x hx => h x (List.mem_cons_of_mem _ hx)), List.length_cons]
    omega
theorem int_toks {n : Nat} {l : List UInt8} (h : Digs n l) (im : Bool) :
    tokensP (l ++ sufL im) = if n < 9223372036854775808 then ([(kindI im, [], (n : Int), 0)], 0, 0) else ([], 0, 10) := by
  obtain ⟨c, r, rfl⟩ : ∃ c r, l = c :: r := by
    cases l with
    | nil => exact absurd rfl h.ne
    | cons c r => exact ⟨c, r, rfl⟩
  have hc := h.all c List.mem_cons_self
  have hb : isBlank (c.toNat : Int) = false ∧ (c.toNat : Int) ≠ 35 := by
    have := (isDig_iff c).1 hc
    unfold isBlank
    simp
    omega
  have h0 : skipB false (c :: r ++ sufL im) = 0 := by rw [List.cons_append, skipB, if_neg (by rw [hb.1]; decide), if_neg hb.2]
  have hs : spanI isDig (c :: r ++ sufL im) = (c :: r).length := span_digs _ (by cases im <;> decide) _ h.all
  have htake : (c :: r ++ sufL im).take (c :: r).length = c :: r := List.take_left' rfl
  have hT : tokP (c :: r ++ sufL im) = if n < 9223372036854775808 then some (kindI im, [], (n : Int), (c :: r ++ sufL im).length) else none := by
    rw [List.cons_append, tokP, if_neg (by rw [let_dig c hc]; decide), if_pos hc, ← List.cons_append, hs, numP, htake, h.val]
    by_cases hn : n < 9223372036854775808
    · rw [if_pos hn, if_pos hn]
      cases im
      · have e : byteAt (c :: r ++ sufL false) (c :: r).length = -1 := by
          unfold byteAt; rw [List.getElem?_eq_none (by simp [sufL])]
        rw [e, if_neg (by decide), if_neg (by decide)]
        simp [sufL, kindI]
      · have e : byteAt (c :: r ++ sufL true) (c :: r).length = 105 := by
          unfold byteAt; rw [List.getElem?_append_right (Nat.le_refl _)]; simp [sufL]
        have e' : byteAt (c :: r ++ sufL true) ((c :: r).length + 1) = -1 := by
          unfold byteAt; rw [List.getElem?_eq_none (by simp [sufL])]
        rw [e, if_pos rfl, e', if_neg (by decide)]
        simp [sufL, kindI]
    · rw [if_neg hn, if_neg hn]
  have hlen : 0 < (c :: r ++ sufL im).length := by simp
  unfold tokensP
  rw [h0]
  obtain ⟨m, hm⟩ : ∃ m, (c :: r ++ sufL im).length + 1 = m + 1 + 1 := ⟨(c :: r ++ sufL im).length - 1, by omega⟩
  rw [hm]
  by_cases hn : n < 9223372036854775808
  · rw [if_pos hn] at hT
    rw [if_pos hn, toks_go (q := (c :: r ++ sufL im).length) hlen (by rw [List.drop_zero]; exact hT) (by rw [List.drop_of_length_le (by omega)]; simp [skipB]), toks_stop (Nat.le_refl _)]
    rfl
  · rw [if_neg hn] at hT
    rw [if_neg hn, toksP, if_pos hlen, List.drop_zero, hT]
theorem int_lexP {n : Nat} {l : List UInt8} (h : Digs n l) (hl : l.length ≤ 100) (im : Bool) :
    lexP ((⟨l.toArray⟩ : ByteArray) ++ (⟨(sufL im).toArray⟩ : ByteArray)) = if n < 9223372036854775808 then ([(kindI im, [], (n : Int), 0)], 0, 0) else ([], 0, 10) := by
  have e : ((⟨l.toArray⟩ : ByteArray) ++ (⟨(sufL im).toArray⟩ : ByteArray)).data.toList = l ++ sufL im := by simp [ByteArray.data_append]
  unfold lexP
  rw [if_pos (by rw [← len_list, e, List.length_append]; have : (sufL im).length ≤ 1 := by cases im <;> decide
                 omega), e]
  exact int_toks h im
theorem ints_j3 (n d : Nat) (hn : n < 9223372036854775808) (hd : d ≤ 9) (im : Bool) :
    Ev (fun k => ratlinelaw4_LexInts.j3 k (n : Int) (d : Int) (res31 (if 10 * n + d < 9223372036854775808 then ([(kindI im, [], ((10 * n + d : Nat) : Int), 0)], 0, 0) else ([], 0, 10))).1 (res31 (if 10 * n + d < 9223372036854775808 then ([(kindI im, [], ((10 * n + d : Nat) : Int), 0)], 0, 0) else ([], 0, 10))).2.1 (res31 (if 10 * n + d < 9223372036854775808 then ([(kindI im, [], ((10 * n + d : Nat) : Int), 0)], 0, 0) else ([], 0, 10))).2.2 false) true := by
  have h3 : Ev (fun k => (ratlinelaw4_awake.f k).bind fun t218 => (some t218)) true := awake_ev.bind (f := fun _ t => some t) (Ev.now _)
  have hw : wrap64 (Int.tdiv (wrap64 (9223372036854775807 - (d : Int))) 10) = (9223372036854775807 - (d : Int)) / 10 := by
    rw [wrap_id (x := 9223372036854775807 - (d : Int)) (by omega) (by omega), Int.tdiv_eq_ediv_of_nonneg (by omega), wrap_id (by omega) (by omega)]
  by_cases hb : 10 * n + d < 9223372036854775808
  · rw [if_pos hb]
    refine Ev.step (fun k => ?_) h3
    simp only [ratlinelaw4_LexInts.j3]
    have r0 : rd_T31 (res31 ([(kindI im, [], ((10 * n + d : Nat) : Int), 0)], 0, 0)).1 0 = to31 (kindI im, [], ((10 * n + d : Nat) : Int), 0) := rfl
    have e0 : (to31 (kindI im, [], ((10 * n + d : Nat) : Int), 0)).f2 = wrap64 (wrap64 (10 * (n : Int)) + (d : Int)) := by
      rw [wrap_id (x := 10 * (n : Int)) (by omega) (by omega), wrap_id (by omega) (by omega)]
      show ((10 * n + d : Nat) : Int) = _
      omega
    rw [if_neg (by decide), hw, if_neg (by omega), r0]
    refine (if_pos rfl).trans ((if_pos rfl).trans ((if_pos ?_).trans (if_pos e0)))
    show (0 : Int) < 1
    decide
  · rw [if_neg hb]
    refine Ev.step (fun k => ?_) h3
    simp only [ratlinelaw4_LexInts.j3]
    rw [if_neg (by decide), hw, if_pos (by omega)]
    exact (if_pos rfl).trans ((if_pos rfl).trans (if_pos rfl))
theorem ints_j2 (n d : Nat) (hn : n < 9223372036854775808) (hd : d ≤ 9) (l : List UInt8) (h : Digs n l) (hl : l.length ≤ 50) (im : Bool) :
    Ev (fun k => ratlinelaw4_LexInts.j2 k (n : Int) ⟨l.toArray⟩ (d : Int) ⟨(sufL im).toArray⟩ (kindI im)) true := by
  have hsuf : (⟨(sufL im).toArray⟩ : ByteArray).size ≤ 1 := by cases im <;> decide
  have hsz : (⟨l.toArray⟩ : ByteArray).size = l.length := by rw [← len_list]
  have hy : strOfNums [(48 + ((d : Int) % 256)) % 256] = ⟨[digB d].toArray⟩ := by
    unfold strOfNums digB
    rw [show ((48 + ((d : Int) % 256)) % 256) = ((48 + d : Nat) : Int) by omega]
    rfl
  have e2 : (⟨l.toArray⟩ : ByteArray) ++ (⟨[digB d].toArray⟩ : ByteArray) = ⟨(l ++ [digB d]).toArray⟩ := by apply bytes_ext; simp [ByteArray.data_append]
  have hsz2 : (⟨(l ++ [digB d]).toArray⟩ : ByteArray).size = l.length + 1 := by rw [← len_list]; simp
  have h1 := lexP_ev ((⟨l.toArray⟩ : ByteArray) ++ (⟨(sufL im).toArray⟩ : ByteArray))
  have h2 := lexP_ev ((⟨(l ++ [digB d]).toArray⟩ : ByteArray) ++ (⟨(sufL im).toArray⟩ : ByteArray))
  rw [int_lexP h (by omega) im, if_pos hn] at h1
  rw [int_lexP (h.snoc hd) (by simp; omega) im] at h2
  have hj := ints_j3 n d hn hd im
  refine Ev.step (f := fun k => (lex_Tokens.f k ((⟨l.toArray⟩ : ByteArray) ++ (⟨(sufL im).toArray⟩ : ByteArray))).bind fun bt249 => ((lex_Tokens.f k ((⟨(l ++ [digB d]).toArray⟩ : ByteArray) ++ (⟨(sufL im).toArray⟩ : ByteArray))).bind fun bt257 => (if bt249.2.2 = 0 then (if (bt249.1.length : Int) = 1 then (if 0 < (bt249.1.length : Int) then (if ((rd_T31 bt249.1 0).f0) = kindI im then (ratlinelaw4_LexInts.j3 k n d bt257.1 bt257.2.1 bt257.2.2 (((rd_T31 bt249.1 0).f2) != n)) else (ratlinelaw4_LexInts.j3 k n d bt257.1 bt257.2.1 bt257.2.2 true)) else (none)) else (ratlinelaw4_LexInts.j3 k n d bt257.1 bt257.2.1 bt257.2.2 true)) else (ratlinelaw4_LexInts.j3 k n d bt257.1 bt257.2.1 bt257.2.2 true)))) (fun k => ?_) ?_
  · simp only [ratlinelaw4_LexInts.j2]
    rw [if_pos (by omega)]
    congr 1
    funext bt249
    rw [Option.bind_some, hy, if_pos (by rw [hsz]; show l.length + 1 ≤ _; omega), e2, if_pos (by omega)]
  · refine h1.bind (f := fun k bt249 => _) ?_
    refine h2.bind (f := fun k bt257 => _) ?_
    refine Ev.congr (fun k => ?_) hj
    have r0 : rd_T31 (res31 ([(kindI im, [], (n : Int), 0)], 0, 0)).1 0 = to31 (kindI im, [], (n : Int), 0) := rfl
    rw [r0]
    refine (if_pos rfl).trans ((if_pos rfl).trans ((if_pos ?_).trans ((if_pos rfl).trans ?_)))
    · show (0 : Int) < 1
      decide
    · rw [show ((to31 (kindI im, [], (n : Int), 0)).f2 != (n : Int)) = false from bne_self_eq_false _]
theorem ints_l0 (n : Nat) (hn : n < 9223372036854775808) (a1 a2 : Int) (h2 : 0 ≤ a2) (im : Bool) : ∀ (c i : Nat) (l : List UInt8), i + c = 8 → Digs n l → l.length ≤ 19 + i →
    Ev (fun k => ratlinelaw4_LexInts.l0 k (n : Int) a1 a2 im ⟨l.toArray⟩ i) true := by
  intro c
  induction c with
  | zero =>
    intro i l hi h hl
    have hd : ∃ d : Nat, d ≤ 9 ∧ wrap64 (Int.tmod a2 10) = (d : Int) := by
      refine ⟨(a2 % 10).toNat, by omega, ?_⟩
      rw [Int.tmod_eq_emod_of_nonneg h2, wrap_id (by omega) (by omega)]
      omega
    obtain ⟨d, hd, ed⟩ := hd
    refine Ev.step (fun k => ?_) (ints_j2 n d hn hd l h (by omega) im)
    simp only [ratlinelaw4_LexInts.l0]
    rw [and7, if_neg (by omega), ed]
    cases im
    · rw [if_neg (by decide)]; rfl
    · rw [if_pos rfl]; rfl
  | succ c ih =>
    intro i l hi h hl
    by_cases hm : (i : Int) < a1 % 8
    · refine Ev.step (fun k => ?_) (ih (i + 1) (48 :: l) (by omega) h.zero (by simp; omega))
      have hsz : (⟨l.toArray⟩ : ByteArray).size = l.length := by rw [← len_list]
      simp only [ratlinelaw4_LexInts.l0]
      rw [and7, if_pos hm, if_pos (by omega), wrap_id (by omega) (by omega)]
      congr 1
    · have hd : ∃ d : Nat, d ≤ 9 ∧ wrap64 (Int.tmod a2 10) = (d : Int) := by
        refine ⟨(a2 % 10).toNat, by omega, ?_⟩
        rw [Int.tmod_eq_emod_of_nonneg h2, wrap_id (by omega) (by omega)]
        omega
      obtain ⟨d, hd, ed⟩ := hd
      refine Ev.step (fun k => ?_) (ints_j2 n d hn hd l h (by omega) im)
      simp only [ratlinelaw4_LexInts.l0]
      rw [and7, if_neg hm, ed]
      cases im
      · rw [if_neg (by decide)]; rfl
      · rw [if_pos rfl]; rfl
theorem ints_j0 (n : Nat) (hn : n < 9223372036854775808) (a1 a2 : Int) (h2 : 0 ≤ a2) (im : Bool) : Ev (fun k => ratlinelaw4_LexInts.j0 k (n : Int) a1 a2 im) true := by
  obtain ⟨l, h, hl, hev⟩ := digits_ev n hn
  refine Ev.step (f := fun k => (ratlineref1_Digits.f k n).bind fun t248 => (ratlinelaw4_LexInts.l0 k n a1 a2 im t248 0)) (fun k => ?_) ?_
  · simp only [ratlinelaw4_LexInts.j0]
  · exact hev.bind (f := fun k t248 => ratlinelaw4_LexInts.l0 k n a1 a2 im t248 0) (ints_l0 n hn a1 a2 h2 im 8 0 l rfl h (by omega))
theorem ints_pure : ratlinelaw4_LexInts.Pure := by
  intro a0 a1 a2 a3 h0 _ h2
  have b0 : IntKind.i64.min ≤ a0 ∧ a0 ≤ IntKind.i64.max := by simpa [Lit.wf] using h0
  have b2 : IntKind.u8.min ≤ a2 ∧ a2 ≤ IntKind.u8.max := by simpa [Lit.wf] using h2
  rw [show IntKind.i64.min = -9223372036854775808 from by decide, show IntKind.i64.max = 9223372036854775807 from by decide] at b0
  rw [show IntKind.u8.min = 0 from by decide, show IntKind.u8.max = 255 from by decide] at b2
  refine Ev.rounds (g := fun k => ratlinelaw4_LexInts.f k a0 a1 a2 a3) ?_
  unfold ratlinelaw4_LexInts.f
  by_cases hneg : a0 < 0
  · have := ints_j0 (-(a0 + 1)).toNat (by omega) a1 a2 b2.1 a3
    refine Ev.congr (fun k => ?_) this
    rw [if_pos hneg, wrap_id (x := a0 + 1) (by omega) (by omega), wrap_id (by omega) (by omega)]
    congr 1
    omega
  · have := ints_j0 a0.toNat (by omega) a1 a2 b2.1 a3
    refine Ev.congr (fun k => ?_) this
    rw [if_neg hneg]
    congr 1
    omega
end Go.Proofs.YtmmndmfphcbieaaDoor.XLex
