/- The pure statement of LexTexts. -/
import Derived.Test.YtmmndmfphcbieaaDoorLexP7
import Derived.Test.YtmmndmfphcbieaaDoorXLexLLexTexts
namespace Go.Proofs.YtmmndmfphcbieaaDoor.XLex
open Go.RowKit Go.Proofs.YtmmndmfphcbieaaDoorW.PrintWords Go.Proofs.YtmmndmfphcbieaaDoorW.PrintLast Go.Proofs.YtmmndmfphcbieaaDoorW.PrintMore
/-- a byte as it stands between quotes -/
def escB (c : UInt8) : List UInt8 := if (c.toNat : Int) = 34 then [92, 34] else if (c.toNat : Int) = 92 then [92, 92] else if (c.toNat : Int) = 10 then [92, 110] else [c]
def escL (l : List UInt8) : List UInt8 := l.flatMap escB
theorem escL_cons (c : UInt8) (r : List UInt8) : escL (c :: r) = escB c ++ escL r := by unfold escL; rw [List.flatMap_cons]
theorem escB_len (c : UInt8) : (escB c).length ≤ 2 := by unfold escB; repeat' split
                                                         all_goals simp
theorem escL_len : ∀ l : List UInt8, (escL l).length ≤ 2 * l.length
  | [] => by simp [escL]
  | c :: r => by
    have h1 := escL_len r
    have h2 := escB_len c
    rw [escL_cons, List.length_append, List.length_cons]
    omega
theorem eq_byte {c : UInt8} {n : Nat} (hn : n < 256) (h : (c.toNat : Int) = (n : Int)) : c = n.toUInt8 := by
  apply UInt8.toNat_inj.1
  rw [show n.toUInt8 = UInt8.ofNat n from rfl, UInt8.toNat_ofNat_of_lt' (by omega)]
  omega
theorem textS_esc (r : List UInt8) : ∀ l : List UInt8, textS (escL l ++ 34 :: r) = some (l, (escL l).length + 1)
  | [] => by simp only [escL, List.flatMap_nil, List.nil_append]; rw [textS_cons]; rfl
  | c :: l => by
    have ih := textS_esc r l
    rw [escL_cons]
    unfold escB
    by_cases h1 : (c.toNat : Int) = 34
    · obtain rfl := eq_byte (n := 34) (by decide) h1
      rw [if_pos h1]
      simp only [List.cons_append, List.nil_append]
      rw [textS_cons, if_neg (by decide), if_neg (by decide), if_pos (by decide)]
      simp only
      rw [if_neg (by decide), if_pos (by decide), ih]
      rfl
    by_cases h2 : (c.toNat : Int) = 92
    · obtain rfl := eq_byte (n := 92) (by decide) h2
      rw [if_neg h1, if_pos h2]
      simp only [List.cons_append, List.nil_append]
      rw [textS_cons, if_neg (by decide), if_neg (by decide), if_pos (by decide)]
      simp only
      rw [if_neg (by decide), if_pos (by decide), ih]
      rfl
    by_cases h3 : (c.toNat : Int) = 10
    · obtain rfl := eq_byte (n := 10) (by decide) h3
      rw [if_neg h1, if_neg h2, if_pos h3]
      simp only [List.cons_append, List.nil_append]
      rw [textS_cons, if_neg (by decide), if_neg (by decide), if_pos (by decide)]
      simp only
      rw [if_pos (by decide), ih]
      rfl
    rw [if_neg h1, if_neg h2, if_neg h3]
    simp only [List.cons_append, List.nil_append]
    rw [textS_cons, if_neg h3, if_neg h1, if_neg h2, ih]
    rfl
section
variable (k : Nat) (s out : ByteArray) (i : Nat)
theorem ql_end (h : s.size ≤ i) (ho : out.size ≤ 4000) : ratlineref1_quoted.l0 (k + 1) s out i = some (out ++ ⟨#[34]⟩) := by
  simp only [ratlineref1_quoted.l0]
  rw [if_neg (Int.not_lt.2 (Int.ofNat_le.2 h)), if_pos (by omega)]
theorem ql_step (h : i < s.size) (hs : s.size ≤ 4000) (ho : out.size ≤ 4000) : ratlineref1_quoted.l0 (k + 1) s out i = ratlineref1_quoted.l0 k s (out ++ ⟨(escB s[i]).toArray⟩) ((i + 1 : Nat) : Int) := by
  have hb : bt s (i : Int) = (s[i].toNat : Int) := by rw [bt_byte s i h, byteAt_lt s i h]
  have h2 : out.size + 2 ≤ 9223372036854775807 := by omega
  simp only [ratlineref1_quoted.l0]
  rw [if_pos (Int.ofNat_lt.2 h), if_pos (Int.natCast_nonneg i), wrapS h hs, hb]
  unfold escB
  by_cases h34 : (s[i].toNat : Int) = 34
  · rw [if_pos h34, if_pos h34, if_pos h2]
  by_cases h92 : (s[i].toNat : Int) = 92
  · rw [if_neg h34, if_neg h34, if_pos h92, if_pos h92, if_pos h2]
  by_cases h10 : (s[i].toNat : Int) = 10
  · rw [if_neg h34, if_neg h34, if_neg h92, if_neg h92, if_pos h10, if_pos h10, if_pos h2]
  rw [if_neg h34, if_neg h34, if_neg h92, if_neg h92, if_neg h10, if_neg h10, if_pos (Int.ofNat_le.2 (Nat.le_succ i)), if_pos (Int.ofNat_le.2 h), Int.toNat_natCast, Int.toNat_natCast, if_pos (by rw [sz1 s i h]; omega), ext1 s i h]
end
theorem cat_toArray (a : ByteArray) (l m : List UInt8) : (a ++ (⟨l.toArray⟩ : ByteArray)) ++ (⟨m.toArray⟩ : ByteArray) = a ++ (⟨(l ++ m).toArray⟩ : ByteArray) := by
  apply bytes_ext; simp [ByteArray.data_append]
theorem cat_size (a : ByteArray) (l : List UInt8) : (a ++ (⟨l.toArray⟩ : ByteArray)).size = a.size + l.length := by
  rw [ByteArray.size_append]; rfl
theorem quoted_l0 (s : ByteArray) (hs : s.size ≤ 1000) : ∀ (d i : Nat) (out : ByteArray), s.size = i + d → out.size + 2 * d ≤ 4000 →
    Ev (fun k => ratlineref1_quoted.l0 k s out i) (out ++ ⟨(escL (s.data.toList.drop i) ++ [34]).toArray⟩) := by
  intro d
  induction d with
  | zero =>
    intro i out hi ho
    rw [List.drop_of_length_le (by rw [len_list]; omega)]
    exact Ev.step (f := fun _ => some _) (fun k => ql_end k s out i (by omega) (by omega)) (Ev.now _)
  | succ d ih =>
    intro i out hi ho
    have hlt : i < s.size := by omega
    have he := escB_len s[i]
    have := ih (i + 1) (out ++ ⟨(escB s[i]).toArray⟩) (by omega) (by rw [cat_size]; omega)
    rw [cat_toArray] at this
    rw [List.drop_eq_getElem_cons (by rw [len_list]; exact hlt), escL_cons, List.append_assoc]
    exact Ev.step (fun k => ql_step k s out i hlt (by omega) (by omega)) this
theorem quoted_ev (s : ByteArray) (hs : s.size ≤ 1000) : Ev (fun k => ratlineref1_Quoted.f k s) ⟨(34 :: (escL s.data.toList ++ [34])).toArray⟩ := by
  have := quoted_l0 s hs s.size 0 ⟨#[34]⟩ (by omega) (by show 1 + 2 * s.size ≤ 4000; omega)
  rw [List.drop_zero] at this
  have e : (⟨#[34]⟩ : ByteArray) ++ (⟨(escL s.data.toList ++ [34]).toArray⟩ : ByteArray) = ⟨(34 :: (escL s.data.toList ++ [34])).toArray⟩ := by
    apply bytes_ext; simp [ByteArray.data_append]
  rw [e] at this
  unfold ratlineref1_Quoted.f
  exact this.bind (f := fun _ t => some t) (Ev.now _)
theorem tok_a (r : List UInt8) : tokP (97 :: 32 :: r) = some (1, [97], 0, 1) := by
  have h : spanI isNam (97 :: 32 :: r) = 1 := by
    rw [spanI, if_pos (by decide), spanI, if_neg (by decide)]
  rw [tokP, if_pos (by decide), nameP, h]
  rfl
theorem tok_b : tokP [98] = some (1, [98], 0, 1) := by decide +kernel
theorem toks_go {l : List UInt8} {d p : Nat} {acc : List Tk} {k n : Int} {t : List UInt8} {m q : Nat} (h : p < l.length) (ht : tokP (l.drop p) = some (k, t, n, m)) (hq : p + m + skipB false (l.drop (p + m)) = q) :
    toksP l (d + 1) p acc = toksP l d q (acc ++ [(k, t, n, p)]) := by
  rw [toksP, if_pos h, ht]
  simp only
  rw [hq]
theorem toks_stop {l : List UInt8} {d p : Nat} {acc : List Tk} (h : l.length ≤ p) : toksP l (d + 1) p acc = (acc, 0, 0) := by
  rw [toksP, if_neg (by omega)]
theorem texts_toks (t : List UInt8) (l : List UInt8) (hl : l = 97 :: 32 :: 34 :: (escL t ++ 34 :: [98])) : tokensP l = ([(1, [97], 0, 0), (5, t, 0, 2), (1, [98], 0, 4 + (escL t).length)], 0, 0) := by
  have hlen : l.length = (escL t).length + 5 := by rw [hl]; simp
  have h0 : skipB false l = 0 := by rw [hl, skipB, if_neg (by decide), if_neg (by decide)]
  have d1 : l.drop 1 = 32 :: 34 :: (escL t ++ 34 :: [98]) := by rw [hl]; rfl
  have d2 : l.drop 2 = 34 :: (escL t ++ 34 :: [98]) := by rw [hl]; rfl
  have d3 : l.drop (4 + (escL t).length) = [98] := by
    have e : 34 :: (escL t ++ 34 :: [98]) = (34 :: (escL t ++ [34])) ++ [98] := by simp
    rw [show 4 + (escL t).length = 2 + ((escL t).length + 2) from by omega, ← List.drop_drop, d2, e]
    rw [List.drop_left' (by simp)]
  have d4 : l.drop (5 + (escL t).length) = [] := List.drop_of_length_le (by omega)
  unfold tokensP
  rw [h0]
  obtain ⟨n, hn⟩ : ∃ n, l.length + 1 = n + 1 + 1 + 1 + 1 := ⟨(escL t).length + 2, by omega⟩
  rw [hn, toks_go (k := 1) (t := [97]) (n := 0) (m := 1) (q := 2) (by omega) (by rw [hl]; exact tok_a _) (by rw [Nat.zero_add, d1, skipB, if_pos (by decide), skipB, if_neg (by decide), if_neg (by decide)])]
  rw [toks_go (k := 5) (t := t) (n := 0) (m := 1 + ((escL t).length + 1)) (q := 4 + (escL t).length) (by omega) (by rw [d2, tokP, if_neg (by decide), if_neg (by decide), if_pos (by decide), textS_esc]; rfl)
    (by rw [show 2 + (1 + ((escL t).length + 1)) = 4 + (escL t).length from by omega, d3]; rfl)]
  rw [toks_go (k := 1) (t := [98]) (n := 0) (m := 1) (q := 5 + (escL t).length) (by omega) (by rw [d3]; exact tok_b)
    (by rw [show 4 + (escL t).length + 1 = 5 + (escL t).length from by omega, d4]; rfl)]
  rw [toks_stop (by omega)]
  rfl
theorem texts_pure : ratlinelaw4_LexTexts.Pure := by
  intro a0 _
  refine Ev.rounds (g := fun k => ratlinelaw4_LexTexts.f k a0) ?_
  have h3 : Ev (fun k => (ratlinelaw4_awake.f k).bind fun t218 => (some t218)) true := awake_ev.bind (f := fun _ t => some t) (Ev.now _)
  unfold ratlinelaw4_LexTexts.f
  by_cases hs : (a0.size : Int) > 1000
  · refine Ev.congr (fun k => ?_) h3
    rw [if_pos hs]
  · have hs' : a0.size ≤ 1000 := by omega
    refine Ev.congr (fun k => if_neg hs) ?_
    refine (quoted_ev a0 hs').bind (f := fun k t235 => _) ?_
    have hel := escL_len a0.data.toList
    rw [len_list] at hel
    have hq : (⟨(34 :: (escL a0.data.toList ++ [34])).toArray⟩ : ByteArray).size = (escL a0.data.toList).length + 2 := by
      rw [← len_list]; simp
    generalize hQ : (⟨(34 :: (escL a0.data.toList ++ [34])).toArray⟩ : ByteArray) = Q at *
    have hsz1 : ((⟨#[97, 32]⟩ : ByteArray) ++ Q).size = 2 + Q.size := by rw [ByteArray.size_append]; rfl
    have hsz2 : (((⟨#[97, 32]⟩ : ByteArray) ++ Q) ++ (⟨#[98]⟩ : ByteArray)).size = 3 + Q.size := by rw [ByteArray.size_append, hsz1]; show 2 + Q.size + 1 = _; omega
    have hl : (((⟨#[97, 32]⟩ : ByteArray) ++ Q) ++ (⟨#[98]⟩ : ByteArray)).data.toList = 97 :: 32 :: 34 :: (escL a0.data.toList ++ 34 :: [98]) := by
      rw [← hQ]; simp [ByteArray.data_append]
    have hP : lexP (((⟨#[97, 32]⟩ : ByteArray) ++ Q) ++ (⟨#[98]⟩ : ByteArray)) = ([(1, [97], 0, 0), (5, a0.data.toList, 0, 2), (1, [98], 0, 4 + (escL a0.data.toList).length)], 0, 0) := by
      unfold lexP
      rw [if_pos (by omega)]
      exact texts_toks a0.data.toList _ hl
    have hE := lexP_ev (((⟨#[97, 32]⟩ : ByteArray) ++ Q) ++ (⟨#[98]⟩ : ByteArray))
    rw [hP] at hE
    refine Ev.congr (fun k => (if_pos (show 2 + Q.size ≤ 9223372036854775807 by omega)).trans (if_pos (show ((⟨#[97, 32]⟩ : ByteArray) ++ Q).size + 1 ≤ 9223372036854775807 by omega))) ?_
    refine hE.bind (f := fun k bt236 => _) ?_
    refine Ev.congr (fun k => ?_) h3
    have r1 : rd_T31 (res31 ([(1, [97], 0, 0), (5, a0.data.toList, 0, 2), (1, [98], 0, 4 + (escL a0.data.toList).length)], 0, 0)).1 1 = to31 (5, a0.data.toList, 0, 2) := rfl
    have r2 : rd_T31 (res31 ([(1, [97], 0, 0), (5, a0.data.toList, 0, 2), (1, [98], 0, 4 + (escL a0.data.toList).length)], 0, 0)).1 2 = to31 (1, [98], 0, 4 + (escL a0.data.toList).length) := rfl
    have e1 : (to31 (5, a0.data.toList, 0, 2)).f1.toList = a0.toList := by rw [Lib.toList_data, Lib.toList_data]; rfl
    have e2 : (to31 (1, [98], 0, 4 + (escL a0.data.toList).length)).f1.toList = [98] := by rw [Lib.toList_data]; rfl
    have e3 : (to31 (1, [98], 0, 4 + (escL a0.data.toList).length)).f3 = wrap64 (2 + (Q.size : Int)) := by
      rw [wrap_id (by omega) (by omega), hq]
      show ((4 + (escL a0.data.toList).length : Nat) : Int) = _
      omega
    rw [r1, r2, e1, e2]
    refine (if_pos rfl).trans ((if_pos rfl).trans ((if_pos ?_).trans ((if_pos rfl).trans ((if_pos rfl).trans ((if_pos rfl).trans ((if_pos ?_).trans ((if_pos rfl).trans (if_pos e3))))))))
    · show (1 : Int) < 3
      decide
    · show (2 : Int) < 3
      decide
end Go.Proofs.YtmmndmfphcbieaaDoor.XLex
