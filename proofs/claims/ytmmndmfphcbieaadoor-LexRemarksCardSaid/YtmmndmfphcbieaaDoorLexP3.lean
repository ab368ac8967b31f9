/- The word that a text begins with, as a plain function on lists of bytes; lex.token tells it. -/
import Derived.Test.YtmmndmfphcbieaaDoorXLexx4
import Derived.Test.YtmmndmfphcbieaaDoorLexP2
namespace Go.Proofs.YtmmndmfphcbieaaDoor.XLex
open Go.RowKit Go.Proofs.YtmmndmfphcbieaaDoorW.PrintWords Go.Proofs.YtmmndmfphcbieaaDoorW.PrintLast Go.Proofs.YtmmndmfphcbieaaDoorW.PrintMore
/-- the name at a list's head -/
def nameP (l : List UInt8) : Option (Int × List UInt8 × Int × Nat) :=
  if 16 < spanI isNam l then none else some (if wordList.contains (l.take (spanI isNam l)) then 2 else 1, l.take (spanI isNam l), 0, spanI isNam l)
/-- the number, of n digits -/
def numP (l : List UInt8) (n : Nat) : Option (Int × List UInt8 × Int × Nat) :=
  if valD 0 (l.take n) < 9223372036854775808 then
    if byteAt l n = 105 then (if isNam (byteAt l (n + 1)) then none else some (4, [], (valD 0 (l.take n) : Nat), n + 1))
    else (if isNam (byteAt l n) then none else some (3, [], (valD 0 (l.take n) : Nat), n))
  else none
/-- the op -/
def opP (l : List UInt8) : Option (List UInt8) :=
  match lexOps.find? (fun x => x.isPrefixOf l) with
  | some x => some x
  | none => match l with
    | [] => none
    | c :: _ => if lexOnes.contains c then some [c] else none
/-- kind, text, number, length of the word at a list's head -/
def tokP : List UInt8 → Option (Int × List UInt8 × Int × Nat)
  | [] => none
  | c :: r =>
    if isLet (c.toNat : Int) then nameP (c :: r)
    else if isDig (c.toNat : Int) then numP (c :: r) (spanI isDig (c :: r))
    else if (c.toNat : Int) = 34 then (textS r).map (fun p => (5, p.1, 0, 1 + p.2))
    else (opP (c :: r)).map (fun x => (6, x, 0, x.length))
def tokR : Option (Int × List UInt8 × Int × Nat) → Int × ByteArray × Int × Int × Int
  | some (k, t, n, m) => (k, ⟨t.toArray⟩, n, 0, (m : Int))
  | none => (0, ⟨#[]⟩, 0, 0, 0)
theorem span_all (p : Int → Bool) : ∀ (l : List UInt8), ∀ c ∈ l.take (spanI p l), p (c.toNat : Int) = true
  | [], c, h => by simp at h
  | d :: r, c, h => by
    rw [spanI] at h
    split at h
    · rename_i hp
      rw [Nat.add_comm, List.take_succ_cons, List.mem_cons] at h
      rcases h with rfl | h
      · exact hp
      · exact span_all p r c h
    · simp at h
theorem span_pos {p : Int → Bool} {c : UInt8} {r : List UInt8} (h : p (c.toNat : Int) = true) : 1 ≤ spanI p (c :: r) := by
  rw [spanI, if_pos h]; omega
theorem nam_noSp (l : List UInt8) (h : ∀ c ∈ l, isNam (c.toNat : Int) = true) : noSp l := by
  intro c hc e
  have := h c hc
  rw [e] at this
  exact absurd this (by decide)
theorem textS_le : ∀ (n : Nat) (l : List UInt8) (t : List UInt8) (m : Nat), l.length ≤ n → textS l = some (t, m) → m ≤ l.length
  | 0, l, t, m, hn, h => by
    obtain rfl := List.length_eq_zero_iff.1 (Nat.le_zero.1 hn)
    simp [textS] at h
  | n + 1, [], t, m, hn, h => by simp [textS] at h
  | n + 1, c :: r, t, m, hn, h => by
    rw [textS_cons] at h
    have hr : r.length ≤ n := by simpa using hn
    split at h
    · simp at h
    split at h
    · simp only [Option.some.injEq, Prod.mk.injEq] at h; simp only [List.length_cons]; omega
    split at h
    · split at h
      · simp at h
      · rename_i d r'
        simp only [List.length_cons] at hr ⊢
        have rc2 : ∀ (x : UInt8), (textS r').map (fun p => (x :: p.1, p.2 + 2)) = some (t, m) → m ≤ r'.length + 1 + 1 := by
          intro x hx
          rw [Option.map_eq_some_iff] at hx
          obtain ⟨⟨t', m'⟩, h1, h2⟩ := hx
          have := textS_le n r' t' m' (by omega) h1
          simp only [Prod.mk.injEq] at h2
          omega
        split at h
        · exact rc2 _ h
        split at h
        · exact rc2 _ h
        · simp at h
    · rw [Option.map_eq_some_iff] at h
      obtain ⟨⟨t', m'⟩, h1, h2⟩ := h
      have := textS_le n r t' m' hr h1
      simp only [Prod.mk.injEq] at h2
      simp only [List.length_cons]
      omega
theorem byteAt_len {l : List UInt8} {n : Nat} {c : Nat} (h : byteAt l n = (c : Int)) : n < l.length := by
  unfold byteAt at h
  split at h
  · rename_i e; exact (List.getElem?_eq_some_iff.1 e).1
  · omega
theorem opP_len {l x : List UInt8} (h : opP l = some x) : 1 ≤ x.length ∧ x.length ≤ l.length := by
  unfold opP at h
  split at h
  · rename_i y hy
    obtain rfl := Option.some.inj h
    have h1 := List.mem_of_find?_eq_some hy
    have h2 := List.find?_some hy
    have h3 := (List.isPrefixOf_iff_prefix.1 h2).length_le
    refine ⟨?_, h3⟩
    simp only [lexOps, List.mem_cons, List.not_mem_nil, or_false] at h1
    rcases h1 with rfl | rfl | rfl | rfl | rfl | rfl <;> simp
  · split at h
    · simp at h
    · split at h
      · obtain rfl := Option.some.inj h; simp
      · simp at h
theorem tokP_len : ∀ {l t : List UInt8} {k n : Int} {m : Nat}, tokP l = some (k, t, n, m) → 1 ≤ m ∧ m ≤ l.length
  | [], _, _, _, _, h => by simp [tokP] at h
  | c :: r, t, k, n, m, h => by
    rw [tokP] at h
    split at h
    · rename_i hc
      unfold nameP at h
      split at h
      · simp at h
      · simp only [Option.some.injEq, Prod.mk.injEq] at h
        have h1 := span_pos (r := r) (isNam_let hc)
        have h2 := spanI_le isNam (c :: r)
        omega
    split at h
    · rename_i hc
      have h1 := span_pos (r := r) hc
      have h2 := spanI_le isDig (c :: r)
      unfold numP at h
      split at h
      case isFalse => simp at h
      split at h
      · rename_i hi
        have := byteAt_len (c := 105) hi
        split at h
        · simp at h
        · simp only [Option.some.injEq, Prod.mk.injEq] at h; omega
      · split at h
        · simp at h
        · simp only [Option.some.injEq, Prod.mk.injEq] at h; omega
    split at h
    · rw [Option.map_eq_some_iff] at h
      obtain ⟨⟨t', m'⟩, h1, h2⟩ := h
      have := textS_le _ r t' m' (Nat.le_refl _) h1
      simp only [Prod.mk.injEq] at h2
      simp only [List.length_cons]
      omega
    · rw [Option.map_eq_some_iff] at h
      obtain ⟨x, h1, h2⟩ := h
      have := opP_len h1
      simp only [Prod.mk.injEq] at h2
      omega
theorem lexletter (c : Int) : lex_letter.f c = some (isLet c) := by
  unfold lex_letter.f isLet
  repeat' split
  all_goals (congr 1; rw [Bool.eq_iff_iff]; simp; omega)
theorem lexdigit (c : Int) : lex_digit.f c = some (isDig c) := by
  unfold lex_digit.f isDig
  repeat' split
  all_goals (congr 1; rw [Bool.eq_iff_iff]; simp; omega)
theorem ext0 (s : ByteArray) (n : Nat) : s.extract 0 n = ⟨(s.data.toList.take n).toArray⟩ := bytes_ext (by rw [take_list])
theorem extm (s : ByteArray) (n : Nat) : s.extract n s.size = ⟨(s.data.toList.drop n).toArray⟩ := bytes_ext (by rw [extract_list])
theorem byte0 {a : ByteArray} {c : UInt8} {r : List UInt8} (e : a.data.toList = c :: r) : bt a 0 = (c.toNat : Int) ∧ byteAt a.data.toList 0 = (c.toNat : Int) := by
  have h0 : 0 < a.size := by
    have := congrArg List.length e
    simp at this
    omega
  have h := bt_byte a 0 h0
  have h1 : byteAt a.data.toList 0 = (c.toNat : Int) := by rw [e]; rfl
  exact ⟨h.trans h1, h1⟩
theorem contains_index (l : List UInt8) (c : UInt8) : decide (0 ≤ Lib.indexByte l c) = l.contains c := by
  have hg := Lib.indexByte_ge l c
  by_cases h : Lib.indexByte l c = -1
  · have := Lib.indexByte_none h
    rw [h]
    rw [Bool.eq_iff_iff]
    simp only [decide_eq_true_eq, List.contains_iff_mem]
    constructor
    · intro h'; omega
    · intro hm
      obtain ⟨n, hn, he⟩ := List.getElem_of_mem hm
      exact absurd (List.getElem?_eq_some_iff.2 ⟨hn, he⟩) (this n)
  · obtain ⟨o, ho⟩ : ∃ o : Nat, Lib.indexByte l c = o := ⟨(Lib.indexByte l c).toNat, by omega⟩
    have := (Lib.indexByte_some ho).1
    rw [ho, Bool.eq_iff_iff]
    simp only [decide_eq_true_eq, List.contains_iff_mem]
    exact ⟨fun _ => List.mem_of_getElem? this, fun _ => by omega⟩
theorem lex_nameP (a : ByteArray) (hs : a.size ≤ 4000) : lex_name.f a = some (tokR (nameP a.data.toList)) := by
  rw [lex_name.f_eq]
  unfold Go.Proofs.YtmmndmfphcbieaaDoor.lex_name.f nameP
  rw [if_pos (Nat.le_trans hs (by decide))]
  by_cases h : 16 < spanI isNam a.data.toList
  · rw [if_pos h, if_pos h]; rfl
  · rw [if_neg h, if_neg h, take_list, isWd_iff _ (nam_noSp _ (span_all isNam _)), ext0]
    rfl
theorem lex_numP (a : ByteArray) (hs : a.size ≤ 4000) (h0 : 1 ≤ spanI isDig a.data.toList) : lex_number.f a = some (tokR (numP a.data.toList (spanI isDig a.data.toList))) := by
  rw [lex_number.f_eq]
  unfold Go.Proofs.YtmmndmfphcbieaaDoor.lex_number.f
  rw [if_pos (Nat.le_trans hs (by decide))]
  congr 1
  have h2 := spanI_le isDig a.data.toList
  have hd : allDig (a.data.toList.take (spanI isDig a.data.toList)) := span_all isDig _
  have hne : a.data.toList.take (spanI isDig a.data.toList) ≠ [] := by
    intro e
    have := congrArg List.length e
    rw [List.length_take, List.length_nil] at this
    omega
  unfold lex_number.g numP
  rw [parse64 _ hd hne]
  generalize spanI isDig a.data.toList = n
  split
  · rename_i v e
    split at e
    · rename_i hv
      rw [if_pos hv]
      obtain rfl : (valD 0 (a.data.toList.take n) : Int) = v := by injection e
      repeat' split
      all_goals rfl
    · cases e
  · rename_i e
    split at e
    · exact absurd rfl (e _)
    · rename_i hv; rw [if_neg hv]; rfl
theorem lex_textP (a : ByteArray) (hs : a.size ≤ 4000) {c : UInt8} {r : List UInt8} (e : a.data.toList = c :: r) : lex_text.f a = some (tokR ((textS r).map (fun p => (5, p.1, 0, 1 + p.2)))) := by
  rw [lex_text.f_eq]
  unfold Go.Proofs.YtmmndmfphcbieaaDoor.lex_text.f
  rw [if_pos (Nat.le_trans hs (by decide)), e]
  unfold lex_text.g
  simp only [List.drop_succ_cons, List.drop_zero]
  cases textS r with
  | none => rfl
  | some p => rfl
theorem lex_opP (a : ByteArray) {c : UInt8} {r : List UInt8} (e : a.data.toList = c :: r) : lex_op.f a = some (tokR ((opP a.data.toList).map (fun x => (6, x, 0, x.length)))) := by
  have h0 : 0 < a.size := by
    have := congrArg List.length e
    simp at this
    omega
  rw [lex_op.f_eq]
  unfold Go.Proofs.YtmmndmfphcbieaaDoor.lex_op.f
  rw [if_pos h0, (byte0 e).2]
  congr 1
  unfold lex_op.g opP
  have hp : (fun x => Lib.hasPrefix a.data.toList x) = (fun x : List UInt8 => x.isPrefixOf a.data.toList) := rfl
  rw [hp]
  cases hf : lexOps.find? (fun x : List UInt8 => x.isPrefixOf a.data.toList) with
  | some x =>
    have h1 := List.mem_of_find?_eq_some hf
    simp only [lexOps, List.mem_cons, List.not_mem_nil, or_false] at h1
    rcases h1 with rfl | rfl | rfl | rfl | rfl | rfl <;> rfl
  | none =>
    have hc : ((c.toNat : Int)).toNat.toUInt8 = c := by simp
    simp only
    rw [hc]
    have hi := contains_index lexOnes c
    have hx : a.extract 0 1 = ⟨#[c]⟩ := by rw [ext0, e]; rfl
    rw [e]
    simp only
    by_cases h : 0 ≤ Lib.indexByte lexOnes c
    · rw [if_pos h, ← hi, if_pos (by simpa using h), hx]; rfl
    · rw [if_neg h, ← hi, if_neg (by simpa using h)]; rfl
theorem lex_tok (a : ByteArray) (h0 : 0 < a.size) (hs : a.size ≤ 4000) : lex_token.f a = some (tokR (tokP a.data.toList)) := by
  obtain ⟨c, r, e⟩ : ∃ c r, a.data.toList = c :: r := by
    cases h : a.data.toList with
    | nil => exact absurd h0 (by rw [show a.size = a.data.toList.length from (Array.length_toList).symm, h]; simp)
    | cons c r => exact ⟨c, r, rfl⟩
  unfold lex_token.f
  rw [if_pos (show (0 : Int) < (a.size : Int) by omega), (byte0 e).1, lexletter]
  simp only [Option.bind_some]
  by_cases hl : isLet (c.toNat : Int) = true
  · rw [if_pos hl, lex_nameP a hs]
    rw [e, tokP, if_pos hl]; rfl
  rw [if_neg hl, lexdigit]
  simp only [Option.bind_some]
  by_cases hd : isDig (c.toNat : Int) = true
  · rw [if_pos hd, lex_numP a hs (by rw [e]; exact span_pos hd)]
    rw [e, tokP, if_neg hl, if_pos hd]; rfl
  rw [if_neg hd]
  by_cases hq : (c.toNat : Int) = 34
  · rw [if_pos hq, lex_textP a hs e]
    rw [e, tokP, if_neg hl, if_neg hd, if_pos hq]; rfl
  rw [if_neg hq, lex_opP a e]
  rw [e, tokP, if_neg hl, if_neg hd, if_neg hq]; rfl
end Go.Proofs.YtmmndmfphcbieaaDoor.XLex
