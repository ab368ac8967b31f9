/- The pure statement of LexRemarks. -/
import Derived.Test.YtmmndmfphcbieaaDoorLexP8T
import Derived.Test.YtmmndmfphcbieaaDoorXLexLLexRemarks
namespace Go.Proofs.YtmmndmfphcbieaaDoor.XLex
open Go.RowKit Go.Proofs.YtmmndmfphcbieaaDoorW.PrintWords Go.Proofs.YtmmndmfphcbieaaDoorW.PrintLast Go.Proofs.YtmmndmfphcbieaaDoorW.PrintMore
theorem skip_rest (r : List UInt8) : ∀ l : List UInt8, (∀ c ∈ l, (c.toNat : Int) ≠ 10) → skipB true (l ++ 10 :: r) = l.length + 1 + skipB false r
  | [], _ => by rw [List.nil_append, skipB, if_neg (by decide)]; simp
  | c :: l, h => by
    rw [List.cons_append, skipB, if_pos (by simpa [notLf] using h c List.mem_cons_self), skip_rest r l (fun x hx => h x (List.mem_cons_of_mem _ hx)), List.length_cons]
    omega
theorem remark_toks (t l : List UInt8) (ht : ∀ c ∈ t, (c.toNat : Int) ≠ 10) (hl : l = 97 :: 32 :: 35 :: (t ++ 10 :: [98])) : tokensP l = ([(1, [97], 0, 0), (1, [98], 0, 4 + t.length)], 0, 0) := by
  have hlen : l.length = t.length + 5 := by rw [hl]; simp
  have h0 : skipB false l = 0 := by rw [hl, skipB, if_neg (by decide), if_neg (by decide)]
  have d1 : l.drop 1 = 32 :: 35 :: (t ++ 10 :: [98]) := by rw [hl]; rfl
  have d3 : l.drop (4 + t.length) = [98] := by
    have e : l = (97 :: 32 :: 35 :: (t ++ [10])) ++ [98] := by rw [hl]; simp
    rw [e, List.drop_left' (by simp; omega)]
  have d4 : l.drop (5 + t.length) = [] := List.drop_of_length_le (by omega)
  unfold tokensP
  rw [h0]
  obtain ⟨n, hn⟩ : ∃ n, l.length + 1 = n + 1 + 1 + 1 := ⟨t.length + 3, by omega⟩
  rw [hn, toks_go (k := 1) (t := [97]) (n := 0) (m := 1) (q := 4 + t.length) (by omega) (by rw [hl]; exact tok_a _)
    (by rw [Nat.zero_add, d1, skipB, if_pos (by decide), skipB, if_neg (by decide), if_pos (by decide), skip_rest _ t ht]; simp [skipB, isBlank]; omega)]
  rw [toks_go (k := 1) (t := [98]) (n := 0) (m := 1) (q := 5 + t.length) (by omega) (by rw [d3]; exact tok_b)
    (by rw [show 4 + t.length + 1 = 5 + t.length from by omega, d4]; rfl)]
  rw [toks_stop (by omega)]
  rfl
theorem remark_end (s : ByteArray) (hs : ¬ (s.size : Int) > 500) (ht : ∀ c ∈ s.data.toList, (c.toNat : Int) ≠ 10) : Ev (fun k => (if 3 + s.size ≤ 9223372036854775807 then (if ((⟨#[97, 32, 35]⟩ : ByteArray) ++ s).size + 2 ≤ 9223372036854775807 then ((lex_Tokens.f k (((⟨#[97, 32, 35]⟩ : ByteArray) ++ s) ++ (⟨#[10, 98]⟩ : ByteArray))).bind fun bt269 => (if bt269.2.2 = 0 then (if (bt269.1.length : Int) = 2 then (if 1 < (bt269.1.length : Int) then (if ((rd_T31 bt269.1 1).f1).toList = ([98] : List UInt8) then (if ((rd_T31 bt269.1 1).f3) = (wrap64 ((s.size : Int) + 4)) then ((ratlinelaw4_awake.f k).bind fun t276 => (some t276)) else (some false)) else (some false)) else (none)) else (some false)) else (some false))) else (none)) else (none))) true := by
  have h3 : Ev (fun k => (ratlinelaw4_awake.f k).bind fun t218 => (some t218)) true := awake_ev.bind (f := fun _ t => some t) (Ev.now _)
  have hsz1 : ((⟨#[97, 32, 35]⟩ : ByteArray) ++ s).size = 3 + s.size := by rw [ByteArray.size_append]; rfl
  have hsz2 : (((⟨#[97, 32, 35]⟩ : ByteArray) ++ s) ++ (⟨#[10, 98]⟩ : ByteArray)).size = 5 + s.size := by rw [ByteArray.size_append, hsz1]; show 3 + s.size + 2 = _; omega
  have hl : (((⟨#[97, 32, 35]⟩ : ByteArray) ++ s) ++ (⟨#[10, 98]⟩ : ByteArray)).data.toList = 97 :: 32 :: 35 :: (s.data.toList ++ 10 :: [98]) := by
    simp [ByteArray.data_append]
  have hP : lexP (((⟨#[97, 32, 35]⟩ : ByteArray) ++ s) ++ (⟨#[10, 98]⟩ : ByteArray)) = ([(1, [97], 0, 0), (1, [98], 0, 4 + s.size)], 0, 0) := by
    unfold lexP
    rw [if_pos (by omega), ← len_list s]
    exact remark_toks s.data.toList _ ht hl
  have hE := lexP_ev (((⟨#[97, 32, 35]⟩ : ByteArray) ++ s) ++ (⟨#[10, 98]⟩ : ByteArray))
  rw [hP] at hE
  refine Ev.congr (fun k => (if_pos (show 3 + s.size ≤ 9223372036854775807 by omega)).trans (if_pos (show ((⟨#[97, 32, 35]⟩ : ByteArray) ++ s).size + 2 ≤ 9223372036854775807 by omega))) ?_
  refine hE.bind (f := fun k bt236 => _) ?_
  refine Ev.congr (fun k => ?_) h3
  have r1 : rd_T31 (res31 ([(1, [97], 0, 0), (1, [98], 0, 4 + s.size)], 0, 0)).1 1 = to31 (1, [98], 0, 4 + s.size) := rfl
  have e2 : (to31 (1, [98], 0, 4 + s.size)).f1.toList = [98] := by rw [Lib.toList_data]; rfl
  have e3 : (to31 (1, [98], 0, 4 + s.size)).f3 = wrap64 ((s.size : Int) + 4) := by
    rw [wrap_id (by omega) (by omega)]
    show ((4 + s.size : Nat) : Int) = _
    omega
  rw [r1, e2]
  refine (if_pos rfl).trans ((if_pos rfl).trans ((if_pos ?_).trans ((if_pos rfl).trans (if_pos e3))))
  show (1 : Int) < 2
  decide
theorem remark_l0 (s : ByteArray) (hs : s.size ≤ 140737488351232) : ∀ (d i : Nat), s.size = i + d → (∀ c ∈ s.data.toList.take i, (c.toNat : Int) ≠ 10) →
    Ev (fun k => ratlinelaw4_LexRemarks.l0 k s i) true := by
  intro d
  have h3 : Ev (fun k => (ratlinelaw4_awake.f k).bind fun t218 => (some t218)) true := awake_ev.bind (f := fun _ t => some t) (Ev.now _)
  induction d with
  | zero =>
    intro i hi ht
    by_cases h500 : (s.size : Int) > 500
    · refine Ev.step (fun k => ?_) h3
      simp only [ratlinelaw4_LexRemarks.l0]
      rw [if_neg (by omega), if_pos h500]
    · rw [List.take_of_length_le (by rw [len_list]; omega)] at ht
      refine Ev.step (fun k => ?_) (remark_end s h500 ht)
      simp only [ratlinelaw4_LexRemarks.l0]
      rw [if_neg (by omega), if_neg h500]
  | succ d ih =>
    intro i hi ht
    have hlt : i < s.size := by omega
    have hb : bt s (i : Int) = (s[i].toNat : Int) := by rw [bt_byte s i hlt, byteAt_lt s i hlt]
    by_cases h10 : (s[i].toNat : Int) = 10
    · refine Ev.step (fun k => ?_) h3
      simp only [ratlinelaw4_LexRemarks.l0]
      rw [if_pos (Int.ofNat_lt.2 hlt), if_pos (Int.natCast_nonneg i), hb, if_pos h10]
    · have := ih (i + 1) (by omega) (by
        intro c hc
        rw [List.take_succ_eq_append_getElem (by rw [len_list]; exact hlt), List.mem_append, List.mem_singleton] at hc
        rcases hc with hc | rfl
        · exact ht c hc
        · exact h10)
      refine Ev.step (fun k => ?_) this
      simp only [ratlinelaw4_LexRemarks.l0]
      rw [if_pos (Int.ofNat_lt.2 hlt), if_pos (Int.natCast_nonneg i), hb, if_neg h10, wrap_id (by omega) (by omega)]
      rfl
theorem remarks_pure : ratlinelaw4_LexRemarks.Pure := by
  intro a0 h
  refine Ev.rounds (g := fun k => ratlinelaw4_LexRemarks.f k a0) ?_
  exact Ev.congr (fun k => rfl) (remark_l0 a0 h a0.size 0 (by omega) (by simp))
end Go.Proofs.YtmmndmfphcbieaaDoor.XLex
