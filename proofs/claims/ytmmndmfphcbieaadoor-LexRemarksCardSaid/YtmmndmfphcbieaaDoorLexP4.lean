/- The words of a text, as a plain function; lex.Tokens and the reference's Tokens tell them. -/
import Derived.Test.YtmmndmfphcbieaaDoorLexP3
namespace Go.Proofs.YtmmndmfphcbieaaDoor.XLex
open Go.RowKit Go.Proofs.YtmmndmfphcbieaaDoorW.PrintWords Go.Proofs.YtmmndmfphcbieaaDoorW.PrintLast Go.Proofs.YtmmndmfphcbieaaDoorW.PrintMore
abbrev Tk := Int × List UInt8 × Int × Nat
def to31 (t : Tk) : S31 := ⟨t.1, ⟨t.2.1.toArray⟩, t.2.2.1, (t.2.2.2 : Int)⟩
def to32 (t : Tk) : S32 := ⟨t.1, ⟨t.2.1.toArray⟩, t.2.2.1, (t.2.2.2 : Int)⟩
/-- from a place on, at which no blank and no remark stands: the words, where it ends, the error -/
def toksP (l : List UInt8) : Nat → Nat → List Tk → List Tk × Nat × Int
  | 0, _, acc => (acc, 0, 0)
  | d + 1, p, acc =>
    if p < l.length then
      match tokP (l.drop p) with
      | none => ([], p, 10)
      | some (k, t, n, m) => toksP l d (p + m + skipB false (l.drop (p + m))) (acc ++ [(k, t, n, p)])
    else (acc, 0, 0)
def tokensP (l : List UInt8) : List Tk × Nat × Int := toksP l (l.length + 1) (skipB false l) []
def res31 (r : List Tk × Nat × Int) : List S31 × Int × Int := (r.1.map to31, (r.2.1 : Int), r.2.2)
def res32 (r : List Tk × Nat × Int) : List S32 × Int × Int := (r.1.map to32, (r.2.1 : Int), r.2.2)
theorem skipB_le : ∀ (b : Bool) (l : List UInt8), skipB b l ≤ l.length
  | true, [] => by simp [skipB]
  | false, [] => by simp [skipB]
  | true, c :: r => by
    have h1 := skipB_le true r
    have h2 := skipB_le false r
    rw [skipB]
    simp only [List.length_cons]
    split <;> omega
  | false, c :: r => by
    have h1 := skipB_le true r
    have h2 := skipB_le false r
    rw [skipB]
    simp only [List.length_cons]
    repeat' split
    all_goals omega
theorem skip_f (a : ByteArray) (h : a.size ≤ 4000) : lex_skip.f a = some ((skipB false a.data.toList : Nat) : Int) := by
  rw [lex_skip.f_eq, if_pos (Nat.le_trans h (by decide))]
theorem len_list (s : ByteArray) : s.data.toList.length = s.size := Array.length_toList
theorem ext_size (s : ByteArray) (n : Nat) : (s.extract n s.size).size = s.size - n := by
  rw [← len_list, extract_list, List.length_drop, len_list]
theorem ext_small {s : ByteArray} (n : Nat) (h : s.size ≤ 4000) : (s.extract n s.size).size ≤ 4000 := by rw [ext_size]; omega
theorem wrapN (n : Nat) (h : n ≤ 8001) : wrap64 (n : Int) = (n : Int) := wrap_id (by omega) (by omega)
theorem ifBool {α : Type} {b : Bool} {x y z : α} (h1 : b = true → x = z) (h2 : b = false → y = z) : (if b = true then x else y) = z := by
  cases b
  · rw [if_neg (by decide)]; exact h2 rfl
  · rw [if_pos rfl]; exact h1 rfl
theorem lex_step (k : Nat) (s : ByteArray) (hs : s.size ≤ 4000) (x : List S31) (hx : x.length ≤ 4000) (p : Nat) (hp : p < s.size) :
    lex_Tokens.l0 (k + 1) s x p = match tokP (s.data.toList.drop p) with
      | none => some ([], (p : Int), 10)
      | some (kd, t, n, m) => lex_Tokens.l0 k s (x ++ [⟨kd, ⟨t.toArray⟩, n, (p : Int)⟩]) ((p + m + skipB false (s.data.toList.drop (p + m)) : Nat) : Int) := by
  simp only [lex_Tokens.l0]
  rw [if_pos (Int.ofNat_lt.2 hp), if_pos (Int.natCast_nonneg p), if_pos (Int.ofNat_le.2 (Nat.le_of_lt hp)), Int.toNat_natCast,
    lex_tok _ (by rw [ext_size]; omega) (ext_small p hs), extract_list]
  cases hT : tokP (s.data.toList.drop p) with
  | none => rfl
  | some q =>
    obtain ⟨kd, t, n, m⟩ := q
    have hm := tokP_len hT
    rw [List.length_drop, len_list] at hm
    have hk := skipB_le false (s.data.toList.drop (p + m))
    rw [List.length_drop, len_list] at hk
    have e1 : ((p : Int) + (m : Int)) = ((p + m : Nat) : Int) := rfl
    simp only [Option.bind_some, tokR]
    rw [if_neg (show ¬ (m : Int) = 0 by omega), if_pos (show x.length < 3518437208883 by omega), e1, wrapN (p + m) (by omega), if_pos (Int.natCast_nonneg _), if_pos (Int.ofNat_le.2 (by omega)), Int.toNat_natCast, skip_f _ (ext_small _ hs), extract_list]
    simp only [Option.bind_some]
    rw [show (((p + m : Nat) : Int) + ((skipB false (s.data.toList.drop (p + m)) : Nat) : Int)) = ((p + m + skipB false (s.data.toList.drop (p + m)) : Nat) : Int) from rfl, wrapN _ (by omega)]
theorem lex_end (k : Nat) (s : ByteArray) (x : List S31) (p : Nat) (hp : ¬ p < s.size) : lex_Tokens.l0 (k + 1) s x p = some (x, 0, 0) := by
  simp only [lex_Tokens.l0]
  rw [if_neg (by omega)]
theorem lex_l0 (s : ByteArray) (hs : s.size ≤ 4000) : ∀ (d p : Nat) (acc : List Tk), s.size < p + d → p ≤ s.size → acc.length ≤ p →
    Ev (fun k => lex_Tokens.l0 k s (acc.map to31) p) (res31 (toksP s.data.toList d p acc)) := by
  intro d
  induction d with
  | zero => intro p acc h1 h2; omega
  | succ d ih =>
    intro p acc h1 h2 h3
    rw [toksP, len_list]
    by_cases hp : p < s.size
    · rw [if_pos hp]
      have hst := fun k => lex_step k s hs (acc.map to31) (by rw [List.length_map]; omega) p hp
      cases hT : tokP (s.data.toList.drop p) with
      | none =>
        refine Ev.step (f := fun _ => some _) (fun k => ?_) (Ev.now _)
        rw [hst k, hT]
        rfl
      | some q =>
        obtain ⟨kd, t, n, m⟩ := q
        have hm := tokP_len hT
        rw [List.length_drop, len_list] at hm
        have hk := skipB_le false (s.data.toList.drop (p + m))
        rw [List.length_drop, len_list] at hk
        have := ih (p + m + skipB false (s.data.toList.drop (p + m))) (acc ++ [(kd, t, n, p)]) (by omega) (by omega) (by rw [List.length_append]; simp only [List.length_cons, List.length_nil]; omega)
        refine Ev.step (fun k => ?_) this
        rw [hst k, hT, List.map_append]
        rfl
    · rw [if_neg hp]
      refine Ev.step (f := fun _ => some _) (fun k => ?_) (Ev.now _)
      rw [lex_end k s _ p hp]
      rfl
theorem lex_ev (s : ByteArray) (hs : s.size ≤ 4000) : Ev (fun k => lex_Tokens.f k s) (res31 (tokensP s.data.toList)) := by
  have hk := skipB_le false s.data.toList
  rw [len_list] at hk
  have := lex_l0 s hs (s.size + 1) (skipB false s.data.toList) [] (by omega) hk (by simp)
  unfold tokensP
  rw [len_list]
  refine Ev.congr (fun k => ?_) this
  unfold lex_Tokens.f
  rw [if_neg (by omega), skip_f s hs]
  rfl
theorem lex_long (k : Nat) (s : ByteArray) (hs : ¬ s.size ≤ 4000) : lex_Tokens.f k s = some ([], 0, 2) := by
  unfold lex_Tokens.f
  rw [if_pos (by omega)]
end Go.Proofs.YtmmndmfphcbieaaDoor.XLex
