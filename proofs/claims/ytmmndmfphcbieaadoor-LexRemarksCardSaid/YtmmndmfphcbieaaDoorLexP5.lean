/- The reference's Tokens tells the plain function's words. -/
import Derived.Test.YtmmndmfphcbieaaDoorLexP4
namespace Go.Proofs.YtmmndmfphcbieaaDoor.XLex
open Go.RowKit Go.Proofs.YtmmndmfphcbieaaDoorW.PrintWords Go.Proofs.YtmmndmfphcbieaaDoorW.PrintLast Go.Proofs.YtmmndmfphcbieaaDoorW.PrintMore
/-! isWord -/
theorem rdOf_nat {α : Type} (z : α) (l : List α) (i : Nat) : rdOf z l (i : Int) = l.getD i z := by
  unfold rdOf; simp
theorem word_l0 (a : ByteArray) (ws : List ByteArray) (hw : ws.length ≤ 100) : ∀ (d i : Nat), ws.length = i + d →
    Ev (fun k => ratlineref4_isWord.l0 k a ws i) ((ws.drop i).any (fun x => decide (x.data.toList = a.data.toList))) := by
  intro d
  induction d with
  | zero =>
    intro i hi
    rw [List.drop_of_length_le (by omega)]
    refine Ev.step (f := fun _ => some _) (fun k => ?_) (Ev.now _)
    simp only [ratlineref4_isWord.l0]
    rw [if_neg (by omega)]
    rfl
  | succ d ih =>
    intro i hi
    have hlt : i < ws.length := by omega
    rw [List.drop_eq_getElem_cons hlt, List.any_cons]
    have hr : rdOf ByteArray.empty ws (i : Int) = ws[i] := by rw [rdOf_nat, List.getD_eq_getElem?_getD, List.getElem?_eq_getElem hlt]; rfl
    by_cases h : ws[i].data.toList = a.data.toList
    · rw [decide_eq_true h, Bool.true_or]
      refine Ev.step (f := fun _ => some _) (fun k => ?_) (Ev.now _)
      simp only [ratlineref4_isWord.l0]
      rw [if_pos (Int.ofNat_lt.2 hlt), if_pos (Int.natCast_nonneg i), hr, Lib.toList_data, Lib.toList_data, if_pos h]
    · rw [decide_eq_false h, Bool.false_or]
      refine Ev.step (fun k => ?_) (ih (i + 1) (by omega))
      simp only [ratlineref4_isWord.l0]
      rw [if_pos (Int.ofNat_lt.2 hlt), if_pos (Int.natCast_nonneg i), hr, Lib.toList_data, Lib.toList_data, if_neg h, wrap_id (by omega) (by omega)]
      rfl
def wordB : List ByteArray := [(⟨#[102, 110]⟩ : ByteArray), (⟨#[108, 101, 116]⟩ : ByteArray), (⟨#[105, 102]⟩ : ByteArray), (⟨#[101, 108, 115, 101]⟩ : ByteArray), (⟨#[119, 104, 105, 108, 101]⟩ : ByteArray), (⟨#[98, 114, 101, 97, 107]⟩ : ByteArray), (⟨#[99, 111, 110, 116, 105, 110, 117, 101]⟩ : ByteArray), (⟨#[114, 101, 116, 117, 114, 110]⟩ : ByteArray), (⟨#[112, 114, 105, 110, 116]⟩ : ByteArray), (⟨#[110, 105, 108]⟩ : ByteArray)]
theorem word_any (t : List UInt8) : wordB.any (fun x => decide (x.data.toList = t)) = wordList.contains t := by
  rw [Bool.eq_iff_iff]
  simp only [wordB, wordList, List.contains_iff_mem, List.mem_cons, List.not_mem_nil, or_false, List.any_cons, List.any_nil, Bool.or_false, Bool.or_eq_true, decide_eq_true_eq, eq_comm (b := t)]
theorem word_ev (a : ByteArray) : Ev (fun k => ratlineref4_isWord.f k a) (wordList.contains a.data.toList) := by
  have := word_l0 a wordB (by decide) 10 0 rfl
  rw [List.drop_zero, word_any] at this
  exact Ev.congr (fun k => rfl) this
/-! op -/
theorem pre2 (x y c d : UInt8) (r : List UInt8) : [x, y].isPrefixOf (c :: d :: r) = decide ([c, d] = [x, y]) := by
  simp only [List.isPrefixOf, Bool.and_true]
  by_cases h1 : x = c
  · subst h1
    by_cases h2 : y = d
    · subst h2; simp
    · simp [h2, Ne.symm h2]
  · simp [h1, Ne.symm h1]
theorem op_j0 (k : Nat) (a : ByteArray) {c : UInt8} {r : List UInt8} (e : a.data.toList = c :: r) : ratlineref4_op.j0 (k + 1) a = some (if lexOnes.contains c then ⟨#[c]⟩ else ⟨#[]⟩) := by
  have h0 : 0 < a.size := by rw [← len_list, e]; simp
  have hx : a.extract 0 1 = ⟨#[c]⟩ := by rw [ext0, e]; rfl
  simp only [ratlineref4_op.j0]
  rw [if_pos (show (0 : Int) < (a.size : Int) by omega), (byte0 e).1, hx]
  simp only [if_pos (Nat.zero_le 1), if_pos (show (1 : Int) ≤ (a.size : Int) by omega)]
  by_cases hc : lexOnes.contains c = true
  · rw [if_pos hc]
    simp only [lexOnes, List.contains_iff_mem, List.mem_cons, List.not_mem_nil, or_false] at hc
    rcases hc with rfl | rfl | rfl | rfl | rfl | rfl | rfl | rfl | rfl | rfl | rfl | rfl | rfl | rfl | rfl | rfl | rfl <;> rfl
  · rw [if_neg hc]
    have ne : ∀ x : UInt8, x ∈ lexOnes → ¬ (c.toNat : Int) = (x.toNat : Int) := by
      intro x hx' h
      have : c = x := UInt8.toNat_inj.1 (by omega)
      exact hc (by rw [List.contains_iff_mem, this]; exact hx')
    have n1 : ¬ (c.toNat : Int) = 40 := ne 40 (by decide); have n2 : ¬ (c.toNat : Int) = 41 := ne 41 (by decide); have n3 : ¬ (c.toNat : Int) = 123 := ne 123 (by decide); have n4 : ¬ (c.toNat : Int) = 125 := ne 125 (by decide)
    have n5 : ¬ (c.toNat : Int) = 91 := ne 91 (by decide); have n6 : ¬ (c.toNat : Int) = 93 := ne 93 (by decide); have n7 : ¬ (c.toNat : Int) = 44 := ne 44 (by decide); have n8 : ¬ (c.toNat : Int) = 59 := ne 59 (by decide)
    have n9 : ¬ (c.toNat : Int) = 61 := ne 61 (by decide); have n10 : ¬ (c.toNat : Int) = 43 := ne 43 (by decide); have n11 : ¬ (c.toNat : Int) = 45 := ne 45 (by decide); have n12 : ¬ (c.toNat : Int) = 42 := ne 42 (by decide)
    have n13 : ¬ (c.toNat : Int) = 47 := ne 47 (by decide); have n14 : ¬ (c.toNat : Int) = 37 := ne 37 (by decide); have n15 : ¬ (c.toNat : Int) = 60 := ne 60 (by decide); have n16 : ¬ (c.toNat : Int) = 62 := ne 62 (by decide); have n17 : ¬ (c.toNat : Int) = 33 := ne 33 (by decide)
    clear ne hc
    generalize (c.toNat : Int) = x at *
    rw [if_neg n1, if_neg n2, if_neg n3, if_neg n4, if_neg n5, if_neg n6, if_neg n7, if_neg n8, if_neg n9, if_neg n10, if_neg n11, if_neg n12, if_neg n13, if_neg n14, if_neg n15, if_neg n16, if_neg n17]
def opR : Option (List UInt8) → ByteArray
  | some x => ⟨x.toArray⟩
  | none => ⟨#[]⟩
theorem op_one (c : UInt8) (l : List UInt8) (r : List UInt8) (e : l = c :: r) (h : lexOps.find? (fun x => x.isPrefixOf l) = none) : opR (opP l) = (if lexOnes.contains c then ⟨#[c]⟩ else ⟨#[]⟩) := by
  unfold opP
  rw [h, e]
  simp only
  split <;> rfl
theorem op_two (l x : List UInt8) (h : lexOps.find? (fun x => x.isPrefixOf l) = some x) : opR (opP l) = ⟨x.toArray⟩ := by
  unfold opP
  rw [h]
  rfl
theorem op_ev (a : ByteArray) (h0 : 0 < a.size) : Ev (fun k => ratlineref4_op.f k a) (opR (opP a.data.toList)) := by
  obtain ⟨c, r, e⟩ : ∃ c r, a.data.toList = c :: r := by
    cases h : a.data.toList with
    | nil => exact absurd h0 (by rw [← len_list, h]; simp)
    | cons c r => exact ⟨c, r, rfl⟩
  have hl : a.size = r.length + 1 := by rw [← len_list, e]; rfl
  cases r with
  | nil =>
    have hn : lexOps.find? (fun x => x.isPrefixOf a.data.toList) = none := by
      rw [e]; simp [lexOps, List.find?, List.isPrefixOf]
    rw [op_one c _ _ e hn]
    refine Ev.step (f := fun _ => some _) (fun k => ?_) (Ev.now _)
    unfold ratlineref4_op.f
    rw [if_neg (by rw [hl]; decide), op_j0 k a e]
  | cons d r =>
    simp only [List.length_cons] at hl
    have hx : a.extract 0 2 = ⟨#[c, d]⟩ := by rw [ext0, e]; rfl
    have hj : ∀ x y, [x, y].isPrefixOf a.data.toList = decide ([c, d] = [x, y]) := fun x y => by rw [e]; exact pre2 x y c d r
    refine Ev.step (f := fun _ => some _) (fun k => ?_) (Ev.now _)
    unfold ratlineref4_op.f
    rw [if_pos (show (a.size : Int) ≥ 2 by omega), if_pos (Nat.zero_le 2), if_pos (show (2 : Int) ≤ (a.size : Int) by omega), hx, Lib.toList_data, show (⟨#[c, d]⟩ : ByteArray).data.toList = [c, d] from rfl]
    by_cases h1 : [c, d] = ([61, 61] : List UInt8)
    · rw [if_pos h1, op_two _ [61, 61] (by simp only [lexOps, List.find?_cons, hj]; rw [decide_eq_true h1]), ← h1]
    by_cases h2 : [c, d] = ([33, 61] : List UInt8)
    · rw [if_neg h1, if_pos h2, op_two _ [33, 61] (by simp only [lexOps, List.find?_cons, hj]; rw [decide_eq_false h1, decide_eq_true h2]), ← h2]
    by_cases h3 : [c, d] = ([60, 61] : List UInt8)
    · rw [if_neg h1, if_neg h2, if_pos h3, op_two _ [60, 61] (by simp only [lexOps, List.find?_cons, hj]; rw [decide_eq_false h1, decide_eq_false h2, decide_eq_true h3]), ← h3]
    by_cases h4 : [c, d] = ([62, 61] : List UInt8)
    · rw [if_neg h1, if_neg h2, if_neg h3, if_pos h4, op_two _ [62, 61] (by simp only [lexOps, List.find?_cons, hj]; rw [decide_eq_false h1, decide_eq_false h2, decide_eq_false h3, decide_eq_true h4]), ← h4]
    by_cases h5 : [c, d] = ([38, 38] : List UInt8)
    · rw [if_neg h1, if_neg h2, if_neg h3, if_neg h4, if_pos h5, op_two _ [38, 38] (by simp only [lexOps, List.find?_cons, hj]; rw [decide_eq_false h1, decide_eq_false h2, decide_eq_false h3, decide_eq_false h4, decide_eq_true h5]), ← h5]
    by_cases h6 : [c, d] = ([124, 124] : List UInt8)
    · rw [if_neg h1, if_neg h2, if_neg h3, if_neg h4, if_neg h5, if_pos h6, op_two _ [124, 124] (by simp only [lexOps, List.find?_cons, hj]; rw [decide_eq_false h1, decide_eq_false h2, decide_eq_false h3, decide_eq_false h4, decide_eq_false h5, decide_eq_true h6]), ← h6]
    rw [if_neg h1, if_neg h2, if_neg h3, if_neg h4, if_neg h5, if_neg h6, op_j0 k a e, op_one c _ _ e (by simp only [lexOps, List.find?_cons, List.find?_nil, hj]; rw [decide_eq_false h1, decide_eq_false h2, decide_eq_false h3, decide_eq_false h4, decide_eq_false h5, decide_eq_false h6])]
end Go.Proofs.YtmmndmfphcbieaaDoor.XLex
