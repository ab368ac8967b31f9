/- XA: plain: words parted by blanks, small statements as words and as trees, what the check tells of them. -/
import Derived.Test.YtjofmihdeblbmaaGreatDoorXaM33
namespace Go.Proofs.YtjofmihdeblbmaaGreatDoor.Xa
open Go Go.RowKit
set_option linter.unusedVariables false
set_option linter.unusedSimpArgs false
set_option maxRecDepth 100000
set_option maxHeartbeats 2000000
/-! words parted by single blanks -/
def wKind (w : List UInt8) : Int := match w with
  | [] => 0
  | c :: _ => if isLet (c.toNat : Int) then (if isWd w then 2 else 1) else if isDig (c.toNat : Int) then 3 else 6
def wNum (w : List UInt8) : Int := match w with
  | [] => 0
  | c :: _ => if isDig (c.toNat : Int) then (c.toNat : Int) - 48 else 0
def wText (w : List UInt8) : ByteArray := match w with
  | [] => ⟨#[]⟩
  | c :: _ => if isDig (c.toNat : Int) then ⟨#[]⟩ else ⟨w.toArray⟩
def goodW (w : List UInt8) : Bool := match w with
  | [] => false
  | c :: r => (isLet (c.toNat : Int) && w.all (fun x => isNam (x.toNat : Int)) && decide (w.length ≤ 16)) || (isDig (c.toNat : Int) && r.isEmpty) || (r.isEmpty && lexOnes.contains c)
def flatW (ws : List (List UInt8)) : List UInt8 := ws.flatMap (fun w => w ++ [32])
theorem flatW_cons (w : List UInt8) (ws : List (List UInt8)) : flatW (w :: ws) = w ++ 32 :: flatW ws := by simp [flatW]
theorem flatW_append (a b : List (List UInt8)) : flatW (a ++ b) = flatW a ++ flatW b := by simp [flatW]
def toksAt : Nat → List (List UInt8) → List Tok
  | _, [] => []
  | p, w :: ws => ⟨wKind w, wText w, wNum w, (p : Nat)⟩ :: toksAt (p + w.length + 1) ws
theorem span_app (p : Int → Bool) : ∀ (w rest : List UInt8), w.all (fun x => p (x.toNat : Int)) = true → (∀ c r, rest = c :: r → p (c.toNat : Int) = false) → spanI p (w ++ rest) = w.length
  | [], [], _, _ => rfl
  | [], c :: r, _, h => by
    rw [List.nil_append, spanI, if_neg (by rw [h c r rfl]; decide)]; rfl
  | c :: w, rest, ha, h => by
    simp only [List.all_cons, Bool.and_eq_true] at ha
    rw [List.cons_append, spanI, if_pos ha.1, span_app p w rest ha.2 h, List.length_cons]
    omega
theorem let_not_dig {c : Int} (h : isLet c = true) : isDig c = false := by
  simp only [isLet, isDig, Bool.or_eq_true, Bool.and_eq_true, decide_eq_true_eq, beq_iff_eq, Bool.and_eq_false_imp, decide_eq_false_iff_not] at *
  omega
theorem dig_cases (c : UInt8) (h : isDig (c.toNat : Int) = true) : c = 48 ∨ c = 49 ∨ c = 50 ∨ c = 51 ∨ c = 52 ∨ c = 53 ∨ c = 54 ∨ c = 55 ∨ c = 56 ∨ c = 57 := by
  have h2 : 48 ≤ c.toNat ∧ c.toNat ≤ 57 := by
    simp only [isDig, Bool.and_eq_true, decide_eq_true_eq] at h; omega
  have : c.toNat = 48 ∨ c.toNat = 49 ∨ c.toNat = 50 ∨ c.toNat = 51 ∨ c.toNat = 52 ∨ c.toNat = 53 ∨ c.toNat = 54 ∨ c.toNat = 55 ∨ c.toNat = 56 ∨ c.toNat = 57 := by omega
  simp only [← UInt8.toNat_inj]
  exact this
def EndB (rest : List UInt8) : Prop := rest = [] ∨ ∃ r, rest = 32 :: r
theorem EndB.stop {rest : List UInt8} (h : EndB rest) (p : Int → Bool) (hp : p 32 = false) : ∀ c r, rest = c :: r → p (c.toNat : Int) = false := by
  rintro c r rfl
  rcases h with h | ⟨r', h⟩
  · cases h
  · cases h; exact hp
theorem size_data (b : ByteArray) : b.size = b.data.toList.length := rfl
theorem first_of {b : ByteArray} {c : UInt8} {l : List UInt8} (h : b.data.toList = c :: l) : b[0]? = some c := by
  have hs : 0 < b.size := by rw [size_data, h]; simp
  rw [getElem?_pos b 0 hs]
  congr 1
  show b.data[0] = c
  rw [← Array.getElem_toList]
  simp [h]
theorem ext_take (b : ByteArray) (n : Nat) : b.extract 0 n = ⟨(b.data.toList.take n).toArray⟩ := by
  apply ByteArray.ext
  apply Array.ext'
  simp [ByteArray.data_extract, Array.toList_extract, List.extract_eq_take_drop]
theorem tokF_word (w rest : List UInt8) (b : ByteArray) (hb : b.data.toList = w ++ rest) (hr : EndB rest) (hg : goodW w = true) (hs : b.size ≤ 4000) :
    tokF b = some (wKind w, wText w, wNum w, 0, (w.length : Int)) := by
  cases w with
  | nil => cases hg
  | cons c w =>
    have h0 : b[0]? = some c := first_of (by rw [hb]; rfl)
    unfold tokF
    rw [h0]
    simp only
    simp only [goodW, Bool.or_eq_true, Bool.and_eq_true, decide_eq_true_eq] at hg
    rcases hg with (⟨⟨hl, ha⟩, hn⟩ | ⟨hd, he⟩) | ⟨he, ho⟩
    · rw [if_pos hl]
      have hsp : spanI isNam b.data.toList = (c :: w).length := by rw [hb]; exact span_app isNam (c :: w) rest ha (hr.stop isNam (by decide))
      unfold lex_name.f
      rw [if_pos (by omega), hsp, if_neg (by omega), ext_take, hb, List.take_left]
      simp only [wKind, wText, wNum, hl, let_not_dig hl, if_true, Bool.false_eq_true, if_false]
    · have hlet : isLet (c.toNat : Int) = false := by
        cases h : isLet (c.toNat : Int)
        · rfl
        · rw [let_not_dig h] at hd; cases hd
      obtain rfl : w = [] := by simpa using he
      rw [if_neg (by rw [hlet]; decide), if_pos hd]
      have hsp : spanI isDig b.data.toList = 1 := by rw [hb]; exact span_app isDig [c] rest (by simp [hd]) (hr.stop isDig (by decide))
      unfold lex_number.f
      rw [if_pos (by omega), hsp]
      have hb1 : byteAt b.data.toList 1 = -1 ∨ byteAt b.data.toList 1 = 32 := by
        rw [hb]
        rcases hr with rfl | ⟨r, rfl⟩
        · left; rfl
        · right; rfl
      have hk : lex_number.g b.data.toList 1 = (3, ⟨#[]⟩, (c.toNat : Int) - 48, 0, 1) := by
        unfold lex_number.g
        have ht : b.data.toList.take 1 = [c] := by rw [hb]; rfl
        rw [ht]
        have hp : Lib.parseIntB 64 [c] = .ok ((c.toNat : Int) - 48) := by
          rcases dig_cases c hd with rfl | rfl | rfl | rfl | rfl | rfl | rfl | rfl | rfl | rfl <;> rfl
        rw [hp]
        simp only
        rcases hb1 with h | h <;> rw [h] <;> rfl
      rw [hk]
      simp only [wKind, wText, wNum, hlet, hd, if_true, Bool.false_eq_true, if_false]
      rfl
    · obtain rfl : w = [] := by simpa using he
      have hc : c ∈ lexOnes := by simpa using ho
      have hx : lex_op.f b = some (6, ⟨#[c]⟩, 0, 0, 1) := by
        unfold lex_op.f
        rw [if_pos (by rw [size_data, hb]; simp)]
        unfold lex_op.g
        have hfn : lexOps.find? (fun x => Lib.hasPrefix b.data.toList x) = none := by
          rw [hb]
          rcases hr with rfl | ⟨r, rfl⟩ <;> simp [lexOps, Lib.hasPrefix, List.isPrefixOf, List.find?]
        have hb0 : byteAt b.data.toList 0 = (c.toNat : Int) := by rw [hb]; rfl
        rw [hfn, hb0]
        simp only
        have hi : 0 ≤ Lib.indexByte lexOnes ((c.toNat : Int).toNat.toUInt8) := by
          simp only [lexOnes, List.mem_cons, List.not_mem_nil, or_false] at hc
          rcases hc with rfl | rfl | rfl | rfl | rfl | rfl | rfl | rfl | rfl | rfl | rfl | rfl | rfl | rfl | rfl | rfl | rfl <;> decide
        rw [if_pos hi, ext_take, hb]
        rfl
      simp only [lexOnes, List.mem_cons, List.not_mem_nil, or_false] at hc
      rcases hc with rfl | rfl | rfl | rfl | rfl | rfl | rfl | rfl | rfl | rfl | rfl | rfl | rfl | rfl | rfl | rfl | rfl <;> exact hx
theorem good_head {w : List UInt8} (h : goodW w = true) (rest : List UInt8) : skipB false (w ++ rest) = 0 := by
  cases w with
  | nil => cases h
  | cons c w =>
    have hx : isBlank (c.toNat : Int) = false ∧ (c.toNat : Int) ≠ 35 := by
      simp only [goodW, Bool.or_eq_true, Bool.and_eq_true, decide_eq_true_eq] at h
      rcases h with (⟨⟨hl, ha⟩, hn⟩ | ⟨hd, he⟩) | ⟨he, ho⟩
      · simp only [isLet, isBlank, Bool.or_eq_true, Bool.and_eq_true, decide_eq_true_eq, beq_iff_eq, Bool.or_eq_false_iff, beq_eq_false_iff_ne] at *
        omega
      · simp only [isDig, isBlank, Bool.or_eq_true, Bool.and_eq_true, decide_eq_true_eq, beq_iff_eq, Bool.or_eq_false_iff, beq_eq_false_iff_ne] at *
        omega
      · have hc : c ∈ lexOnes := by simpa using ho
        simp only [lexOnes, List.mem_cons, List.not_mem_nil, or_false] at hc
        rcases hc with rfl | rfl | rfl | rfl | rfl | rfl | rfl | rfl | rfl | rfl | rfl | rfl | rfl | rfl | rfl | rfl | rfl <;> decide
    rw [List.cons_append, skipB, if_neg (by rw [hx.1]; decide), if_neg hx.2]
theorem good_pos {w : List UInt8} (h : goodW w = true) : 0 < w.length := by
  cases w with
  | nil => cases h
  | cons c w => simp
theorem skip_end : skipB false [] = 0 := rfl
theorem skip_32 (l : List UInt8) : skipB false (32 :: l) = 1 + skipB false l := by rw [skipB, if_pos (by decide)]
theorem tokL_words (s : ByteArray) (hs : s.size ≤ 4000) (last : List UInt8) (hlast : goodW last = true) : ∀ (ws : List (List UInt8)) (pre : List UInt8) (f : Nat) (acc : List Tok),
    s.data.toList = pre ++ (flatW ws ++ last) → (∀ w ∈ ws, goodW w = true) → ws.length + 1 < f →
    tokL s f pre.length acc = some (acc ++ toksAt pre.length (ws ++ [last]), 0, 0)
  | [], pre, f + 1, acc, hd, hg, hf => by
    have hz : s.size = pre.length + last.length := by rw [size_data, hd]; simp [flatW]
    have hp := good_pos hlast
    have hde : (s.extract pre.length s.size).data.toList = last := by rw [extract_list, hd]; simp [flatW]
    rw [tokL, if_pos (by omega), tokF_word last [] (s.extract pre.length s.size) (by rw [hde, List.append_nil]) (.inl rfl) hlast (by rw [size_data, hde]; omega)]
    simp only
    have h1 : ((last.length : Int) == 0) = false := by simp; intro h; rw [h] at hp; exact absurd hp (by decide)
    rw [h1]
    simp only [Bool.false_eq_true, if_false, Int.toNat_natCast]
    have h2 : leB 0 (last.length : Int) = true := by unfold leB; simp
    rw [h2, if_pos (by simp; omega)]
    have h3 : s.data.toList.drop (pre.length + last.length) = [] := List.drop_of_length_le (by rw [← size_data]; omega)
    rw [h3, skip_end]
    cases f with
    | zero => simp at hf
    | succ f =>
      rw [tokL, if_neg (by omega)]
      rfl
  | w :: ws, pre, f + 1, acc, hd, hg, hf => by
    have hgw := hg w List.mem_cons_self
    have hp := good_pos hgw
    rw [flatW_cons] at hd
    have hz : s.size = pre.length + w.length + 1 + ((flatW ws).length + last.length) := by rw [size_data, hd]; simp; omega
    have hde : (s.extract pre.length s.size).data.toList = w ++ 32 :: (flatW ws ++ last) := by rw [extract_list, hd]; simp
    rw [tokL, if_pos (by omega), tokF_word w (32 :: (flatW ws ++ last)) (s.extract pre.length s.size) hde (.inr ⟨_, rfl⟩) hgw (by rw [size_data, hde]; simp; omega)]
    simp only
    have h1 : ((w.length : Int) == 0) = false := by simp; intro h; rw [h] at hp; exact absurd hp (by decide)
    rw [h1]
    simp only [Bool.false_eq_true, if_false, Int.toNat_natCast]
    have h2 : leB 0 (w.length : Int) = true := by unfold leB; simp
    rw [h2, if_pos (by simp; omega)]
    have h3 : s.data.toList.drop (pre.length + w.length) = 32 :: (flatW ws ++ last) := by
      rw [hd, ← List.length_append, ← List.append_assoc, show (pre ++ (w ++ 32 :: flatW ws) ++ last) = (pre ++ w) ++ (32 :: (flatW ws ++ last)) by simp, List.drop_left]
    have h4 : skipB false (flatW ws ++ last) = 0 := by
      cases ws with
      | nil => simpa [flatW] using good_head hlast []
      | cons v vs => rw [flatW_cons, List.append_assoc]; exact good_head (hg v (by simp)) _
    rw [h3, skip_32, h4]
    have ih := tokL_words s hs last hlast ws (pre ++ w ++ [32]) f (acc ++ [⟨wKind w, wText w, wNum w, (pre.length : Nat)⟩]) (by rw [hd]; simp) (fun v hv => hg v (List.mem_cons_of_mem _ hv)) (by simp at hf; omega)
    have hl : (pre ++ w ++ [32]).length = pre.length + w.length + 1 := by simp; omega
    rw [hl] at ih
    rw [Nat.add_zero, ih]
    simp [toksAt]
theorem len_flat : ∀ ws : List (List UInt8), ws.length ≤ (flatW ws).length
  | [] => Nat.le_refl _
  | w :: ws => by
    have := len_flat ws
    rw [flatW_cons]
    simp
    omega
theorem tokens_words (s : ByteArray) (hs : s.size ≤ 4000) (ws : List (List UInt8)) (last : List UInt8) (hg : ∀ w ∈ ws, goodW w = true) (hlast : goodW last = true) (hd : s.data.toList = flatW ws ++ last) :
    tokensR s = some (toksAt 0 (ws ++ [last]), 0, 0) := by
  have h4 : skipB false s.data.toList = 0 := by
    rw [hd]
    cases ws with
    | nil => simpa [flatW] using good_head hlast []
    | cons v vs => rw [flatW_cons, List.append_assoc]; exact good_head (hg v (by simp)) _
  unfold tokensR
  rw [if_neg (by omega), h4]
  have hl := len_flat ws
  have hz : s.size = (flatW ws).length + last.length := by rw [size_data, hd]; simp
  have hp := good_pos hlast
  have := tokL_words s hs last hlast ws [] 4001 [] (by rw [hd]; rfl) hg (by omega)
  simpa using this
end Go.Proofs.YtjofmihdeblbmaaGreatDoor.Xa
namespace Go.Proofs.YtjofmihdeblbmaaGreatDoor.Xa
open Go Go.RowKit
set_option linter.unusedVariables false
set_option linter.unusedSimpArgs false
set_option maxRecDepth 100000
set_option maxHeartbeats 2000000
/-! small statements, as words and as trees -/
def tk (c : PC) (i : Nat) : Option (Int × ByteArray × Int) := (c.toks[i]?).map fun x => (x.kind, x.text, x.n)
def tkW (w : List UInt8) : Int × ByteArray × Int := (wKind w, wText w, wNum w)
def At (c : PC) : Nat → List (List UInt8) → Prop
  | _, [] => True
  | i, w :: ws => tk c i = some (tkW w) ∧ At c (i + 1) ws
theorem At.append {c : PC} : ∀ {i : Nat} {a b : List (List UInt8)}, At c i (a ++ b) ↔ At c i a ∧ At c (i + a.length) b
  | i, [], b => by simp [At]
  | i, w :: a, b => by
    have := @At.append c (i + 1) a b
    simp only [List.cons_append, At, this, List.length_cons, and_assoc]
    rw [show i + 1 + a.length = i + (a.length + 1) by omega]
theorem at_toks (c : PC) : ∀ (ws : List (List UInt8)) (p : Nat) (pre : List Tok), c.toks = pre ++ toksAt p ws → At c pre.length ws
  | [], _, _, _ => trivial
  | w :: ws, p, pre, h => by
    refine ⟨?_, ?_⟩
    · unfold tk
      rw [h, toksAt, List.getElem?_append_right (Nat.le_refl _), Nat.sub_self]
      rfl
    · have := at_toks c ws (p + w.length + 1) (pre ++ [⟨wKind w, wText w, wNum w, (p : Nat)⟩]) (by rw [h, toksAt]; simp)
      simpa using this
theorem isB_at {c : PC} {i : Nat} {d a k' n : Int} {t' : ByteArray} (h : tk c i = some (k', t', n)) (k : Int) (t : ByteArray) : isB c ⟨i, d, a, 0⟩ k t = (k' == k && t'.data.toList == t.data.toList) := by
  unfold tk at h
  cases hx : c.toks[i]? with
  | none => rw [hx] at h; cases h
  | some x => rw [hx] at h; cases h; simp [isB, hx]
theorem kind_at {c : PC} {i : Nat} {d a k' n : Int} {t' : ByteArray} (h : tk c i = some (k', t', n)) : kindOf c ⟨i, d, a, 0⟩ = k' := by
  unfold tk at h
  cases hx : c.toks[i]? with
  | none => rw [hx] at h; cases h
  | some x => rw [hx] at h; cases h; simp [kindOf, hx]
theorem text_at {c : PC} {i : Nat} {k' n : Int} {t' : ByteArray} (h : tk c i = some (k', t', n)) : textAt c i = t' := by
  unfold tk at h
  cases hx : c.toks[i]? with
  | none => rw [hx] at h; cases h
  | some x => rw [hx] at h; cases h; simp [textAt, hx]
theorem num_at {c : PC} {i : Nat} {k' n : Int} {t' : ByteArray} (h : tk c i = some (k', t', n)) : numAt c i = n := by
  unfold tk at h
  cases hx : c.toks[i]? with
  | none => rw [hx] at h; cases h
  | some x => rw [hx] at h; cases h; simp [numAt, hx]
theorem calls_at {c : PC} {i : Nat} {d a k' n : Int} {t' : ByteArray} (h : tk c (i + 1) = some (k', t', n)) : calls1 c ⟨i, d, a, 0⟩ = (k' == 6 && t'.data.toList == [40]) := by
  unfold tk at h
  cases hx : c.toks[i + 1]? with
  | none => rw [hx] at h; cases h
  | some x => rw [hx] at h; cases h; simp [calls1, hx]
theorem sets_at {c : PC} {i : Nat} {d a k' n : Int} {t' : ByteArray} (h : tk c (i + 1) = some (k', t', n)) : sets1 c ⟨i, d, a, 0⟩ = (k' == 6 && t'.data.toList == [61]) := by
  unfold tk at h
  cases hx : c.toks[i + 1]? with
  | none => rw [hx] at h; cases h
  | some x => rw [hx] at h; cases h; simp [sets1, hx]
theorem name_at {c : PC} {i : Nat} {d a n : Int} {t' : ByteArray} (h : tk c i = some (1, t', n)) : nameV c ⟨i, d, a, 0⟩ = t' := by
  have hk := kind_at (d := d) (a := a) h
  unfold tk at h
  cases hx : c.toks[i]? with
  | none => rw [hx] at h; cases h
  | some x =>
    rw [hx] at h
    simp only [Option.map_some, Option.some.injEq, Prod.mk.injEq] at h
    simp [nameV, hx, hk, h.2.1]
theorem wr_id {n : Int} (h1 : -1000000 ≤ n) (h2 : n ≤ 1000000) : wr n = n := by
  simp [wr, IntKind.wrap, IntKind.bits, IntKind.signed]
  omega
/-- no operator stands here -/
def opsA : List ByteArray := [⟨#[124, 124]⟩, ⟨#[38, 38]⟩, ⟨#[61, 61]⟩, ⟨#[33, 61]⟩, ⟨#[60]⟩, ⟨#[60, 61]⟩, ⟨#[62]⟩, ⟨#[62, 61]⟩, ⟨#[43]⟩, ⟨#[45]⟩, ⟨#[42]⟩, ⟨#[47]⟩, ⟨#[37]⟩, ⟨#[91]⟩]
def Stop (c : PC) (s : PS) : Prop := ∀ t ∈ opsA, isB c s 6 t = false
theorem Stop.row {c : PC} {s : PS} (h : Stop c s) : ∀ n, findS c s n = (0, s) := by
  intro n
  unfold findS binsOf
  have h1 := h ⟨#[61, 61]⟩ (by simp [opsA])
  have h2 := h ⟨#[33, 61]⟩ (by simp [opsA])
  have h3 := h ⟨#[60]⟩ (by simp [opsA])
  have h4 := h ⟨#[60, 61]⟩ (by simp [opsA])
  have h5 := h ⟨#[62]⟩ (by simp [opsA])
  have h6 := h ⟨#[62, 61]⟩ (by simp [opsA])
  have h7 := h ⟨#[43]⟩ (by simp [opsA])
  have h8 := h ⟨#[45]⟩ (by simp [opsA])
  have h9 := h ⟨#[42]⟩ (by simp [opsA])
  have h10 := h ⟨#[47]⟩ (by simp [opsA])
  have h11 := h ⟨#[37]⟩ (by simp [opsA])
  split
  · simp [findL, h1, h2, h3, h4, h5, h6]
  · split
    · simp [findL, h7, h8]
    · split
      · simp [findL, h9, h10, h11]
      · rfl
theorem up_row {c : PC} {s s1 : PS} {nd : Nd} {f : Nat} {n : Int} (he : s.e = 0) (hn : n = 3 ∨ n = 4 ∨ n = 5) (hs : Stop c s1) (h : pLevel (f + 1) c s (wr (n + 1)) = some (nd, s1)) : pLevel (f + 3) c s n = some (nd, s1) := by
  have h1 : leB n 2 = false := by unfold leB; simp; omega
  have h2 : ltB n 6 = true := by unfold ltB; simp; omega
  rw [pLevel, he, h1, h2]
  simp only [beq_self_eq_true, Bool.not_true, Bool.false_eq_true, if_false, if_true]
  rw [pRow, h]
  simp only
  rw [hs.row, pRowL]
  rfl
theorem up_logic {c : PC} {s s1 : PS} {nd : Nd} {f : Nat} {n : Int} (he : s.e = 0) (hn : n = 1 ∨ n = 2) (hs : Stop c s1) (h : pLevel (f + 1) c s (wr (n + 1)) = some (nd, s1)) : pLevel (f + 3) c s n = some (nd, s1) := by
  have h1 : leB n 2 = true := by unfold leB; simp; omega
  rw [pLevel, he, h1]
  simp only [beq_self_eq_true, Bool.not_true, Bool.false_eq_true, if_false, if_true]
  rw [pLogic, h]
  simp only
  have h3 := hs ⟨#[38, 38]⟩ (by simp [opsA])
  have h4 := hs ⟨#[124, 124]⟩ (by simp [opsA])
  split
  · rw [pLogicL, h3]; rfl
  · rw [pLogicL, h4]; rfl
theorem up_unary {c : PC} {s : PS} {f : Nat} (he : s.e = 0) (h1 : isB c s 6 ⟨#[45]⟩ = false) (h2 : isB c s 6 ⟨#[33]⟩ = false) : pLevel (f + 2) c s 6 = pLevel f c s 7 := by
  rw [pLevel, he]
  have h3 : leB 6 2 = false := by decide
  have h4 : ltB 6 6 = false := by decide
  rw [h3, h4]
  simp only [beq_self_eq_true, Bool.not_true, Bool.false_eq_true, if_false, if_true]
  rw [pUnary, h1, h2]
  rfl
theorem up_all {c : PC} {s s1 : PS} {nd : Nd} {f : Nat} (he : s.e = 0) (hs : Stop c s1) (h : pLevel (f + 1) c s 6 = some (nd, s1)) : pLevel (f + 11) c s 1 = some (nd, s1) := by
  have a5 := up_row (n := 5) he (by decide) hs (by rw [show wr (5 + 1) = 6 by decide]; exact h)
  have a4 := up_row (n := 4) he (by decide) hs (by rw [show wr (4 + 1) = 5 by decide]; exact a5)
  have a3 := up_row (n := 3) he (by decide) hs (by rw [show wr (3 + 1) = 4 by decide]; exact a4)
  have a2 := up_logic (n := 2) he (by decide) hs (by rw [show wr (2 + 1) = 3 by decide]; exact a3)
  exact up_logic (n := 1) he (by decide) hs (by rw [show wr (1 + 1) = 2 by decide]; exact a2)
theorem lvl7 {c : PC} {s s1 : PS} {nd : Nd} {f : Nat} (he : s.e = 0) (hs : isB c s1 6 ⟨#[91]⟩ = false) (h : pPlain (f + 1) c s = some (nd, s1)) : pLevel (f + 3) c s 7 = some (nd, s1) := by
  rw [pLevel, he]
  have h3 : leB 7 2 = false := by decide
  have h4 : ltB 7 6 = false := by decide
  rw [h3, h4]
  simp only [beq_self_eq_true, Bool.not_true, Bool.false_eq_true, if_false, if_true]
  rw [if_neg (by decide), pIndex, h]
  simp only
  rw [pIndexL, hs]
  rfl
/-- an end of an expression -/
theorem stop_at {c : PC} {i : Nat} {d a n : Int} {b : ByteArray} (h : tk c i = some (6, b, n)) (hb : b = ⟨#[59]⟩ ∨ b = ⟨#[123]⟩ ∨ b = ⟨#[41]⟩ ∨ b = ⟨#[93]⟩) : Stop c ⟨i, d, a, 0⟩ := by
  intro t ht
  rw [isB_at h]
  simp only [opsA, List.mem_cons, List.not_mem_nil, or_false] at ht
  rcases hb with rfl | rfl | rfl | rfl <;> rcases ht with rfl | rfl | rfl | rfl | rfl | rfl | rfl | rfl | rfl | rfl | rfl | rfl | rfl | rfl <;> decide
theorem plain_all {c : PC} {s s1 : PS} {nd : Nd} {f : Nat} (he : s.e = 0) (hs : Stop c s1) (h1 : isB c s 6 ⟨#[45]⟩ = false) (h2 : isB c s 6 ⟨#[33]⟩ = false) (h : pPlain (f + 1) c s = some (nd, s1)) : pLevel (f + 15) c s 1 = some (nd, s1) :=
  up_all (f := f + 4) he hs (by rw [up_unary he h1 h2]; exact lvl7 he (hs _ (by simp [opsA])) h)
theorem leaf_int {c : PC} {i : Nat} {d a n m : Int} {t' b : ByteArray} (h0 : tk c i = some (3, t', n)) (h1 : tk c (i + 1) = some (6, b, m)) (hb : b = ⟨#[59]⟩ ∨ b = ⟨#[123]⟩ ∨ b = ⟨#[41]⟩ ∨ b = ⟨#[93]⟩) (f : Nat) :
    pLevel (f + 20) c ⟨i, d, a, 0⟩ 1 = some (.mk 15 0 ⟨#[]⟩ n [], ⟨i + 1, d, a, 0⟩) := by
  refine plain_all (f := f + 5) rfl (stop_at h1 hb) (by rw [isB_at h0]; rfl) (by rw [isB_at h0]; rfl) ?_
  rw [pPlain, kind_at h0, num_at h0]
  rfl
theorem leaf_name {c : PC} {i : Nat} {d a n m : Int} {t' b : ByteArray} (h0 : tk c i = some (1, t', n)) (h1 : tk c (i + 1) = some (6, b, m)) (hb : b = ⟨#[59]⟩ ∨ b = ⟨#[123]⟩ ∨ b = ⟨#[41]⟩ ∨ b = ⟨#[93]⟩) (f : Nat) :
    pLevel (f + 20) c ⟨i, d, a, 0⟩ 1 = some (.mk 19 0 t' 0 [], ⟨i + 1, d, a, 0⟩) := by
  refine plain_all (f := f + 5) rfl (stop_at h1 hb) (by rw [isB_at h0]; rfl) (by rw [isB_at h0]; rfl) ?_
  have hc : calls1 c ⟨i, d, a, 0⟩ = false := by
    rw [calls_at h1]
    rcases hb with rfl | rfl | rfl | rfl <;> decide
  rw [pPlain, kind_at h0]
  simp [pNamed, hc, text_at h0]
/-- a name -/
structure Nam where
  w : List UInt8
  good : goodW w = true
  kind : wKind w = 1
def Nam.b (x : Nam) : ByteArray := ⟨x.w.toArray⟩
theorem Nam.tk (x : Nam) : tkW x.w = (1, x.b, 0) := by
  obtain ⟨w, hg, hk⟩ := x
  cases w with
  | nil => cases hg
  | cons c w =>
    unfold tkW Nam.b
    have hl : isLet (c.toNat : Int) = true := by
      cases h : isLet (c.toNat : Int)
      · simp only [wKind, h, Bool.false_eq_true, if_false] at hk
        split at hk <;> cases hk
      · rfl
    rw [hk]
    simp [wText, wNum, let_not_dig hl]
theorem Nam.notElse (x : Nam) : (x.b.data.toList == [101, 108, 115, 101]) = false := by
  obtain ⟨w, hg, hk⟩ := x
  unfold Nam.b
  simp only [beq_eq_false_iff_ne, ne_eq]
  rintro rfl
  revert hk
  decide +kernel
def k_let : List UInt8 := [108, 101, 116]
def k_print : List UInt8 := [112, 114, 105, 110, 116]
def k_if : List UInt8 := [105, 102]
def k_fn : List UInt8 := [102, 110]
theorem tk_let : tkW k_let = (2, ⟨#[108, 101, 116]⟩, 0) := by decide +kernel
theorem tk_print : tkW k_print = (2, ⟨#[112, 114, 105, 110, 116]⟩, 0) := by decide +kernel
theorem tk_if : tkW k_if = (2, ⟨#[105, 102]⟩, 0) := by decide +kernel
theorem tk_fn : tkW k_fn = (2, ⟨#[102, 110]⟩, 0) := by decide +kernel
theorem tk_1 : tkW [49] = (3, ⟨#[]⟩, 1) := by decide +kernel
theorem tk_semi : tkW [59] = (6, ⟨#[59]⟩, 0) := by decide +kernel
theorem tk_eq : tkW [61] = (6, ⟨#[61]⟩, 0) := by decide +kernel
theorem tk_lb : tkW [123] = (6, ⟨#[123]⟩, 0) := by decide +kernel
theorem tk_rb : tkW [125] = (6, ⟨#[125]⟩, 0) := by decide +kernel
theorem tk_lp : tkW [40] = (6, ⟨#[40]⟩, 0) := by decide +kernel
theorem tk_rp : tkW [41] = (6, ⟨#[41]⟩, 0) := by decide +kernel
theorem tk_co : tkW [44] = (6, ⟨#[44]⟩, 0) := by decide +kernel
inductive Sm where
  | letS (x : Nam)
  | prS (x : Nam)
  | setS (x y : Nam)
  | ifS (l : List Sm)
mutual
def Sm.ws : Sm → List (List UInt8)
  | .letS x => [k_let, x.w, [61], [49], [59]]
  | .prS x => [k_print, x.w, [59]]
  | .setS x y => [x.w, [61], y.w, [59]]
  | .ifS l => [k_if, [49], [123]] ++ (Sm.wss l ++ [[125]])
def Sm.wss : List Sm → List (List UInt8)
  | [] => []
  | s :: l => s.ws ++ Sm.wss l
end
mutual
def Sm.nd : Sm → Nd
  | .letS x => .mk 1 0 x.b 0 [.mk 15 0 ⟨#[]⟩ 1 []]
  | .prS x => .mk 8 0 ⟨#[]⟩ 0 [.mk 19 0 x.b 0 []]
  | .setS x y => .mk 2 0 x.b 0 [.mk 19 0 y.b 0 []]
  | .ifS l => .mk 3 0 ⟨#[]⟩ 0 [.mk 15 0 ⟨#[]⟩ 1 [], .mk 10 0 ⟨#[]⟩ 0 (Sm.nds l)]
def Sm.nds : List Sm → List Nd
  | [] => []
  | s :: l => s.nd :: Sm.nds l
end
mutual
def Sm.need : Sm → Nat
  | .ifS l => Sm.needs l + 40
  | _ => 40
def Sm.needs : List Sm → Nat
  | [] => 2
  | s :: l => s.need + Sm.needs l + 1
end
mutual
def Sm.deep : Sm → Nat
  | .ifS l => Sm.deeps l + 1
  | _ => 0
def Sm.deeps : List Sm → Nat
  | [] => 0
  | s :: l => max s.deep (Sm.deeps l)
end
def NotElse (c : PC) (j : Nat) : Prop := ∃ k t n, tk c j = some (k, t, n) ∧ (t.data.toList == [101, 108, 115, 101]) = false
theorem simple_let {c : PC} {i : Nat} {d a : Int} {x : Nam} (h : At c i [k_let, x.w, [61], [49], [59]]) (f : Nat) :
    pStat (f + 40) c ⟨i, d, a, 0⟩ = some (.mk 1 0 x.b 0 [.mk 15 0 ⟨#[]⟩ 1 []], ⟨i + 5, d, a, 0⟩) := by
  simp only [At, tk_let, tk_eq, tk_1, tk_semi, Nam.tk] at h
  obtain ⟨h0, h1, h2, h3, h4, _⟩ := h
  have hl := leaf_int (d := d) (a := a) h3 h4 (.inl rfl) (f + 18)
  simp [pStat, pSimple, opS, isB_at h0, isB_at h1, isB_at h2, isB_at h4, nameS, name_at h1, kind_at h1, wantS, semi, hl]
theorem simple_print {c : PC} {i : Nat} {d a : Int} {x : Nam} (h : At c i [k_print, x.w, [59]]) (f : Nat) :
    pStat (f + 40) c ⟨i, d, a, 0⟩ = some (.mk 8 0 ⟨#[]⟩ 0 [.mk 19 0 x.b 0 []], ⟨i + 3, d, a, 0⟩) := by
  simp only [At, tk_print, tk_semi, Nam.tk] at h
  obtain ⟨h0, h1, h2, _⟩ := h
  have hl := leaf_name (d := d) (a := a) h1 h2 (.inl rfl) (f + 18)
  simp [pStat, pSimple, opS, isB_at h0, isB_at h1, isB_at h2, wantS, semi, hl]
theorem simple_set {c : PC} {i : Nat} {d a : Int} {x y : Nam} (h : At c i [x.w, [61], y.w, [59]]) (f : Nat) :
    pStat (f + 40) c ⟨i, d, a, 0⟩ = some (.mk 2 0 x.b 0 [.mk 19 0 y.b 0 []], ⟨i + 4, d, a, 0⟩) := by
  simp only [At, tk_eq, tk_semi, Nam.tk] at h
  obtain ⟨h0, h1, h2, h3, _⟩ := h
  have hl := leaf_name (d := d) (a := a) h2 h3 (.inl rfl) (f + 18)
  simp [pStat, pSimple, opS, isB_at h0, isB_at h1, isB_at h3, wantS, semi, hl, kind_at h0, sets_at h1, text_at h0]
theorem if_head {c : PC} {i : Nat} {d a : Int} (h : At c i [k_if, [49], [123]]) (hd : -1000 ≤ d ∧ d < 24) (l : List Nd) (j : Nat) (f : Nat)
    (hb : pBlockL (f + 20) c ⟨i + 3, d + 1, a, 0⟩ [] = some (l, ⟨j, d + 1, a, 0⟩)) (he : NotElse c j) :
    pStat (f + 23) c ⟨i, d, a, 0⟩ = some (.mk 3 0 ⟨#[]⟩ 0 [.mk 15 0 ⟨#[]⟩ 1 [], .mk 10 0 ⟨#[]⟩ 0 l], ⟨j, d, a, 0⟩) := by
  simp only [At, tk_if, tk_1, tk_lb] at h
  obtain ⟨h0, h1, h2, _⟩ := h
  obtain ⟨k, t, n, h3, h4⟩ := he
  have hl := leaf_int (d := d) (a := a) h1 h2 (.inr (.inl rfl)) (f + 1)
  have w1 : wr (d + 1) = d + 1 := wr_id (by omega) (by omega)
  have w2 : wr d = d := wr_id (by omega) (by omega)
  have hle : leB 24 d = false := by unfold leB; simp; omega
  simp [pStat, pIff, pBlock, opS, isB_at h0, isB_at h2, isB_at h3, h4, hl, begS, entS, hle, inS, outS, w1, w2, hb]
mutual
theorem stat_ok (c : PC) (t : Sm) : ∀ (f i : Nat) (d a : Int), t.need ≤ f → -1000 ≤ d → d + t.deep ≤ 24 → At c i t.ws → NotElse c (i + t.ws.length) → pStat f c ⟨i, d, a, 0⟩ = some (t.nd, ⟨i + t.ws.length, d, a, 0⟩) := by
  intro f i d a hf hd hd2 ha he
  cases t with
  | letS x =>
    obtain ⟨g, rfl⟩ := Nat.exists_eq_add_of_le' (show 40 ≤ f by simpa [Sm.need] using hf)
    simpa [Sm.ws, Sm.nd] using simple_let (c := c) (i := i) (d := d) (a := a) (x := x) (by simpa [Sm.ws] using ha) g
  | prS x =>
    obtain ⟨g, rfl⟩ := Nat.exists_eq_add_of_le' (show 40 ≤ f by simpa [Sm.need] using hf)
    simpa [Sm.ws, Sm.nd] using simple_print (c := c) (i := i) (d := d) (a := a) (x := x) (by simpa [Sm.ws] using ha) g
  | setS x y =>
    obtain ⟨g, rfl⟩ := Nat.exists_eq_add_of_le' (show 40 ≤ f by simpa [Sm.need] using hf)
    simpa [Sm.ws, Sm.nd] using simple_set (c := c) (i := i) (d := d) (a := a) (x := x) (y := y) (by simpa [Sm.ws] using ha) g
  | ifS l =>
    simp only [Sm.need] at hf
    simp only [Sm.deep] at hd2
    rw [Sm.ws] at ha he
    obtain ⟨g, rfl⟩ := Nat.exists_eq_add_of_le' (show 23 ≤ f by omega)
    obtain ⟨a1, a2⟩ := At.append.1 ha
    have hb := blk_ok c l (g + 20) (i + 3) (d + 1) a [] (by omega) (by omega) (by omega) (by simpa using a2)
    have hl : i + (Sm.ws (.ifS l)).length = i + 3 + (Sm.wss l).length + 1 := by simp [Sm.ws]; omega
    rw [hl, Sm.nd]
    refine if_head a1 (by omega) (Sm.nds l) (i + 3 + (Sm.wss l).length + 1) g ?_ ?_
    · simpa using hb
    · rw [← hl]; rw [Sm.ws]; exact he
theorem blk_ok (c : PC) (l : List Sm) : ∀ (f i : Nat) (d a : Int) (acc : List Nd), Sm.needs l ≤ f → -1000 ≤ d → d + Sm.deeps l ≤ 24 → At c i (Sm.wss l ++ [[125]]) → pBlockL f c ⟨i, d, a, 0⟩ acc = some (acc ++ Sm.nds l, ⟨i + (Sm.wss l).length + 1, d, a, 0⟩) := by
  intro f i d a acc hf hd hd2 ha
  cases l with
  | nil =>
    simp only [Sm.needs] at hf
    obtain ⟨g, rfl⟩ := Nat.exists_eq_add_of_le' (show 1 ≤ f by omega)
    simp only [Sm.wss, List.nil_append, At, tk_rb] at ha
    rw [pBlockL]
    simp [isB_at ha.1, opS, Sm.nds, Sm.wss]
  | cons t l =>
    simp only [Sm.needs] at hf
    simp only [Sm.deeps] at hd2
    rw [Sm.wss, List.append_assoc] at ha
    obtain ⟨a1, a2⟩ := At.append.1 ha
    obtain ⟨g, rfl⟩ := Nat.exists_eq_add_of_le' (show 1 ≤ f by omega)
    have hfst : isB c ⟨i, d, a, 0⟩ 6 ⟨#[125]⟩ = false := by
      cases t with
      | letS x => simp only [Sm.ws, At, tk_let] at a1; rw [isB_at a1.1]; rfl
      | prS x => simp only [Sm.ws, At, tk_print] at a1; rw [isB_at a1.1]; rfl
      | setS x y => simp only [Sm.ws, At, Nam.tk] at a1; rw [isB_at a1.1]; rfl
      | ifS b => simp only [Sm.ws, List.cons_append, List.nil_append, At, tk_if] at a1; rw [isB_at a1.1]; rfl
    have he : NotElse c (i + t.ws.length) := by
      cases l with
      | nil => simp only [Sm.wss, List.nil_append, At, tk_rb] at a2; exact ⟨_, _, _, a2.1, rfl⟩
      | cons u l =>
        rw [Sm.wss, List.append_assoc] at a2
        cases u with
        | letS x => simp only [Sm.ws, List.cons_append, At, tk_let] at a2; exact ⟨_, _, _, a2.1, rfl⟩
        | prS x => simp only [Sm.ws, List.cons_append, At, tk_print] at a2; exact ⟨_, _, _, a2.1, rfl⟩
        | setS x y => simp only [Sm.ws, List.cons_append, At, Nam.tk] at a2; exact ⟨_, _, _, a2.1, x.notElse⟩
        | ifS b => simp only [Sm.ws, List.cons_append, List.nil_append, At, tk_if] at a2; exact ⟨_, _, _, a2.1, rfl⟩
    have h1 := stat_ok c t g i d a (by omega) hd (by omega) a1 he
    have h2 := blk_ok c l g (i + t.ws.length) d a (acc ++ [t.nd]) (by omega) hd (by omega) a2
    rw [pBlockL]
    simp only [beq_self_eq_true, if_true, hfst, Bool.false_eq_true, if_false, h1, h2]
    simp [Sm.wss, Sm.nds]
    omega
end
end Go.Proofs.YtjofmihdeblbmaaGreatDoor.Xa
namespace Go.Proofs.YtjofmihdeblbmaaGreatDoor.Xa
open Go Go.RowKit
set_option linter.unusedVariables false
set_option linter.unusedSimpArgs false
set_option maxRecDepth 100000
set_option maxHeartbeats 2000000
/-! functions, programs, as words and as trees -/
theorem one_good : goodW k_let = true ∧ goodW k_print = true ∧ goodW k_if = true ∧ goodW k_fn = true ∧ goodW [49] = true ∧ goodW [59] = true ∧ goodW [61] = true ∧ goodW [123] = true ∧ goodW [125] = true ∧ goodW [40] = true ∧ goodW [41] = true ∧ goodW [44] = true := by decide +kernel
mutual
theorem Sm.good : ∀ (t : Sm), ∀ w ∈ t.ws, goodW w = true
  | .letS x => by
    obtain ⟨g1, g2, g3, g4, g5, g6, g7, g8, g9, g10, g11, g12⟩ := one_good
    intro w hw
    simp only [Sm.ws, List.mem_cons, List.not_mem_nil, or_false] at hw
    rcases hw with rfl | rfl | rfl | rfl | rfl <;> first | assumption | exact x.good
  | .prS x => by
    obtain ⟨g1, g2, g3, g4, g5, g6, g7, g8, g9, g10, g11, g12⟩ := one_good
    intro w hw
    simp only [Sm.ws, List.mem_cons, List.not_mem_nil, or_false] at hw
    rcases hw with rfl | rfl | rfl <;> first | assumption | exact x.good
  | .setS x y => by
    obtain ⟨g1, g2, g3, g4, g5, g6, g7, g8, g9, g10, g11, g12⟩ := one_good
    intro w hw
    simp only [Sm.ws, List.mem_cons, List.not_mem_nil, or_false] at hw
    rcases hw with rfl | rfl | rfl | rfl <;> first | assumption | exact x.good | exact y.good
  | .ifS l => by
    obtain ⟨g1, g2, g3, g4, g5, g6, g7, g8, g9, g10, g11, g12⟩ := one_good
    intro w hw
    simp only [Sm.ws, List.mem_cons, List.mem_append, List.not_mem_nil, or_false] at hw
    rcases hw with (rfl | rfl | rfl) | hw | rfl
    · assumption
    · assumption
    · assumption
    · exact Sm.goods l w hw
    · assumption
theorem Sm.goods : ∀ (l : List Sm), ∀ w ∈ Sm.wss l, goodW w = true
  | [] => by intro w hw; simp [Sm.wss] at hw
  | t :: l => by
    intro w hw
    rw [Sm.wss, List.mem_append] at hw
    rcases hw with hw | hw
    · exact Sm.good t w hw
    · exact Sm.goods l w hw
end
structure FnD where
  name : Nam
  ps : List Nam
  body : List Sm
def parW : List Nam → List (List UInt8)
  | [] => []
  | [p] => [p.w]
  | p :: q :: r => p.w :: [44] :: parW (q :: r)
def FnD.init (F : FnD) : List (List UInt8) := [k_fn, F.name.w, [40]] ++ (parW F.ps ++ ([[41], [123]] ++ Sm.wss F.body))
def FnD.ws (F : FnD) : List (List UInt8) := F.init ++ [[125]]
def FnD.fn (F : FnD) : FnN := ⟨F.name.b, F.ps.map Nam.b, .mk 10 0 ⟨#[]⟩ 0 (Sm.nds F.body)⟩
theorem parW_good : ∀ (l : List Nam), ∀ w ∈ parW l, goodW w = true
  | [] => by intro w hw; simp [parW] at hw
  | [p] => by intro w hw; simp [parW] at hw; subst hw; exact p.good
  | p :: q :: r => by
    intro w hw
    simp only [parW, List.mem_cons] at hw
    rcases hw with rfl | rfl | hw
    · exact p.good
    · decide +kernel
    · exact parW_good (q :: r) w hw
theorem FnD.good (F : FnD) : ∀ w ∈ F.ws, goodW w = true := by
  obtain ⟨g1, g2, g3, g4, g5, g6, g7, g8, g9, g10, g11, g12⟩ := one_good
  intro w hw
  simp only [FnD.ws, FnD.init, List.mem_append, List.mem_cons, List.not_mem_nil, or_false] at hw
  rcases hw with ((rfl | rfl | rfl) | hw | (rfl | rfl) | hw) | rfl
  · assumption
  · exact F.name.good
  · assumption
  · exact parW_good _ w hw
  · assumption
  · assumption
  · exact Sm.goods _ w hw
  · assumption
theorem params_ok (c : PC) : ∀ (ps : List Nam) (p : Nam) (f i : Nat) (d a : Int) (acc : List ByteArray), ps.length + 2 ≤ f → At c i (parW (p :: ps) ++ [[41]]) →
    pParams f c ⟨i, d, a, 0⟩ true acc = some (acc ++ (p :: ps).map Nam.b, ⟨i + (parW (p :: ps)).length + 1, d, a, 0⟩)
  | [], p, f, i, d, a, acc, hf, ha => by
    obtain ⟨g, rfl⟩ := Nat.exists_eq_add_of_le' (show 2 ≤ f by simpa using hf)
    simp only [parW, List.cons_append, List.nil_append, At, Nam.tk, tk_rp] at ha
    obtain ⟨h0, h1, _⟩ := ha
    rw [pParams]
    simp [nameS, kind_at h0, name_at h0, opS, isB_at h1, pParams, wantS, parW]
  | q :: ps, p, f, i, d, a, acc, hf, ha => by
    obtain ⟨g, rfl⟩ := Nat.exists_eq_add_of_le' (show 1 ≤ f by simp at hf; omega)
    simp only [parW, List.cons_append, At, Nam.tk, tk_co] at ha
    obtain ⟨h0, h1, h2⟩ := ha
    have ih := params_ok c ps q g (i + 1 + 1) d a (acc ++ [p.b]) (by simp at hf; omega) h2
    rw [pParams]
    simp [nameS, kind_at h0, name_at h0, opS, isB_at h1, ih, parW]
    omega
theorem parW_head (p : Nam) (ps : List Nam) : ∃ r, parW (p :: ps) = p.w :: r := by
  cases ps with
  | nil => exact ⟨_, rfl⟩
  | cons q r => exact ⟨_, rfl⟩
theorem par_ok (c : PC) (ps : List Nam) (f i : Nat) (d a : Int) (hf : ps.length + 2 ≤ f) (ha : At c i (parW ps ++ [[41]])) :
    pPar f c ⟨i, d, a, 0⟩ = some (ps.map Nam.b, ⟨i + (parW ps).length + 1, d, a, 0⟩) := by
  cases ps with
  | nil =>
    simp only [parW, List.nil_append, At, tk_rp] at ha
    simp [pPar, isB_at ha.1, opS, parW]
  | cons p ps =>
    have h0 : tk c i = some (1, p.b, 0) := by
      obtain ⟨r, hr⟩ := parW_head p ps
      rw [hr] at ha
      simp only [List.cons_append, At, Nam.tk] at ha
      exact ha.1
    have := params_ok c ps p f i d a [] (by simp at hf; omega) ha
    unfold pPar
    simp [isB_at h0, this]
theorem fun_ok (c : PC) (F : FnD) (f i : Nat) (a : Int) (hf : Sm.needs F.body + F.ps.length + 3 ≤ f) (hd : Sm.deeps F.body ≤ 23) (ha : At c i F.ws) :
    pFun f c ⟨i, 0, a, 0⟩ = some (F.fn, ⟨i + F.ws.length, 0, a, 0⟩) := by
  rw [FnD.ws, FnD.init, List.append_assoc, List.append_assoc, List.append_assoc] at ha
  obtain ⟨a1, a2⟩ := At.append.1 ha
  have a2 : At c (i + 3) ((parW F.ps ++ [[41]]) ++ ([123] :: (Sm.wss F.body ++ [[125]]))) := by
    have := a2
    simp only [List.append_assoc, List.cons_append, List.nil_append, List.length_cons, List.length_nil] at this ⊢
    exact this
  obtain ⟨a3, a4⟩ := At.append.1 a2
  simp only [At, tk_fn, Nam.tk, tk_lp] at a1
  obtain ⟨h0, h1, h2, _⟩ := a1
  have hp := par_ok c F.ps f (i + 3) 0 a (by omega) a3
  have hl : i + 3 + (parW F.ps ++ [[41]]).length = i + 3 + (parW F.ps).length + 1 := by simp; omega
  rw [hl] at a4
  simp only [At, tk_lb] at a4
  obtain ⟨h3, a5⟩ := a4
  obtain ⟨g, rfl⟩ := Nat.exists_eq_add_of_le' (show 1 ≤ f by omega)
  have hb := blk_ok c F.body g (i + 3 + (parW F.ps).length + 1 + 1) 1 a [] (by omega) (by omega) (by omega) a5
  have hfn : fnS c ⟨i, 0, a, 0⟩ = ⟨i + 1, 0, a, 0⟩ := by simp [fnS, isB_at h0, opS]
  have hpar : parS c ⟨i, 0, a, 0⟩ = ⟨i + 3, 0, a, 0⟩ := by
    unfold parS
    rw [hfn]
    simp [nameS, kind_at h1, wantS, isB_at h2, opS]
  unfold pFun
  rw [hpar, hp]
  simp only
  rw [pBlock]
  have w1 : wr 1 = 1 := by decide
  have w2 : wr 0 = 0 := by decide
  simp only [begS, isB_at h3, entS, leB, inS]
  simp [hb, hfn, name_at h1, outS, FnD.fn, w1, w2]
  simp [FnD.ws, FnD.init]
  omega
theorem progL_ok (c : PC) (F0 : Nat) : ∀ (l : List FnD) (m i : Nat) (a : Int) (b : Bool) (acc : List FnN), l.length + 1 ≤ m → (∀ F ∈ l, Sm.needs F.body + F.ps.length + 3 ≤ F0 ∧ Sm.deeps F.body ≤ 23) → At c i (l.flatMap FnD.ws) → i + (l.flatMap FnD.ws).length = c.toks.length →
    pProgL F0 m c ⟨i, 0, a, 0⟩ b acc = some (acc ++ l.map FnD.fn, l.foldl (fun b F => b || decide (8 < F.ps.length)) b, ⟨c.toks.length, 0, a, 0⟩)
  | [], m, i, a, b, acc, hm, hF, ha, hl => by
    obtain ⟨g, rfl⟩ := Nat.exists_eq_add_of_le' (show 1 ≤ m by omega)
    simp at hl
    rw [pProgL, hl]
    simp
  | F :: l, m, i, a, b, acc, hm, hF, ha, hl => by
    obtain ⟨g, rfl⟩ := Nat.exists_eq_add_of_le' (show 1 ≤ m by omega)
    rw [List.flatMap_cons] at ha hl
    obtain ⟨a1, a2⟩ := At.append.1 ha
    have hw : 0 < F.ws.length := by simp [FnD.ws]
    have hfn := fun_ok c F F0 i a (hF F List.mem_cons_self).1 (hF F List.mem_cons_self).2 a1
    have ih := progL_ok c F0 l g (i + F.ws.length) a (b || decide (8 < F.ps.length)) (acc ++ [F.fn]) (by simp at hm; omega) (fun G hG => hF G (List.mem_cons_of_mem _ hG)) a2 (by rw [← hl]; simp; omega)
    have hi : i < c.toks.length := by rw [← hl]; simp; omega
    rw [pProgL]
    have hps : F.fn.params.length = F.ps.length := by simp [FnD.fn]
    simp [hi, hfn, hps, ih]
theorem toksAt_len : ∀ (ws : List (List UInt8)) (p : Nat), (toksAt p ws).length = ws.length
  | [], _ => rfl
  | w :: ws, p => by simp [toksAt, toksAt_len ws]
theorem no_many : ∀ (l : List FnD), (∀ F ∈ l, F.ps.length ≤ 8) → l.foldl (fun b F => b || decide (8 < F.ps.length)) false = false
  | [], _ => rfl
  | F :: l, h => by
    have := h F List.mem_cons_self
    rw [List.foldl_cons, show (false || decide (8 < F.ps.length)) = false by simp; omega]
    exact no_many l fun G hG => h G (List.mem_cons_of_mem _ hG)
/-- a text of such functions is read as them -/
theorem prog_ok (f : Nat) (hf : f = 1000000) (b : ByteArray) (hb : b.size ≤ 4000) (l : List FnD) (init : List (List UInt8)) (hi : l.flatMap FnD.ws = init ++ [[125]]) (hd : b.data.toList = flatW init ++ [125])
    (hF : ∀ F ∈ l, Sm.needs F.body ≤ 900000 ∧ Sm.deeps F.body ≤ 23 ∧ F.ps.length ≤ 8) (hl : l.length ≤ 16) : progT f b = some (l.map FnD.fn, 0, 0) := by
  subst hf
  have hg : ∀ w ∈ init ++ [[125]], goodW w = true := by
    intro w hw
    rw [← hi] at hw
    obtain ⟨F, hF, hw⟩ := List.mem_flatMap.1 hw
    exact F.good w hw
  have ht := tokens_words b hb init [125] (fun w hw => hg w (by simp [hw])) (hg _ (by simp)) hd
  have hlen : (init ++ [[125]]).length ≤ 4001 := by
    have h1 := len_flat init
    have h2 : b.size = (flatW init).length + 1 := by rw [size_data, hd]; simp
    simp
    omega
  unfold progT
  rw [ht]
  simp only
  rw [if_pos (by rw [toksAt_len]; omega)]
  have hA := at_toks ⟨0, 0, toksAt 0 (init ++ [[125]]), b.size⟩ (init ++ [[125]]) 0 [] rfl
  have := progL_ok ⟨0, 0, toksAt 0 (init ++ [[125]]), b.size⟩ 1000000 l 1000000 0 0 false [] (by omega) (fun F h => ⟨by have := hF F h; omega, (hF F h).2.1⟩) (by rw [hi]; exact hA) (by rw [hi, Nat.zero_add, toksAt_len])
  rw [this, no_many l fun F h => (hF F h).2.2]
  unfold progR
  have : (l.map FnD.fn).length ≤ 16 := by simpa using hl
  simp
  omega
end Go.Proofs.YtjofmihdeblbmaaGreatDoor.Xa
namespace Go.Proofs.YtjofmihdeblbmaaGreatDoor.Xa
open Go Go.RowKit
set_option linter.unusedVariables false
set_option linter.unusedSimpArgs false
set_option maxRecDepth 100000
set_option maxHeartbeats 2000000
/-! what the check tells of such statements -/
mutual
def Sm.run : Sm → CS → CS
  | .letS x, s => if s.e = 0 then letC s x.b else s
  | .prS x, s => if s.e = 0 then useC s x.b else s
  | .setS x y, s => if s.e = 0 then (if (useC s x.b).e = 0 then useC (useC s x.b) y.b else useC s x.b) else s
  | .ifS l, s => if s.e = 0 then { Sm.runs l s with names := (Sm.runs l s).names.take s.names.length } else s
def Sm.runs : List Sm → CS → CS
  | [], s => s
  | t :: l, s => Sm.runs l (t.run s)
end
mutual
def Sm.cost : Sm → Nat
  | .setS _ _ => 2
  | .ifS l => Sm.costs l
  | _ => 1
def Sm.costs : List Sm → Nat
  | [] => 0
  | t :: l => t.cost + Sm.costs l
end
structure Fits (s : CS) (k : Nat) : Prop where
  names : s.names.length + k ≤ 1000000
  slots : s.slots.length + k ≤ 1000000
  calls : s.calls.length ≤ 1000000
structure Grows (s s' : CS) (k : Nat) : Prop where
  lo : s.names.length ≤ s'.names.length
  names : s'.names.length ≤ s.names.length + k
  slots : s'.slots.length ≤ s.slots.length + k
  calls : s'.calls = s.calls
theorem Grows.refl (s : CS) (k : Nat) : Grows s s k := ⟨Nat.le_refl _, by omega, by omega, rfl⟩
theorem Grows.trans {a b c : CS} {k j : Nat} (x : Grows a b k) (y : Grows b c j) : Grows a c (k + j) := by
  obtain ⟨x1, x2, x3, x4⟩ := x
  obtain ⟨y1, y2, y3, y4⟩ := y
  exact ⟨by omega, by omega, by omega, y4.trans x4⟩
theorem Grows.more {a b : CS} {k j : Nat} (x : Grows a b k) (h : k ≤ j) : Grows a b j := by
  obtain ⟨x1, x2, x3, x4⟩ := x
  exact ⟨by omega, by omega, by omega, x4⟩
theorem Fits.next {s s' : CS} {k j : Nat} (h : Fits s (k + j)) (g : Grows s s' k) : Fits s' j := by
  obtain ⟨h1, h2, h3⟩ := h
  obtain ⟨g1, g2, g3, g4⟩ := g
  exact ⟨by omega, by omega, by rw [g4]; exact h3⟩
theorem Fits.ok {s : CS} {k : Nat} (h : Fits s k) : okC s = true := by
  obtain ⟨h1, h2, h3⟩ := h
  simp [okC]
  omega
theorem wrong_grows (s : CS) (er : Int) : Grows s (wrongC s er) 0 := by
  unfold wrongC
  split <;> exact ⟨Nat.le_refl _, Nat.le_refl _, Nat.le_refl _, rfl⟩
theorem use_grows (s : CS) (nm : ByteArray) : Grows s (useC s nm) 1 := by
  unfold useC
  cases (findR s.names nm).2
  · have := wrong_grows s 11
    exact ⟨this.lo, Nat.le_succ_of_le this.names, by have := this.slots; simp; omega, this.calls⟩
  · exact ⟨Nat.le_refl _, Nat.le_succ _, by simp, rfl⟩
theorem let_grows (s : CS) (nm : ByteArray) : Grows s (letC s nm) 1 := by
  unfold letC
  cases (findR s.names nm).2
  · exact ⟨by simp, by simp, by simp, rfl⟩
  · have := wrong_grows s 11
    exact ⟨by have := this.lo; simp; omega, by have := this.names; simp; omega, by have := this.slots; simp; omega, this.calls⟩
mutual
theorem run_grows : ∀ (t : Sm) (s : CS), Grows s (t.run s) t.cost
  | .letS x, s => by
    rw [Sm.run]; split
    · exact let_grows _ _
    · exact Grows.refl _ _
  | .prS x, s => by
    rw [Sm.run]; split
    · exact use_grows _ _
    · exact Grows.refl _ _
  | .setS x y, s => by
    rw [Sm.run]; split
    · split
      · exact (use_grows _ _).trans (use_grows _ _)
      · exact (use_grows _ _).more (by simp [Sm.cost])
    · exact Grows.refl _ _
  | .ifS l, s => by
    rw [Sm.run]; split
    · have := runs_grows l s
      rw [Sm.cost]
      exact ⟨by have := this.lo; simp; omega, by simp; omega, this.slots, this.calls⟩
    · exact Grows.refl _ _
theorem runs_grows : ∀ (l : List Sm) (s : CS), Grows s (Sm.runs l s) (Sm.costs l)
  | [], s => Grows.refl _ _
  | t :: l, s => (run_grows t s).trans (runs_grows l (t.run s))
end
theorem nds_len : ∀ l : List Sm, (Sm.nds l).length ≤ Sm.needs l
  | [] => by simp [Sm.nds]
  | t :: l => by
    have := nds_len l
    simp only [Sm.nds, Sm.needs, List.length_cons]
    omega
section
variable (ts : List FnN) (fns : Fns)
theorem node_err (f : Nat) (s : CS) (n : Nd) (h : s.e ≠ 0) : nodeC ts fns (f + 1) s n = some s := by
  have h2 : (s.e == 0) = false := by simpa using h
  rw [nodeC, h2]
  rfl
theorem node_leaf (f : Nat) (s : CS) (n : Int) (h : okC s = true) : nodeC ts fns (f + 2) s (.mk 15 0 ⟨#[]⟩ n []) = some s := by
  by_cases he : s.e = 0
  · have h2 : (s.e == 0) = true := by simpa using he
    rw [nodeC, h2, h]
    simp [Nd.kind, Nd.kids, allC]
  · exact node_err ts fns _ s _ he
theorem node_use (f : Nat) (s : CS) (x : ByteArray) (h : okC s = true) (he : s.e = 0) : nodeC ts fns (f + 1) s (.mk 19 0 x 0 []) = some (useC s x) := by
  have h2 : (s.e == 0) = true := by simpa using he
  rw [nodeC, h2, h]
  simp [Nd.kind, Nd.kids, Nd.str]
mutual
theorem node_ok : ∀ (t : Sm) (f : Nat) (s : CS), t.need ≤ f → t.need ≤ 1000000 → Fits s t.cost → nodeC ts fns f s t.nd = some (t.run s)
  | .letS x, f, s, hf, hm, hs => by
    obtain ⟨g, rfl⟩ := Nat.exists_eq_add_of_le' (show 5 ≤ f by simp only [Sm.need] at hf; omega)
    have ho := hs.ok
    rw [Sm.run]
    by_cases he : s.e = 0
    · have h2 : (s.e == 0) = true := by simpa using he
      rw [if_pos he, Sm.nd, nodeC, h2, ho]
      have hl := node_leaf ts fns (g + 1) s 1 ho
      simp [Nd.kind, Nd.kids, Nd.str, allC, hl, he, ho]
    · rw [if_neg he]
      exact node_err ts fns _ s _ he
  | .prS x, f, s, hf, hm, hs => by
    obtain ⟨g, rfl⟩ := Nat.exists_eq_add_of_le' (show 5 ≤ f by simp only [Sm.need] at hf; omega)
    have ho := hs.ok
    rw [Sm.run]
    by_cases he : s.e = 0
    · have h2 : (s.e == 0) = true := by simpa using he
      rw [if_pos he, Sm.nd, nodeC, h2, ho]
      have hl := node_use ts fns (g + 2) s x.b ho he
      simp [Nd.kind, Nd.kids, Nd.str, allC, hl, he, ho]
    · rw [if_neg he]
      exact node_err ts fns _ s _ he
  | .setS x y, f, s, hf, hm, hs => by
    obtain ⟨g, rfl⟩ := Nat.exists_eq_add_of_le' (show 5 ≤ f by simp only [Sm.need] at hf; omega)
    have ho := hs.ok
    have ho2 := (Fits.next (k := 1) (j := 1) hs (use_grows s x.b)).ok
    rw [Sm.run]
    by_cases he : s.e = 0
    · have h2 : (s.e == 0) = true := by simpa using he
      rw [if_pos he, Sm.nd, nodeC, h2, ho]
      by_cases he2 : (useC s x.b).e = 0
      · have hl := node_use ts fns (g + 2) (useC s x.b) y.b ho2 he2
        simp [Nd.kind, Nd.kids, Nd.str, allC, hl, he2]
      · have hl := node_err ts fns (g + 2) (useC s x.b) (.mk 19 0 y.b 0 []) he2
        simp [Nd.kind, Nd.kids, Nd.str, allC, hl, he2]
    · rw [if_neg he]
      exact node_err ts fns _ s _ he
  | .ifS l, f, s, hf, hm, hs => by
    simp only [Sm.need] at hf hm
    obtain ⟨g, rfl⟩ := Nat.exists_eq_add_of_le' (show 10 ≤ f by omega)
    have ho := hs.ok
    rw [Sm.run]
    by_cases he : s.e = 0
    · have h2 : (s.e == 0) = true := by simpa using he
      rw [if_pos he, Sm.nd, nodeC, h2, ho]
      have hl := node_leaf ts fns (g + 6) s 1 ho
      have ih := all_ok l (g + 6) s (by omega) (by omega) hs
      have hb : nodeC ts fns (g + 7) s (.mk 10 0 ⟨#[]⟩ 0 (Sm.nds l)) = some { Sm.runs l s with names := (Sm.runs l s).names.take s.names.length } := by
        rw [nodeC, h2, ho]
        have hn := nds_len l
        have hn2 : (Sm.nds l).length ≤ 1000000 := by omega
        simp [Nd.kind, Nd.kids, ih, (runs_grows l s).lo, hn2]
      simp [Nd.kind, Nd.kids, Nd.str, allC, hl, hb]
    · rw [if_neg he]
      exact node_err ts fns _ s _ he
theorem all_ok : ∀ (l : List Sm) (f : Nat) (s : CS), Sm.needs l ≤ f → Sm.needs l ≤ 1000000 → Fits s (Sm.costs l) → allC ts fns f s (Sm.nds l) = some (Sm.runs l s)
  | [], f, s, hf, hm, hs => by
    obtain ⟨g, rfl⟩ := Nat.exists_eq_add_of_le' (show 1 ≤ f by simp only [Sm.needs] at hf; omega)
    rw [Sm.nds, allC, Sm.runs]
  | t :: l, f, s, hf, hm, hs => by
    simp only [Sm.needs] at hf hm
    obtain ⟨g, rfl⟩ := Nat.exists_eq_add_of_le' (show 1 ≤ f by omega)
    rw [Sm.nds, allC, node_ok t g s (by omega) (by omega) (by obtain ⟨a, b, c⟩ := hs; simp only [Sm.costs] at a b; exact ⟨by omega, by omega, c⟩), Sm.runs]
    exact all_ok l g (t.run s) (by omega) (by omega) (Fits.next hs (run_grows t s))
end
theorem body_ok (l : List Sm) (f : Nat) (s : CS) (hf : Sm.needs l + 10 ≤ f) (hm : Sm.needs l ≤ 900000) (hs : Fits s (Sm.costs l)) (he : s.e = 0) :
    nodeC ts fns f s (.mk 10 0 ⟨#[]⟩ 0 (Sm.nds l)) = some { Sm.runs l s with names := (Sm.runs l s).names.take s.names.length } := by
  obtain ⟨g, rfl⟩ := Nat.exists_eq_add_of_le' (show 1 ≤ f by omega)
  have h2 : (s.e == 0) = true := by simpa using he
  have ih := all_ok ts fns l g s (by omega) (by omega) hs
  rw [nodeC, h2, hs.ok]
  have hn := nds_len l
  have hn2 : (Sm.nds l).length ≤ 1000000 := by omega
  simp [Nd.kind, Nd.kids, ih, (runs_grows l s).lo, hn2]
/-- of a function: the state behind its parameters, and what it tells -/
theorem func_ok (F : FnD) (s1 : CS) (hp : parC cs0 (F.ps.map Nam.b) = some (s1, true)) (he : s1.e = 0) (hm : Sm.needs F.body ≤ 900000) (hs : Fits s1 (Sm.costs F.body)) :
    funC ts fns 1000000 cs0 F.fn = some (funEnd (Sm.runs F.body s1)) := by
  unfold funC FnD.fn
  simp only
  rw [hp]
  simp only [funK]
  rw [body_ok ts fns F.body 1000000 s1 (by omega) hm hs he]
  rfl
end
def n_main : Nam := ⟨[109, 97, 105, 110], by decide +kernel, by decide +kernel⟩
def n_f : Nam := ⟨[102], by decide +kernel, by decide +kernel⟩
def fMain : FnD := ⟨n_main, [], []⟩
theorem fnsL_two (p : List ByteArray) (b : Nd) : fnsL [⟨n_f.b, p, b⟩, fMain.fn] 0 [] = some [(n_f.b, 0), (mainB, 1)] := by
  have h1 : (builtinR n_f.b).2.2 = false := by decide +kernel
  have h2 : (builtinR mainB).2.2 = false := by decide +kernel
  have h3 : (fnIx [(n_f.b, 0)] mainB).isSome = false := by decide +kernel
  have h4 : fMain.fn.name = mainB := rfl
  simp [fnsL, h1, h2, h4, fnIx]
  have h5 : eqB mainB n_f.b = false := by decide +kernel
  rw [h5]
theorem fnsL_one (b : Nd) : fnsL [⟨n_main.b, [], b⟩] 0 [] = some [(mainB, 0)] := by
  have h2 : (builtinR n_main.b).2.2 = false := by decide +kernel
  simp [fnsL, h2, fnIx]
  rfl
/-- a function f and a main without statements -/
theorem src_two (b : ByteArray) (F : FnD) (hn : F.name = n_f) (s1 : CS) (hb : progT 1000000 b = some ([F, fMain].map FnD.fn, 0, 0)) (h8 : F.ps.length ≤ 8) (hp : parC cs0 (F.ps.map Nam.b) = some (s1, true)) (he : s1.e = 0) (hm : Sm.needs F.body ≤ 900000) (hs : Fits s1 (Sm.costs F.body))
    (hr : (Sm.runs F.body s1).e = 0) (hloc : (Sm.runs F.body s1).locals ≤ 64) :
    ∃ l, srcT 1000000 b = some ⟨l, [funEnd (Sm.runs F.body s1), ⟨0, [], [], 0⟩], 0, 0⟩ := by
  have hps : F.fn.params.length = F.ps.length := by simp [FnD.fn]
  have hq : fMain.fn.params.length = 0 := rfl
  have e0 : (funEnd (Sm.runs F.body s1)).e = 0 := by
    unfold funEnd
    have : ltB 64 (Sm.runs F.body s1).locals = false := by unfold ltB; simp; omega
    simp [this, hr]
  have hf1 := func_ok [F.fn, fMain.fn] [(n_f.b, 0), (mainB, 1)] F s1 hp he hm hs
  have hf2 : funC [F.fn, fMain.fn] [(n_f.b, 0), (mainB, 1)] 1000000 cs0 fMain.fn = some ⟨0, [], [], 0⟩ := by
    have := func_ok [F.fn, fMain.fn] [(n_f.b, 0), (mainB, 1)] fMain cs0 (by rfl) rfl (by decide) ⟨by decide, by decide, by decide⟩
    rw [this]
    rfl
  have hfl : fnsL [F.fn, fMain.fn] 0 [] = some [(n_f.b, 0), (mainB, 1)] := by
    unfold FnD.fn
    rw [hn]
    exact fnsL_two _ _
  refine ⟨[F.fn, fMain.fn], ?_⟩
  unfold srcT
  rw [hb]
  simp only [List.map_cons, List.map_nil]
  rw [if_pos (by
    refine ⟨by simp, ?_⟩
    simp [hps, hq]
    omega)]
  unfold srcR
  simp only [beq_self_eq_true, if_true]
  unfold checkR
  rw [hfl]
  simp only
  rw [chkL, hf1]
  simp only [e0, beq_self_eq_true, if_true]
  rw [chkL, hf2]
  simp only [beq_self_eq_true, if_true, chkL, List.nil_append, List.cons_append]
  unfold checkEnd
  have h5 : fnIx [(n_f.b, 0), (mainB, 1)] mainB = some 1 := by decide +kernel
  rw [h5]
  have h6 : ([F.fn, fMain.fn] : List FnN)[(1 : Int).toNat]? = some fMain.fn := rfl
  simp only [h6, hq, Nat.lt_irrefl, if_false, beq_self_eq_true, if_true]
/-- a main alone -/
theorem src_one (b : ByteArray) (l : List Sm) (hb : progT 1000000 b = some ([(⟨n_main, [], l⟩ : FnD)].map FnD.fn, 0, 0)) (hm : Sm.needs l ≤ 900000) (hs : Fits cs0 (Sm.costs l)) :
    if (funEnd (Sm.runs l cs0)).e = 0 then ∃ q, srcT 1000000 b = some ⟨q, [funEnd (Sm.runs l cs0)], 0, 0⟩ else srcT 1000000 b = some ⟨[], [], 0, (funEnd (Sm.runs l cs0)).e⟩ := by
  have hq : (⟨n_main, [], l⟩ : FnD).fn.params.length = 0 := rfl
  have hf1 := func_ok [(⟨n_main, [], l⟩ : FnD).fn] [(mainB, 0)] ⟨n_main, [], l⟩ cs0 rfl rfl hm hs
  have hfl : fnsL [(⟨n_main, [], l⟩ : FnD).fn] 0 [] = some [(mainB, 0)] := fnsL_one _
  have key : srcT 1000000 b = srcR 1000000 ([(⟨n_main, [], l⟩ : FnD).fn], 0, 0) := by
    unfold srcT
    rw [hb]
    simp only [List.map_cons, List.map_nil]
    rw [if_pos (by
      refine ⟨by simp, ?_⟩
      simp [hq])]
  rw [key]
  unfold srcR
  simp only [beq_self_eq_true, if_true]
  unfold checkR
  rw [hfl]
  simp only
  rw [chkL, hf1]
  simp only
  have h5 : fnIx [(mainB, 0)] mainB = some 0 := by decide +kernel
  have h6 : ([(⟨n_main, [], l⟩ : FnD).fn] : List FnN)[(0 : Int).toNat]? = some (⟨n_main, [], l⟩ : FnD).fn := rfl
  split
  · rename_i he
    refine ⟨[(⟨n_main, [], l⟩ : FnD).fn], ?_⟩
    simp only [he, beq_self_eq_true, if_true, chkL, List.nil_append, checkEnd, h5, h6, hq, Nat.lt_irrefl, if_false]
  · rename_i he
    have h2 : ((funEnd (Sm.runs l cs0)).e == 0) = false := by simpa using he
    simp only [h2, Bool.false_eq_true, if_false]
end Go.Proofs.YtjofmihdeblbmaaGreatDoor.Xa
