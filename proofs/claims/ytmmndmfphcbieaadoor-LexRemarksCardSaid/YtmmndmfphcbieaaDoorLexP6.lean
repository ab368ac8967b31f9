/- The reference's Tokens tells the plain function's words: its loops. -/
import Derived.Test.YtmmndmfphcbieaaDoorLexP5
namespace Go.Proofs.YtmmndmfphcbieaaDoor.XLex
open Go.RowKit Go.Proofs.YtmmndmfphcbieaaDoorW.PrintWords Go.Proofs.YtmmndmfphcbieaaDoorW.PrintLast Go.Proofs.YtmmndmfphcbieaaDoorW.PrintMore
theorem dig_nam (c : UInt8) (h : isDig (c.toNat : Int) = false) : isNam (c.toNat : Int) = isLet (c.toNat : Int) := by
  unfold isNam; rw [h, Bool.or_false]
theorem let_dig (c : UInt8) (h : isDig (c.toNat : Int) = true) : isLet (c.toNat : Int) = false := by
  unfold isDig at h
  unfold isLet
  simp at h ⊢
  omega
section
variable (s : ByteArray) (x : List S32) (i : Int)
theorem l1_run (hs : s.size ≤ 4000) {r : List S32 × Int × Int} : ∀ (d j : Nat), s.size = j + d → Ev (fun k => ratlineref4_Tokens.l0 k s x ((j + spanI notLf (s.data.toList.drop j) : Nat) : Int)) r → Ev (fun k => ratlineref4_Tokens.l1 k s x j) r := by
  intro d
  induction d with
  | zero =>
    intro j hj h
    rw [spanI_end (by rw [len_list]; omega)] at h
    refine Ev.step (fun k => ?_) h
    simp only [ratlineref4_Tokens.l1]
    rw [if_neg (by omega)]
    rfl
  | succ d ih =>
    intro j hj h
    have hlt : j < s.size := by omega
    have hb : bt s (j : Int) = ((s.data.toList[j]'(by rw [len_list]; exact hlt)).toNat : Int) := by rw [bt_byte s j hlt, byteAt_lt s j hlt, get_list s j hlt]
    by_cases hp : notLf ((s.data.toList[j]'(by rw [len_list]; exact hlt)).toNat : Int) = true
    · rw [spanI_step (by rw [len_list]; exact hlt) hp] at h
      refine Ev.step (fun k => ?_) (ih (j + 1) (by omega) (Ev.congr (fun k => by rw [show j + (1 + spanI notLf (s.data.toList.drop (j + 1))) = j + 1 + spanI notLf (s.data.toList.drop (j + 1)) from by omega] ) h))
      simp only [ratlineref4_Tokens.l1]
      rw [if_pos (Int.ofNat_lt.2 hlt), if_pos (Int.natCast_nonneg j), hb, if_neg (by simpa [notLf] using hp), wrapS hlt hs]
    · simp only [Bool.not_eq_true] at hp
      rw [spanI_stop (by rw [len_list]; exact hlt) hp] at h
      refine Ev.step (fun k => ?_) h
      simp only [ratlineref4_Tokens.l1]
      rw [if_pos (Int.ofNat_lt.2 hlt), if_pos (Int.natCast_nonneg j), hb, if_pos (by simpa [notLf] using hp)]
      rfl
theorem l2_run (hs : s.size ≤ 4000) {r : List S32 × Int × Int} : ∀ (d j : Nat), s.size = j + d → Ev (fun k => ratlineref4_Tokens.j4 k s x i ((j + spanI isDig (s.data.toList.drop j) : Nat) : Int)) r → Ev (fun k => ratlineref4_Tokens.l2 k s x i j) r := by
  intro d
  induction d with
  | zero =>
    intro j hj h
    rw [spanI_end (by rw [len_list]; omega)] at h
    refine Ev.step (fun k => ?_) h
    simp only [ratlineref4_Tokens.l2]
    rw [if_neg (by omega)]
    rfl
  | succ d ih =>
    intro j hj h
    have hlt : j < s.size := by omega
    have hb : bt s (j : Int) = ((s.data.toList[j]'(by rw [len_list]; exact hlt)).toNat : Int) := by rw [bt_byte s j hlt, byteAt_lt s j hlt, get_list s j hlt]
    by_cases hp : isDig ((s.data.toList[j]'(by rw [len_list]; exact hlt)).toNat : Int) = true
    · rw [spanI_step (by rw [len_list]; exact hlt) hp] at h
      refine Ev.step (fun k => ?_) (ih (j + 1) (by omega) (Ev.congr (fun k => by rw [show j + (1 + spanI isDig (s.data.toList.drop (j + 1))) = j + 1 + spanI isDig (s.data.toList.drop (j + 1)) from by omega] ) h))
      simp only [ratlineref4_Tokens.l2]
      rw [if_pos (Int.ofNat_lt.2 hlt), if_pos (Int.natCast_nonneg j), hb, refdigit, Option.bind_some, if_pos hp, wrapS hlt hs]
    · simp only [Bool.not_eq_true] at hp
      rw [spanI_stop (by rw [len_list]; exact hlt) hp] at h
      refine Ev.step (fun k => ?_) h
      simp only [ratlineref4_Tokens.l2]
      rw [if_pos (Int.ofNat_lt.2 hlt), if_pos (Int.natCast_nonneg j), hb, refdigit, Option.bind_some, if_neg (by rw [hp]; decide)]
      rfl
theorem l3_run (hs : s.size ≤ 4000) {r : List S32 × Int × Int} : ∀ (d j : Nat), s.size = j + d → Ev (fun k => ratlineref4_Tokens.j7 k s x i ((j + spanI isNam (s.data.toList.drop j) : Nat) : Int)) r → Ev (fun k => ratlineref4_Tokens.l3 k s x i j) r := by
  intro d
  induction d with
  | zero =>
    intro j hj h
    rw [spanI_end (by rw [len_list]; omega)] at h
    refine Ev.step (fun k => ?_) h
    simp only [ratlineref4_Tokens.l3]
    rw [if_neg (by omega)]
    rfl
  | succ d ih =>
    intro j hj h
    have hlt : j < s.size := by omega
    have hb : bt s (j : Int) = ((s.data.toList[j]'(by rw [len_list]; exact hlt)).toNat : Int) := by rw [bt_byte s j hlt, byteAt_lt s j hlt, get_list s j hlt]
    by_cases hp : isNam ((s.data.toList[j]'(by rw [len_list]; exact hlt)).toNat : Int) = true
    · rw [spanI_step (by rw [len_list]; exact hlt) hp] at h
      refine Ev.step (fun k => ?_) (ih (j + 1) (by omega) (Ev.congr (fun k => by rw [show j + (1 + spanI isNam (s.data.toList.drop (j + 1))) = j + 1 + spanI isNam (s.data.toList.drop (j + 1)) from by omega] ) h))
      simp only [ratlineref4_Tokens.l3]
      rw [if_pos (Int.ofNat_lt.2 hlt), if_pos (Int.natCast_nonneg j), hb, refletter, Option.bind_some, if_pos hp, wrapS hlt hs]
    · simp only [Bool.not_eq_true] at hp
      rw [spanI_stop (by rw [len_list]; exact hlt) hp] at h
      refine Ev.step (fun k => ?_) h
      simp only [ratlineref4_Tokens.l3]
      rw [if_pos (Int.ofNat_lt.2 hlt), if_pos (Int.natCast_nonneg j), hb, refletter, Option.bind_some, if_neg (by rw [hp]; decide)]
      rfl
end
/-- what follows a word, told of the word -/
def After (s : ByteArray) (x : List S32) (i : Nat) (r : List S32 × Int × Int) : Option (Int × List UInt8 × Int × Nat) → Prop
  | none => r = ([], (i : Int), 10)
  | some (kd, t, n, m) => Ev (fun k => ratlineref4_Tokens.l0 k s (x ++ [⟨kd, ⟨t.toArray⟩, n, (i : Int)⟩]) ((i + m : Nat) : Int)) r
theorem cut_list (s : ByteArray) (i n : Nat) : (s.extract i (i + n)).data.toList = (s.data.toList.drop i).take n := by
  simp only [ByteArray.data_extract, Array.toList_extract, List.extract_eq_take_drop, Nat.add_sub_cancel_left]
theorem cut_eq (s : ByteArray) (i n : Nat) : s.extract i (i + n) = ⟨((s.data.toList.drop i).take n).toArray⟩ := bytes_ext (by rw [cut_list])
theorem byteAt_drop (l : List UInt8) (i n : Nat) : byteAt (l.drop i) n = byteAt l (i + n) := by
  unfold byteAt; rw [List.getElem?_drop]
theorem num_none : isNam (-1) = false := by decide
theorem j5_run (s : ByteArray) (hs : s.size ≤ 4000) (x : List S32) (hx : x.length ≤ 4000) (i n : Nat) (hn : i + n ≤ s.size) (v : Int) (r : List S32 × Int × Int)
    (h : After s x i r (if byteAt s.data.toList (i + n) = 105 then (if isNam (byteAt s.data.toList (i + n + 1)) then none else some (4, [], v, n + 1)) else (if isNam (byteAt s.data.toList (i + n)) then none else some (3, [], v, n)))) :
    Ev (fun k => ratlineref4_Tokens.j5 k s x i ((i + n : Nat) : Int) true (byteAt s.data.toList (i + n) == 105) 3 ⟨#[]⟩ v i) r := by
  have hx' : x.length < 3518437208883 := by omega
  have fin : ∀ (kd : Int) (m : Nat), i + m ≤ s.size → (h : After s x i r (if isNam (byteAt s.data.toList (i + m)) then none else some (kd, [], v, m))) →
      Ev (fun k => if ((i + m : Nat) : Int) < (s.size : Int) then (if 0 ≤ ((i + m : Nat) : Int) then ((ratlineref4_letter.f (bt s ((i + m : Nat) : Int))).bind fun t => (if t = true then (some (([] : List S32), (i : Int), 10)) else (if x.length < 3518437208883 then (ratlineref4_Tokens.l0 k s (x ++ [(⟨kd, ⟨#[]⟩, v, (i : Int)⟩ : S32)]) ((i + m : Nat) : Int)) else none))) else none) else (if x.length < 3518437208883 then (ratlineref4_Tokens.l0 k s (x ++ [(⟨kd, ⟨#[]⟩, v, (i : Int)⟩ : S32)]) ((i + m : Nat) : Int)) else none)) r := by
    intro kd m hm h
    by_cases hlt : i + m < s.size
    · by_cases hl : isNam (byteAt s.data.toList (i + m)) = true
      · rw [if_pos hl] at h
        obtain rfl := h
        refine Ev.congr (f := fun _ => some _) (fun k => ?_) (Ev.now _)
        rw [if_pos (Int.ofNat_lt.2 hlt), if_pos (Int.natCast_nonneg _), refletter, Option.bind_some, bt_byte s _ hlt, if_pos hl]
      · rw [if_neg hl] at h
        refine Ev.congr (fun k => ?_) h
        rw [if_pos (Int.ofNat_lt.2 hlt), if_pos (Int.natCast_nonneg _), refletter, Option.bind_some, bt_byte s _ hlt, if_neg hl, if_pos hx']
    · rw [byteAt_ge s _ (Nat.le_of_not_lt hlt), num_none, if_neg (by decide)] at h
      refine Ev.congr (fun k => ?_) h
      rw [if_neg (fun h' => hlt (Int.ofNat_lt.1 h')), if_pos hx']
  by_cases h105 : byteAt s.data.toList (i + n) = 105
  · rw [if_pos h105] at h
    have hlt : i + n < s.size := by rw [← len_list]; exact byteAt_len (c := 105) h105
    refine Ev.step (fun k => ?_) (fin 4 (n + 1) hlt h)
    simp only [ratlineref4_Tokens.j5]
    rw [h105, if_pos (by decide), if_pos trivial, wrapS hlt hs]
    rfl
  · rw [if_neg h105] at h
    refine Ev.step (fun k => ?_) (fin 3 n hn h)
    simp only [ratlineref4_Tokens.j5]
    rw [beq_eq_false_iff_ne.2 h105, if_neg (by decide), if_pos trivial]
theorem j5_bad (k : Nat) (s : ByteArray) (x : List S32) (i p : Int) (b : Bool) (kd : Int) (t : ByteArray) (n : Int) (a : Int) :
    ratlineref4_Tokens.j5 (k + 1) s x i p false b kd t n a = some ([], i, 10) := by
  simp only [ratlineref4_Tokens.j5]
  cases b
  · rw [if_neg (by decide), if_neg (by decide)]
  · rw [if_pos rfl, if_neg (by decide)]
theorem j4_run (s : ByteArray) (hs : s.size ≤ 4000) (x : List S32) (hx : x.length ≤ 4000) (i n : Nat) (hn : i + n ≤ s.size) (r : List S32 × Int × Int)
    (hd : allDig ((s.data.toList.drop i).take n)) (h : After s x i r (numP (s.data.toList.drop i) n)) :
    Ev (fun k => ratlineref4_Tokens.j4 k s x i ((i + n : Nat) : Int)) r := by
  have hsz : (s.extract i (i + n)).size ≤ 9223372036854775806 := by
    rw [← len_list, cut_list, List.length_take]
    have : n ≤ 4000 := by omega
    omega
  have hne := number_ev (s.extract i (i + n)) (by rw [cut_list]; exact hd) hsz
  rw [cut_list] at hne
  unfold numP at h
  have key : ∀ (y : Int × Bool), Ev (fun k => ratlineref4_Tokens.j5 k s x i ((i + n : Nat) : Int) y.2 (byteAt s.data.toList (i + n) == 105) 3 ⟨#[]⟩ y.1 i) r → Ev (fun k => ratlineref4_number.f k (s.extract i (i + n))) y → Ev (fun k => ratlineref4_Tokens.j4 k s x i ((i + n : Nat) : Int)) r := by
    intro y hy hnum
    refine Ev.step (fun k => ?_) (hnum.bind (f := fun k y => ratlineref4_Tokens.j5 k s x i ((i + n : Nat) : Int) y.2 (byteAt s.data.toList (i + n) == 105) 3 ⟨#[]⟩ y.1 i) hy)
    simp only [ratlineref4_Tokens.j4]
    rw [if_pos (Int.natCast_nonneg _), if_pos (Int.ofNat_le.2 (Nat.le_add_right i n)), if_pos (Int.ofNat_le.2 hn), Int.toNat_natCast, Int.toNat_natCast]
    congr 1
    funext y
    by_cases hlt : i + n < s.size
    · rw [if_pos (Int.ofNat_lt.2 hlt), if_pos (Int.natCast_nonneg _), bt_byte s _ hlt]
    · rw [if_neg (fun h' => hlt (Int.ofNat_lt.1 h')), byteAt_ge s _ (Nat.le_of_not_lt hlt)]
      rfl
  by_cases hv : valD 0 ((s.data.toList.drop i).take n) < 9223372036854775808
  · rw [if_pos hv] at h hne
    refine key _ ?_ hne
    refine j5_run s hs x hx i n hn _ r ?_
    rw [byteAt_drop, byteAt_drop] at h
    exact h
  · rw [if_neg hv] at h hne
    refine key _ ?_ hne
    obtain rfl := h
    exact Ev.step (f := fun _ => some _) (fun k => j5_bad k s x i _ _ _ _ _ _) (Ev.now _)
theorem j7_run (s : ByteArray) (hs : s.size ≤ 4000) (x : List S32) (hx : x.length ≤ 4000) (i : Nat) (hi : i ≤ s.size) (r : List S32 × Int × Int)
    (h : After s x i r (nameP (s.data.toList.drop i))) :
    Ev (fun k => ratlineref4_Tokens.j7 k s x i ((i + spanI isNam (s.data.toList.drop i) : Nat) : Int)) r := by
  have hx' : x.length < 3518437208883 := by omega
  have hle := spanI_le isNam (s.data.toList.drop i)
  rw [List.length_drop, len_list] at hle
  unfold nameP at h
  generalize spanI isNam (s.data.toList.drop i) = n at *
  have hw : wrap64 (((i + n : Nat) : Int) - (i : Int)) = (n : Int) := by rw [show ((i + n : Nat) : Int) - (i : Int) = (n : Int) by omega]; exact wrapN n (by omega)
  by_cases h16 : 16 < n
  · rw [if_pos h16] at h
    obtain rfl := h
    refine Ev.step (f := fun _ => some _) (fun k => ?_) (Ev.now _)
    simp only [ratlineref4_Tokens.j7]
    rw [hw, if_pos (by omega)]
  · rw [if_neg h16] at h
    have hwd := word_ev (s.extract i (i + n))
    rw [cut_list] at hwd
    have hr : Ev (fun k => if (wordList.contains ((s.data.toList.drop i).take n)) = true then (if x.length < 3518437208883 then (ratlineref4_Tokens.l0 k s (x ++ [(⟨2, s.extract i (i + n), 0, (i : Int)⟩ : S32)]) ((i + n : Nat) : Int)) else none) else (if x.length < 3518437208883 then (ratlineref4_Tokens.l0 k s (x ++ [(⟨1, s.extract i (i + n), 0, (i : Int)⟩ : S32)]) ((i + n : Nat) : Int)) else none)) r := by
      rw [cut_eq]
      by_cases hc : wordList.contains ((s.data.toList.drop i).take n) = true
      · rw [if_pos hc] at h
        refine Ev.congr (fun k => ?_) h
        rw [if_pos hc, if_pos hx']
      · rw [if_neg hc] at h
        refine Ev.congr (fun k => ?_) h
        rw [if_neg hc, if_pos hx']
    refine Ev.step (fun k => ?_) (hwd.bind (f := fun k t => if t = true then (if x.length < 3518437208883 then (ratlineref4_Tokens.l0 k s (x ++ [(⟨2, s.extract i (i + n), 0, (i : Int)⟩ : S32)]) ((i + n : Nat) : Int)) else none) else (if x.length < 3518437208883 then (ratlineref4_Tokens.l0 k s (x ++ [(⟨1, s.extract i (i + n), 0, (i : Int)⟩ : S32)]) ((i + n : Nat) : Int)) else none)) hr)
    simp only [ratlineref4_Tokens.j7]
    rw [hw, if_neg (by omega), if_pos (Int.natCast_nonneg _), if_pos (Int.ofNat_le.2 (Nat.le_add_right i n)), if_pos (Int.ofNat_le.2 (by omega)), Int.toNat_natCast, Int.toNat_natCast]
theorem j1_tok (s : ByteArray) (hs : s.size ≤ 4000) (x : List S32) (hx : x.length ≤ 4000) (i : Nat) (hi : i < s.size) (c : UInt8) (rest : List UInt8) (e : s.data.toList.drop i = c :: rest) (hc : (c.toNat : Int) ≠ 35) (r : List S32 × Int × Int)
    (h : After s x i r (tokP (s.data.toList.drop i))) :
    Ev (fun k => ratlineref4_Tokens.j1 k s x i (c.toNat : Int) false) r := by
  have hx' : x.length < 3518437208883 := by omega
  have hne : s.size = i + (s.size - i) := by omega
  have e1 : s.data.toList.drop (i + 1) = rest := by rw [← List.drop_drop, e]; rfl
  have hst : ∀ k, ratlineref4_Tokens.j1 (k + 1) s x i (c.toNat : Int) false = (if isDig (c.toNat : Int) = true then ratlineref4_Tokens.l2 k s x i i else if isLet (c.toNat : Int) = true then ratlineref4_Tokens.l3 k s x i i else if (c.toNat : Int) = 34 then ((ratlineref4_text.f k s i).bind fun bt172 => (if bt172.2.2 = true then (if x.length < 3518437208883 then (ratlineref4_Tokens.l0 k s (x ++ [(⟨5, bt172.1, 0, (i : Int)⟩ : S32)]) bt172.2.1) else none) else (some (([] : List (S32)), (i : Int), 10)))) else ((ratlineref4_op.f k (s.extract i s.size)).bind fun t178 => (if t178.data.toList = ([] : List UInt8) then (some (([] : List (S32)), (i : Int), 10)) else (if x.length < 3518437208883 then (ratlineref4_Tokens.l0 k s (x ++ [(⟨6, t178, 0, (i : Int)⟩ : S32)]) (wrap64 ((i : Int) + (t178.size : Int)))) else none)))) := by
    intro k
    simp only [ratlineref4_Tokens.j1]
    rw [if_neg (by decide), if_neg hc, refdigit, Option.bind_some]
    by_cases hd : isDig (c.toNat : Int) = true
    · rw [if_pos hd, if_pos hd]
    · rw [if_neg hd, if_neg hd, refletter, Option.bind_some, dig_nam c (by simpa using hd)]
      by_cases hl : isLet (c.toNat : Int) = true
      · rw [if_pos hl, if_pos hl]
      · rw [if_neg hl, if_neg hl]
        by_cases hq : (c.toNat : Int) = 34
        · rw [if_pos hq, if_pos hq]
        · rw [if_neg hq, if_neg hq, if_pos (Int.natCast_nonneg _), if_pos (Int.ofNat_le.2 (Nat.le_of_lt hi)), Int.toNat_natCast]
          simp only [Lib.toList_data]
  rw [e, tokP] at h
  by_cases hd : isDig (c.toNat : Int) = true
  · rw [if_neg (by rw [let_dig c hd]; decide), if_pos hd, ← e] at h
    have hle := spanI_le isDig (s.data.toList.drop i)
    rw [List.length_drop, len_list] at hle
    refine Ev.step (fun k => ?_) (l2_run s x i hs (s.size - i) i hne (j4_run s hs x hx i (spanI isDig (s.data.toList.drop i)) (by omega) r (span_all isDig _) h))
    rw [hst k, if_pos hd]
  by_cases hl : isLet (c.toNat : Int) = true
  · rw [if_pos hl, ← e] at h
    refine Ev.step (fun k => ?_) (l3_run s x i hs (s.size - i) i hne (j7_run s hs x hx i (Nat.le_of_lt hi) r h))
    rw [hst k, if_neg hd, if_pos hl]
  rw [if_neg hl, if_neg hd] at h
  by_cases hq : (c.toNat : Int) = 34
  · rw [if_pos hq] at h
    have ht := text_ev s hs i hi
    rw [e1] at ht
    refine Ev.step (fun k => ?_) (ht.bind (f := fun k bt172 => (if bt172.2.2 = true then (if x.length < 3518437208883 then (ratlineref4_Tokens.l0 k s (x ++ [(⟨5, bt172.1, 0, (i : Int)⟩ : S32)]) bt172.2.1) else none) else (some (([] : List (S32)), (i : Int), 10)))) ?_)
    · rw [hst k, if_neg hd, if_neg hl, if_pos hq]
    · cases hT : textS rest with
      | none =>
        rw [hT] at h
        obtain rfl := h
        exact Ev.now _
      | some p =>
        rw [hT] at h
        refine Ev.congr (fun k => ?_) h
        simp only [textR]
        rw [if_pos trivial, if_pos hx', Nat.add_assoc i 1 p.2]
        have : (⟨#[]⟩ : ByteArray) ++ (⟨p.1.toArray⟩ : ByteArray) = ⟨p.1.toArray⟩ := by apply bytes_ext; simp [ByteArray.data_append]
        rw [this]
  · rw [if_neg hq, ← e] at h
    have ho := op_ev (s.extract i s.size) (by rw [ext_size]; omega)
    rw [extract_list] at ho
    refine Ev.step (fun k => ?_) (ho.bind (f := fun k t178 => (if t178.data.toList = ([] : List UInt8) then (some (([] : List (S32)), (i : Int), 10)) else (if x.length < 3518437208883 then (ratlineref4_Tokens.l0 k s (x ++ [(⟨6, t178, 0, (i : Int)⟩ : S32)]) (wrap64 ((i : Int) + (t178.size : Int)))) else none))) ?_)
    · rw [hst k, if_neg hd, if_neg hl, if_neg hq]
    · cases hT : opP (s.data.toList.drop i) with
      | none =>
        rw [hT] at h
        obtain rfl := h
        exact Ev.now _
      | some y =>
        rw [hT] at h
        have hy := opP_len hT
        rw [List.length_drop, len_list] at hy
        refine Ev.congr (fun k => ?_) h
        show (if (⟨y.toArray⟩ : ByteArray).data.toList = ([] : List UInt8) then (some (([] : List (S32)), (i : Int), (10 : Int))) else (if x.length < 3518437208883 then (ratlineref4_Tokens.l0 k s (x ++ [(⟨6, ⟨y.toArray⟩, 0, (i : Int)⟩ : S32)]) (wrap64 ((i : Int) + ((⟨y.toArray⟩ : ByteArray).size : Int)))) else none)) = _
        rw [if_neg (show ¬ (⟨y.toArray⟩ : ByteArray).data.toList = [] by intro hh; have := congrArg List.length hh; simp at this; rw [this] at hy; simp at hy), if_pos hx']
        have hsz : (⟨y.toArray⟩ : ByteArray).size = y.length := by rw [← len_list]
        rw [hsz, show (i : Int) + (y.length : Int) = ((i + y.length : Nat) : Int) from rfl, wrapN _ (by omega)]
theorem ref_l0 (s : ByteArray) (hs : s.size ≤ 4000) : ∀ (d i D : Nat) (acc : List Tk), s.size ≤ i + d → i ≤ s.size → acc.length ≤ i → s.size < i + skipB false (s.data.toList.drop i) + D →
    Ev (fun k => ratlineref4_Tokens.l0 k s (acc.map to32) i) (res32 (toksP s.data.toList D (i + skipB false (s.data.toList.drop i)) acc)) := by
  intro d
  induction d using Nat.strongRecOn with
  | _ d ih =>
    intro i D acc h1 h2 h3 h4
    by_cases hlt : i < s.size
    case neg =>
      have hd0 : s.data.toList.drop i = [] := List.drop_of_length_le (by rw [len_list]; omega)
      rw [hd0] at h4 ⊢
      obtain ⟨D, rfl⟩ : ∃ m, D = m + 1 := ⟨D - 1, by simp [skipB] at h4; omega⟩
      rw [toksP, if_neg (by rw [len_list]; simp [skipB]; omega)]
      refine Ev.step (f := fun _ => some _) (fun k => ?_) (Ev.now _)
      simp only [ratlineref4_Tokens.l0]
      rw [if_neg (by omega)]
      rfl
    obtain ⟨c, rest, e, e1⟩ : ∃ c rest, s.data.toList.drop i = c :: rest ∧ s.data.toList.drop (i + 1) = rest := by
      have hll : i < s.data.toList.length := by rw [len_list]; exact hlt
      exact ⟨_, _, List.drop_eq_getElem_cons hll, rfl⟩
    have hb : bt s (i : Int) = (c.toNat : Int) := by
      rw [bt_byte s i hlt]
      have := byteAt_drop s.data.toList i 0
      rw [e] at this
      exact this.symm
    have hj1 : ∀ k, ratlineref4_Tokens.l0 (k + 1) s (acc.map to32) i = ratlineref4_Tokens.j1 k s (acc.map to32) i (c.toNat : Int) (isBlank (c.toNat : Int)) := by
      intro k
      simp only [ratlineref4_Tokens.l0]
      rw [if_pos (Int.ofNat_lt.2 hlt), if_pos (Int.natCast_nonneg _), hb]
      unfold isBlank
      generalize (c.toNat : Int) = x
      by_cases a1 : x = 32
      · subst a1; rfl
      by_cases a2 : x = 9
      · subst a2; rfl
      by_cases a3 : x = 10
      · subst a3; rfl
      rw [if_neg a1, if_neg a2, if_neg a3, beq_eq_false_iff_ne.2 a1, beq_eq_false_iff_ne.2 a2, beq_eq_false_iff_ne.2 a3]
      rfl
    by_cases hbl : isBlank (c.toNat : Int) = true
    · have hsk : skipB false (s.data.toList.drop i) = 1 + skipB false (s.data.toList.drop (i + 1)) := by rw [e, e1, skipB, if_pos hbl]
      have := ih (d - 1) (by omega) (i + 1) D acc (by omega) hlt (by omega) (by omega)
      rw [hsk, show i + (1 + skipB false (s.data.toList.drop (i + 1))) = i + 1 + skipB false (s.data.toList.drop (i + 1)) by omega]
      refine Ev.step hj1 (Ev.step (fun k => ?_) this)
      rw [hbl]
      simp only [ratlineref4_Tokens.j1]
      rw [if_pos trivial, wrapS hlt hs]
    simp only [Bool.not_eq_true] at hbl
    by_cases h35 : (c.toNat : Int) = 35
    · have hsp : spanI notLf (s.data.toList.drop i) = 1 + spanI notLf (s.data.toList.drop (i + 1)) := by rw [e, e1, spanI, if_pos (by rw [h35]; decide)]
      have hle := spanI_le notLf (s.data.toList.drop i)
      rw [List.length_drop, len_list] at hle
      have hsk : i + skipB false (s.data.toList.drop i) = (i + spanI notLf (s.data.toList.drop i)) + skipB false (s.data.toList.drop (i + spanI notLf (s.data.toList.drop i))) := by
        have h5 : skipB false (s.data.toList.drop i) = 1 + skipB true rest := by rw [e, skipB, if_neg (by rw [hbl]; decide), if_pos h35]
        have h6 := skip_rem rest
        have h7 : s.data.toList.drop (i + spanI notLf (s.data.toList.drop i)) = rest.drop (spanI notLf rest) := by
          rw [hsp, e1, ← e1, List.drop_drop]
          congr 1
          omega
        rw [h7, h5, h6, hsp, e1]
        omega
      have := ih (d - spanI notLf (s.data.toList.drop i)) (by omega) (i + spanI notLf (s.data.toList.drop i)) D acc (by omega) (by omega) (by omega) (by rw [← hsk]; exact h4)
      rw [hsk]
      refine Ev.step hj1 (Ev.step (fun k => ?_) (l1_run s (acc.map to32) hs (s.size - i) i (by omega) this))
      rw [hbl]
      simp only [ratlineref4_Tokens.j1]
      rw [if_neg (by decide), if_pos h35]
    have hsk : skipB false (s.data.toList.drop i) = 0 := by rw [e, skipB, if_neg (by rw [hbl]; decide), if_neg h35]
    rw [hsk, Nat.add_zero] at h4 ⊢
    obtain ⟨D, rfl⟩ : ∃ m, D = m + 1 := ⟨D - 1, by omega⟩
    refine Ev.step hj1 ?_
    rw [hbl]
    refine j1_tok s hs (acc.map to32) (by rw [List.length_map]; omega) i hlt c rest e h35 _ ?_
    rw [toksP, if_pos (by rw [len_list]; exact hlt)]
    cases hT : tokP (s.data.toList.drop i) with
    | none => rfl
    | some q =>
      obtain ⟨kd, t, n, m⟩ := q
      have hm := tokP_len hT
      rw [List.length_drop, len_list] at hm
      have := ih (d - m) (by omega) (i + m) D (acc ++ [(kd, t, n, i)]) (by omega) (by omega) (by rw [List.length_append]; simp only [List.length_cons, List.length_nil]; omega) (by omega)
      refine Ev.congr (fun k => ?_) this
      rw [List.map_append]
      rfl
theorem ref_ev (s : ByteArray) (hs : s.size ≤ 4000) : Ev (fun k => ratlineref4_Tokens.f k s) (res32 (tokensP s.data.toList)) := by
  have := ref_l0 s hs s.size 0 (s.size + 1) [] (by omega) (by omega) (by simp) (by omega)
  rw [List.drop_zero, Nat.zero_add] at this
  unfold tokensP
  rw [len_list]
  refine Ev.congr (fun k => ?_) this
  unfold ratlineref4_Tokens.f
  rw [if_neg (by omega)]
  rfl
theorem ref_long (k : Nat) (s : ByteArray) (hs : ¬ s.size ≤ 4000) : ratlineref4_Tokens.f k s = some ([], 0, 2) := by
  unfold ratlineref4_Tokens.f
  rw [if_pos (by omega)]
end Go.Proofs.YtmmndmfphcbieaaDoor.XLex
