/- The reference's inner functions, as plain functions on lists of bytes. -/
import Derived.Test.YtmmndmfphcbieaaDoorXLexx1
import Derived.Test.YtmmndmfphcbieaaDoorXLexx2
import Derived.Test.YtmmndmfphcbieaaDoorXLexx3
import Derived.Test.YtmmndmfphcbieaaDoorLexP1
import Derived.Test.YtmmndmfphcbieaaDoorLexF
namespace Go.Proofs.YtmmndmfphcbieaaDoor.XLex
open Go.RowKit Go.Proofs.YtmmndmfphcbieaaDoorW.PrintWords Go.Proofs.YtmmndmfphcbieaaDoorW.PrintLast Go.Proofs.YtmmndmfphcbieaaDoorW.PrintMore
theorem bt_byte (s : ByteArray) (i : Nat) (h : i < s.size) : bt s (i : Int) = byteAt s.data.toList i := by
  rw [byteAt_lt s i h]
  unfold bt
  rw [dif_pos (by simpa using h)]
  rfl
theorem wrap_id {x : Int} (h0 : -9223372036854775808 ≤ x) (h1 : x ≤ 9223372036854775807) : wrap64 x = x := by unfold wrap64; omega
theorem refdigit (c : Int) : ratlineref4_digit.f c = some (isDig c) := by
  unfold ratlineref4_digit.f isDig
  split
  · rename_i h; simp [h]
  · rename_i h; simp [h]
theorem refletter (c : Int) : ratlineref4_letter.f c = some (isNam c) := by
  unfold ratlineref4_letter.f
  simp only [refdigit, Option.bind_some]
  unfold isNam isLet isDig
  repeat' split
  all_goals (congr 1; rw [Bool.eq_iff_iff]; simp; omega)
theorem number_l0 (s : ByteArray) (hs : allDig s.data.toList) (hsz : s.size ≤ 9223372036854775806) : ∀ (d i : Nat), s.size - i = d → i ≤ s.size → valD 0 (s.data.toList.take i) < 9223372036854775808 →
    Ev (fun k => ratlineref4_number.l0 k s (valD 0 (s.data.toList.take i) : Nat) i) (if valD 0 s.data.toList < 9223372036854775808 then ((valD 0 s.data.toList : Int), true) else (0, false)) := by
  intro d
  induction d with
  | zero =>
    intro i hd hi hv
    have hi : i = s.size := by omega
    subst hi
    have e : s.data.toList.take s.size = s.data.toList := List.take_of_length_le (by simp)
    rw [e] at hv ⊢
    rw [if_pos hv]
    refine Ev.step (f := fun _ => some _) (fun k => ?_) (Ev.now _)
    simp only [ratlineref4_number.l0]
    rw [if_neg (by omega)]
  | succ d ih =>
    intro i hd hi hv
    have hlt : i < s.size := by omega
    have hget : s.data.toList.take (i + 1) = s.data.toList.take i ++ [s[i]] := by
      rw [get_list s i hlt]; exact (List.take_append_getElem (by simpa using hlt)).symm
    have hc := (isDig_iff s[i]).1 (hs s[i] (by rw [get_list s i hlt]; exact List.getElem_mem _))
    have hn : valD 0 (s.data.toList.take (i + 1)) = valD 0 (s.data.toList.take i) * 10 + dgt s[i] := by rw [hget, valD_snoc]
    have hb : bt s (i : Int) = (s[i].toNat : Int) := by rw [bt_byte s i hlt, byteAt_lt s i hlt]
    have hdg : (bt s (i : Int) - 48) % 256 = (dgt s[i] : Int) := by rw [hb, dgt_eq]; omega
    have hd9 : dgt s[i] ≤ 9 := by rw [dgt_eq]; omega
    obtain ⟨n, hN⟩ : ∃ n, valD 0 (s.data.toList.take i) = n := ⟨_, rfl⟩
    rw [hN] at hv hn ⊢
    have hge : valD 0 (s.data.toList.take (i + 1)) ≤ valD 0 s.data.toList := by
      have e := valD_append (s.data.toList.take (i + 1)) (s.data.toList.drop (i + 1)) 0
      rw [List.take_append_drop] at e
      rw [e]; exact valD_ge _ _
    by_cases hbig : (n : Int) > (9223372036854775807 - (dgt s[i] : Int)) / 10
    · rw [if_neg (by omega)]
      refine Ev.step (f := fun _ => some _) (fun k => ?_) (Ev.now _)
      simp only [ratlineref4_number.l0]
      rw [if_pos (by omega), if_pos (by omega), hdg, if_pos hbig]
    · have := ih (i + 1) (by omega) (by omega) (by omega)
      rw [hn] at this
      refine Ev.step (fun k => ?_) this
      simp only [ratlineref4_number.l0]
      rw [if_pos (by omega), if_pos (by omega), hdg, if_neg hbig, wrap_id (x := 10 * (n : Int)) (by omega) (by omega), wrap_id (by omega) (by omega), wrap_id (by omega) (by omega)]
      congr 1
      omega
theorem number_ev (s : ByteArray) (hs : allDig s.data.toList) (hsz : s.size ≤ 9223372036854775806) :
    Ev (fun k => ratlineref4_number.f k s) (if valD 0 s.data.toList < 9223372036854775808 then ((valD 0 s.data.toList : Int), true) else (0, false)) := by
  have := number_l0 s hs hsz s.size 0 rfl (by omega) (by simp [valD_nil])
  exact Ev.congr (fun k => rfl) this
theorem bytes_ext {a b : ByteArray} (h : a.data.toList = b.data.toList) : a = b := by
  cases a; cases b; congr 1; exact Array.toList_inj.mp h
theorem ext1 (s : ByteArray) (i : Nat) (h : i < s.size) : s.extract i (i + 1) = ⟨#[s[i]]⟩ := by
  apply bytes_ext
  rw [get_list s i h]
  simp only [ByteArray.data_extract, Array.toList_extract, List.extract_eq_take_drop, Nat.add_sub_cancel_left]
  rw [List.drop_eq_getElem_cons (by simpa using h)]
  rfl
theorem cat_cons (o : ByteArray) (c : UInt8) (t : List UInt8) : (o ++ (⟨#[c]⟩ : ByteArray)) ++ (⟨t.toArray⟩ : ByteArray) = o ++ (⟨(c :: t).toArray⟩ : ByteArray) := by
  apply bytes_ext; simp [ByteArray.data_append]
theorem cat_nil (o : ByteArray) : o ++ (⟨([] : List UInt8).toArray⟩ : ByteArray) = o := by
  apply bytes_ext; simp [ByteArray.data_append]
/-- what the reference's text tells from a place on -/
def textR (out : ByteArray) (i : Nat) : Option (List UInt8 × Nat) → ByteArray × Int × Bool
  | some (t, m) => (out ++ ⟨t.toArray⟩, ((i + m : Nat) : Int), true)
  | none => (⟨#[]⟩, 0, false)
theorem textR_cons (out : ByteArray) (i j : Nat) (c : UInt8) (x : Option (List UInt8 × Nat)) : textR (out ++ ⟨#[c]⟩) (i + j) x = textR out i (x.map (fun p => (c :: p.1, p.2 + j))) := by
  cases x with
  | none => rfl
  | some p =>
    simp only [textR, Option.map_some, cat_cons]
    congr 2
    omega
theorem wrapS {i n : Nat} (h : i < n) (hn : n ≤ 4000) : wrap64 ((i : Int) + 1) = ((i + 1 : Nat) : Int) := by rw [wrap_id (by omega) (by omega)]; rfl
theorem sz1 (s : ByteArray) (i : Nat) (h : i < s.size) : (s.extract i (i + 1)).size = 1 := by rw [ext1 s i h]; rfl
theorem room {a b : Nat} (ha : a ≤ 4001) (hb : b ≤ 2) : a + b ≤ 9223372036854775807 := by omega
section
variable (k : Nat) (s out : ByteArray) (i : Nat)
theorem tl_end (h : s.size ≤ i) : ratlineref4_text.l0 (k + 1) s out i = some (⟨#[]⟩, 0, false) := by
  simp only [ratlineref4_text.l0]
  rw [if_neg (Int.not_lt.2 (Int.ofNat_le.2 h))]
theorem tl_q (h : i < s.size) (hs : s.size ≤ 4000) (hb : bt s i = 34) : ratlineref4_text.l0 (k + 1) s out i = some (out, ((i + 1 : Nat) : Int), true) := by
  simp only [ratlineref4_text.l0]
  rw [if_pos (Int.ofNat_lt.2 h), if_pos (Int.natCast_nonneg i), if_pos hb, wrapS h hs]
theorem tl_lf (h : i < s.size) (hb : bt s i = 10) : ratlineref4_text.l0 (k + 1) s out i = some (⟨#[]⟩, 0, false) := by
  simp only [ratlineref4_text.l0]
  rw [if_pos (Int.ofNat_lt.2 h), if_pos (Int.natCast_nonneg i), hb, if_neg (by decide), if_pos rfl]
theorem tl_e (h : i < s.size) (hs : s.size ≤ 4000) (h2 : s.size ≤ i + 1) (hb : bt s i = 92) : ratlineref4_text.l0 (k + 1) s out i = some (⟨#[]⟩, 0, false) := by
  have e : i + 1 = s.size := Nat.le_antisymm h h2
  simp only [ratlineref4_text.l0]
  rw [if_pos (Int.ofNat_lt.2 h), if_pos (Int.natCast_nonneg i), hb, if_neg (by decide), if_neg (by decide), if_pos rfl, wrapS h hs, if_pos (congrArg Nat.cast e)]
theorem tl_j (h : i < s.size) (hs : s.size ≤ 4000) (h2 : i + 1 < s.size) (hb : bt s i = 92) : ratlineref4_text.l0 (k + 1) s out i = ratlineref4_text.j1 k s out ((i + 1 : Nat) : Int) (bt s ((i + 1 : Nat) : Int)) (bt s ((i + 1 : Nat) : Int) == 34 || bt s ((i + 1 : Nat) : Int) == 92) := by
  simp only [ratlineref4_text.l0]
  rw [if_pos (Int.ofNat_lt.2 h), if_pos (Int.natCast_nonneg i), hb, if_neg (by decide), if_neg (by decide), if_pos rfl, wrapS h hs, if_neg (show ¬ ((i + 1 : Nat) : Int) = (s.size : Int) from fun e => Nat.ne_of_lt h2 (Int.ofNat.inj e)), if_pos (Int.natCast_nonneg _), if_pos (Int.ofNat_lt.2 h2)]
  generalize bt s ((i + 1 : Nat) : Int) = c
  by_cases hc : c = 34
  · subst hc; rfl
  · rw [if_neg hc, beq_eq_false_iff_ne.2 hc, Bool.false_or]
theorem tl_c (h : i < s.size) (hs : s.size ≤ 4000) (ho : out.size ≤ 4001) (h34 : bt s i ≠ 34) (h10 : bt s i ≠ 10) (h92 : bt s i ≠ 92) : ratlineref4_text.l0 (k + 1) s out i = ratlineref4_text.l0 k s (out ++ ⟨#[s[i]]⟩) ((i + 1 : Nat) : Int) := by
  simp only [ratlineref4_text.l0]
  rw [if_pos (Int.ofNat_lt.2 h), if_pos (Int.natCast_nonneg i), if_neg h34, if_neg h10, if_neg h92, wrapS h hs, if_pos (Int.ofNat_le.2 (Nat.le_succ i)), if_pos (Int.ofNat_le.2 h), Int.toNat_natCast, Int.toNat_natCast, if_pos (by rw [sz1 s i h]; exact room ho (by decide)), ext1 s i h]
theorem tj_d (c : Int) (h : i < s.size) (hs : s.size ≤ 4000) (ho : out.size ≤ 4001) : ratlineref4_text.j1 (k + 1) s out i c true = ratlineref4_text.l0 k s (out ++ ⟨#[s[i]]⟩) ((i + 1 : Nat) : Int) := by
  simp only [ratlineref4_text.j1]
  rw [if_pos trivial, if_pos (Int.natCast_nonneg i), wrapS h hs, if_pos (Int.ofNat_le.2 (Nat.le_succ i)), if_pos (Int.ofNat_le.2 h), Int.toNat_natCast, Int.toNat_natCast, if_pos (by rw [sz1 s i h]; exact room ho (by decide)), ext1 s i h]
theorem tj_n (h : i < s.size) (hs : s.size ≤ 4000) (ho : out.size ≤ 4001) : ratlineref4_text.j1 (k + 1) s out i 110 false = ratlineref4_text.l0 k s (out ++ ⟨#[10]⟩) ((i + 1 : Nat) : Int) := by
  simp only [ratlineref4_text.j1]
  rw [if_neg (by decide), if_pos trivial, if_pos (room ho (by decide)), wrapS h hs]
theorem tj_x (c : Int) (hc : c ≠ 110) : ratlineref4_text.j1 (k + 1) s out i c false = some (⟨#[]⟩, 0, false) := by
  simp only [ratlineref4_text.j1]
  rw [if_neg (by decide), if_neg hc]
end
theorem stp1 {z i d : Nat} (hd : z ≤ i + d) (h : i < z) : d - 1 < d ∧ z ≤ i + 1 + (d - 1) := by omega
theorem stp2 {z i d : Nat} (hd : z ≤ i + d) (h : i + 1 < z) : d - 2 < d ∧ z ≤ i + 1 + 1 + (d - 2) := by omega
theorem catsz (o : ByteArray) (c : UInt8) : (o ++ (⟨#[c]⟩ : ByteArray)).size = o.size + 1 := by rw [ByteArray.size_append]; rfl
theorem text_l0 (s : ByteArray) (hs : s.size ≤ 4000) : ∀ (d i : Nat) (out : ByteArray), s.size ≤ i + d → i ≤ s.size → out.size ≤ i →
    Ev (fun k => ratlineref4_text.l0 k s out i) (textR out i (textS (s.data.toList.drop i))) := by
  intro d
  induction d using Nat.strongRecOn with
  | _ d ih =>
    intro i out hd hi ho
    have ho' : out.size ≤ 4001 := Nat.le_trans ho (Nat.le_trans hi (Nat.le_succ_of_le hs))
    by_cases hlt : i < s.size
    case neg =>
      rw [drop_end (Nat.le_of_not_lt hlt)]
      exact Ev.step (f := fun _ => some _) (fun k => tl_end k s out i (Nat.le_of_not_lt hlt)) (Ev.now _)
    have hb : bt s (i : Int) = (s[i].toNat : Int) := by rw [bt_byte s i hlt, byteAt_lt s i hlt]
    by_cases h34 : (s[i].toNat : Int) = 34
    · rw [text_q hlt h34]
      refine Ev.step (f := fun _ => some _) (fun k => tl_q k s out i hlt hs (hb.trans h34)) ?_
      simp only [textR, cat_nil]
      exact Ev.now _
    by_cases h10 : (s[i].toNat : Int) = 10
    · rw [text_lf hlt h10]
      exact Ev.step (f := fun _ => some _) (fun k => tl_lf k s out i hlt (hb.trans h10)) (Ev.now _)
    by_cases h92 : (s[i].toNat : Int) = 92
    case neg =>
      rw [text_c hlt h10 h34 h92, ← textR_cons]
      refine Ev.step (fun k => tl_c k s out i hlt hs ho' (hb ▸ h34) (hb ▸ h10) (hb ▸ h92)) ?_
      exact ih (d - 1) (stp1 hd hlt).1 (i + 1) _ (stp1 hd hlt).2 hlt (by rw [catsz]; exact Nat.succ_le_succ ho)
    by_cases hl2 : i + 1 < s.size
    case neg =>
      rw [text_e hlt h92 (Nat.le_of_not_lt hl2)]
      exact Ev.step (f := fun _ => some _) (fun k => tl_e k s out i hlt hs (Nat.le_of_not_lt hl2) (hb.trans h92)) (Ev.now _)
    have hb2 : bt s ((i + 1 : Nat) : Int) = (s[i + 1].toNat : Int) := by rw [bt_byte s (i + 1) hl2, byteAt_lt s (i + 1) hl2]
    refine Ev.step (fun k => tl_j k s out i hlt hs hl2 (hb.trans h92)) ?_
    rw [hb2]
    by_cases hq : (s[i + 1].toNat : Int) = 34 ∨ (s[i + 1].toNat : Int) = 92
    · rw [text_d hlt h92 hl2 hq, ← textR_cons, show ((s[i + 1].toNat : Int) == 34 || (s[i + 1].toNat : Int) == 92) = true from by simpa using hq]
      refine Ev.step (fun k => tj_d k s out (i + 1) _ hl2 hs ho') ?_
      exact ih (d - 2) (stp2 hd hl2).1 (i + 1 + 1) _ (stp2 hd hl2).2 hl2 (by rw [catsz]; exact Nat.succ_le_succ (Nat.le_succ_of_le ho))
    · rw [show ((s[i + 1].toNat : Int) == 34 || (s[i + 1].toNat : Int) == 92) = false from by simpa using hq]
      by_cases h110 : (s[i + 1].toNat : Int) = 110
      · rw [text_n hlt h92 hl2 h110, ← textR_cons, h110]
        refine Ev.step (fun k => tj_n k s out (i + 1) hl2 hs ho') ?_
        exact ih (d - 2) (stp2 hd hl2).1 (i + 1 + 1) _ (stp2 hd hl2).2 hl2 (by rw [catsz]; exact Nat.succ_le_succ (Nat.le_succ_of_le ho))
      · rw [text_x hlt h92 hl2 h110 (fun h => hq (.inl h)) (fun h => hq (.inr h))]
        exact Ev.step (f := fun _ => some _) (fun k => tj_x k s out (i + 1) _ h110) (Ev.now _)
theorem text_ev (s : ByteArray) (hsz : s.size ≤ 4000) (at_ : Nat) (h : at_ < s.size) : Ev (fun k => ratlineref4_text.f k s (at_ : Int)) (textR ⟨#[]⟩ (at_ + 1) (textS (s.data.toList.drop (at_ + 1)))) := by
  have := text_l0 s hsz s.size (at_ + 1) ⟨#[]⟩ (by omega) (by omega) (by simp [ByteArray.size])
  refine Ev.congr (fun k => ?_) this
  simp only [ratlineref4_text.f]
  rw [wrap_id (by omega) (by omega)]
  rfl
end Go.Proofs.YtmmndmfphcbieaaDoor.XLex
