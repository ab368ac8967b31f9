/- lex.span and lex.skip: what they tell. -/
import Derived.Test.YtjofmihdeblbmaaGreatDoorProg
import Derived.Tactics
import Derived.Tactics2
import Derived.WalkKit
import Derived.Below
import Derived.RowKit
import Derived.RowKit3
import Derived.KernelRfl
import Derived.Laws.Rows
import Derived.Laws.Strings
import Derived.Laws.Strings2
import Derived.Laws.Strings3
import Derived.Laws.Wrap64
import Derived.Lib.ConvBytes
import Derived.WalkMore
import Derived.ScopeJumps
namespace Go.Proofs.YtjofmihdeblbmaaGreatDoor
open Go.RowKit

def intOf : Value → Int | .int _ q => q | _ => 0
def isBlank (c : Int) : Bool := c == 32 || c == 9 || c == 10 || c == 13
def notLf (c : Int) : Bool := c != 10
def isDig (c : Int) : Bool := decide (48 ≤ c) && decide (c ≤ 57)
def isLet (c : Int) : Bool := decide (97 ≤ c) && decide (c ≤ 122) || decide (65 ≤ c) && decide (c ≤ 90) || c == 95
def isNam (c : Int) : Bool := isLet c || isDig c
def spanI (p : Int → Bool) : List UInt8 → Nat
  | [] => 0
  | c :: r => if p (c.toNat : Int) then 1 + spanI p r else 0
/-- blanks and remarks ahead; true: inside a remark -/
def skipB : Bool → List UInt8 → Nat
  | _, [] => 0
  | true, c :: r => if notLf (c.toNat : Int) then 1 + skipB true r else 1 + skipB false r
  | false, c :: r => if isBlank (c.toNat : Int) then 1 + skipB false r else if (c.toNat : Int) = 35 then 1 + skipB true r else 0

theorem spanI_step {p : Int → Bool} {l : List UInt8} {m : Nat} (h : m < l.length) (hp : p ((l[m]).toNat : Int) = true) : spanI p (l.drop m) = 1 + spanI p (l.drop (m + 1)) := by
  rw [List.drop_eq_getElem_cons h, spanI, if_pos hp]
theorem spanI_stop {p : Int → Bool} {l : List UInt8} {m : Nat} (h : m < l.length) (hp : p ((l[m]).toNat : Int) = false) : spanI p (l.drop m) = 0 := by
  rw [List.drop_eq_getElem_cons h, spanI, if_neg (by simp [hp])]
theorem spanI_end {p : Int → Bool} {l : List UInt8} {m : Nat} (h : ¬ m < l.length) : spanI p (l.drop m) = 0 := by
  rw [List.drop_eq_nil_of_le (by omega)]; rfl
theorem spanI_le (p : Int → Bool) : ∀ l : List UInt8, spanI p l ≤ l.length
  | [] => by simp [spanI]
  | c :: r => by
    have := spanI_le p r
    rw [spanI]
    split
    · simp only [List.length_cons]; omega
    · omega
theorem spanI_next (p : Int → Bool) : ∀ (l : List UInt8) (h : spanI p l < l.length), p ((l[spanI p l]).toNat : Int) = false
  | [], h => by simp at h
  | c :: r, h => by
    by_cases hc : p (c.toNat : Int) = true
    · have e : spanI p (c :: r) = spanI p r + 1 := by rw [spanI, if_pos hc]; omega
      have h' : spanI p r < r.length := by rw [e] at h; simpa using h
      have := spanI_next p r h'
      simp only [e, List.getElem_cons_succ]
      exact this
    · have e : spanI p (c :: r) = 0 := by rw [spanI, if_neg hc]
      simp only [e, List.getElem_cons_zero]
      exact Bool.eq_false_iff.mpr hc
theorem skip_blank : ∀ l : List UInt8, skipB false l = spanI isBlank l + skipB false (l.drop (spanI isBlank l))
  | [] => by simp [skipB, spanI]
  | c :: r => by
    by_cases hc : isBlank (c.toNat : Int) = true
    · have e : spanI isBlank (c :: r) = spanI isBlank r + 1 := by rw [spanI, if_pos hc]; omega
      rw [e, skipB, if_pos hc, List.drop_succ_cons, skip_blank r]; omega
    · have e : spanI isBlank (c :: r) = 0 := by rw [spanI, if_neg hc]
      rw [e]; simp
theorem skip_rem : ∀ l : List UInt8, skipB true l = spanI notLf l + skipB false (l.drop (spanI notLf l))
  | [] => by simp [skipB, spanI]
  | c :: r => by
    by_cases hc : notLf (c.toNat : Int) = true
    · have e : spanI notLf (c :: r) = spanI notLf r + 1 := by rw [spanI, if_pos hc]; omega
      rw [e, skipB, if_pos hc, List.drop_succ_cons, skip_rem r]; omega
    · have e : spanI notLf (c :: r) = 0 := by rw [spanI, if_neg hc]
      have hb : (c.toNat : Int) = 10 := by simpa [notLf] using hc
      rw [e, skipB, if_neg hc, List.drop_zero, skipB, if_pos (by rw [hb]; rfl)]; omega
theorem extract_list (s : ByteArray) (m : Nat) : (s.extract m s.size).data.toList = s.data.toList.drop m := by
  simp [ByteArray.data_extract, Array.toList_extract]
  rw [List.take_of_length_le]
  simp
theorem take_list (s : ByteArray) (m : Nat) : (s.extract 0 m).data.toList = s.data.toList.take m := by
  simp [ByteArray.data_extract, Array.toList_extract]
theorem get_list (s : ByteArray) (m : Nat) (h : m < s.size) : s[m] = s.data.toList[m]'(by simpa using h) := rfl

theorem blank_walk (c : Int) (w : World) :
    Calls Tryz.prog 168 #[.int .u8 c] w fun e w' => e = .returned (.bool (isBlank c)) ∧ w' = w := by
  unfold isBlank
  go_enter Tryz.func168, Tryz.ntmps168
  go_wp2
  all_goals (go_ret; simp_all)
theorem notlf_walk (c : Int) (w : World) :
    Calls Tryz.prog 169 #[.int .u8 c] w fun e w' => e = .returned (.bool (notLf c)) ∧ w' = w := by
  unfold notLf
  go_enter Tryz.func169, Tryz.ntmps169
  go_wp2
  all_goals (go_ret; simp_all)
theorem digit_walk (c : Int) (w : World) :
    Calls Tryz.prog 172 #[.int .u8 c] w fun e w' => e = .returned (.bool (isDig c)) ∧ w' = w := by
  unfold isDig
  go_enter Tryz.func172, Tryz.ntmps172
  go_wp2
  all_goals (go_ret; first | (refine ⟨?_, rfl⟩; refine congrArg (fun b => Ending.returned (Value.bool b)) ?_; rw [Bool.eq_iff_iff]; simp; omega) | (simp_all; done))
theorem letter_walk (c : Int) (w : World) :
    Calls Tryz.prog 170 #[.int .u8 c] w fun e w' => e = .returned (.bool (isLet c)) ∧ w' = w := by
  unfold isLet
  go_enter Tryz.func170, Tryz.ntmps170
  go_wp2
  all_goals (go_ret; first | (refine ⟨?_, rfl⟩; refine congrArg (fun b => Ending.returned (Value.bool b)) ?_; rw [Bool.eq_iff_iff]; simp; omega) | (simp_all; done))
theorem nam_walk (c : Int) (w : World) :
    Calls Tryz.prog 202 #[.int .u8 c] w fun e w' => e = .returned (.bool (isNam c)) ∧ w' = w := by
  unfold isNam
  go_enter Tryz.func202, Tryz.ntmps202
  go_wp2_with (first
    | (go_at_call 170; refine (letter_walk _ _).mono ?_; rintro e w' ⟨rfl, rfl⟩)
    | (go_at_call 172; refine (digit_walk _ _).mono ?_; rintro e w' ⟨rfl, rfl⟩))
  all_goals (go_ret; simp_all)
set_option maxRecDepth 100000 in
theorem span_blank (p : Int → Bool) (hp : ∀ c w, Calls Tryz.prog 168 #[.int .u8 c] w fun e w' => e = .returned (.bool (p c)) ∧ w' = w) (s : ByteArray) (w : World) (hs : s.size ≤ 9223372036854775807) :
    Calls Tryz.prog 167 #[.string s, .func (.func 168) #[] #[]] w fun e w' => e = .returned (.int .i64 (spanI p s.data.toList)) ∧ w' = w := by
  have hlen : s.data.toList.length = s.size := rfl
  go_enter Tryz.func167, Tryz.ntmps167
  go_wp2
  refine wp_scope_jumps 0 (fun a' w' => w' = w ∧ ∃ (m : Nat) (u6 u7 u8 u9 u10 u11 u12 u13 u14 u15 u16 u17 u18 : Value), a' = { tmps := #[.string s, .func (.func 168) #[] #[], undef, undef, .int .i64 0, .int .i64 m, u6, u7, u8, u9, u10, u11, u12, u13, u14, u15, u16, u17, u18, undef], defers := [] } ∧ m + spanI p (s.data.toList.drop m) = spanI p s.data.toList ∧ m ≤ s.size) (fun a' _ => s.size - (intOf (a'.tmps.getD 5 undef)).toNat) rfl ?_ ?_
  · go_wp2
    go_step3
    go_wp2_with (go_at_call 168; refine (hp _ _).mono ?_; rintro e w' ⟨rfl, rfl⟩)
    · have h1 : 0 < s.size := by assumption
      have h2 := ‹p _ = true›
      go_step3
      refine ⟨rfl, rfl, 1, _, _, _, _, _, _, _, _, _, _, _, _, _, rfl, ?_, by omega⟩
      have := spanI_step (p := p) (l := s.data.toList) (m := 0) (by omega) h2
      simpa using this.symm
    · have h1 : 0 < s.size := by assumption
      have h2 := ‹p _ = false›
      simp only [Exit.jump]
      go_ret
      refine ⟨?_, rfl⟩
      have := spanI_stop (p := p) (l := s.data.toList) (m := 0) (by omega) h2
      rw [List.drop_zero] at this
      rw [this]; rfl
    · have h1 : ¬ 0 < s.size := by assumption
      simp only [Exit.jump]
      go_ret
      refine ⟨?_, rfl⟩
      have := spanI_end (p := p) (l := s.data.toList) (m := 0) (by omega)
      rw [List.drop_zero] at this
      rw [this]; rfl
  · rintro a' w' ⟨rfl, m, u6, u7, u8, u9, u10, u11, u12, u13, u14, u15, u16, u17, u18, rfl, hm, hle⟩
    go_wp2_with (go_at_call 168; refine (hp _ _).mono ?_; rintro e w' ⟨rfl, rfl⟩)
    · have h1 : m < s.size := by assumption
      have h2 := ‹p _ = true›
      have h3 := spanI_step (p := p) (l := s.data.toList) (m := m) (by omega) h2
      go_step3
      refine ⟨rfl, ⟨rfl, m + 1, _, _, _, _, _, _, _, _, _, _, _, _, _, rfl, by omega, by omega⟩, ?_⟩
      simp [intOf]
      omega
    · have h1 : m < s.size := by assumption
      have h2 := ‹p _ = false›
      have h3 := spanI_stop (p := p) (l := s.data.toList) (m := m) (by omega) h2
      simp only [Exit.jump]
      go_ret
      refine ⟨?_, rfl⟩
      rw [← hm, h3]; rfl
    · have h1 : ¬ m < s.size := by assumption
      have h3 := spanI_end (p := p) (l := s.data.toList) (m := m) (by omega)
      simp only [Exit.jump]
      go_ret
      refine ⟨?_, rfl⟩
      rw [← hm, h3]; rfl
set_option maxRecDepth 100000 in
theorem span_notlf (p : Int → Bool) (hp : ∀ c w, Calls Tryz.prog 169 #[.int .u8 c] w fun e w' => e = .returned (.bool (p c)) ∧ w' = w) (s : ByteArray) (w : World) (hs : s.size ≤ 9223372036854775807) :
    Calls Tryz.prog 167 #[.string s, .func (.func 169) #[] #[]] w fun e w' => e = .returned (.int .i64 (spanI p s.data.toList)) ∧ w' = w := by
  have hlen : s.data.toList.length = s.size := rfl
  go_enter Tryz.func167, Tryz.ntmps167
  go_wp2
  refine wp_scope_jumps 0 (fun a' w' => w' = w ∧ ∃ (m : Nat) (u6 u7 u8 u9 u10 u11 u12 u13 u14 u15 u16 u17 u18 : Value), a' = { tmps := #[.string s, .func (.func 169) #[] #[], undef, undef, .int .i64 0, .int .i64 m, u6, u7, u8, u9, u10, u11, u12, u13, u14, u15, u16, u17, u18, undef], defers := [] } ∧ m + spanI p (s.data.toList.drop m) = spanI p s.data.toList ∧ m ≤ s.size) (fun a' _ => s.size - (intOf (a'.tmps.getD 5 undef)).toNat) rfl ?_ ?_
  · go_wp2
    go_step3
    go_wp2_with (go_at_call 169; refine (hp _ _).mono ?_; rintro e w' ⟨rfl, rfl⟩)
    · have h1 : 0 < s.size := by assumption
      have h2 := ‹p _ = true›
      go_step3
      refine ⟨rfl, rfl, 1, _, _, _, _, _, _, _, _, _, _, _, _, _, rfl, ?_, by omega⟩
      have := spanI_step (p := p) (l := s.data.toList) (m := 0) (by omega) h2
      simpa using this.symm
    · have h1 : 0 < s.size := by assumption
      have h2 := ‹p _ = false›
      simp only [Exit.jump]
      go_ret
      refine ⟨?_, rfl⟩
      have := spanI_stop (p := p) (l := s.data.toList) (m := 0) (by omega) h2
      rw [List.drop_zero] at this
      rw [this]; rfl
    · have h1 : ¬ 0 < s.size := by assumption
      simp only [Exit.jump]
      go_ret
      refine ⟨?_, rfl⟩
      have := spanI_end (p := p) (l := s.data.toList) (m := 0) (by omega)
      rw [List.drop_zero] at this
      rw [this]; rfl
  · rintro a' w' ⟨rfl, m, u6, u7, u8, u9, u10, u11, u12, u13, u14, u15, u16, u17, u18, rfl, hm, hle⟩
    go_wp2_with (go_at_call 169; refine (hp _ _).mono ?_; rintro e w' ⟨rfl, rfl⟩)
    · have h1 : m < s.size := by assumption
      have h2 := ‹p _ = true›
      have h3 := spanI_step (p := p) (l := s.data.toList) (m := m) (by omega) h2
      go_step3
      refine ⟨rfl, ⟨rfl, m + 1, _, _, _, _, _, _, _, _, _, _, _, _, _, rfl, by omega, by omega⟩, ?_⟩
      simp [intOf]
      omega
    · have h1 : m < s.size := by assumption
      have h2 := ‹p _ = false›
      have h3 := spanI_stop (p := p) (l := s.data.toList) (m := m) (by omega) h2
      simp only [Exit.jump]
      go_ret
      refine ⟨?_, rfl⟩
      rw [← hm, h3]; rfl
    · have h1 : ¬ m < s.size := by assumption
      have h3 := spanI_end (p := p) (l := s.data.toList) (m := m) (by omega)
      simp only [Exit.jump]
      go_ret
      refine ⟨?_, rfl⟩
      rw [← hm, h3]; rfl
set_option maxRecDepth 100000 in
theorem span_digit (p : Int → Bool) (hp : ∀ c w, Calls Tryz.prog 172 #[.int .u8 c] w fun e w' => e = .returned (.bool (p c)) ∧ w' = w) (s : ByteArray) (w : World) (hs : s.size ≤ 9223372036854775807) :
    Calls Tryz.prog 167 #[.string s, .func (.func 172) #[] #[]] w fun e w' => e = .returned (.int .i64 (spanI p s.data.toList)) ∧ w' = w := by
  have hlen : s.data.toList.length = s.size := rfl
  go_enter Tryz.func167, Tryz.ntmps167
  go_wp2
  refine wp_scope_jumps 0 (fun a' w' => w' = w ∧ ∃ (m : Nat) (u6 u7 u8 u9 u10 u11 u12 u13 u14 u15 u16 u17 u18 : Value), a' = { tmps := #[.string s, .func (.func 172) #[] #[], undef, undef, .int .i64 0, .int .i64 m, u6, u7, u8, u9, u10, u11, u12, u13, u14, u15, u16, u17, u18, undef], defers := [] } ∧ m + spanI p (s.data.toList.drop m) = spanI p s.data.toList ∧ m ≤ s.size) (fun a' _ => s.size - (intOf (a'.tmps.getD 5 undef)).toNat) rfl ?_ ?_
  · go_wp2
    go_step3
    go_wp2_with (go_at_call 172; refine (hp _ _).mono ?_; rintro e w' ⟨rfl, rfl⟩)
    · have h1 : 0 < s.size := by assumption
      have h2 := ‹p _ = true›
      go_step3
      refine ⟨rfl, rfl, 1, _, _, _, _, _, _, _, _, _, _, _, _, _, rfl, ?_, by omega⟩
      have := spanI_step (p := p) (l := s.data.toList) (m := 0) (by omega) h2
      simpa using this.symm
    · have h1 : 0 < s.size := by assumption
      have h2 := ‹p _ = false›
      simp only [Exit.jump]
      go_ret
      refine ⟨?_, rfl⟩
      have := spanI_stop (p := p) (l := s.data.toList) (m := 0) (by omega) h2
      rw [List.drop_zero] at this
      rw [this]; rfl
    · have h1 : ¬ 0 < s.size := by assumption
      simp only [Exit.jump]
      go_ret
      refine ⟨?_, rfl⟩
      have := spanI_end (p := p) (l := s.data.toList) (m := 0) (by omega)
      rw [List.drop_zero] at this
      rw [this]; rfl
  · rintro a' w' ⟨rfl, m, u6, u7, u8, u9, u10, u11, u12, u13, u14, u15, u16, u17, u18, rfl, hm, hle⟩
    go_wp2_with (go_at_call 172; refine (hp _ _).mono ?_; rintro e w' ⟨rfl, rfl⟩)
    · have h1 : m < s.size := by assumption
      have h2 := ‹p _ = true›
      have h3 := spanI_step (p := p) (l := s.data.toList) (m := m) (by omega) h2
      go_step3
      refine ⟨rfl, ⟨rfl, m + 1, _, _, _, _, _, _, _, _, _, _, _, _, _, rfl, by omega, by omega⟩, ?_⟩
      simp [intOf]
      omega
    · have h1 : m < s.size := by assumption
      have h2 := ‹p _ = false›
      have h3 := spanI_stop (p := p) (l := s.data.toList) (m := m) (by omega) h2
      simp only [Exit.jump]
      go_ret
      refine ⟨?_, rfl⟩
      rw [← hm, h3]; rfl
    · have h1 : ¬ m < s.size := by assumption
      have h3 := spanI_end (p := p) (l := s.data.toList) (m := m) (by omega)
      simp only [Exit.jump]
      go_ret
      refine ⟨?_, rfl⟩
      rw [← hm, h3]; rfl
set_option maxRecDepth 100000 in
theorem span_nam (p : Int → Bool) (hp : ∀ c w, Calls Tryz.prog 202 #[.int .u8 c] w fun e w' => e = .returned (.bool (p c)) ∧ w' = w) (s : ByteArray) (w : World) (hs : s.size ≤ 9223372036854775807) :
    Calls Tryz.prog 167 #[.string s, .func (.func 202) #[] #[]] w fun e w' => e = .returned (.int .i64 (spanI p s.data.toList)) ∧ w' = w := by
  have hlen : s.data.toList.length = s.size := rfl
  go_enter Tryz.func167, Tryz.ntmps167
  go_wp2
  refine wp_scope_jumps 0 (fun a' w' => w' = w ∧ ∃ (m : Nat) (u6 u7 u8 u9 u10 u11 u12 u13 u14 u15 u16 u17 u18 : Value), a' = { tmps := #[.string s, .func (.func 202) #[] #[], undef, undef, .int .i64 0, .int .i64 m, u6, u7, u8, u9, u10, u11, u12, u13, u14, u15, u16, u17, u18, undef], defers := [] } ∧ m + spanI p (s.data.toList.drop m) = spanI p s.data.toList ∧ m ≤ s.size) (fun a' _ => s.size - (intOf (a'.tmps.getD 5 undef)).toNat) rfl ?_ ?_
  · go_wp2
    go_step3
    go_wp2_with (go_at_call 202; refine (hp _ _).mono ?_; rintro e w' ⟨rfl, rfl⟩)
    · have h1 : 0 < s.size := by assumption
      have h2 := ‹p _ = true›
      go_step3
      refine ⟨rfl, rfl, 1, _, _, _, _, _, _, _, _, _, _, _, _, _, rfl, ?_, by omega⟩
      have := spanI_step (p := p) (l := s.data.toList) (m := 0) (by omega) h2
      simpa using this.symm
    · have h1 : 0 < s.size := by assumption
      have h2 := ‹p _ = false›
      simp only [Exit.jump]
      go_ret
      refine ⟨?_, rfl⟩
      have := spanI_stop (p := p) (l := s.data.toList) (m := 0) (by omega) h2
      rw [List.drop_zero] at this
      rw [this]; rfl
    · have h1 : ¬ 0 < s.size := by assumption
      simp only [Exit.jump]
      go_ret
      refine ⟨?_, rfl⟩
      have := spanI_end (p := p) (l := s.data.toList) (m := 0) (by omega)
      rw [List.drop_zero] at this
      rw [this]; rfl
  · rintro a' w' ⟨rfl, m, u6, u7, u8, u9, u10, u11, u12, u13, u14, u15, u16, u17, u18, rfl, hm, hle⟩
    go_wp2_with (go_at_call 202; refine (hp _ _).mono ?_; rintro e w' ⟨rfl, rfl⟩)
    · have h1 : m < s.size := by assumption
      have h2 := ‹p _ = true›
      have h3 := spanI_step (p := p) (l := s.data.toList) (m := m) (by omega) h2
      go_step3
      refine ⟨rfl, ⟨rfl, m + 1, _, _, _, _, _, _, _, _, _, _, _, _, _, rfl, by omega, by omega⟩, ?_⟩
      simp [intOf]
      omega
    · have h1 : m < s.size := by assumption
      have h2 := ‹p _ = false›
      have h3 := spanI_stop (p := p) (l := s.data.toList) (m := m) (by omega) h2
      simp only [Exit.jump]
      go_ret
      refine ⟨?_, rfl⟩
      rw [← hm, h3]; rfl
    · have h1 : ¬ m < s.size := by assumption
      have h3 := spanI_end (p := p) (l := s.data.toList) (m := m) (by omega)
      simp only [Exit.jump]
      go_ret
      refine ⟨?_, rfl⟩
      rw [← hm, h3]; rfl
end Go.Proofs.YtjofmihdeblbmaaGreatDoor
