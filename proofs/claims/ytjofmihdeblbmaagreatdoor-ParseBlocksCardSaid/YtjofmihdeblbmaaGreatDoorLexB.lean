/- lex.skip: what it tells. -/
import Derived.Test.YtjofmihdeblbmaaGreatDoorLexA
namespace Go.Proofs.YtjofmihdeblbmaaGreatDoor
open Go.RowKit
/-- a fact out of the walk's sight -/
structure Hid (p : Prop) : Prop where
  out : p
/-- a scope with one label, whose first way is as the others -/
theorem wp_scope_from {P : Program} {a : Act} {w : World} {Q : Exit → Act → World → Prop} {c X : Code} (l : Nat) (J : Act → World → Prop) (μ : Act → World → Nat) (hf : findLabel c l = some (Code.skip.seq X))
    (first : ∀ T : Exit → Act → World → Prop, (∀ a w, J a w → X.wp P T a w) → c.wp P T a w)
    (pass : ∀ a w, J a w → X.wp P (Exit.jump l (fun a' w' => J a' w' ∧ μ a' w' < μ a w) Q) a w) : (Code.scope c).wp P Q a w :=
  wp_scope_jumps l J μ hf (first _ (fun a w h => wp_mono (pass a w h) (by
    intro e a' w' h'
    cases e <;> first | exact h' | exact ⟨h'.1, h'.2.1⟩))) (fun a w h => wp_seq (wp_skip (pass a w h)))
theorem span_notlf' (s : ByteArray) (w : World) (hs : s.size ≤ 9223372036854775807) :
    Calls Tryz.prog 167 #[.string s, .func (.func 169) #[] #[]] w fun e w' => ∃ k : Nat, e = .returned (.int .i64 k) ∧ Hid (spanI notLf s.data.toList = k) ∧ k ≤ s.size ∧ w' = w := by
  refine (span_notlf notLf notlf_walk s w hs).mono ?_
  rintro e w' ⟨rfl, rfl⟩
  exact ⟨_, rfl, ⟨rfl⟩, spanI_le notLf s.data.toList, rfl⟩
set_option maxRecDepth 100000 in
theorem skip_walk (s : ByteArray) (w : World) (hs : s.size ≤ 9223372036854775807) :
    Calls Tryz.prog 119 #[.string s] w fun e w' => e = .returned (.int .i64 (skipB false s.data.toList)) ∧ w' = w := by
  have hlen : s.data.toList.length = s.size := rfl
  go_enter Tryz.func119, Tryz.ntmps119
  go_wp2
  refine wp_scope_from 0 (fun a' w' => w' = w ∧ ∃ (m : Nat) (u4 u5 u6 u7 u8 u9 u10 u11 u12 u13 u14 u15 u16 u17 u18 u19 u20 u21 u22 u23 u24 u25 : Value), a' = { tmps := #[.string s, undef, .int .i64 0, .int .i64 m, u4, u5, u6, u7, u8, u9, u10, u11, u12, u13, u14, u15, u16, u17, u18, u19, u20, u21, u22, u23, u24, u25, undef], defers := [] } ∧ m + skipB false (s.data.toList.drop m) = skipB false s.data.toList ∧ m ≤ s.size) (fun a' _ => s.size - (intOf (a'.tmps.getD 3 undef)).toNat) rfl ?_ ?_
  · intro T hT
    go_wp2
    go_step3
    rename_i hK
    refine hK _ _ (hT _ _ ⟨rfl, 0, _, _, _, _, _, _, _, _, _, _, _, _, _, _, _, _, _, _, _, _, _, _, rfl, by simp, by omega⟩)
  · rintro a' w' ⟨rfl, m, u4, u5, u6, u7, u8, u9, u10, u11, u12, u13, u14, u15, u16, u17, u18, u19, u20, u21, u22, u23, u24, u25, rfl, hm, hle⟩
    have hk : spanI isBlank (s.extract m s.size).data.toList ≤ s.size - m := by
      rw [extract_list]
      have := spanI_le isBlank (s.data.toList.drop m)
      rw [List.length_drop, hlen] at this
      exact this
    have hm' := Hid.mk hm
    have hl' := Hid.mk hlen
    have hxs : (s.extract m s.size).size ≤ 9223372036854775807 := by simp; omega
    clear hm hlen
    obtain ⟨k, hk1⟩ : ∃ k, spanI isBlank (s.extract m s.size).data.toList = k := ⟨_, rfl⟩
    have hk2 := Hid.mk hk1
    rw [hk1] at hk
    clear hk1
    go_wp2_with (go_at_call 167; first | (with_reducible refine (span_blank isBlank blank_walk _ _ hxs).mono ?_; rintro e w' ⟨rfl, rfl⟩; rw [hk2.out]) | (with_reducible refine (span_notlf' _ _ (by simp; omega)).mono ?_; rintro e w' ⟨k2, rfl, hk3, hk4, rfl⟩; simp only [ByteArray.size_extract, Nat.min_self] at hk4))
    all_goals (have hm := hm'.out; have hlen := hl'.out; have e1 := hk2.out; rw [extract_list] at e1; have e2 := skip_blank (s.data.toList.drop m); rw [e1, List.drop_drop] at e2)
    · have hlt : m + k < s.size := by omega
      have h35 : (s[m + k].toNat : Int) = 35 := eq_of_beq ‹(_ == _) = true›
      have e3 := hk3.out
      rw [extract_list] at e3
      have e4 := skip_rem (s.data.toList.drop (m + k))
      rw [e3, List.drop_drop] at e4
      have e5 : k2 ≠ 0 := by
        intro h0
        have := spanI_step (p := notLf) (l := s.data.toList) (m := m + k) (by omega) (by rw [← get_list s (m + k) hlt, h35]; rfl)
        omega
      have e6 : skipB false (s.data.toList.drop (m + k)) = skipB true (s.data.toList.drop (m + k)) := by
        rw [List.drop_eq_getElem_cons (i := m + k) (by omega), ← get_list s (m + k) hlt, skipB, skipB, h35, if_neg (by decide), if_pos rfl, if_pos (by decide)]
      go_step3
      refine ⟨rfl, ⟨rfl, m + k + k2, _, _, _, _, _, _, _, _, _, _, _, _, _, _, _, _, _, _, _, _, _, _, rfl, by omega, by omega⟩, ?_⟩
      simp [intOf]
      omega
    · have hlt : m + k < s.size := by omega
      have h35 : (s[m + k].toNat : Int) ≠ 35 := ne_of_beq_false ‹(_ == _) = false›
      have e6 : skipB false (s.data.toList.drop (m + k)) = 0 := by
        rw [List.drop_eq_getElem_cons (i := m + k) (by omega), ← get_list s (m + k) hlt, skipB, if_neg ?_, if_neg h35]
        have := spanI_next isBlank (s.data.toList.drop m) (by rw [e1, List.length_drop]; omega)
        simp only [e1, List.getElem_drop] at this
        rw [get_list s (m + k) hlt, this]
        decide
      simp only [Exit.jump]
      go_ret
      refine ⟨?_, rfl⟩
      rw [← hm, e2, e6]; simp
    · have e6 : skipB false (s.data.toList.drop (m + k)) = 0 := by
        rw [List.drop_eq_nil_of_le (by omega)]; rfl
      simp only [Exit.jump]
      go_ret
      refine ⟨?_, rfl⟩
      rw [← hm, e2, e6]; simp
end Go.Proofs.YtjofmihdeblbmaaGreatDoor
