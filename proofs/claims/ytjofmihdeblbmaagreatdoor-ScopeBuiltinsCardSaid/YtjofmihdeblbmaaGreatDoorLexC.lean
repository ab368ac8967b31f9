/- lex.skip: what it tells. | lex.name: what it tells. | Small facts on blocks, for the walks of lex (in place of the print's words). -/
import Derived.Test.YtjofmihdeblbmaaGreatDoorLexA
import Derived.Test.YtjofmihdeblbmaaGreatDoorShelf
namespace Go.Proofs.YtjofmihdeblbmaaGreatDoor
open Go.RowKit
/-- a fact out of the walk's sight -/
structure Hid (p : Prop) : Prop where
  out : p
/-- a scope with one label, whose first way is as the others -/
theorem wp_scope_from {P : Program} {a : Act} {w : World} {Q : Exit → Act → World → Prop} {c X : Code} (l : Nat) (J : Act → World → Prop) (μ : Act → World → Nat) (hf : findLabel c l = some (Code.skip.seq X))
    (first : ∀ T : Exit → Act → World → Prop, (∀ a w, J a w → X.wp P T a w) → c.wp P T a w)
    (pass : ∀ a w, J a w → X.wp P (Exit.jump l (fun a' w' => J a' w' ∧ μ a' w' < μ a w) Q) a w) : (Code.scope c).wp P Q a w :=
  wp_scope_jumps l J μ hf (first _ (fun a w h => wp_mono (pass a w h) (by
    intro e a' w' h'
    cases e <;> first | exact h' | exact ⟨h'.1, h'.2.1⟩))) (fun a w h => wp_seq (wp_skip (pass a w h)))
theorem span_notlf' (s : ByteArray) (w : World) (hs : s.size ≤ 9223372036854775807) :
    Calls Tryz.prog 167 #[.string s, .func (.func 169) #[] #[]] w fun e w' => ∃ k : Nat, e = .returned (.int .i64 k) ∧ Hid (spanI notLf s.data.toList = k) ∧ k ≤ s.size ∧ w' = w := by
  refine (span_notlf notLf notlf_walk s w hs).mono ?_
  rintro e w' ⟨rfl, rfl⟩
  exact ⟨_, rfl, ⟨rfl⟩, spanI_le notLf s.data.toList, rfl⟩
set_option maxRecDepth 100000 in
theorem skip_walk (s : ByteArray) (w : World) (hs : s.size ≤ 9223372036854775807) :
    Calls Tryz.prog 119 #[.string s] w fun e w' => e = .returned (.int .i64 (skipB false s.data.toList)) ∧ w' = w := by
  have hlen : s.data.toList.length = s.size := rfl
  go_enter Tryz.func119, Tryz.ntmps119
  go_wp2
  refine wp_scope_from 0 (fun a' w' => w' = w ∧ ∃ (m : Nat) (u4 u5 u6 u7 u8 u9 u10 u11 u12 u13 u14 u15 u16 u17 u18 u19 u20 u21 u22 u23 u24 u25 : Value), a' = { tmps := #[.string s, undef, .int .i64 0, .int .i64 m, u4, u5, u6, u7, u8, u9, u10, u11, u12, u13, u14, u15, u16, u17, u18, u19, u20, u21, u22, u23, u24, u25, undef], defers := [] } ∧ m + skipB false (s.data.toList.drop m) = skipB false s.data.toList ∧ m ≤ s.size) (fun a' _ => s.size - (intOf (a'.tmps.getD 3 undef)).toNat) rfl ?_ ?_
  · intro T hT
    go_wp2
    go_step3
    rename_i hK
    refine hK _ _ (hT _ _ ⟨rfl, 0, _, _, _, _, _, _, _, _, _, _, _, _, _, _, _, _, _, _, _, _, _, _, rfl, by simp, by omega⟩)
  · rintro a' w' ⟨rfl, m, u4, u5, u6, u7, u8, u9, u10, u11, u12, u13, u14, u15, u16, u17, u18, u19, u20, u21, u22, u23, u24, u25, rfl, hm, hle⟩
    have hk : spanI isBlank (s.extract m s.size).data.toList ≤ s.size - m := by
      rw [extract_list]
      have := spanI_le isBlank (s.data.toList.drop m)
      rw [List.length_drop, hlen] at this
      exact this
    have hm' := Hid.mk hm
    have hl' := Hid.mk hlen
    have hxs : (s.extract m s.size).size ≤ 9223372036854775807 := by simp; omega
    clear hm hlen
    obtain ⟨k, hk1⟩ : ∃ k, spanI isBlank (s.extract m s.size).data.toList = k := ⟨_, rfl⟩
    have hk2 := Hid.mk hk1
    rw [hk1] at hk
    clear hk1
    go_wp2_with (go_at_call 167; first | (with_reducible refine (span_blank isBlank blank_walk _ _ hxs).mono ?_; rintro e w' ⟨rfl, rfl⟩; rw [hk2.out]) | (with_reducible refine (span_notlf' _ _ (by simp; omega)).mono ?_; rintro e w' ⟨k2, rfl, hk3, hk4, rfl⟩; simp only [ByteArray.size_extract, Nat.min_self] at hk4))
    all_goals (have hm := hm'.out; have hlen := hl'.out; have e1 := hk2.out; rw [extract_list] at e1; have e2 := skip_blank (s.data.toList.drop m); rw [e1, List.drop_drop] at e2)
    · have hlt : m + k < s.size := by omega
      have h35 : (s[m + k].toNat : Int) = 35 := eq_of_beq ‹(_ == _) = true›
      have e3 := hk3.out
      rw [extract_list] at e3
      have e4 := skip_rem (s.data.toList.drop (m + k))
      rw [e3, List.drop_drop] at e4
      have e5 : k2 ≠ 0 := by
        intro h0
        have := spanI_step (p := notLf) (l := s.data.toList) (m := m + k) (by omega) (by rw [← get_list s (m + k) hlt, h35]; rfl)
        omega
      have e6 : skipB false (s.data.toList.drop (m + k)) = skipB true (s.data.toList.drop (m + k)) := by
        rw [List.drop_eq_getElem_cons (i := m + k) (by omega), ← get_list s (m + k) hlt, skipB, skipB, h35, if_neg (by decide), if_pos rfl, if_pos (by decide)]
      go_step3
      refine ⟨rfl, ⟨rfl, m + k + k2, _, _, _, _, _, _, _, _, _, _, _, _, _, _, _, _, _, _, _, _, _, _, rfl, by omega, by omega⟩, ?_⟩
      simp [intOf]
      omega
    · have hlt : m + k < s.size := by omega
      have h35 : (s[m + k].toNat : Int) ≠ 35 := ne_of_beq_false ‹(_ == _) = false›
      have e6 : skipB false (s.data.toList.drop (m + k)) = 0 := by
        rw [List.drop_eq_getElem_cons (i := m + k) (by omega), ← get_list s (m + k) hlt, skipB, if_neg ?_, if_neg h35]
        have := spanI_next isBlank (s.data.toList.drop m) (by rw [e1, List.length_drop]; omega)
        simp only [e1, List.getElem_drop] at this
        rw [get_list s (m + k) hlt, this]
        decide
      simp only [Exit.jump]
      go_ret
      refine ⟨?_, rfl⟩
      rw [← hm, e2, e6]; simp
    · have e6 : skipB false (s.data.toList.drop (m + k)) = 0 := by
        rw [List.drop_eq_nil_of_le (by omega)]; rfl
      simp only [Exit.jump]
      go_ret
      refine ⟨?_, rfl⟩
      rw [← hm, e2, e6]; simp
end Go.Proofs.YtjofmihdeblbmaaGreatDoor
namespace Go.Proofs.YtjofmihdeblbmaaGreatDoor
open Go.RowKit
theorem results_ct {P : Program} {fn : Func} {p u : Tmp} {ty : TypeId} (h : fn.results = #[.cell p ty, .tmp u]) (tmps : Array Value) (w : World) (g : Nat) (t : TypeId) (cs : Array Value) (fr : Nat × Nat) (d : TypeDesc)
    (hp : tmps.getD p undef = .pointer (some ⟨g, 0, none⟩)) (hg : w.heap[g]? = some (.cells cs t fr))
    (hu : P.underlying ty = some d) (hd : (match d with | .struct _ | .array _ _ => true | _ => false) = true) (hi : (P.info? ty).map (·.size) = some cs.size) :
    (results fn tmps).run P w = .ok (.tuple #[.agg cs, tmps.getD u undef]) w := by
  have hp' : tmps[p]?.getD undef = .pointer (some ⟨g, 0, none⟩) := by simpa using hp
  simp [results, h, hp', asAddr, run_loadVar_row w g t ty cs fr d hg hu hd hi]
theorem heap_two (w : World) (o1 o2 : Obj) : ((w.alloc o1).alloc o2).heap[w.heap.size]? = some o1 := by
  rw [heap_alloc_old _ _ (by simp), heap_alloc_new]
def lexWords : List UInt8 := [32, 102, 110, 32, 108, 101, 116, 32, 105, 102, 32, 101, 108, 115, 101, 32, 119, 104, 105, 108, 101, 32, 98, 114, 101, 97, 107, 32, 99, 111, 110, 116, 105, 110, 117, 101, 32, 114, 101, 116, 117, 114, 110, 32, 112, 114, 105, 110, 116, 32, 110, 105, 108, 32]
def isWd (t : List UInt8) : Bool := Lib.contains lexWords (32 :: t ++ [32])
theorem span_nam' (s : ByteArray) (w : World) (hs : s.size ≤ 9223372036854775807) :
    Calls Tryz.prog 167 #[.string s, .func (.func 202) #[] #[]] w fun e w' => ∃ k : Nat, e = .returned (.int .i64 k) ∧ Hid (spanI isNam s.data.toList = k) ∧ k ≤ s.size ∧ w' = w := by
  refine (span_nam isNam nam_walk s w hs).mono ?_
  rintro e w' ⟨rfl, rfl⟩
  exact ⟨_, rfl, ⟨rfl⟩, spanI_le isNam s.data.toList, rfl⟩
def lex_name.f (a0 : ByteArray) : Option (Int × ByteArray × Int × Int × Int) :=
  if a0.size ≤ 9223372036854775807 then
    if 16 < spanI isNam a0.data.toList then some (0, ⟨#[]⟩, 0, 0, 0)
    else some (if isWd (a0.extract 0 (spanI isNam a0.data.toList)).data.toList then 2 else 1, a0.extract 0 (spanI isNam a0.data.toList), 0, 0, (spanI isNam a0.data.toList : Nat))
  else none
set_option maxRecDepth 100000 in
theorem lex_name.calls0 (a0 : ByteArray) (r1 : Int) (r2 : ByteArray) (r3 r4 r5 : Int) (w : World) (h : lex_name.f a0 = some (r1, r2, r3, r4, r5)) (hm : ∃ m, w.cell? ⟨0, 0, none⟩ = some (.int .i64 m)) :
    Calls Tryz.prog 171 #[.string a0] w fun e w' => e = .returned (.tuple #[.agg #[.int .i64 r1, .string r2, .int .i64 r3, .int .i64 r4], .int .i64 r5]) ∧ Below w.heap.size w w' := by
  obtain ⟨m, hm⟩ := hm
  unfold lex_name.f at h
  split at h
  case isFalse => simp at h
  rename_i hs
  have h' := Hid.mk h
  clear h
  have hlt : 0 < w.heap.size := by
    rcases Nat.lt_or_ge 0 w.heap.size with g | g
    · exact g
    · exfalso; simp [World.cell?, Array.getElem?_eq_none g] at hm
  have hm' : ∀ o1 o2, ((w.alloc o1).alloc o2).cell? ⟨0, 0, none⟩ = some (.int .i64 m) := fun o1 o2 => by
    rw [Below.cell (B := w.heap.size) (w := w) (((Below.refl _ w).alloc (by simp) _).alloc (by simp) _) hlt]; exact hm
  go_enter Tryz.func171, Tryz.ntmps171
  go_wp2_with (first
    | (go_at_call 167; (with_reducible refine (span_nam' _ _ hs).mono ?_); rintro e w' ⟨k, rfl, hk1, hk2, rfl⟩)
    | (go_at_call 203; refine (Tryz.strings_Contains _ _ m _ (by decide) (hm' _ _)).mono ?_; rintro e w' ⟨rfl, rfl⟩))
  all_goals (have e1 := hk1.out; have hh := h'.out; rw [e1] at hh)
  · rw [if_pos (by omega)] at hh
    simp only [Option.some.injEq, Prod.mk.injEq] at hh
    obtain ⟨rfl, rfl, rfl, rfl, rfl⟩ := hh
    refine bodyPost_ret (results_ct rfl _ _ w.heap.size 138 #[.int .i64 0, .string ⟨#[]⟩, .int .i64 0, .int .i64 0] (0, 0) _ rfl (heap_alloc_new _ _) Tryz.underlying138 rfl (by kernel_rfl)) rfl ?_
    exact ⟨rfl, (Below.refl _ w).alloc (by simp) _⟩
  all_goals rw [if_neg (by omega)] at hh
  · have hw : isWd (a0.extract 0 k).data.toList = true := by rw [take_list]; assumption
    rw [if_pos hw] at hh
    simp only [Option.some.injEq, Prod.mk.injEq] at hh
    obtain ⟨rfl, rfl, rfl, rfl, rfl⟩ := hh
    refine bodyPost_ret (results_ct rfl _ _ w.heap.size 138 #[.int .i64 2, .string (a0.extract 0 k), .int .i64 0, .int .i64 0] (0, 0) _ rfl (heap_two _ _ _) Tryz.underlying138 rfl (by kernel_rfl)) rfl ?_
    exact ⟨rfl, ((Below.refl _ w).alloc (by simp) _).alloc (by simp) _⟩
  · have hw : isWd (a0.extract 0 k).data.toList = false := by rw [take_list]; assumption
    rw [if_neg (by rw [hw]; decide)] at hh
    simp only [Option.some.injEq, Prod.mk.injEq] at hh
    obtain ⟨rfl, rfl, rfl, rfl, rfl⟩ := hh
    refine bodyPost_ret (results_ct rfl _ _ w.heap.size 138 #[.int .i64 1, .string (a0.extract 0 k), .int .i64 0, .int .i64 0] (0, 0) _ rfl (heap_two _ _ _) Tryz.underlying138 rfl (by kernel_rfl)) rfl ?_
    exact ⟨rfl, ((Below.refl _ w).alloc (by simp) _).alloc (by simp) _⟩
end Go.Proofs.YtjofmihdeblbmaaGreatDoor
namespace Go.Proofs.YtjofmihdeblbmaaGreatDoor
open Go Go.RowKit
theorem blk_lt {w : World} {g : Nat} {o : Obj} (h : w.heap[g]? = some o) : g < w.heap.size := by
  rcases Nat.lt_or_ge g w.heap.size with q | q
  · exact q
  · rw [Array.getElem?_eq_none q] at h; cases h
theorem blk_alloc {w : World} {g : Nat} {o : Obj} (h : w.heap[g]? = some o) (o' : Obj) : (w.alloc o').heap[g]? = some o := by
  rw [Below.heap_alloc w o' g (blk_lt h)]; exact h
theorem blk_put {w : World} {g : Nat} {t : TypeId} {cs cs' : Array Value} (h : w.heap[g]? = some (.cells cs t (0, 0))) (i : Nat) (u : Value) (e : cs.setIfInBounds i u = cs') : (w.setCell ⟨g, i, none⟩ u).heap[g]? = some (.cells cs' t (0, 0)) := by
  subst e
  have hlt := blk_lt h
  have h2 : w.heap[g] = .cells cs t (0, 0) := (Array.getElem?_eq_some_iff.1 h).2
  simp [World.setCell, hlt, Array.getElem_modify, h2]
end Go.Proofs.YtjofmihdeblbmaaGreatDoor
