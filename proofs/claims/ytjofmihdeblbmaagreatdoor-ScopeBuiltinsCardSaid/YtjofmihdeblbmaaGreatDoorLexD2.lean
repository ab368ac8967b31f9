/- lex.number: what it tells. -/
import Derived.Test.YtjofmihdeblbmaaGreatDoorLexC
import Derived.Lib.AtoiErrMem
namespace Go.Proofs.YtjofmihdeblbmaaGreatDoor
open Go.RowKit
/-- the cells that the walks read -/
structure Laid (W : World) : Prop where
  maxLen : ∃ m, W.cell? ⟨0, 0, none⟩ = some (.int .i64 m)
  errS : ∃ te pe, W.cell? ⟨4, 0, none⟩ = some (.iface te pe)
  errR : ∃ te pe, W.cell? ⟨5, 0, none⟩ = some (.iface te pe)
theorem cell_lt {w : World} {a : Addr} {v : Value} (h : w.cell? a = some v) : a.block < w.heap.size := by
  rcases Nat.lt_or_ge a.block w.heap.size with g | g
  · exact g
  · exfalso; simp [World.cell?, Array.getElem?_eq_none g] at h
theorem cell_below {B : Nat} {w w' : World} {a : Addr} {v : Value} (hb : Below B w w') (hB : a.block < B) (h : w.cell? a = some v) : w'.cell? a = some v :=
  (hb.cell hB).trans h
theorem Laid.below {w w' : World} (hb : Below w.heap.size w w') (h : Laid w) : Laid w' where
  maxLen := let ⟨m, e⟩ := h.maxLen; ⟨m, cell_below hb (cell_lt e) e⟩
  errS := let ⟨m, p, e⟩ := h.errS; ⟨m, p, cell_below hb (cell_lt e) e⟩
  errR := let ⟨m, p, e⟩ := h.errR; ⟨m, p, cell_below hb (cell_lt e) e⟩
theorem parse_calls (s : ByteArray) (hs : s.size ≤ 281474976710656) (w : World) (hL : Laid w) :
    Calls Tryz.prog 204 #[.string s, .int .i64 10, .int .i64 64] w fun e w' => ∃ k ev, e = .returned (.tuple #[.int .i64 k, ev]) ∧ ((Lib.parseIntB 64 s.data.toList = .ok k ∧ ev = .nilIface) ∨ ((∀ v, Lib.parseIntB 64 s.data.toList ≠ .ok v) ∧ ∃ t p, ev = .iface t p)) ∧ Below w.heap.size w w' := by
  obtain ⟨te, pe, hE⟩ := hL.errS
  obtain ⟨tr, pr, hR⟩ := hL.errR
  cases h : Lib.parseIntB 64 s.data.toList
  · rename_i v
    refine (Tryz.strconv_ParseInt_10_at64_ok s (by omega) v h w).mono ?_
    rintro e w' ⟨rfl, hw⟩
    refine ⟨v, _, rfl, .inl ⟨rfl, rfl⟩, ?_⟩
    rcases hw with rfl | ⟨t, rfl⟩
    · exact Below.refl _ _
    · exact Lib.bytesWorld_below w _ t
  · refine (Tryz.strconv_ParseInt_10_at64_syntax s hs h _ w hE (.inr ⟨te, pe, rfl⟩)).mono ?_
    rintro e w' ⟨N, rfl, _, _, hb⟩
    exact ⟨_, _, rfl, .inr ⟨by simp, _, _, rfl⟩, hb⟩
  · refine (Tryz.strconv_ParseInt_10_at64_range s hs h _ w hR (.inr ⟨tr, pr, rfl⟩)).mono ?_
    rintro e w' ⟨N, rfl, _, _, hb⟩
    exact ⟨_, _, rfl, .inr ⟨by simp, _, _, rfl⟩, hb⟩
/-- a byte, or none -/
def byteAt (l : List UInt8) (n : Nat) : Int := match l[n]? with | some c => (c.toNat : Int) | none => -1
theorem byteAt_lt (s : ByteArray) (n : Nat) (h : n < s.size) : byteAt s.data.toList n = (s[n].toNat : Int) := by
  have : s.data.toList[n]? = some s[n] := by rw [List.getElem?_eq_getElem (by simpa using h)]; rfl
  simp only [byteAt, this]
theorem byteAt_ge (s : ByteArray) (n : Nat) (h : s.size ≤ n) : byteAt s.data.toList n = -1 := by
  have : s.data.toList[n]? = none := by rw [List.getElem?_eq_none (by simpa using h)]
  simp only [byteAt, this]
theorem span_dig' (s : ByteArray) (w : World) (hs : s.size ≤ 9223372036854775807) :
    Calls Tryz.prog 167 #[.string s, .func (.func 172) #[] #[]] w fun e w' => ∃ k : Nat, e = .returned (.int .i64 k) ∧ Hid (spanI isDig s.data.toList = k) ∧ k ≤ s.size ∧ w' = w := by
  refine (span_digit isDig digit_walk s w hs).mono ?_
  rintro e w' ⟨rfl, rfl⟩
  exact ⟨_, rfl, ⟨rfl⟩, spanI_le isDig s.data.toList, rfl⟩
theorem put4 {w : World} {g : Nat} {t : TypeId} {a b c d : Value} (h : w.heap[g]? = some (.cells #[a, b, c, d] t (0, 0))) (x0 x1 x2 x3 : Value) :
    ((((w.setCell ⟨g, 0, none⟩ x0).setCell ⟨g, 1, none⟩ x1).setCell ⟨g, 2, none⟩ x2).setCell ⟨g, 3, none⟩ x3).heap[g]? = some (.cells #[x0, x1, x2, x3] t (0, 0)) :=
  blk_put (blk_put (blk_put (blk_put h 0 x0 rfl) 1 x1 rfl) 2 x2 rfl) 3 x3 rfl
theorem below4 {B : Nat} {w w1 : World} (hb : Below B w w1) {g : Nat} (hg : B ≤ g) (x0 x1 x2 x3 : Value) :
    Below B w ((((w1.setCell ⟨g, 0, none⟩ x0).setCell ⟨g, 1, none⟩ x1).setCell ⟨g, 2, none⟩ x2).setCell ⟨g, 3, none⟩ x3) :=
  (((hb.setCell (p := ⟨g, 0, none⟩) hg _).setCell (p := ⟨g, 1, none⟩) hg _).setCell (p := ⟨g, 2, none⟩) hg _).setCell (p := ⟨g, 3, none⟩) hg _
theorem isNam_let {c : Int} (h : isLet c = true) : isNam c = true := by simp [isNam, h]
theorem isNam_dig {c : Int} (h : isDig c = true) : isNam c = true := by simp [isNam, h]
theorem isNam_not {c : Int} (h : ¬ isLet c = true) (h' : isDig c = false) : isNam c = false := by simp only [Bool.not_eq_true] at h; simp [isNam, h, h']
def lex_number.g (l : List UInt8) (n : Nat) : Int × ByteArray × Int × Int × Int :=
  match Lib.parseIntB 64 (l.take n) with
  | .ok v =>
    if byteAt l n = 105 then (if isNam (byteAt l (n + 1)) then (0, ⟨#[]⟩, 0, 0, 0) else (4, ⟨#[]⟩, v, 0, (n + 1 : Nat)))
    else (if isNam (byteAt l n) then (0, ⟨#[]⟩, 0, 0, 0) else (3, ⟨#[]⟩, v, 0, (n : Nat)))
  | _ => (0, ⟨#[]⟩, 0, 0, 0)
def lex_number.f (a0 : ByteArray) : Option (Int × ByteArray × Int × Int × Int) :=
  if a0.size ≤ 281474976710656 then some (lex_number.g a0.data.toList (spanI isDig a0.data.toList)) else none
set_option maxHeartbeats 8000000 in
set_option maxRecDepth 100000 in
theorem lex_number.calls0 (a0 : ByteArray) (r1 : Int) (r2 : ByteArray) (r3 r4 r5 : Int) (w : World) (h : lex_number.f a0 = some (r1, r2, r3, r4, r5)) (hL : Laid w) :
    Calls Tryz.prog 173 #[.string a0] w fun e w' => e = .returned (.tuple #[.agg #[.int .i64 r1, .string r2, .int .i64 r3, .int .i64 r4], .int .i64 r5]) ∧ Below w.heap.size w w' := by
  unfold lex_number.f at h
  split at h
  case isFalse => simp at h
  rename_i hs
  have h' := Hid.mk (Option.some.inj h)
  clear h
  go_enter Tryz.func173, Tryz.ntmps173
  go_wp2_with (first
    | (go_at_call 167; (with_reducible refine (span_dig' _ _ (by omega)).mono ?_); rintro e w' ⟨k, rfl, hk1, hk2, rfl⟩)
    | fail)
  have hs1 : (a0.extract 0 k).size ≤ 281474976710656 := by simp; omega
  have hb0 : Below w.heap.size w (w.alloc (.cells #[.int .i64 0, .string ⟨#[]⟩, .int .i64 0, .int .i64 0] 138 (0, 0))) := (Below.refl _ w).alloc (by simp) _
  refine (parse_calls _ hs1 _ (hL.below hb0)).mono ?_
  rintro e w1 ⟨v, ev, rfl, hv, hb⟩
  have hblk : w1.heap[w.heap.size]? = some (.cells #[.int .i64 0, .string ⟨#[]⟩, .int .i64 0, .int .i64 0] 138 (0, 0)) := by
    rw [hb.block _ (by simp), heap_alloc_new]
  have hb1 : Below w.heap.size w w1 := hb0.trans (hb.mono (by simp))
  clear hb hb0
  have hsz := hb1.size
  have c0 : w1.cell? ⟨w.heap.size, 0, none⟩ = some (.int .i64 0) := by rw [Lib.cell_of_heap hblk]; rfl
  have c1 : w1.cell? ⟨w.heap.size, 1, none⟩ = some (.string ⟨#[]⟩) := by rw [Lib.cell_of_heap hblk]; rfl
  have c2 : w1.cell? ⟨w.heap.size, 2, none⟩ = some (.int .i64 0) := by rw [Lib.cell_of_heap hblk]; rfl
  have c3 : w1.cell? ⟨w.heap.size, 3, none⟩ = some (.int .i64 0) := by rw [Lib.cell_of_heap hblk]; rfl
  have f0 := Lib.frozen_of_heap hblk 0
  have f1 := Lib.frozen_of_heap hblk 1
  have f2 := Lib.frozen_of_heap hblk 2
  have f3 := Lib.frozen_of_heap hblk 3
  have hbw : w.heap.size < w1.heap.size := blk_lt hblk
  have d0 : ∀ o, (w1.alloc o).cell? ⟨w.heap.size, 0, none⟩ = some (.int .i64 0) := fun o => by rw [Lib.cell_of_heap (blk_alloc hblk o)]; rfl
  have d1 : ∀ o, (w1.alloc o).cell? ⟨w.heap.size, 1, none⟩ = some (.string ⟨#[]⟩) := fun o => by rw [Lib.cell_of_heap (blk_alloc hblk o)]; rfl
  have d2 : ∀ o, (w1.alloc o).cell? ⟨w.heap.size, 2, none⟩ = some (.int .i64 0) := fun o => by rw [Lib.cell_of_heap (blk_alloc hblk o)]; rfl
  have d3 : ∀ o, (w1.alloc o).cell? ⟨w.heap.size, 3, none⟩ = some (.int .i64 0) := fun o => by rw [Lib.cell_of_heap (blk_alloc hblk o)]; rfl
  have g0 : ∀ o, (w1.alloc o).frozen? ⟨w.heap.size, 0, none⟩ = false := fun o => Lib.frozen_of_heap (blk_alloc hblk o) 0
  have g1 : ∀ o, (w1.alloc o).frozen? ⟨w.heap.size, 1, none⟩ = false := fun o => Lib.frozen_of_heap (blk_alloc hblk o) 1
  have g2 : ∀ o, (w1.alloc o).frozen? ⟨w.heap.size, 2, none⟩ = false := fun o => Lib.frozen_of_heap (blk_alloc hblk o) 2
  have g3 : ∀ o, (w1.alloc o).frozen? ⟨w.heap.size, 3, none⟩ = false := fun o => Lib.frozen_of_heap (blk_alloc hblk o) 3
  have hblk' := Hid.mk hblk
  clear hblk
  rcases hv with ⟨hv, rfl⟩ | ⟨hv, t, p, rfl⟩
  · have hv' := Hid.mk hv
    clear hv
    go_wp2_with (first
      | (go_at_call 170; refine (letter_walk _ _).mono ?_; rintro e w' ⟨rfl, rfl⟩)
      | (go_at_call 172; refine (digit_walk _ _).mono ?_; rintro e w' ⟨rfl, rfl⟩))
    all_goals (have e1 := hk1.out; have hv := hv'.out; have hblk := hblk'.out; have hh := h'.out; rw [e1] at hh; rw [take_list] at hv; unfold lex_number.g at hh; rw [hv] at hh; simp only at hh)
    · rw [if_pos (by rw [byteAt_lt a0 k (by omega)]; exact eq_of_beq ‹(_ == _) = true›), if_pos (by rw [byteAt_lt a0 (k + 1) (by omega)]; exact isNam_let (by assumption))] at hh
      simp only [Prod.mk.injEq] at hh
      obtain ⟨rfl, rfl, rfl, rfl, rfl⟩ := hh
      refine bodyPost_ret (results_ct rfl _ _ w.heap.size 138 #[.int .i64 0, .string ⟨#[]⟩, .int .i64 0, .int .i64 0] (0, 0) _ rfl (blk_alloc (put4 hblk _ _ _ _) _) Tryz.underlying138 rfl (by kernel_rfl)) rfl ?_
      exact ⟨rfl, (below4 hb1 (Nat.le_refl _) _ _ _ _).alloc (by simpa using hsz) _⟩
    · rw [if_pos (by rw [byteAt_lt a0 k (by omega)]; exact eq_of_beq ‹(_ == _) = true›), if_pos (by rw [byteAt_lt a0 (k + 1) (by omega)]; exact isNam_dig (by assumption))] at hh
      simp only [Prod.mk.injEq] at hh
      obtain ⟨rfl, rfl, rfl, rfl, rfl⟩ := hh
      refine bodyPost_ret (results_ct rfl _ _ w.heap.size 138 #[.int .i64 0, .string ⟨#[]⟩, .int .i64 0, .int .i64 0] (0, 0) _ rfl (blk_alloc (put4 hblk _ _ _ _) _) Tryz.underlying138 rfl (by kernel_rfl)) rfl ?_
      exact ⟨rfl, (below4 hb1 (Nat.le_refl _) _ _ _ _).alloc (by simpa using hsz) _⟩
    · rw [if_pos (by rw [byteAt_lt a0 k (by omega)]; exact eq_of_beq ‹(_ == _) = true›), if_neg (by rw [byteAt_lt a0 (k + 1) (by omega), isNam_not (by assumption) (by assumption)]; decide)] at hh
      simp only [Prod.mk.injEq] at hh
      obtain ⟨rfl, rfl, rfl, rfl, rfl⟩ := hh
      refine bodyPost_ret (results_ct rfl _ _ w.heap.size 138 #[.int .i64 4, .string ⟨#[]⟩, .int .i64 v, .int .i64 0] (0, 0) _ rfl (blk_alloc (put4 hblk _ _ _ _) _) Tryz.underlying138 rfl (by kernel_rfl)) rfl ?_
      exact ⟨rfl, (below4 hb1 (Nat.le_refl _) _ _ _ _).alloc (by simpa using hsz) _⟩
    · rw [if_pos (by rw [byteAt_lt a0 k (by omega)]; exact eq_of_beq ‹(_ == _) = true›), if_neg (by rw [byteAt_ge a0 (k + 1) (by omega)]; decide)] at hh
      simp only [Prod.mk.injEq] at hh
      obtain ⟨rfl, rfl, rfl, rfl, rfl⟩ := hh
      refine bodyPost_ret (results_ct rfl _ _ w.heap.size 138 #[.int .i64 4, .string ⟨#[]⟩, .int .i64 v, .int .i64 0] (0, 0) _ rfl (blk_alloc (put4 hblk _ _ _ _) _) Tryz.underlying138 rfl (by kernel_rfl)) rfl ?_
      exact ⟨rfl, (below4 hb1 (Nat.le_refl _) _ _ _ _).alloc (by simpa using hsz) _⟩
    · rw [if_neg (by rw [byteAt_lt a0 k (by omega)]; exact ne_of_beq_false ‹(_ == _) = false›), if_pos (by rw [byteAt_lt a0 k (by omega)]; exact isNam_let (by assumption))] at hh
      simp only [Prod.mk.injEq] at hh
      obtain ⟨rfl, rfl, rfl, rfl, rfl⟩ := hh
      refine bodyPost_ret (results_ct rfl _ _ w.heap.size 138 #[.int .i64 0, .string ⟨#[]⟩, .int .i64 0, .int .i64 0] (0, 0) _ rfl (blk_alloc (put4 hblk _ _ _ _) _) Tryz.underlying138 rfl (by kernel_rfl)) rfl ?_
      exact ⟨rfl, (below4 hb1 (Nat.le_refl _) _ _ _ _).alloc (by simpa using hsz) _⟩
    · rw [if_neg (by rw [byteAt_lt a0 k (by omega)]; exact ne_of_beq_false ‹(_ == _) = false›), if_pos (by rw [byteAt_lt a0 k (by omega)]; exact isNam_dig (by assumption))] at hh
      simp only [Prod.mk.injEq] at hh
      obtain ⟨rfl, rfl, rfl, rfl, rfl⟩ := hh
      refine bodyPost_ret (results_ct rfl _ _ w.heap.size 138 #[.int .i64 0, .string ⟨#[]⟩, .int .i64 0, .int .i64 0] (0, 0) _ rfl (blk_alloc (put4 hblk _ _ _ _) _) Tryz.underlying138 rfl (by kernel_rfl)) rfl ?_
      exact ⟨rfl, (below4 hb1 (Nat.le_refl _) _ _ _ _).alloc (by simpa using hsz) _⟩
    · rw [if_neg (by rw [byteAt_lt a0 k (by omega)]; exact ne_of_beq_false ‹(_ == _) = false›), if_neg (by rw [byteAt_lt a0 k (by omega), isNam_not (by assumption) (by assumption)]; decide)] at hh
      simp only [Prod.mk.injEq] at hh
      obtain ⟨rfl, rfl, rfl, rfl, rfl⟩ := hh
      refine bodyPost_ret (results_ct rfl _ _ w.heap.size 138 #[.int .i64 3, .string ⟨#[]⟩, .int .i64 v, .int .i64 0] (0, 0) _ rfl (blk_alloc (put4 hblk _ _ _ _) _) Tryz.underlying138 rfl (by kernel_rfl)) rfl ?_
      exact ⟨rfl, (below4 hb1 (Nat.le_refl _) _ _ _ _).alloc (by simpa using hsz) _⟩
    · rw [if_neg (by rw [byteAt_ge a0 k (by omega)]; decide), if_neg (by rw [byteAt_ge a0 k (by omega)]; decide)] at hh
      simp only [Prod.mk.injEq] at hh
      obtain ⟨rfl, rfl, rfl, rfl, rfl⟩ := hh
      refine bodyPost_ret (results_ct rfl _ _ w.heap.size 138 #[.int .i64 3, .string ⟨#[]⟩, .int .i64 v, .int .i64 0] (0, 0) _ rfl (blk_alloc (put4 hblk _ _ _ _) _) Tryz.underlying138 rfl (by kernel_rfl)) rfl ?_
      exact ⟨rfl, (below4 hb1 (Nat.le_refl _) _ _ _ _).alloc (by simpa using hsz) _⟩
  · have hv' := Hid.mk hv
    clear hv
    go_wp2
    have e1 := hk1.out
    have hv := hv'.out
    have hblk := hblk'.out
    have hh := h'.out
    rw [e1] at hh
    rw [take_list] at hv
    have hg : lex_number.g a0.data.toList k = (0, ⟨#[]⟩, 0, 0, 0) := by
      unfold lex_number.g
      cases hp : Lib.parseIntB 64 (a0.data.toList.take k)
      · exact absurd hp (hv _)
      · rfl
      · rfl
    rw [hg] at hh
    simp only [Prod.mk.injEq] at hh
    obtain ⟨rfl, rfl, rfl, rfl, rfl⟩ := hh
    refine bodyPost_ret (results_ct rfl _ _ w.heap.size 138 #[.int .i64 0, .string ⟨#[]⟩, .int .i64 0, .int .i64 0] (0, 0) _ rfl (put4 hblk _ _ _ _) Tryz.underlying138 rfl (by kernel_rfl)) rfl ?_
    exact ⟨rfl, below4 hb1 (Nat.le_refl _) _ _ _ _⟩
end Go.Proofs.YtjofmihdeblbmaaGreatDoor
