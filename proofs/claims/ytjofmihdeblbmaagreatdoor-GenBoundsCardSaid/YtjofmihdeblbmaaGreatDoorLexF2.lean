/- lex.text: what it tells. -/
import Derived.Test.YtjofmihdeblbmaaGreatDoorLexE2
import Derived.Test.YtjofmihdeblbmaaGreatDoorBuild
namespace Go.Proofs.YtjofmihdeblbmaaGreatDoor
open Go.RowKit
/-- a text behind its first quote: its bytes, how far it goes -/
def textS : List UInt8 → Option (List UInt8 × Nat)
  | [] => none
  | c :: r =>
    if (c.toNat : Int) = 10 then none
    else if (c.toNat : Int) = 34 then some ([], 1)
    else if (c.toNat : Int) = 92 then
      match r with
      | [] => none
      | d :: r' =>
        if (d.toNat : Int) = 110 then (textS r').map (fun p => (10 :: p.1, p.2 + 2))
        else if (d.toNat : Int) = 34 ∨ (d.toNat : Int) = 92 then (textS r').map (fun p => (d :: p.1, p.2 + 2))
        else none
    else (textS r).map (fun p => (c :: p.1, p.2 + 1))
theorem textS_cons (c : UInt8) (r : List UInt8) : textS (c :: r) =
    if (c.toNat : Int) = 10 then none
    else if (c.toNat : Int) = 34 then some ([], 1)
    else if (c.toNat : Int) = 92 then
      match r with
      | [] => none
      | d :: r' =>
        if (d.toNat : Int) = 110 then (textS r').map (fun p => (10 :: p.1, p.2 + 2))
        else if (d.toNat : Int) = 34 ∨ (d.toNat : Int) = 92 then (textS r').map (fun p => (d :: p.1, p.2 + 2))
        else none
    else (textS r).map (fun p => (c :: p.1, p.2 + 1)) := by rw [textS.eq_def]
theorem drop_end {l : List UInt8} {n : Nat} (h : l.length ≤ n) : textS (l.drop n) = none := by
  rw [List.drop_eq_nil_of_le h, textS]
theorem text_lf {s : ByteArray} {n : Nat} (h : n < s.size) (hc : (s[n].toNat : Int) = 10) : textS (s.data.toList.drop n) = none := by
  rw [List.drop_eq_getElem_cons (by simpa using h), ← get_list s n h, textS_cons, if_pos hc]
theorem text_q {s : ByteArray} {n : Nat} (h : n < s.size) (hc : (s[n].toNat : Int) = 34) : textS (s.data.toList.drop n) = some ([], 1) := by
  rw [List.drop_eq_getElem_cons (by simpa using h), ← get_list s n h, textS_cons, if_neg (by omega), if_pos hc]
theorem text_c {s : ByteArray} {n : Nat} (h : n < s.size) (h1 : (s[n].toNat : Int) ≠ 10) (h2 : (s[n].toNat : Int) ≠ 34) (h3 : (s[n].toNat : Int) ≠ 92) :
    textS (s.data.toList.drop n) = (textS (s.data.toList.drop (n + 1))).map (fun p => (s[n] :: p.1, p.2 + 1)) := by
  rw [List.drop_eq_getElem_cons (by simpa using h), ← get_list s n h, textS_cons, if_neg h1, if_neg h2, if_neg h3]
theorem text_e {s : ByteArray} {n : Nat} (h : n < s.size) (hc : (s[n].toNat : Int) = 92) (h' : s.size ≤ n + 1) : textS (s.data.toList.drop n) = none := by
  rw [List.drop_eq_getElem_cons (by simpa using h), ← get_list s n h, List.drop_eq_nil_of_le (by simpa using h'), textS_cons, if_neg (by omega), if_neg (by omega), if_pos hc]
theorem text_n {s : ByteArray} {n : Nat} (h : n < s.size) (hc : (s[n].toNat : Int) = 92) (h' : n + 1 < s.size) (hd : (s[n + 1].toNat : Int) = 110) :
    textS (s.data.toList.drop n) = (textS (s.data.toList.drop (n + 1 + 1))).map (fun p => (10 :: p.1, p.2 + 2)) := by
  rw [List.drop_eq_getElem_cons (i := n) (by simpa using h), List.drop_eq_getElem_cons (i := n + 1) (by simpa using h'), ← get_list s n h, ← get_list s (n + 1) h', textS_cons, if_neg (by omega), if_neg (by omega), if_pos hc]
  simp only [if_pos hd]
theorem text_d {s : ByteArray} {n : Nat} (h : n < s.size) (hc : (s[n].toNat : Int) = 92) (h' : n + 1 < s.size) (hd : (s[n + 1].toNat : Int) = 34 ∨ (s[n + 1].toNat : Int) = 92) :
    textS (s.data.toList.drop n) = (textS (s.data.toList.drop (n + 1 + 1))).map (fun p => (s[n + 1] :: p.1, p.2 + 2)) := by
  rw [List.drop_eq_getElem_cons (i := n) (by simpa using h), List.drop_eq_getElem_cons (i := n + 1) (by simpa using h'), ← get_list s n h, ← get_list s (n + 1) h', textS_cons, if_neg (by omega), if_neg (by omega), if_pos hc]
  simp only [if_neg (show ¬ (s[n + 1].toNat : Int) = 110 by omega), if_pos hd]
theorem text_x {s : ByteArray} {n : Nat} (h : n < s.size) (hc : (s[n].toNat : Int) = 92) (h' : n + 1 < s.size) (h1 : (s[n + 1].toNat : Int) ≠ 110) (h2 : (s[n + 1].toNat : Int) ≠ 34) (h3 : (s[n + 1].toNat : Int) ≠ 92) :
    textS (s.data.toList.drop n) = none := by
  rw [List.drop_eq_getElem_cons (i := n) (by simpa using h), List.drop_eq_getElem_cons (i := n + 1) (by simpa using h'), ← get_list s n h, ← get_list s (n + 1) h', textS_cons, if_neg (by omega), if_neg (by omega), if_pos hc]
  simp only [if_neg h1, if_neg (not_or.mpr ⟨h2, h3⟩)]
/-- what is told so far, with what is to come -/
def TextAt (l : List UInt8) (n : Nat) (acc : List UInt8) : Prop :=
  (textS (l.drop n)).map (fun p => (acc ++ p.1, n + p.2)) = (textS (l.drop 1)).map (fun p => (p.1, 1 + p.2))
theorem TextAt.step {l : List UInt8} {n m : Nat} {acc : List UInt8} {c : UInt8} {j : Nat} (h : TextAt l n acc) (e : textS (l.drop n) = (textS (l.drop m)).map (fun p => (c :: p.1, p.2 + j))) (hm : m = n + j) : TextAt l m (acc ++ [c]) := by
  unfold TextAt at h ⊢
  rw [← h, e, Option.map_map]
  congr 1
  funext p
  simp [hm]
  omega
theorem text0 (l : List UInt8) : TextAt l 1 [] := by unfold TextAt; simp
def lex_text.g (l : List UInt8) : Int × ByteArray × Int × Int × Int :=
  match textS (l.drop 1) with
  | some (t, m) => (5, ⟨t.toArray⟩, 0, 0, (1 + m : Nat))
  | none => (0, ⟨#[]⟩, 0, 0, 0)
theorem TextAt.none {l : List UInt8} {n : Nat} {acc : List UInt8} (h : TextAt l n acc) (e : textS (l.drop n) = none) : lex_text.g l = (0, ⟨#[]⟩, 0, 0, 0) := by
  unfold TextAt at h
  rw [e] at h
  unfold lex_text.g
  cases hx : textS (l.drop 1) with
  | none => rfl
  | some p => rw [hx] at h; simp at h
theorem TextAt.done {l : List UInt8} {n : Nat} {acc : List UInt8} (h : TextAt l n acc) (e : textS (l.drop n) = some ([], 1)) : lex_text.g l = ((5, ⟨acc.toArray⟩, 0, 0, (n + 1 : Nat)) : Int × ByteArray × Int × Int × Int) := by
  unfold TextAt at h
  rw [e] at h
  unfold lex_text.g
  cases hx : textS (l.drop 1) with
  | none => rw [hx] at h; simp at h
  | some p =>
    rw [hx] at h
    simp only [Option.map_some, List.append_nil, Option.some.injEq, Prod.mk.injEq] at h
    obtain ⟨h1, h2⟩ := h
    simp only [← h1, ← h2]
def lex_text.f (a0 : ByteArray) : Option (Int × ByteArray × Int × Int × Int) :=
  if a0.size ≤ 140737488355327 then some (lex_text.g a0.data.toList) else none
theorem byteCells_snoc (acc : List UInt8) (c : UInt8) : Lib.byteCells acc ++ [.int .u8 (c.toNat : Int)] = Lib.byteCells (acc ++ [c]) := by simp [Lib.byteCells]
set_option maxHeartbeats 16000000 in
set_option maxRecDepth 100000 in
theorem lex_text.calls0 (s : ByteArray) (r1 : Int) (r2 : ByteArray) (r3 r4 r5 : Int) (w : World) (h : lex_text.f s = some (r1, r2, r3, r4, r5)) :
    Calls Tryz.prog 174 #[.string s] w fun e w' => e = .returned (.tuple #[.agg #[.int .i64 r1, .string r2, .int .i64 r3, .int .i64 r4], .int .i64 r5]) ∧ Below w.heap.size w w' := by
  unfold lex_text.f at h
  split at h
  case isFalse => simp at h
  rename_i hs
  have h' := Hid.mk (Option.some.inj h)
  clear h
  have hlen : Hid (s.data.toList.length = s.size) := ⟨rfl⟩
  go_enter Tryz.func174, Tryz.ntmps174
  go_wp2
  refine wp_scope_from 0 (fun a' w' => ∃ (n : Nat) (acc : List UInt8) (u6 u7 u8 u9 u10 u11 u12 u13 u14 u15 u16 u17 u18 u19 u20 u21 u22 u23 u24 u25 u26 u27 u28 u29 u30 u31 u32 u33 u34 u35 u36 u37 u38 u39 u40 u41 u42 u43 u44 u45 u46 u47 u48 u49 u50 u51 u52 u53 u54 u55 u56 u57 u58 u59 u60 u61 u62 u63 u64 u65 u66 u67 u68 u69 u70 u71 : Value), a' = { tmps := #[.string s, undef, .pointer (some ⟨w.heap.size, 0, none⟩), .int .i64 0, .pointer (some ⟨w.heap.size + 1, 0, none⟩), .int .i64 n, u6, u7, u8, u9, u10, u11, u12, u13, u14, u15, u16, u17, u18, u19, u20, u21, u22, u23, u24, u25, u26, u27, u28, u29, u30, u31, u32, u33, u34, u35, u36, u37, u38, u39, u40, u41, u42, u43, u44, u45, u46, u47, u48, u49, u50, u51, u52, u53, u54, u55, u56, u57, u58, u59, u60, u61, u62, u63, u64, u65, u66, u67, u68, u69, u70, u71], defers := [] } ∧ 1 ≤ n ∧ n ≤ s.size + 1 ∧ acc.length + 1 ≤ n ∧ Hid (TextAt s.data.toList n acc) ∧ Lib.IsBuilder 121 5 (w.heap.size + 1) (w.heap.size + 1) (Lib.byteCells acc) w' ∧ Below (w.heap.size + 1) (w.alloc (.cells #[.int .i64 0, .string ⟨#[]⟩, .int .i64 0, .int .i64 0] 138 (0, 0))) w') (fun a' _ => s.size + 1 - (intOf (a'.tmps.getD 5 undef)).toNat) rfl ?_ ?_
  · intro T hT
    go_wp2
    go_step3
    rename_i hK
    refine hK _ _ (hT _ _ ⟨1, [], _, _, _, _, _, _, _, _, _, _, _, _, _, _, _, _, _, _, _, _, _, _, _, _, _, _, _, _, _, _, _, _, _, _, _, _, _, _, _, _, _, _, _, _, _, _, _, _, _, _, _, _, _, _, _, _, _, _, _, _, _, _, _, _, _, _, rfl, by omega, by omega, by simp, ⟨text0 _⟩, ?_, ?_⟩)
    · have := Lib.fresh_isBuilder 121 5 (w.alloc (.cells #[.int .i64 0, .string ⟨#[]⟩, .int .i64 0, .int .i64 0] 138 (0, 0)))
      rw [show (w.alloc (.cells #[.int .i64 0, .string ⟨#[]⟩, .int .i64 0, .int .i64 0] 138 (0, 0))).heap.size = w.heap.size + 1 from by simp] at this
      exact this
    · exact (Below.refl _ _).alloc (by simp) _
  · rintro a' w' ⟨n, acc, u6, u7, u8, u9, u10, u11, u12, u13, u14, u15, u16, u17, u18, u19, u20, u21, u22, u23, u24, u25, u26, u27, u28, u29, u30, u31, u32, u33, u34, u35, u36, u37, u38, u39, u40, u41, u42, u43, u44, u45, u46, u47, u48, u49, u50, u51, u52, u53, u54, u55, u56, u57, u58, u59, u60, u61, u62, u63, u64, u65, u66, u67, u68, u69, u70, u71, rfl, hn1, hn2, hacc, ht, hI, hb⟩
    have hBw : w.heap.size + 1 ≤ w'.heap.size := by have := hb.size; simpa using this
    have hblk : w'.heap[w.heap.size]? = some (.cells #[.int .i64 0, .string ⟨#[]⟩, .int .i64 0, .int .i64 0] 138 (0, 0)) := by
      rw [hb.block _ (by omega), heap_alloc_new]
    have c0 : w'.cell? ⟨w.heap.size, 0, none⟩ = some (.int .i64 0) := by rw [Lib.cell_of_heap hblk]; rfl
    have c1 : w'.cell? ⟨w.heap.size, 1, none⟩ = some (.string ⟨#[]⟩) := by rw [Lib.cell_of_heap hblk]; rfl
    have c2 : w'.cell? ⟨w.heap.size, 2, none⟩ = some (.int .i64 0) := by rw [Lib.cell_of_heap hblk]; rfl
    have c3 : w'.cell? ⟨w.heap.size, 3, none⟩ = some (.int .i64 0) := by rw [Lib.cell_of_heap hblk]; rfl
    have f0 := Lib.frozen_of_heap hblk 0
    have f1 := Lib.frozen_of_heap hblk 1
    have f2 := Lib.frozen_of_heap hblk 2
    have f3 := Lib.frozen_of_heap hblk 3
    have hblk' := Hid.mk hblk
    clear hblk
    have hcl : (Lib.byteCells acc).length + 1 ≤ 140737488355328 ∨ s.size ≤ n := by
      rw [Lib.byteCells_length]; omega
    go_wp2_with (go_at_call 205; refine (writeByte_calls (w.heap.size + 1) (w.heap.size + 1) (Lib.byteCells acc) _ _ hI (by omega) hBw).mono ?_; rintro e w2 ⟨rfl, hbu, hbb⟩)
    all_goals (
      have hh := h'.out
      have hlen := hlen.out
      have hbW : Below w.heap.size w w' := ((Below.refl _ w).alloc (by simp) _).trans (hb.mono (by omega)))
    · have e1 : textS (s.data.toList.drop n) = none := text_lf (by assumption) (by
        rcases ‹s.size ≤ n ∨ (_ == _) = true› with g | g
        · omega
        · exact eq_of_beq g)
      rw [ht.out.none e1] at hh
      simp only [Prod.mk.injEq] at hh
      obtain ⟨rfl, rfl, rfl, rfl, rfl⟩ := hh
      simp only [Exit.jump]
      refine bodyPost_ret (results_ct rfl _ _ w.heap.size 138 #[.int .i64 0, .string ⟨#[]⟩, .int .i64 0, .int .i64 0] (0, 0) _ rfl (put4 hblk'.out _ _ _ _) Tryz.underlying138 rfl (by kernel_rfl)) rfl ?_
      exact ⟨rfl, below4 hbW (Nat.le_refl _) _ _ _ _⟩
    · have e1 : textS (s.data.toList.drop n) = some ([], 1) := text_q (by assumption) (eq_of_beq ‹(_ == _) = true›)
      refine (Tryz.Builder_String_any (w.heap.size + 1) (w.heap.size + 1) acc w' hI hBw).mono ?_
      rintro e w2 ⟨rfl, hb2⟩
      have hblk2 : w2.heap[w.heap.size]? = some (.cells #[.int .i64 0, .string ⟨#[]⟩, .int .i64 0, .int .i64 0] 138 (0, 0)) := (hb2.block _ (by omega)).trans hblk'.out
      have d0 : w2.cell? ⟨w.heap.size, 0, none⟩ = some (.int .i64 0) := by rw [Lib.cell_of_heap hblk2]; rfl
      have d1 : w2.cell? ⟨w.heap.size, 1, none⟩ = some (.string ⟨#[]⟩) := by rw [Lib.cell_of_heap hblk2]; rfl
      have d2 : w2.cell? ⟨w.heap.size, 2, none⟩ = some (.int .i64 0) := by rw [Lib.cell_of_heap hblk2]; rfl
      have d3 : w2.cell? ⟨w.heap.size, 3, none⟩ = some (.int .i64 0) := by rw [Lib.cell_of_heap hblk2]; rfl
      have g0 := Lib.frozen_of_heap hblk2 0
      have g1 := Lib.frozen_of_heap hblk2 1
      have g2 := Lib.frozen_of_heap hblk2 2
      have g3 := Lib.frozen_of_heap hblk2 3
      have hblk3 := Hid.mk hblk2
      have e2 := Hid.mk e1
      have hh2 := Hid.mk hh
      clear hblk2 e1 hh hlen
      go_wp2
      have hh := hh2.out
      rw [ht.out.done e2.out] at hh
      simp only [Prod.mk.injEq] at hh
      obtain ⟨rfl, rfl, rfl, rfl, rfl⟩ := hh
      simp only [Exit.jump]
      refine bodyPost_ret (results_ct rfl _ _ w.heap.size 138 #[.int .i64 5, .string ⟨acc.toArray⟩, .int .i64 0, .int .i64 0] (0, 0) _ rfl (put4 hblk3.out _ _ _ _) Tryz.underlying138 rfl (by kernel_rfl)) rfl ?_
      exact ⟨rfl, below4 (hbW.trans (hb2.mono (by omega))) (Nat.le_refl _) _ _ _ _⟩
    · have h92 : (s[n].toNat : Int) ≠ 92 := bne_iff_ne.mp ‹(_ != _) = true›
      have h34 : (s[n].toNat : Int) ≠ 34 := ne_of_beq_false ‹(_ == _) = false›
      have h10 : (s[n].toNat : Int) ≠ 10 := ne_of_beq_false (‹¬ s.size ≤ n ∧ _›.2)
      go_step3
      refine ⟨rfl, ⟨n + 1, acc ++ [s[n]], _, _, _, _, _, _, _, _, _, _, _, _, _, _, _, _, _, _, _, _, _, _, _, _, _, _, _, _, _, _, _, _, _, _, _, _, _, _, _, _, _, _, _, _, _, _, _, _, _, _, _, _, _, _, _, _, _, _, _, _, _, _, _, _, _, _, rfl, by omega, by omega, by simp; omega, ⟨ht.out.step (text_c (by assumption) h10 h34 h92) rfl⟩, .inr (by rw [← byteCells_snoc]; exact hbu), hb.trans hbb⟩, ?_⟩
      simp [intOf]
      omega
    · have h92 : (s[n].toNat : Int) = 92 := bne_eq_false_iff_eq.mp ‹(_ != _) = false›
      go_step3
      refine ⟨rfl, ⟨n + 1 + 1, acc ++ [10], _, _, _, _, _, _, _, _, _, _, _, _, _, _, _, _, _, _, _, _, _, _, _, _, _, _, _, _, _, _, _, _, _, _, _, _, _, _, _, _, _, _, _, _, _, _, _, _, _, _, _, _, _, _, _, _, _, _, _, _, _, _, _, _, _, _, rfl, by omega, by omega, by simp; omega, ⟨ht.out.step (text_n (by assumption) h92 (by omega) (eq_of_beq ‹(_ == _) = true›)) rfl⟩, .inr (by rw [← byteCells_snoc]; exact hbu), hb.trans hbb⟩, ?_⟩
      simp [intOf]
      omega
    · have h92 : (s[n].toNat : Int) = 92 := bne_eq_false_iff_eq.mp ‹(_ != _) = false›
      have hd : (s[n + 1].toNat : Int) = 34 := by assumption
      go_step3
      refine ⟨rfl, ⟨n + 1 + 1, acc ++ [s[n + 1]], _, _, _, _, _, _, _, _, _, _, _, _, _, _, _, _, _, _, _, _, _, _, _, _, _, _, _, _, _, _, _, _, _, _, _, _, _, _, _, _, _, _, _, _, _, _, _, _, _, _, _, _, _, _, _, _, _, _, _, _, _, _, _, _, _, _, rfl, by omega, by omega, by simp; omega, ⟨ht.out.step (text_d (by assumption) h92 (by omega) (.inl hd)) rfl⟩, .inr (by rw [← byteCells_snoc, hd]; exact hbu), hb.trans hbb⟩, ?_⟩
      simp [intOf]
      omega
    · have h92 : (s[n].toNat : Int) = 92 := bne_eq_false_iff_eq.mp ‹(_ != _) = false›
      have hd : (s[n + 1].toNat : Int) = 34 ∨ (s[n + 1].toNat : Int) = 92 := by
        rcases ‹(_ == _) = true ∨ (_ == _) = true› with g | g
        · exact .inl (eq_of_beq g)
        · exact .inr (eq_of_beq g)
      go_step3
      refine ⟨rfl, ⟨n + 1 + 1, acc ++ [s[n + 1]], _, _, _, _, _, _, _, _, _, _, _, _, _, _, _, _, _, _, _, _, _, _, _, _, _, _, _, _, _, _, _, _, _, _, _, _, _, _, _, _, _, _, _, _, _, _, _, _, _, _, _, _, _, _, _, _, _, _, _, _, _, _, _, _, _, _, rfl, by omega, by omega, by simp; omega, ⟨ht.out.step (text_d (by assumption) h92 (by omega) hd) rfl⟩, .inr (by rw [← byteCells_snoc]; exact hbu), hb.trans hbb⟩, ?_⟩
      simp [intOf]
      omega
    · have h92 : (s[n].toNat : Int) = 92 := bne_eq_false_iff_eq.mp ‹(_ != _) = false›
      have hd := ‹(_ == _) = false ∧ (_ == _) = false›
      have hn110 : (s[n + 1].toNat : Int) ≠ 110 := ne_of_beq_false (by assumption)
      have e1 : textS (s.data.toList.drop n) = none := text_x (by assumption) h92 (by omega) hn110 (ne_of_beq_false hd.1) (ne_of_beq_false hd.2)
      rw [ht.out.none e1] at hh
      simp only [Prod.mk.injEq] at hh
      obtain ⟨rfl, rfl, rfl, rfl, rfl⟩ := hh
      simp only [Exit.jump]
      refine bodyPost_ret (results_ct rfl _ _ w.heap.size 138 #[.int .i64 0, .string ⟨#[]⟩, .int .i64 0, .int .i64 0] (0, 0) _ rfl (put4 hblk'.out _ _ _ _) Tryz.underlying138 rfl (by kernel_rfl)) rfl ?_
      exact ⟨rfl, below4 hbW (Nat.le_refl _) _ _ _ _⟩
    · have h92 : (s[n].toNat : Int) = 92 := bne_eq_false_iff_eq.mp ‹(_ != _) = false›
      have e1 : textS (s.data.toList.drop n) = none := text_e (by assumption) h92 (by omega)
      rw [ht.out.none e1] at hh
      simp only [Prod.mk.injEq] at hh
      obtain ⟨rfl, rfl, rfl, rfl, rfl⟩ := hh
      simp only [Exit.jump]
      refine bodyPost_ret (results_ct rfl _ _ w.heap.size 138 #[.int .i64 0, .string ⟨#[]⟩, .int .i64 0, .int .i64 0] (0, 0) _ rfl (put4 hblk'.out _ _ _ _) Tryz.underlying138 rfl (by kernel_rfl)) rfl ?_
      exact ⟨rfl, below4 hbW (Nat.le_refl _) _ _ _ _⟩
    · have e1 : textS (s.data.toList.drop n) = none := drop_end (by omega)
      rw [ht.out.none e1] at hh
      simp only [Prod.mk.injEq] at hh
      obtain ⟨rfl, rfl, rfl, rfl, rfl⟩ := hh
      simp only [Exit.jump]
      refine bodyPost_ret (results_ct rfl _ _ w.heap.size 138 #[.int .i64 0, .string ⟨#[]⟩, .int .i64 0, .int .i64 0] (0, 0) _ rfl (put4 hblk'.out _ _ _ _) Tryz.underlying138 rfl (by kernel_rfl)) rfl ?_
      exact ⟨rfl, below4 hbW (Nat.le_refl _) _ _ _ _⟩
end Go.Proofs.YtjofmihdeblbmaaGreatDoor
