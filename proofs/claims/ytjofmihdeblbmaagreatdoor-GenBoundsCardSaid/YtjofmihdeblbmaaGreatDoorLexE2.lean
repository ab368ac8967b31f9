/- lex.op: what it tells. -/
import Derived.Test.YtjofmihdeblbmaaGreatDoorLexD2
import Derived.LoopTactic
namespace Go.Proofs.YtjofmihdeblbmaaGreatDoor
open Go.RowKit
def lexOps : List (List UInt8) := [[61, 61], [33, 61], [60, 61], [62, 61], [38, 38], [124, 124]]
def lexOnes : List UInt8 := [40, 41, 123, 125, 91, 93, 44, 59, 61, 43, 45, 42, 47, 37, 60, 62, 33]
def lex_op.g (a0 : ByteArray) (l : List UInt8) (b : Int) : Int × ByteArray × Int × Int × Int :=
  match lexOps.find? (fun x => Lib.hasPrefix l x) with
  | some x => (6, ⟨x.toArray⟩, 0, 0, 2)
  | none => if 0 ≤ Lib.indexByte lexOnes b.toNat.toUInt8 then (6, a0.extract 0 1, 0, 0, 1) else (0, ⟨#[]⟩, 0, 0, 0)
def lex_op.f (a0 : ByteArray) : Option (Int × ByteArray × Int × Int × Int) :=
  if 0 < a0.size then some (lex_op.g a0 a0.data.toList (byteAt a0.data.toList 0)) else none
theorem find_hit {l : List UInt8} {x : List UInt8} {r : List (List UInt8)} {k : Nat} (hd : lexOps.drop k = x :: r) (hh : Hid ((lexOps.drop k).find? (fun x => Lib.hasPrefix l x) = lexOps.find? (fun x => Lib.hasPrefix l x))) (h : Lib.hasPrefix l x = true) :
    lexOps.find? (fun x => Lib.hasPrefix l x) = some x := by
  rw [← hh.out, hd, List.find?_cons_of_pos h]
theorem find_next {l : List UInt8} {x : List UInt8} {r : List (List UInt8)} {k : Nat} (hd : lexOps.drop k = x :: r) (hd' : lexOps.drop (k + 1) = r) (hh : Hid ((lexOps.drop k).find? (fun x => Lib.hasPrefix l x) = lexOps.find? (fun x => Lib.hasPrefix l x))) (h : Lib.hasPrefix l x = false) :
    Hid ((lexOps.drop (k + 1)).find? (fun x => Lib.hasPrefix l x) = lexOps.find? (fun x => Lib.hasPrefix l x)) := ⟨by
  rw [← hh.out, hd, hd', List.find?_cons_of_neg (by rw [h]; decide)]⟩
set_option maxRecDepth 100000 in
theorem ix0 (w : World) : (Instr.index 242 (.agg #[.string ⟨#[61, 61]⟩, .string ⟨#[33, 61]⟩, .string ⟨#[60, 61]⟩, .string ⟨#[62, 61]⟩, .string ⟨#[38, 38]⟩, .string ⟨#[124, 124]⟩]) (.int .i64 0)).run Tryz.prog w = .ok (.string ⟨#[61, 61]⟩) w := by rfl
set_option maxRecDepth 100000 in
theorem ix1 (w : World) : (Instr.index 242 (.agg #[.string ⟨#[61, 61]⟩, .string ⟨#[33, 61]⟩, .string ⟨#[60, 61]⟩, .string ⟨#[62, 61]⟩, .string ⟨#[38, 38]⟩, .string ⟨#[124, 124]⟩]) (.int .i64 1)).run Tryz.prog w = .ok (.string ⟨#[33, 61]⟩) w := by rfl
set_option maxRecDepth 100000 in
theorem ix2 (w : World) : (Instr.index 242 (.agg #[.string ⟨#[61, 61]⟩, .string ⟨#[33, 61]⟩, .string ⟨#[60, 61]⟩, .string ⟨#[62, 61]⟩, .string ⟨#[38, 38]⟩, .string ⟨#[124, 124]⟩]) (.int .i64 2)).run Tryz.prog w = .ok (.string ⟨#[60, 61]⟩) w := by rfl
set_option maxRecDepth 100000 in
theorem ix3 (w : World) : (Instr.index 242 (.agg #[.string ⟨#[61, 61]⟩, .string ⟨#[33, 61]⟩, .string ⟨#[60, 61]⟩, .string ⟨#[62, 61]⟩, .string ⟨#[38, 38]⟩, .string ⟨#[124, 124]⟩]) (.int .i64 3)).run Tryz.prog w = .ok (.string ⟨#[62, 61]⟩) w := by rfl
set_option maxRecDepth 100000 in
theorem ix4 (w : World) : (Instr.index 242 (.agg #[.string ⟨#[61, 61]⟩, .string ⟨#[33, 61]⟩, .string ⟨#[60, 61]⟩, .string ⟨#[62, 61]⟩, .string ⟨#[38, 38]⟩, .string ⟨#[124, 124]⟩]) (.int .i64 4)).run Tryz.prog w = .ok (.string ⟨#[38, 38]⟩) w := by rfl
set_option maxRecDepth 100000 in
theorem ix5 (w : World) : (Instr.index 242 (.agg #[.string ⟨#[61, 61]⟩, .string ⟨#[33, 61]⟩, .string ⟨#[60, 61]⟩, .string ⟨#[62, 61]⟩, .string ⟨#[38, 38]⟩, .string ⟨#[124, 124]⟩]) (.int .i64 5)).run Tryz.prog w = .ok (.string ⟨#[124, 124]⟩) w := by rfl
set_option maxHeartbeats 8000000 in
set_option maxRecDepth 100000 in
theorem lex_op.calls0 (a0 : ByteArray) (r1 : Int) (r2 : ByteArray) (r3 r4 r5 : Int) (w : World) (h : lex_op.f a0 = some (r1, r2, r3, r4, r5)) :
    Calls Tryz.prog 175 #[.string a0] w fun e w' => e = .returned (.tuple #[.agg #[.int .i64 r1, .string r2, .int .i64 r3, .int .i64 r4], .int .i64 r5]) ∧ Below w.heap.size w w' := by
  unfold lex_op.f at h
  split at h
  case isFalse => simp at h
  rename_i hs
  have h' := Hid.mk (Option.some.inj h)
  clear h
  have hbt := Hid.mk (byteAt_lt a0 0 hs)
  have ix0 := ix0
  have ix1 := ix1
  have ix2 := ix2
  have ix3 := ix3
  have ix4 := ix4
  have ix5 := ix5
  have hb1 : ∀ o, Below w.heap.size w (w.alloc o) := fun o => (Below.refl _ w).alloc (by simp) _
  go_enter Tryz.func175, Tryz.ntmps175
  go_wp2
  go_loopw [7] (fun i wr => ∃ k : Nat, k ≤ 6 ∧ i = .int .i64 k ∧ Hid ((lexOps.drop k).find? (fun x => Lib.hasPrefix a0.data.toList x) = lexOps.find? (fun x => Lib.hasPrefix a0.data.toList x)) ∧ wr = w.alloc (.cells #[.int .i64 0, .string ⟨#[]⟩, .int .i64 0, .int .i64 0] 138 (0, 0))) (fun i _ => 6 - (intOf i).toNat)
  case atStart => exact ⟨0, by omega, rfl, ⟨rfl⟩, rfl⟩
  case round =>
    obtain ⟨k, hk, rfl, hh, rfl⟩ := hrel
    have hk7 : k = 0 ∨ k = 1 ∨ k = 2 ∨ k = 3 ∨ k = 4 ∨ k = 5 ∨ k = 6 := by omega
    rcases hk7 with rfl | rfl | rfl | rfl | rfl | rfl | rfl
    all_goals go_wp2_with (first
      | (go_at_call 206; refine (Tryz.strings_HasPrefix _ _ _).mono ?_; rintro e w' ⟨rfl, rfl⟩)
      | (go_at_call 207; refine (Tryz.strings_IndexByte _ _ _).mono ?_; rintro e w' ⟨rfl, rfl⟩))
    all_goals (have hh0 := h'.out; unfold lex_op.g at hh0)
    · rw [find_hit (k := 0) rfl hh (by assumption)] at hh0
      simp only [Prod.mk.injEq] at hh0
      obtain ⟨rfl, rfl, rfl, rfl, rfl⟩ := hh0
      refine bodyPost_ret (results_ct rfl _ _ w.heap.size 138 #[.int .i64 6, .string ⟨#[61, 61]⟩, .int .i64 0, .int .i64 0] (0, 0) _ rfl (heap_alloc_new _ _) Tryz.underlying138 rfl (by kernel_rfl)) rfl ?_
      exact ⟨rfl, hb1 _⟩
    · exact ⟨⟨1, by omega, rfl, find_next (k := 0) rfl rfl hh (by assumption), trivial⟩, by simp [intOf]⟩
    · rw [find_hit (k := 1) rfl hh (by assumption)] at hh0
      simp only [Prod.mk.injEq] at hh0
      obtain ⟨rfl, rfl, rfl, rfl, rfl⟩ := hh0
      refine bodyPost_ret (results_ct rfl _ _ w.heap.size 138 #[.int .i64 6, .string ⟨#[33, 61]⟩, .int .i64 0, .int .i64 0] (0, 0) _ rfl (heap_alloc_new _ _) Tryz.underlying138 rfl (by kernel_rfl)) rfl ?_
      exact ⟨rfl, hb1 _⟩
    · exact ⟨⟨2, by omega, rfl, find_next (k := 1) rfl rfl hh (by assumption), trivial⟩, by simp [intOf]⟩
    · rw [find_hit (k := 2) rfl hh (by assumption)] at hh0
      simp only [Prod.mk.injEq] at hh0
      obtain ⟨rfl, rfl, rfl, rfl, rfl⟩ := hh0
      refine bodyPost_ret (results_ct rfl _ _ w.heap.size 138 #[.int .i64 6, .string ⟨#[60, 61]⟩, .int .i64 0, .int .i64 0] (0, 0) _ rfl (heap_alloc_new _ _) Tryz.underlying138 rfl (by kernel_rfl)) rfl ?_
      exact ⟨rfl, hb1 _⟩
    · exact ⟨⟨3, by omega, rfl, find_next (k := 2) rfl rfl hh (by assumption), trivial⟩, by simp [intOf]⟩
    · rw [find_hit (k := 3) rfl hh (by assumption)] at hh0
      simp only [Prod.mk.injEq] at hh0
      obtain ⟨rfl, rfl, rfl, rfl, rfl⟩ := hh0
      refine bodyPost_ret (results_ct rfl _ _ w.heap.size 138 #[.int .i64 6, .string ⟨#[62, 61]⟩, .int .i64 0, .int .i64 0] (0, 0) _ rfl (heap_alloc_new _ _) Tryz.underlying138 rfl (by kernel_rfl)) rfl ?_
      exact ⟨rfl, hb1 _⟩
    · exact ⟨⟨4, by omega, rfl, find_next (k := 3) rfl rfl hh (by assumption), trivial⟩, by simp [intOf]⟩
    · rw [find_hit (k := 4) rfl hh (by assumption)] at hh0
      simp only [Prod.mk.injEq] at hh0
      obtain ⟨rfl, rfl, rfl, rfl, rfl⟩ := hh0
      refine bodyPost_ret (results_ct rfl _ _ w.heap.size 138 #[.int .i64 6, .string ⟨#[38, 38]⟩, .int .i64 0, .int .i64 0] (0, 0) _ rfl (heap_alloc_new _ _) Tryz.underlying138 rfl (by kernel_rfl)) rfl ?_
      exact ⟨rfl, hb1 _⟩
    · exact ⟨⟨5, by omega, rfl, find_next (k := 4) rfl rfl hh (by assumption), trivial⟩, by simp [intOf]⟩
    · rw [find_hit (k := 5) rfl hh (by assumption)] at hh0
      simp only [Prod.mk.injEq] at hh0
      obtain ⟨rfl, rfl, rfl, rfl, rfl⟩ := hh0
      refine bodyPost_ret (results_ct rfl _ _ w.heap.size 138 #[.int .i64 6, .string ⟨#[124, 124]⟩, .int .i64 0, .int .i64 0] (0, 0) _ rfl (heap_alloc_new _ _) Tryz.underlying138 rfl (by kernel_rfl)) rfl ?_
      exact ⟨rfl, hb1 _⟩
    · exact ⟨⟨6, by omega, rfl, find_next (k := 5) rfl rfl hh (by assumption), trivial⟩, by simp [intOf]⟩
    · have hn : lexOps.find? (fun x => Lib.hasPrefix a0.data.toList x) = none := by rw [← hh.out]; rfl
      rw [hn] at hh0
      simp only at hh0
      rw [hbt.out, Int.toNat_natCast, show (a0[0].toNat).toUInt8 = a0[0] from by simp, if_pos (by assumption)] at hh0
      simp only [Prod.mk.injEq] at hh0
      obtain ⟨rfl, rfl, rfl, rfl, rfl⟩ := hh0
      refine bodyPost_ret (results_ct rfl _ _ w.heap.size 138 #[.int .i64 6, .string (a0.extract 0 1), .int .i64 0, .int .i64 0] (0, 0) _ rfl (heap_alloc_new _ _) Tryz.underlying138 rfl (by kernel_rfl)) rfl ?_
      exact ⟨rfl, hb1 _⟩
    · have hn : lexOps.find? (fun x => Lib.hasPrefix a0.data.toList x) = none := by rw [← hh.out]; rfl
      rw [hn] at hh0
      simp only at hh0
      rw [hbt.out, Int.toNat_natCast, show (a0[0].toNat).toUInt8 = a0[0] from by simp, if_neg (by unfold lexOnes; omega)] at hh0
      simp only [Prod.mk.injEq] at hh0
      obtain ⟨rfl, rfl, rfl, rfl, rfl⟩ := hh0
      refine bodyPost_ret (results_ct rfl _ _ w.heap.size 138 #[.int .i64 0, .string ⟨#[]⟩, .int .i64 0, .int .i64 0] (0, 0) _ rfl (heap_alloc_new _ _) Tryz.underlying138 rfl (by kernel_rfl)) rfl ?_
      exact ⟨rfl, hb1 _⟩
end Go.Proofs.YtjofmihdeblbmaaGreatDoor
