/- color's inner functions: cmp's, the closure of Assign: what they tell. -/
import Derived.Test.YtidhllheipopbaaProg
import Derived.Tactics
import Derived.Tactics2
import Derived.WalkKit
import Derived.Below
import Derived.RowKit
import Derived.RowKit3
import Derived.KernelRfl
import Derived.Laws.Rows
import Derived.Laws.Wrap64
import Derived.WalkMore
import Derived.StillTailTactics
import Derived.Deep.QuietTactic
import Derived.BigQuiet
import Derived.Lib.Hide
namespace Go.Proofs.Ytidhllheipopbaa
open Go.RowKit
def intOf : Value → Int | .int _ q => q | _ => 0
def cmp3 (a b : Int) : Int := if a < b then -1 else if b < a then 1 else 0
def or2 (a b : Int) : Int := if a = 0 then b else a
theorem nan_walk (a : Int) (w : World) :
    Calls Try.prog 16 #[.int .i64 a] w fun e w' => e = .returned (.bool false) ∧ w' = w := by
  go_enter Try.func16, Try.ntmps16
  go_wp2
  all_goals (go_ret; exact ⟨by simp, rfl⟩)
theorem cmp_walk (a b : Int) (w : World) :
    Calls Try.prog 15 #[.int .i64 a, .int .i64 b] w fun e w' => e = .returned (.int .i64 (cmp3 a b)) ∧ w' = w := by
  rcases Int.lt_trichotomy a b with h | h | h
  · have h1 : decide (a < b) = true := decide_eq_true h
    go_enter Try.func15, Try.ntmps15
    go_wp2_with (go_at_call 16; refine (nan_walk _ _).mono ?_; rintro e w' ⟨rfl, rfl⟩)
    go_ret
    exact ⟨by simp [cmp3, h], rfl⟩
  · subst h
    go_enter Try.func15, Try.ntmps15
    go_wp2_with (go_at_call 16; refine (nan_walk _ _).mono ?_; rintro e w' ⟨rfl, rfl⟩)
    go_ret
    exact ⟨by simp [cmp3], rfl⟩
  · have h1 : decide (a < b) = false := decide_eq_false (by omega)
    have h2 : decide (b < a) = true := decide_eq_true h
    go_enter Try.func15, Try.ntmps15
    go_wp2_with (go_at_call 16; refine (nan_walk _ _).mono ?_; rintro e w' ⟨rfl, rfl⟩)
    go_ret
    exact ⟨by have : ¬ a < b := by omega
              simp [cmp3, h, this], rfl⟩
theorem or_walk (a b : Int) (g : Nat) (w : World) (h0 : w.cell? ⟨g, 0, none⟩ = some (.int .i64 a)) (h1 : w.cell? ⟨g, 1, none⟩ = some (.int .i64 b)) :
    Calls Try.prog 14 #[.slice (some ⟨g, 0, none⟩) 2 2] w fun e w' => e = .returned (.int .i64 (or2 a b)) ∧ w' = w := by
  have hz : a = 0 ∨ a ≠ 0 := by omega
  rcases hz with rfl | ha
  · have e0 : ∀ u : Int, (u == 0) = decide (u = 0) := fun u => by by_cases h : u = 0 <;> simp [h]
    clear e0
    by_cases hb : b = 0
    · subst hb
      go_enter Try.func14, Try.ntmps14
      go_wp2
      refine wp_loop_rounds 3 ?_
      rw [rounds_succ]
      go_wp2
      rw [rounds_succ]
      go_wp2
      rw [rounds_succ]
      go_wp2
      go_ret
      exact ⟨rfl, rfl⟩
    · have hb1 : (b != 0) = true := by simpa using hb
      go_enter Try.func14, Try.ntmps14
      go_wp2
      refine wp_loop_rounds 3 ?_
      rw [rounds_succ]
      go_wp2
      rw [rounds_succ]
      go_wp2
      go_ret
      exact ⟨by simp [or2], rfl⟩
  · have ha1 : (a != 0) = true := by simpa using ha
    go_enter Try.func14, Try.ntmps14
    go_wp2
    refine wp_loop_rounds 3 ?_
    rw [rounds_succ]
    go_wp2
    go_ret
    exact ⟨by simp [or2, ha], rfl⟩
end Go.Proofs.Ytidhllheipopbaa
