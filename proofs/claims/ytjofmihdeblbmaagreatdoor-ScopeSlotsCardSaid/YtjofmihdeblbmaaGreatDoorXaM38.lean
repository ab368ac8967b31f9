/- XA: ScopeSlots: the text meets what the walk asks. -/
import Derived.Test.YtjofmihdeblbmaaGreatDoorXaM35
import Derived.Test.YtjofmihdeblbmaaGreatDoorXaM37
namespace Go.Proofs.YtjofmihdeblbmaaGreatDoor.Xa
open Go Go.RowKit
set_option linter.unusedVariables false
set_option linter.unusedSimpArgs false
set_option maxRecDepth 100000
set_option maxHeartbeats 1000000
theorem sl_spec (n m : Nat) (hn : n < 9) (hm : m < 21) : SlSpec n m (fun b r => srcT 1000000 b = some r) slH1 (slL2 n) (slL3 n m) (slL4 n m) (slW1 n) (fun j => slW1 n m ++ slW2 n m j) (fun j => slW1 n m ++ slW2 n m 0 ++ slW3 n j) where
  hn := hn
  hm := hm
  a0 := slH1_0
  a1 := fun i hi => slH1_s i (by omega)
  b0 := slL2_0 n
  b1 := fun i hi => slL2_s n i (by omega)
  c0 := slL3_0 n m
  c1 := fun j h1 h2 => slL3_s n m j h1 h2 (by omega)
  d0 := slL4_0 n m
  d1 := fun j h1 h2 => slL4_s n m j h1 h2 (by omega)
  w20 := by simp [slW1]
  w21 := fun i _ => slW1_s n i
  w30 := by simp [slW2, downTo_self]
  w31 := fun j h1 h2 => by simp only [slW2_s n m j h1 h2, List.append_assoc]
  w40 := by simp [slW3, downTo_self]
  w41 := fun j h1 h2 => by simp only [slW3_s n j h1 h2, List.append_assoc]
  src := fun b hb => slots_src n m hn hm b (by rw [hb]; exact slL4_end n m)
theorem scopeSlots_calls (h : H) (hp : 0 < h.next) (a b : Int) : XCalls e 3 [.lit (.int .i64 a), .lit (.int .i64 b)] h (fun v h' => v = .lit (.bool true) ∧ Fr h h') :=
  slots_walk (fun b r => srcT 1000000 b = some r) (fun h b r hr => srcT_calls 1000000 (Nat.le_refl _) h b r hr) awake_calls (fun n m hn hm => ⟨_, _, _, _, _, _, _, sl_spec n m hn hm⟩) h hp a b
end Go.Proofs.YtjofmihdeblbmaaGreatDoor.Xa
