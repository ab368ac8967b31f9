/- XA: ParseBlocks' 120 texts, evaluated. -/
import Derived.Test.YtjofmihdeblbmaaGreatDoorXaM48
namespace Go.Proofs.YtjofmihdeblbmaaGreatDoor.Xa
open Go Go.RowKit
set_option maxRecDepth 100000
set_option maxHeartbeats 8000000
theorem pb_0 : pbR 0 15 = true := by decide +kernel
theorem pb_15 : pbR 15 8 = true := by decide +kernel
theorem pb_23 : pbR 23 5 = true := by decide +kernel
theorem pb_28 : pbR 28 3 = true := by decide +kernel
theorem pb_31 : pbR 31 3 = true := by decide +kernel
theorem pb_34 : pbR 34 3 = true := by decide +kernel
theorem pb_37 : pbR 37 3 = true := by decide +kernel
theorem pb_40 : pbR 40 2 = true := by decide +kernel
theorem pb_42 : pbR 42 2 = true := by decide +kernel
theorem pb_44 : pbR 44 2 = true := by decide +kernel
theorem pb_46 : pbR 46 2 = true := by decide +kernel
theorem pb_48 : pbR 48 2 = true := by decide +kernel
theorem pb_50 : pbR 50 2 = true := by decide +kernel
theorem pb_52 : pbR 52 2 = true := by decide +kernel
theorem pb_54 : pbR 54 2 = true := by decide +kernel
theorem pb_56 : pbR 56 2 = true := by decide +kernel
theorem pb_58 : pbR 58 2 = true := by decide +kernel
theorem pb_all (n : Nat) (h : n < 60) (c : Bool) : pbOk n c = true := by
  by_cases h0 : n < 15
  · exact pbR_of pb_0 (by omega) (by omega) c
  by_cases h15 : n < 23
  · exact pbR_of pb_15 (by omega) (by omega) c
  by_cases h23 : n < 28
  · exact pbR_of pb_23 (by omega) (by omega) c
  by_cases h28 : n < 31
  · exact pbR_of pb_28 (by omega) (by omega) c
  by_cases h31 : n < 34
  · exact pbR_of pb_31 (by omega) (by omega) c
  by_cases h34 : n < 37
  · exact pbR_of pb_34 (by omega) (by omega) c
  by_cases h37 : n < 40
  · exact pbR_of pb_37 (by omega) (by omega) c
  by_cases h40 : n < 42
  · exact pbR_of pb_40 (by omega) (by omega) c
  by_cases h42 : n < 44
  · exact pbR_of pb_42 (by omega) (by omega) c
  by_cases h44 : n < 46
  · exact pbR_of pb_44 (by omega) (by omega) c
  by_cases h46 : n < 48
  · exact pbR_of pb_46 (by omega) (by omega) c
  by_cases h48 : n < 50
  · exact pbR_of pb_48 (by omega) (by omega) c
  by_cases h50 : n < 52
  · exact pbR_of pb_50 (by omega) (by omega) c
  by_cases h52 : n < 54
  · exact pbR_of pb_52 (by omega) (by omega) c
  by_cases h54 : n < 56
  · exact pbR_of pb_54 (by omega) (by omega) c
  by_cases h56 : n < 58
  · exact pbR_of pb_56 (by omega) (by omega) c
  by_cases h58 : n < 60
  · exact pbR_of pb_58 (by omega) (by omega) c
  omega
theorem parseBlocks_calls (h : H) (hp : 0 < h.next) (a : Int) (c : Bool) : XCalls e 12 [.lit (.int .i64 a), .lit (.bool c)] h (fun v h' => v = .lit (.bool true) ∧ Fr h h') := pblocks_walk (fun n hn c => pb_all n hn c) h hp a c
end Go.Proofs.YtjofmihdeblbmaaGreatDoor.Xa
