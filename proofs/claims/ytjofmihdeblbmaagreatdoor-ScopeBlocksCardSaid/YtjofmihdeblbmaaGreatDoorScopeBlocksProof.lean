/- scope.Source tells, of every text of blocks opened and closed with x let or said in them, its locals and slots, or the error, as the statement wants it; all inputs read as before. -/
import Derived.Test.YtjofmihdeblbmaaGreatDoorRows
import Derived.Test.YtjofmihdeblbmaaGreatDoorCards
import Derived.Test.YtjofmihdeblbmaaGreatDoorTie
import Derived.Test.YtjofmihdeblbmaaGreatDoorLaidBase
import Derived.Test.YtjofmihdeblbmaaGreatDoorXaLaid
import Derived.Test.YtjofmihdeblbmaaGreatDoorXaM40
import Derived.Carry
import Derived.WideShapes
import Derived.ChangeSlices
import Derived.Deep.Slices
import Derived.WalkKit
import Derived.RegionTactic
import Derived.ChangeAlike
import Derived.BigRegion
import Derived.Deep.QuietTactic
import Derived.BigQuiet
import Derived.ProofKit
import Derived.OpenShut
import Derived.ShutString
import Derived.ChangeOld
import Derived.Below
import Derived.SizedLaws
import Derived.LaidMore
import Derived.LaidLaws
import Derived.Stop.Joined
import Derived.SevenTiedAt
namespace Go.Proofs.YtjofmihdeblbmaaGreatDoor.scopeBlocks
open Go.ChangeShapes Go.WideShapes Go.ChangeAt Go.WideMaps Go.WideElems Go.RowKit
open Go.ChangeMaps (open_string shut_string)
set_option linter.unusedVariables false
theorem own : ownKnob Tryz.prog.godebug = none := by kernel_rfl
theorem laidOut : laidOutB Tryz.prog = true := by as_aux_lemma => kernel_rfl
set_option maxRecDepth 100000 in
theorem walk (A0 : Option Addr) (c0 : Nat) (l0 : List Int) (w : World) (k0 : Xa.IntsAt w A0 c0 l0) (m0 : l0.length ≤ maxLen) (hL : Laid w) :
    Calls Tryz.prog 5 #[.slice A0 l0.length c0] w fun e w' => e = .returned (.bool true) ∧ Below w.heap.size w w' := by
  exact Xa.blocks_true l0 A0 c0 w ⟨hL.maxLen, hL.errS, hL.errR⟩ k0 m0
theorem door_met (os : Os) (args : Array Value) : laidMetH Tryz.prog Rows.scopeBlocksRow.laid ((World.doorLaid Tryz.prog 62 os).forCall (fun _ _ => 0) ⟨#[], args, []⟩).memory :=
  laidMetH_of_parts3 (fuel := 8) (laidMet_of_run' 8 (by kernel_rfl) (by kernel_rfl)) (by kernel_rfl) (by kernel_rfl)
set_option maxRecDepth 100000 in
theorem lifted (os : Os) (started : os.Started) (H : Type) (enc : TypeId × Value → H) :
    ReturnsInHanded {} Tryz.checked os 5 .any (fun w args => (Rows.scopeBlocksSpec.pre enc Tryz.prog Tryz.f5 [] false w args ∧ laidMetH Tryz.prog Rows.scopeBlocksRow.laid w) ∧ sizedMet enc Tryz.prog Tryz.f5 (OpenSpec.ofChange Rows.scopeBlocksSpec) false w args)
      (Rows.scopeBlocksSpec.post enc Tryz.prog Tryz.f5 false true false false) := by
  refine returns_ands (C := Tryz.checked) (X := fun w _ => laidMetH Tryz.prog Rows.scopeBlocksRow.laid w) (fun _ _ _ hh h => h.of_heap hh) own started (by kernel_rfl) Tryz.func5
    (ChangeSpec.witness_shaped (enc := enc) (C := Tryz.checked) (os := os) (X := fun w _ => laidMetH Tryz.prog Rows.scopeBlocksRow.laid w) false (World.doorLaid Tryz.prog 62 os) #[.slice none 0 0] 8 rfl (World.shaped_of_RefB (by kernel_rfl) (by kernel_rfl)) (by kernel_rfl) (by kernel_rfl) (by kernel_rfl) (door_met os _)) ?_
  intro W base args ds gs before hval0 hW hsz0 hL hShape
  have hval : ∀ (j : Nat) t v, Tryz.f5.params[j]? = some t → args[j]? = some v → Value.okWide Tryz.prog W .any base t v := hval0
  have hW' := hW
  obtain ⟨p, q, hA0, hV, rfl, hfz, hnd⟩ := hW
  have hA : DataW.TrodAll enc Tryz.prog W 0 (fun _ => true) true Tryz.f5.params.toList args.toList ds p := hA0
  rw [Tryz.params5] at hA hval
  obtain ⟨v0, vs0, d0, ds0, p0, q0, hargs, rfl, rfl, h0, r0⟩ := trodAll_cons hA
  obtain ⟨rfl, rfl, rfl⟩ := trodAll_nil r0
  obtain rfl : args = #[v0] := by cases args; simp_all
  obtain ⟨rfl, rfl⟩ := trodVars_none hV
  obtain ⟨A0, len0, c0, rfl⟩ := okWide_slice Tryz.underlying23 (hval 0 23 v0 rfl rfl)
  have kk0 := h0
  have lt0 : ∀ x ∈ p0, x.block < W.heap.size := by
    obtain ⟨m, hm⟩ := kk0
    exact DataW.trod_lt m _ _ _ hm
  obtain ⟨l0, rfl, k0, m0⟩ : ∃ l0 : List Int, len0 = l0.length ∧ Xa.IntsAt W A0 c0 l0 ∧ l0.length ≤ maxLen := by
    obtain ⟨m, hm⟩ := h0
    exact ints_at (hval 0 23 _ rfl rfl) hm
  rw [MakeChecks.laidMetH_plain _ _ _ (by kernel_rfl)] at hL
  have hl : Laid W := laid_of hL hShape (by simp [Rows.scopeBlocksRow]) (by simp [Rows.scopeBlocksRow])
  clear hA0 hval0 hsz0
  simp only [List.append_nil] at hW'
  refine (walk A0 c0 l0 W k0 m0 hl).mono fun e W' ⟨he, bel⟩ => ?_
  subst he
  exact ⟨_, rfl, _, _, _, [], _, [], hW', trodAll_mk1 (shut_bool Tryz.underlying4 _), (trodAll_cons_mk (Below.trod laidOut (by kernel_rfl) (of_decide_eq_true (by kernel_rfl)) kk0 bel lt0) trodAll_mk0), rfl, bel.frame _, fun h => by cases h⟩
set_option maxHeartbeats 16000000 in
theorem closedFacts : joinedFacts Tryz.pinned.checked.prog 5 Tryz.f5 Rows.scopeBlocksSpec Rows.scopeBlocksRow = true := by
  unfold joinedFacts
  repeat' (with_reducible refine Bool.and_eq_true_iff.2 ⟨?_, ?_⟩)
  all_goals (as_aux_lemma => kernel_rfl)
theorem over : Rows.scopeBlocksRow.holds Tryz.pinned (OpenSpec.ofChange Rows.scopeBlocksSpec) :=
  OpenClaim.holds_of_wide 5 Tryz.f5 rfl rfl rfl rfl rfl rfl rfl ⟨rfl, rfl, rfl, rfl, rfl⟩ rfl rfl rfl rfl rfl (by as_aux_lemma => kernel_rfl) Tryz.func5 closedFacts
    (of_decide_eq_true (by as_aux_lemma => kernel_rfl)) (by unfold Func.isWrapper; first | (rw [if_pos (by decide +kernel)]; kernel_rfl) | (rw [if_neg (by decide +kernel)]; exact ⟨rfl, rfl⟩))
    (fun os started H enc _ => lifted os started H enc)
theorem said : Rows.ScopeBlocksSaid := over
theorem proved : Rows.ScopeBlocksCardSaid :=
  Claim7.holds_tied_plain_at .later [] [.data, .data, .data, .sentinel, .sentinel] true (true, "6189b876a7b44d5242a32f9a41ea90c03c60cb616c47c131ca1892d62bd8e776") true
    over (fun _ h => by cases h) (by as_aux_lemma => kernel_rfl) (fun _ h => by cases h) scopeBlocks_row_tie rfl ⟨rfl, rfl⟩ (by as_aux_lemma => kernel_rfl) rfl
    (fun f fn hf hfn => by
      obtain rfl : f = 5 := Option.some.inj ((show Tryz.prog.funcNamed "ratline/ratlinelaw6.ScopeBlocks" = some 5 by kernel_rfl).symm.trans hf) |>.symm
      obtain rfl : fn = Tryz.f5 := (Option.some.inj (Tryz.func5.symm.trans hfn)).symm
      exact ⟨by as_aux_lemma => kernel_rfl, fun j t ht => by
        rw [Tryz.params5] at ht
        have hm : t ∈ [23] := by simpa using Array.mem_of_getElem? ht
        have hall : ([23].all fun u => !Tryz.prog.wantsStandIn u) = true := by kernel_rfl
        exact (show Tryz.prog.wantsStandIn t = false by simpa using List.all_eq_true.1 hall t hm)⟩)
    (by as_aux_lemma => kernel_rfl)
#print axioms proved
end Go.Proofs.YtjofmihdeblbmaaGreatDoor.scopeBlocks
