/- CplxBits: whatever the two words, the call answers true and changes nothing; the listed variables start as the program's text lays them. -/
import Derived.Test.YthgoihblpeeogaaDoorRows
import Derived.Test.YthgoihblpeeogaaDoorCards
import Derived.Test.YthgoihblpeeogaaDoorTie
import Derived.Test.YthgoihblpeeogaaDoorLaid
import Derived.Test.YthgoihblpeeogaaDoorRead
import Derived.WalkKit
import Derived.ProofKit
import Derived.OpenShut
import Derived.ShutString
import Derived.ChangeOld
import Derived.Below
import Derived.SizedLaws
import Derived.LaidMore
import Derived.LaidLaws
import Derived.Stop.Joined
import Derived.SevenTiedAt
namespace Go.Proofs.YthgoihblpeeogaaDoor.cplxBits
open Go.ChangeShapes Go.WideShapes Go.ChangeAt Go.WideMaps Go.WideElems Go.RowKit
open Go.ChangeMaps (open_string shut_string)
set_option linter.unusedVariables false
theorem own : ownKnob Tryd.prog.godebug = none := by kernel_rfl
attribute [local go_sem] run_frombits run_bits
theorem fromBits_yes (a b : Nat) (h : okB a b = true) (w : World) :
    Calls Tryd.prog 6 #[.int .u64 a, .int .u64 b] w fun e w' => e = .returned (.tuple #[.complex .f64 a b, .bool true]) ∧ w = w' :=
  (fromBits_calls a b w).mono fun e w' ⟨he, hw⟩ => ⟨by rw [he, if_pos h, if_pos h, h], hw⟩
theorem fromBits_no (a b : Nat) (h : okB a b = false) (w : World) :
    Calls Tryd.prog 6 #[.int .u64 a, .int .u64 b] w fun e w' => e = .returned (.tuple #[.complex .f64 0 0, .bool false]) ∧ w = w' :=
  (fromBits_calls a b w).mono fun e w' ⟨he, hw⟩ => ⟨by rw [he, h]; rfl, hw⟩
theorem parse_text (p q : Nat) (hp : p < 2 ^ 64) (hq : q < 2 ^ 64) (ho : okB p q = true) (ev : Value) (w : World) (h : w.cell? ⟨6, 15, none⟩ = some (.int .u8 4)) (hv : w.cell? ⟨1, 0, none⟩ = some ev) (hev : ev = .nilIface ∨ ∃ te pe, ev = .iface te pe) :
    Calls Tryd.prog 12 #[.string (textB p q)] w fun e w' => e = .returned (.tuple #[.complex .f64 p q, .bool true]) ∧ Below w.heap.size w w' :=
  (parse_calls (textB p q) ev w h hv hev).mono fun e w' ⟨he, hb⟩ => by
    refine ⟨?_, hb⟩
    rcases he with ⟨x, y, hk, rfl⟩ | ⟨hn, _⟩
    · obtain ⟨g1, g2⟩ := parse_first _ _ _ hk
      rw [textB_first, pu16_hex p (by omega)] at g1
      rw [textB_second, pu16_hex q (by omega)] at g2
      cases g1; cases g2; rfl
    · exact absurd ⟨rfl, ho, hp, hq⟩ (hn p q)
set_option maxRecDepth 100000 in
theorem walk (a0 : Int) (a1 : Int) (w0 : (Lit.int .u64 a0).wf = true) (w1 : (Lit.int .u64 a1).wf = true) (w : World) (hL : Laid w) :
    Calls Tryd.prog 3 #[.int .u64 a0, .int .u64 a1] w fun e w' => e = .returned (.bool true) ∧ Below w.heap.size w w' := by
  obtain ⟨A, rfl⟩ := Int.eq_ofNat_of_zero_le (bounds_u64 w0).1
  obtain ⟨B, rfl⟩ := Int.eq_ofNat_of_zero_le (bounds_u64 w1).1
  have hA := (bounds_u64 w0).2
  have hB := (bounds_u64 w1).2
  have hA64 : A < 2 ^ 64 := by omega
  have hB64 : B < 2 ^ 64 := by omega
  obtain ⟨te, pe, herr⟩ := hL.err
  have htz := hL.tz
  have hlt := lt_of_cell htz
  have hlv := lt_of_cell herr
  have l1 := cre_lt A B hA64
  have l2 := cim_lt A B hB64
  have o1 := ok_clean A B
  have cc := cre_clean _ _ (clean_cre A B) (clean_cim A B)
  have cd := cim_clean _ _ (clean_cre A B) (clean_cim A B)
  have oo : okB (cre A B) (cim A B) = true := ok_clean A B
  clear w0 w1
  cases hok : okB A B with
  | true =>
    go_enter Tryd.func3, Tryd.ntmps3
    go_wp2_with (first | (go_at_call 5; refine (lawOf_calls _ _ _).mono ?_; rintro e w' ⟨rfl, rfl⟩) | (go_at_call 6; refine (fromBits_yes _ _ hok _).mono ?_; rintro e w' ⟨rfl, rfl⟩) | (go_at_call 7; refine (sound_calls _ _ _).mono ?_; rintro e w' ⟨rfl, rfl⟩) | (go_at_call 8; refine (bits_yes _ _ _).mono ?_; rintro e w' ⟨rfl, rfl⟩) | (go_at_call 9; refine (refClean_calls _ _ _).mono ?_; rintro e w' ⟨rfl, rfl⟩) | (go_at_call 10; refine (cplxBits_calls _ _ _).mono ?_; rintro e w' ⟨rfl, rfl⟩))
    refine (text_calls A B hA64 hB64 _ htz).mono ?_
    rintro e w1 ⟨rfl, hb1⟩
    have htz1 := (hb1.cell (p := ⟨6, 15, none⟩) hlt).trans htz
    have herr1 := (hb1.cell (p := ⟨1, 0, none⟩) hlv).trans herr
    go_wp2_with fail
    refine (parse_text _ _ l1 l2 oo _ _ htz1 herr1 (.inr ⟨te, pe, rfl⟩)).mono ?_
    rintro e w2 ⟨rfl, hb2⟩
    have hb3 := hb1.trans (hb2.mono hb1.size)
    clear htz herr htz1 herr1
    go_wp2_with (first | (go_at_call 14; refine (cxText_calls A B hA64 hB64 _).mono ?_; rintro e w' ⟨rfl, rfl⟩) | (go_at_call 8; refine (bits_yes _ _ _).mono ?_; rintro e w' ⟨rfl, rfl⟩) | (go_at_call 15; refine (awake_calls _).mono ?_; rintro e w3 ⟨rfl, hd⟩))
    obtain ⟨n, rfl⟩ := hd
    go_ret
    exact ⟨by simp, below_drewN hb3 n⟩
  | false =>
    go_enter Tryd.func3, Tryd.ntmps3
    go_wp2_with (first | (go_at_call 5; refine (lawOf_calls _ _ _).mono ?_; rintro e w' ⟨rfl, rfl⟩) | (go_at_call 6; refine (fromBits_no _ _ hok _).mono ?_; rintro e w' ⟨rfl, rfl⟩) | (go_at_call 7; refine (sound_calls _ _ _).mono ?_; rintro e w' ⟨rfl, rfl⟩) | (go_at_call 8; refine (bits_yes _ _ _).mono ?_; rintro e w' ⟨rfl, rfl⟩) | (go_at_call 9; refine (refClean_calls _ _ _).mono ?_; rintro e w' ⟨rfl, rfl⟩) | (go_at_call 10; refine (cplxBits_calls _ _ _).mono ?_; rintro e w' ⟨rfl, rfl⟩))
    refine (text_calls A B hA64 hB64 _ htz).mono ?_
    rintro e w1 ⟨rfl, hb1⟩
    have htz1 := (hb1.cell (p := ⟨6, 15, none⟩) hlt).trans htz
    have herr1 := (hb1.cell (p := ⟨1, 0, none⟩) hlv).trans herr
    go_wp2_with fail
    refine (parse_text _ _ l1 l2 oo _ _ htz1 herr1 (.inr ⟨te, pe, rfl⟩)).mono ?_
    rintro e w2 ⟨rfl, hb2⟩
    have hb3 := hb1.trans (hb2.mono hb1.size)
    clear htz herr htz1 herr1
    go_wp2_with (first | (go_at_call 14; refine (cxText_calls A B hA64 hB64 _).mono ?_; rintro e w' ⟨rfl, rfl⟩) | (go_at_call 8; refine (bits_yes _ _ _).mono ?_; rintro e w' ⟨rfl, rfl⟩) | (go_at_call 15; refine (awake_calls _).mono ?_; rintro e w3 ⟨rfl, hd⟩))
    obtain ⟨n, rfl⟩ := hd
    go_ret
    exact ⟨by simp, below_drewN hb3 n⟩
theorem door_met (os : Os) (args : Array Value) : laidMetH Tryd.prog Rows.cplxBitsRow.laid ((World.doorLaid Tryd.prog 62 os).forCall (fun _ _ => 0) ⟨#[], args, []⟩).memory :=
  laidMetH_of_parts3 (fuel := 8) (laidMet_of_run' 8 (by kernel_rfl) (by kernel_rfl)) (by kernel_rfl) (by kernel_rfl)
set_option maxRecDepth 100000 in
theorem lifted (os : Os) (started : os.Started) (H : Type) (enc : TypeId × Value → H) :
    ReturnsInHanded {} Tryd.checked os 3 .any (fun w args => (Rows.cplxBitsSpec.pre enc Tryd.prog Tryd.f3 [] false w args ∧ laidMetH Tryd.prog Rows.cplxBitsRow.laid w) ∧ sizedMet enc Tryd.prog Tryd.f3 (OpenSpec.ofChange Rows.cplxBitsSpec) false w args)
      (Rows.cplxBitsSpec.post enc Tryd.prog Tryd.f3 false true false false) := by
  refine returnsInHanded_of_change_and (C := Tryd.checked) (X := fun w _ => laidMetH Tryd.prog Rows.cplxBitsRow.laid w) (fun _ _ _ hh h => h.of_heap hh) own started (by kernel_rfl) Tryd.func3
    (ChangeSpec.witness_shaped (enc := enc) (C := Tryd.checked) (os := os) (X := fun w _ => laidMetH Tryd.prog Rows.cplxBitsRow.laid w) false (World.doorLaid Tryd.prog 62 os) #[.int .u64 0, .int .u64 0] 8 rfl (World.shaped_of_RefB (by kernel_rfl) (by kernel_rfl)) (by kernel_rfl) (by kernel_rfl) (by kernel_rfl) (door_met os _)) ?_
  intro W base args ds gs before hval0 hW _ hsz0 hL _
  have hval : ∀ (j : Nat) t v, Tryd.f3.params[j]? = some t → args[j]? = some v → Value.okWide Tryd.prog W .any base t v := hval0
  have hW' := hW
  obtain ⟨p, q, hA0, hV, rfl, hfz, hnd⟩ := hW
  have hA : DataW.TrodAll enc Tryd.prog W 0 (fun _ => true) true Tryd.f3.params.toList args.toList ds p := hA0
  rw [Tryd.params3] at hA hval
  obtain ⟨v0, vs0, d0, ds0, p0, q0, hargs, rfl, rfl, h0, r0⟩ := trodAll_cons hA
  obtain ⟨v1, vs1, d1, ds1, p1, q1, rfl, rfl, rfl, h1, r1⟩ := trodAll_cons r0
  obtain ⟨rfl, rfl, rfl⟩ := trodAll_nil r1
  obtain rfl : args = #[v0, v1] := by cases args; simp_all
  obtain ⟨rfl, rfl⟩ := trodVars_none hV
  obtain ⟨a0, rfl, rfl, rfl, w0⟩ := open_int Tryd.underlying22 (hval 0 22 v0 rfl rfl) h0
  obtain ⟨a1, rfl, rfl, rfl, w1⟩ := open_int Tryd.underlying22 (hval 1 22 v1 rfl rfl) h1
  rw [MakeChecks.laidMetH_plain _ _ _ (by kernel_rfl)] at hL
  have hl : Laid W := laid_of hL (by simp [Rows.cplxBitsRow]) (by simp [Rows.cplxBitsRow])
  clear hA0 hval0 hsz0
  simp only [List.append_nil] at hW'
  refine (walk a0 a1 w0 w1 W hl).mono fun e W' ⟨he, bel⟩ => ?_
  subst he
  exact ⟨_, rfl, _, _, _, [], _, [], hW', trodAll_mk1 (shut_bool Tryd.underlying4 _), (trodAll_cons_mk (shut_int Tryd.underlying22 w0) (trodAll_cons_mk (shut_int Tryd.underlying22 w1) trodAll_mk0)), rfl, bel.frame _, fun h => by cases h⟩
theorem over : Rows.cplxBitsRow.holds Tryd.pinned (OpenSpec.ofChange Rows.cplxBitsSpec) :=
  OpenClaim.holds_of_wide 3 Tryd.f3 rfl rfl rfl rfl rfl rfl rfl ⟨rfl, rfl, rfl, rfl, rfl⟩ rfl rfl rfl rfl rfl (by kernel_rfl) Tryd.func3 (by kernel_rfl)
    (of_decide_eq_true (by kernel_rfl)) (by unfold Func.isWrapper; first | (rw [if_pos (by decide +kernel)]; kernel_rfl) | (rw [if_neg (by decide +kernel)]; exact ⟨rfl, rfl⟩))
    (fun os started H enc _ => lifted os started H enc)
theorem said : Rows.CplxBitsSaid := over
theorem proved : Rows.CplxBitsCardSaid :=
  Claim7.holds_tied_plain_at .later [] [.data, .data, .data, .sentinel, .sentinel] true (true, "b284e680f78ed4c9c8233485be4f9ad23424b4cbd65d19fea42ae806efa1e14f") true
    over (fun _ h => by cases h) (by kernel_rfl) (fun _ h => by cases h) cplxBits_row_tie rfl ⟨rfl, rfl⟩ (by kernel_rfl) rfl
    (fun f fn hf hfn => by
      obtain rfl : f = 3 := Option.some.inj ((show Tryd.prog.funcNamed "ratline/ratlinelaw1.CplxBits" = some 3 by kernel_rfl).symm.trans hf) |>.symm
      obtain rfl : fn = Tryd.f3 := (Option.some.inj (Tryd.func3.symm.trans hfn)).symm
      exact ⟨by kernel_rfl, fun j t ht => by
        rw [Tryd.params3] at ht
        have hm : t ∈ [22, 22] := by simpa using Array.mem_of_getElem? ht
        have hall : ([22, 22].all fun u => !Tryd.prog.wantsStandIn u) = true := by kernel_rfl
        exact (show Tryd.prog.wantsStandIn t = false by simpa using List.all_eq_true.1 hall t hm)⟩)
    (by kernel_rfl)
#print axioms proved
end Go.Proofs.YthgoihblpeeogaaDoor.cplxBits
