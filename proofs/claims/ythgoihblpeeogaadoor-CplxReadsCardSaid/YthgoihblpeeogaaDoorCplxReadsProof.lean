/- CplxReads: whatever the two words, the place, the byte and the way of changing, the call answers true and changes nothing; the listed variables start as the program's text lays them. -/
import Derived.Test.YthgoihblpeeogaaDoorRows
import Derived.Test.YthgoihblpeeogaaDoorCards
import Derived.Test.YthgoihblpeeogaaDoorTie
import Derived.Test.YthgoihblpeeogaaDoorLaid
import Derived.Test.YthgoihblpeeogaaDoorRead
import Derived.WalkKit
import Derived.RegionTactic
import Derived.ChangeAlike
import Derived.BigRegion
import Derived.Deep.QuietTactic
import Derived.BigQuiet
import Derived.ProofKit
import Derived.OpenShut
import Derived.ShutString
import Derived.ChangeOld
import Derived.Below
import Derived.SizedLaws
import Derived.LaidMore
import Derived.LaidLaws
import Derived.Stop.Joined
import Derived.SevenTiedAt
namespace Go.Proofs.YthgoihblpeeogaaDoor.cplxReads
open Go.ChangeShapes Go.WideShapes Go.ChangeAt Go.WideMaps Go.WideElems Go.RowKit
open Go.ChangeMaps (open_string shut_string)
set_option linter.unusedVariables false
theorem own : ownKnob Tryd.prog.godebug = none := by kernel_rfl
attribute [local go_sem] run_frombits run_bits
theorem mask3 (x : Int) : ∃ M : Int, bits .and .i64 x 3 = M ∧ 0 ≤ M ∧ M ≤ 3 := by
  have e : bits .and .i64 x 3 = IntKind.i64.wrap ((BitVec.ofInt 64 x &&& BitVec.ofInt 64 3).toNat : Int) := rfl
  have hb : (BitVec.ofInt 64 x &&& BitVec.ofInt 64 3).toNat ≤ 3 := by
    rw [BitVec.toNat_and]; exact Nat.and_le_right
  rw [e]
  generalize (BitVec.ofInt 64 x &&& BitVec.ofInt 64 3).toNat = t at *
  refine ⟨(t : Int), ?_, by omega, by omega⟩
  rw [IntKind.wrap_i64]; omega
theorem parse_same (s : ByteArray) (e e' : Ending) (h : ParseRet s e) (h' : ParseRet s e') : e = e' := by
  rcases h with ⟨x, y, hk, rfl⟩ | ⟨hn, rfl⟩
  · rcases h' with ⟨x', y', hk', rfl⟩ | ⟨hn', _⟩
    · obtain ⟨g1, g2⟩ := parse_first _ _ _ hk
      obtain ⟨g3, g4⟩ := parse_first _ _ _ hk'
      rw [g1] at g3; rw [g2] at g4; cases g3; cases g4; rfl
    · exact absurd hk (hn' x y)
  · rcases h' with ⟨x', y', hk', _⟩ | ⟨_, rfl⟩
    · exact absurd hk' (hn x' y')
    · rfl
set_option maxRecDepth 100000 in
theorem walk (a0 : Int) (a1 : Int) (a2 : Int) (a3 : Int) (a4 : Int) (w0 : (Lit.int .u64 a0).wf = true) (w1 : (Lit.int .u64 a1).wf = true) (w2 : (Lit.int .i64 a2).wf = true) (w3 : (Lit.int .u8 a3).wf = true) (w4 : (Lit.int .i64 a4).wf = true) (w : World) (hL : Laid w) :
    Calls Tryd.prog 4 #[.int .u64 a0, .int .u64 a1, .int .i64 a2, .int .u8 a3, .int .i64 a4] w fun e w' => e = .returned (.bool true) ∧ Below w.heap.size w w' := by
  obtain ⟨A, rfl⟩ := Int.eq_ofNat_of_zero_le (bounds_u64 w0).1
  obtain ⟨B, rfl⟩ := Int.eq_ofNat_of_zero_le (bounds_u64 w1).1
  have hA := (bounds_u64 w0).2
  have hB := (bounds_u64 w1).2
  have hA64 : A < 2 ^ 64 := by omega
  have hB64 : B < 2 ^ 64 := by omega
  obtain ⟨te, pe, herr⟩ := hL.err
  have htz := hL.tz
  have hlt := lt_of_cell htz
  have hlv := lt_of_cell herr
  clear w0 w1
  go_enter Tryd.func4, Tryd.ntmps4
  go_wp2_with (first | (go_at_call 5; refine (lawOf_calls _ _ _).mono ?_; rintro e w' ⟨rfl, rfl⟩))
  refine (cxText_calls A B hA64 hB64 _).mono ?_
  rintro e w' ⟨rfl, rfl⟩
  have hsz : (textB (cre A B) (cim A B)).size = 35 := textB_size _ _
  generalize textB (cre A B) (cim A B) = t at *
  obtain ⟨k, hk, hk35⟩ : ∃ k : Nat, (wrap64 (a2.tmod 35 + 35)).tmod 35 = (k : Int) ∧ k < 35 := by
    have h1 := Int.tmod_lt_of_pos a2 (show (0 : Int) < 35 by omega)
    have h2 := Int.lt_tmod_of_pos a2 (show (0 : Int) < 35 by omega)
    have h3 : wrap64 (a2.tmod 35 + 35) = a2.tmod 35 + 35 := by unfold wrap64; omega
    have h4 : (a2.tmod 35 + 35).tmod 35 = (a2.tmod 35 + 35) % 35 := Int.tmod_eq_emod_of_nonneg (by omega)
    refine ⟨((a2.tmod 35 + 35) % 35).toNat, ?_, by omega⟩
    rw [h3, h4]; omega
  have hk1 : (k : Int) ≤ 35 := by omega
  have hk2 : (k : Int) + 1 ≤ 35 := by omega
  obtain ⟨b, rfl⟩ : ∃ b : UInt8, a3 = (b.toNat : Int) := by
    have h := bounds_u8 w3
    refine ⟨UInt8.ofNat a3.toNat, ?_⟩
    have : (UInt8.ofNat a3.toNat).toNat = a3.toNat % 256 := rfl
    rw [this]; omega
  have hcv : ∀ W : World, (convert 39 9 (.slice (some ⟨W.heap.size, 0, none⟩) 1 1)).run Tryd.prog (W.alloc (.cells #[.int .u8 (b.toNat : Int)] 5)) = .ok (.string ⟨#[b]⟩) (W.alloc (.cells #[.int .u8 (b.toNat : Int)] 5)) := fun W =>
    run_convert_bytes_back (P := Tryd.prog) _ 39 9 5 ⟨W.heap.size, 0, none⟩ 1 [b] Tryd.underlying39 Tryd.underlying5 Tryd.underlying9 (by
      intro j hj
      have : j = 0 := by simpa using hj
      subst this
      simp [Addr.add])
  have hc1 : (convert 39 9 (.slice (some ⟨w.heap.size, 0, none⟩) 1 1)).run Tryd.prog (w.alloc (.cells #[.int .u8 (b.toNat : Int)] 5)).drew = .ok (.string ⟨#[b]⟩) (w.alloc (.cells #[.int .u8 (b.toNat : Int)] 5)).drew := hcv w.drew
  have hc2 : (convert 39 9 (.slice (some ⟨w.heap.size + 1, 0, none⟩) 1 1)).run Tryd.prog ((w.alloc (.cells #[.int .u8 (b.toNat : Int)] 5)).alloc (.cells #[.int .u8 (b.toNat : Int)] 5)).drew.drew = .ok (.string ⟨#[b]⟩) ((w.alloc (.cells #[.int .u8 (b.toNat : Int)] 5)).alloc (.cells #[.int .u8 (b.toNat : Int)] 5)).drew.drew := by
    have h := hcv (w.alloc (.cells #[.int .u8 (b.toNat : Int)] 5)).drew.drew
    rw [show ((w.alloc (.cells #[.int .u8 (b.toNat : Int)] 5)).drew.drew).heap.size = w.heap.size + 1 from World.size_alloc _ _] at h
    exact h
  clear hcv
  have z1 : (t.extract 0 k).size = k := by rw [ByteArray.size_extract]; omega
  have z2 : (t.extract (k + 1) 35).size = 35 - (k + 1) := by rw [ByteArray.size_extract]; omega
  have z3 : (t.extract k 35).size = 35 - k := by rw [ByteArray.size_extract]; omega
  have z4 : (⟨#[b]⟩ : ByteArray).size = 1 := rfl
  have q1 : ¬ 9223372036854775807 < k + 1 := by omega
  have q2 : ¬ 9223372036854775807 < k + 1 + (35 - (k + 1)) := by omega
  have q3 : ¬ 9223372036854775807 < k + (35 - (k + 1)) := by omega
  have q4 : ¬ 9223372036854775807 < k + 1 + (35 - k) := by omega
  go_wp2_with fail
  go_region
  obtain ⟨M, hM, hM0, hM3⟩ := mask3 a4
  by_cases h1 : M = 1
  · subst h1
    go_wp2_with fail
    go_region
    have hbW : Below w.heap.size w (w.alloc (.cells #[.int .u8 (b.toNat : Int)] 5)).drew.drew := ((Below.refl _ _).alloc (Nat.le_refl _) _).drew.drew
    go_wp2_with fail
    have hz1 := (hbW.cell (p := ⟨6, 15, none⟩) hlt).trans htz
    have hv1 := (hbW.cell (p := ⟨1, 0, none⟩) hlv).trans herr
    refine (parse_calls _ _ _ hz1 hv1 (.inr ⟨te, pe, rfl⟩)).mono ?_
    rintro e w1 ⟨hp1, hb1⟩
    have hB1 := hbW.trans (hb1.mono hbW.size)
    rcases hp1 with ⟨x, y, hk1', rfl⟩ | ⟨hn1, rfl⟩
    · go_wp2_with fail
      refine (cxParse_calls _ _).mono ?_
      rintro e w2 ⟨hp2, hb2⟩
      obtain rfl := parse_same _ _ _ (.inl ⟨x, y, hk1', rfl⟩) hp2
      have hB2 := hB1.trans (hb2.mono hB1.size)
      clear hp2 hk1' hz1 hv1 htz herr
      go_wp2_with (first | (go_at_call 8; refine (bits_yes _ _ _).mono ?_; rintro e w' ⟨rfl, rfl⟩) | (go_at_call 15; refine (awake_calls _).mono ?_; rintro e w3 ⟨rfl, hd⟩))
      obtain ⟨n, rfl⟩ := hd
      go_ret
      exact ⟨by simp, below_drewN hB2 n⟩
    · go_wp2_with fail
      refine (cxParse_calls _ _).mono ?_
      rintro e w2 ⟨hp2, hb2⟩
      obtain rfl := parse_same _ _ _ (.inr ⟨hn1, rfl⟩) hp2
      have hB2 := hB1.trans (hb2.mono hB1.size)
      clear hp2 hn1 hz1 hv1 htz herr
      go_wp2_with (first | (go_at_call 8; refine (bits_yes _ _ _).mono ?_; rintro e w' ⟨rfl, rfl⟩) | (go_at_call 15; refine (awake_calls _).mono ?_; rintro e w3 ⟨rfl, hd⟩))
      obtain ⟨n, rfl⟩ := hd
      go_ret
      exact ⟨by simp, below_drewN hB2 n⟩
  · by_cases h2 : M = 2
    · subst h2
      go_wp2_with fail
      go_region
      have hbW : Below w.heap.size w ((w.alloc (.cells #[.int .u8 (b.toNat : Int)] 5)).alloc (.cells #[.int .u8 (b.toNat : Int)] 5)).drew.drew := (((Below.refl _ _).alloc (Nat.le_refl _) _).alloc (by simp) _).drew.drew
      go_wp2_with fail
      have hz1 := (hbW.cell (p := ⟨6, 15, none⟩) hlt).trans htz
      have hv1 := (hbW.cell (p := ⟨1, 0, none⟩) hlv).trans herr
      refine (parse_calls _ _ _ hz1 hv1 (.inr ⟨te, pe, rfl⟩)).mono ?_
      rintro e w1 ⟨hp1, hb1⟩
      have hB1 := hbW.trans (hb1.mono hbW.size)
      rcases hp1 with ⟨x, y, hk1', rfl⟩ | ⟨hn1, rfl⟩
      · go_wp2_with fail
        refine (cxParse_calls _ _).mono ?_
        rintro e w2 ⟨hp2, hb2⟩
        obtain rfl := parse_same _ _ _ (.inl ⟨x, y, hk1', rfl⟩) hp2
        have hB2 := hB1.trans (hb2.mono hB1.size)
        clear hp2 hk1' hz1 hv1 htz herr
        go_wp2_with (first | (go_at_call 8; refine (bits_yes _ _ _).mono ?_; rintro e w' ⟨rfl, rfl⟩) | (go_at_call 15; refine (awake_calls _).mono ?_; rintro e w3 ⟨rfl, hd⟩))
        obtain ⟨n, rfl⟩ := hd
        go_ret
        exact ⟨by simp, below_drewN hB2 n⟩
      · go_wp2_with fail
        refine (cxParse_calls _ _).mono ?_
        rintro e w2 ⟨hp2, hb2⟩
        obtain rfl := parse_same _ _ _ (.inr ⟨hn1, rfl⟩) hp2
        have hB2 := hB1.trans (hb2.mono hB1.size)
        clear hp2 hn1 hz1 hv1 htz herr
        go_wp2_with (first | (go_at_call 8; refine (bits_yes _ _ _).mono ?_; rintro e w' ⟨rfl, rfl⟩) | (go_at_call 15; refine (awake_calls _).mono ?_; rintro e w3 ⟨rfl, hd⟩))
        obtain ⟨n, rfl⟩ := hd
        go_ret
        exact ⟨by simp, below_drewN hB2 n⟩
    · have g1 : (M == 1) = false := beq_eq_false_iff_ne.2 h1
      have g2 : (M == 2) = false := beq_eq_false_iff_ne.2 h2
      have hbW : Below w.heap.size w (w.alloc (.cells #[.int .u8 (b.toNat : Int)] 5)).drew := ((Below.refl _ _).alloc (Nat.le_refl _) _).drew
      go_wp2_with fail
      have hz1 := (hbW.cell (p := ⟨6, 15, none⟩) hlt).trans htz
      have hv1 := (hbW.cell (p := ⟨1, 0, none⟩) hlv).trans herr
      refine (parse_calls _ _ _ hz1 hv1 (.inr ⟨te, pe, rfl⟩)).mono ?_
      rintro e w1 ⟨hp1, hb1⟩
      have hB1 := hbW.trans (hb1.mono hbW.size)
      rcases hp1 with ⟨x, y, hk1', rfl⟩ | ⟨hn1, rfl⟩
      · go_wp2_with fail
        refine (cxParse_calls _ _).mono ?_
        rintro e w2 ⟨hp2, hb2⟩
        obtain rfl := parse_same _ _ _ (.inl ⟨x, y, hk1', rfl⟩) hp2
        have hB2 := hB1.trans (hb2.mono hB1.size)
        clear hp2 hk1' hz1 hv1 htz herr
        go_wp2_with (first | (go_at_call 8; refine (bits_yes _ _ _).mono ?_; rintro e w' ⟨rfl, rfl⟩) | (go_at_call 15; refine (awake_calls _).mono ?_; rintro e w3 ⟨rfl, hd⟩))
        obtain ⟨n, rfl⟩ := hd
        go_ret
        exact ⟨by simp, below_drewN hB2 n⟩
      · go_wp2_with fail
        refine (cxParse_calls _ _).mono ?_
        rintro e w2 ⟨hp2, hb2⟩
        obtain rfl := parse_same _ _ _ (.inr ⟨hn1, rfl⟩) hp2
        have hB2 := hB1.trans (hb2.mono hB1.size)
        clear hp2 hn1 hz1 hv1 htz herr
        go_wp2_with (first | (go_at_call 8; refine (bits_yes _ _ _).mono ?_; rintro e w' ⟨rfl, rfl⟩) | (go_at_call 15; refine (awake_calls _).mono ?_; rintro e w3 ⟨rfl, hd⟩))
        obtain ⟨n, rfl⟩ := hd
        go_ret
        exact ⟨by simp, below_drewN hB2 n⟩
theorem door_met (os : Os) (args : Array Value) : laidMetH Tryd.prog Rows.cplxReadsRow.laid ((World.doorLaid Tryd.prog 62 os).forCall (fun _ _ => 0) ⟨#[], args, []⟩).memory :=
  laidMetH_of_parts3 (fuel := 8) (laidMet_of_run' 8 (by kernel_rfl) (by kernel_rfl)) (by kernel_rfl) (by kernel_rfl)
set_option maxRecDepth 100000 in
theorem lifted (os : Os) (started : os.Started) (H : Type) (enc : TypeId × Value → H) :
    ReturnsInHanded {} Tryd.checked os 4 .any (fun w args => (Rows.cplxReadsSpec.pre enc Tryd.prog Tryd.f4 [] false w args ∧ laidMetH Tryd.prog Rows.cplxReadsRow.laid w) ∧ sizedMet enc Tryd.prog Tryd.f4 (OpenSpec.ofChange Rows.cplxReadsSpec) false w args)
      (Rows.cplxReadsSpec.post enc Tryd.prog Tryd.f4 false true false false) := by
  refine returnsInHanded_of_change_and (C := Tryd.checked) (X := fun w _ => laidMetH Tryd.prog Rows.cplxReadsRow.laid w) (fun _ _ _ hh h => h.of_heap hh) own started (by kernel_rfl) Tryd.func4
    (ChangeSpec.witness_shaped (enc := enc) (C := Tryd.checked) (os := os) (X := fun w _ => laidMetH Tryd.prog Rows.cplxReadsRow.laid w) false (World.doorLaid Tryd.prog 62 os) #[.int .u64 0, .int .u64 0, .int .i64 0, .int .u8 0, .int .i64 0] 8 rfl (World.shaped_of_RefB (by kernel_rfl) (by kernel_rfl)) (by kernel_rfl) (by kernel_rfl) (by kernel_rfl) (door_met os _)) ?_
  intro W base args ds gs before hval0 hW _ hsz0 hL _
  have hval : ∀ (j : Nat) t v, Tryd.f4.params[j]? = some t → args[j]? = some v → Value.okWide Tryd.prog W .any base t v := hval0
  have hW' := hW
  obtain ⟨p, q, hA0, hV, rfl, hfz, hnd⟩ := hW
  have hA : DataW.TrodAll enc Tryd.prog W 0 (fun _ => true) true Tryd.f4.params.toList args.toList ds p := hA0
  rw [Tryd.params4] at hA hval
  obtain ⟨v0, vs0, d0, ds0, p0, q0, hargs, rfl, rfl, h0, r0⟩ := trodAll_cons hA
  obtain ⟨v1, vs1, d1, ds1, p1, q1, rfl, rfl, rfl, h1, r1⟩ := trodAll_cons r0
  obtain ⟨v2, vs2, d2, ds2, p2, q2, rfl, rfl, rfl, h2, r2⟩ := trodAll_cons r1
  obtain ⟨v3, vs3, d3, ds3, p3, q3, rfl, rfl, rfl, h3, r3⟩ := trodAll_cons r2
  obtain ⟨v4, vs4, d4, ds4, p4, q4, rfl, rfl, rfl, h4, r4⟩ := trodAll_cons r3
  obtain ⟨rfl, rfl, rfl⟩ := trodAll_nil r4
  obtain rfl : args = #[v0, v1, v2, v3, v4] := by cases args; simp_all
  obtain ⟨rfl, rfl⟩ := trodVars_none hV
  obtain ⟨a0, rfl, rfl, rfl, w0⟩ := open_int Tryd.underlying22 (hval 0 22 v0 rfl rfl) h0
  obtain ⟨a1, rfl, rfl, rfl, w1⟩ := open_int Tryd.underlying22 (hval 1 22 v1 rfl rfl) h1
  obtain ⟨a2, rfl, rfl, rfl, w2⟩ := open_int Tryd.underlying3 (hval 2 3 v2 rfl rfl) h2
  obtain ⟨a3, rfl, rfl, rfl, w3⟩ := open_int Tryd.underlying5 (hval 3 5 v3 rfl rfl) h3
  obtain ⟨a4, rfl, rfl, rfl, w4⟩ := open_int Tryd.underlying3 (hval 4 3 v4 rfl rfl) h4
  rw [MakeChecks.laidMetH_plain _ _ _ (by kernel_rfl)] at hL
  have hl : Laid W := laid_of hL (by simp [Rows.cplxReadsRow]) (by simp [Rows.cplxReadsRow])
  clear hA0 hval0 hsz0
  simp only [List.append_nil] at hW'
  refine (walk a0 a1 a2 a3 a4 w0 w1 w2 w3 w4 W hl).mono fun e W' ⟨he, bel⟩ => ?_
  subst he
  exact ⟨_, rfl, _, _, _, [], _, [], hW', trodAll_mk1 (shut_bool Tryd.underlying4 _), (trodAll_cons_mk (shut_int Tryd.underlying22 w0) (trodAll_cons_mk (shut_int Tryd.underlying22 w1) (trodAll_cons_mk (shut_int Tryd.underlying3 w2) (trodAll_cons_mk (shut_int Tryd.underlying5 w3) (trodAll_cons_mk (shut_int Tryd.underlying3 w4) trodAll_mk0))))), rfl, bel.frame _, fun h => by cases h⟩
theorem over : Rows.cplxReadsRow.holds Tryd.pinned (OpenSpec.ofChange Rows.cplxReadsSpec) :=
  OpenClaim.holds_of_wide 4 Tryd.f4 rfl rfl rfl rfl rfl rfl rfl ⟨rfl, rfl, rfl, rfl, rfl⟩ rfl rfl rfl rfl rfl (by kernel_rfl) Tryd.func4 (by kernel_rfl)
    (of_decide_eq_true (by kernel_rfl)) (by unfold Func.isWrapper; first | (rw [if_pos (by decide +kernel)]; kernel_rfl) | (rw [if_neg (by decide +kernel)]; exact ⟨rfl, rfl⟩))
    (fun os started H enc _ => lifted os started H enc)
theorem said : Rows.CplxReadsSaid := over
theorem proved : Rows.CplxReadsCardSaid :=
  Claim7.holds_tied_plain_at .later [] [.data, .data, .data, .sentinel, .sentinel] true (true, "b284e680f78ed4c9c8233485be4f9ad23424b4cbd65d19fea42ae806efa1e14f") true
    over (fun _ h => by cases h) (by kernel_rfl) (fun _ h => by cases h) cplxReads_row_tie rfl ⟨rfl, rfl⟩ (by kernel_rfl) rfl
    (fun f fn hf hfn => by
      obtain rfl : f = 4 := Option.some.inj ((show Tryd.prog.funcNamed "ratline/ratlinelaw1.CplxReads" = some 4 by kernel_rfl).symm.trans hf) |>.symm
      obtain rfl : fn = Tryd.f4 := (Option.some.inj (Tryd.func4.symm.trans hfn)).symm
      exact ⟨by kernel_rfl, fun j t ht => by
        rw [Tryd.params4] at ht
        have hm : t ∈ [22, 22, 3, 5, 3] := by simpa using Array.mem_of_getElem? ht
        have hall : ([22, 22, 3, 5, 3].all fun u => !Tryd.prog.wantsStandIn u) = true := by kernel_rfl
        exact (show Tryd.prog.wantsStandIn t = false by simpa using List.all_eq_true.1 hall t hm)⟩)
    (by kernel_rfl)
#print axioms proved
end Go.Proofs.YthgoihblpeeogaaDoor.cplxReads
