/- color.Assign: what it tells. -/
import Derived.Test.YtidhllheipopbaaColF
import Derived.Deep.LoopGhost
import Derived.Deep.CutBlock
import Derived.Deep.DeepCutAuto
import Derived.BigQuiet
namespace Go.Proofs.Ytidhllheipopbaa.XCol
open Go.RowKit Go.Maps Go.Proofs.YtidhllheipopbaaW.PrintWords Go.Proofs.YtidhllheipopbaaW.PrintLast Go.Proofs.YtidhllheipopbaaW.PrintMore
attribute [local go_sem] max2_int min2_int max_two min_two max_three min_three max_four min_four
theorem grownBy_setCellO (W : World) (b o : Nat) (v : Value) : W.grownBy (W.setCell ⟨b, o, none⟩ v) (some b) :=
  ⟨rfl, rfl, rfl, by simp [World.setCell], fun k _ hk => Below.heap_setCell _ _ _ k (fun e => hk (by rw [e]))⟩
theorem info29 : (Try.prog.info? 29).map (fun i => (i.zero, i.size, i.bytes)) = some (some (.agg #[(.int .i64 0), (.int .i64 0), (.int .i64 0)]), 3, 24) := by kernel_rfl
theorem Wd.begin {w w9 : World} {l : List S24} {A0 : Option Addr} {c0 : Nat} {v5 : Value}
    (ho : Kd.R k29 29 w9 (w.alloc (.cells #[.slice A0 l.length c0] 22)).heap.size (fun _ => True) v5 (List.replicate (l.length : Int).toNat z29))
    (hb : Below (w.alloc (.cells #[.slice A0 l.length c0] 22)).heap.size (w.alloc (.cells #[.slice A0 l.length c0] 22)) w9) (hnew : ∃ b, v5.ownBlock = some b ∧ (w.alloc (.cells #[.slice A0 l.length c0] 22)).heap.size ≤ b) :
    Wd w l A0 c0 v5 w9.heap.size (w9.alloc (.map #[] 0)) (List.replicate l.length z29) 0 (.map []) where
  below := by
    refine Below.alloc ?_ ?_ _
    · exact ((Below.refl _ _).alloc (Nat.le_refl _) _).trans (hb.mono (by simp))
    · have := hb.size; simp at this; omega
  row := by
    have := Kd.R_lower ho (show w.heap.size ≤ _ by simp)
    rw [Int.toNat_natCast] at this
    exact Kd.R_alloc this _
  own := World.ownsMap_made _ _ _ _
  cl := by
    have h1 : w9.heap[w.heap.size]? = some (.cells #[.slice A0 l.length c0] 22 (0, 0)) := (hb.block _ (by simp)).trans (heap_alloc_new _ _)
    have h2 : w.heap.size < w9.heap.size := by have := hb.size; simp at this; omega
    exact (((Below.refl w9.heap.size w9).alloc (Nat.le_refl _) (.map #[] 0)).block _ h2).trans h1
  bm_ := by have := hb.size; simp at this; omega
  go_ := by
    obtain ⟨b, hb1, hb2⟩ := hnew
    intro g hg
    rw [hb1] at hg
    obtain rfl := Option.some.inj hg
    have h3 := (Kd.R_bound ho).1 b hb1
    simp at hb2
    exact ⟨by have := h3.2.2.1; omega, by omega, by omega⟩
set_option maxHeartbeats 8000000 in
set_option maxRecDepth 100000 in
theorem assign_walk (l : List S24) (A0 : Option Addr) (c0 : Nat) (n : Int) (N : Nat) (w : World) (hr0 : Kd.C k24 w A0 l.length l) (hc0 : l.length ≤ c0) (hl : l.length ≤ 1000000) (hN : (if n < 1 then 1 else n) = (N : Int)) (hN1 : N ≤ 1000) :
    Calls Try.prog 6 #[.slice A0 l.length c0, .int .i64 n] w fun e w' => ∃ v0 : Value, e = .returned v0 ∧ Kd.R k29 29 w' w.heap.size (fun _ => True) v0 (assignL l N) ∧ Below w.heap.size w w' := by
  have HR0 := Aside0.mk hr0
  have HC0 := Aside0.mk hc0
  have HL := Lib.hid hl
  clear hr0 hc0 hl
  have hmm := @run_makeMap Try.prog
  go_enter Try.func6, Try.ntmps6
  go_wp2_with (first
    | ((with_reducible refine gate_dst (N := 20) rfl ?_); refine Kd.R_make k29 _ 29 rfl (N := 20) rfl 25 _ _ rfl (l.length : Int) rfl rfl Try.underlying25 (.agg #[(.int .i64 0), (.int .i64 0), (.int .i64 0)]) 24 info29 rfl (by decide) (by omega) z29 (ok := fun _ => True) (okp := fun _ => True) (k29_mkM _ _ _ z29) (fun _ hk => hk) trivial (Int.natCast_nonneg _) (by have := HL.out; rw [Int.toNat_natCast]; omega) (Below.refl _ _) (Nat.le_refl _) ?_; intro v5 w9 ho hb hg hnew; have HW := Aside0.mk (Wd.begin ho hb hnew); have hcl := (Wd.begin ho hb hnew).cell; clear ho hb hg hnew))
  generalize w9.heap.size = bm at HW hcl ⊢
  generalize w9.alloc (.map #[] 0) = w10 at HW hcl ⊢
  go_loopw [7, 24] (fun v7 v24 wr => ∃ (i : Nat) (out : List S29) (held : List Int) (sl : Int) (m : Nat) (D : DataW Unit), i ≤ l.length ∧ v7 = .int .i64 sl ∧ v24 = .int .i64 (i : Int) ∧ Aside0 (Wd w l A0 c0 v5 bm wr out m D) ∧ Aside0 (Rep D held) ∧ Aside0 (Inv out held i) ∧ Aside0 (out.length = l.length ∧ held.length = N ∧ m ≤ i ∧ 0 ≤ sl ∧ sl ≤ i) ∧ Aside0 (runA l (l.length - i) i out held sl = assignL l N)) (fun _ v24 _ => l.length - (intOf v24).toNat)
  case atStart => exact ⟨0, _, List.replicate N (-1), 0, 0, _, Nat.zero_le _, rfl, rfl, HW, ⟨Rep.made N⟩, ⟨⟨fun p k h => by rw [List.getElem?_replicate] at h; split at h <;> simp at h; omega, fun p k h h0 => by rw [List.getElem?_replicate] at h; split at h <;> simp at h; omega⟩⟩, ⟨by simp, by simp, by omega, by omega, by omega⟩, ⟨rfl⟩⟩
  case round =>
    clear hcl HW
    obtain ⟨i, out, held, sl, m, D, hi, rfl, rfl, HW, HR, HI, HS, HRun⟩ := hrel
    have hcl := HW.out.cell
    by_cases hlt : i < l.length
    · have dlt : decide ((i : Int) < (l.length : Int)) = true := decide_eq_true (by omega)
      have dlt' : decide (i < l.length) = true := decide_eq_true hlt
      obtain ⟨ad, ea, hx0, hx1, hx2⟩ := at_T24 (HW.out.read HR0.out) (i : Int) (by omega) (by omega)
      subst ea
      have HX := Lib.hid (⟨hx0, hx1, hx2⟩ : _ ∧ _ ∧ _)
      rw [Int.toNat_natCast] at hx0 hx1 hx2
      go_upto_region 8 with (fail)
      have HW2 := Aside0.mk (HW.out.alloc (.cells #[.int .i64 (rd_T24 l i).f0, .int .i64 (rd_T24 l i).f1, .int .i64 (rd_T24 l i).f2] 24))
      have hxb : (wr.alloc (.cells #[.int .i64 (rd_T24 l i).f0, .int .i64 (rd_T24 l i).f1, .int .i64 (rd_T24 l i).f2] 24)).heap[wr.heap.size]? = some (.cells #[.int .i64 (rd_T24 l i).f0, .int .i64 (rd_T24 l i).f1, .int .i64 (rd_T24 l i).f2] 24 (0, 0)) := heap_alloc_new _ _
      have hbx : bm < wr.heap.size ∧ (∀ g, v5.ownBlock = some g → g < wr.heap.size) := ⟨HW.out.own.lt, fun g hg => ((Kd.R_bound HW.out.row).1 g hg).2.2.1⟩
      have HBX := Lib.hid hbx
      clear hbx HW hx0 hx1 hx2 hcl
      generalize wr.alloc (.cells #[.int .i64 (rd_T24 l i).f0, .int .i64 (rd_T24 l i).f1, .int .i64 (rd_T24 l i).f2] 24) = w11 at HW2 hxb ⊢
      generalize wr.heap.size = xb at HBX hxb ⊢
      have hxc : w11.cell? ⟨xb, 0, none⟩ = some (.int .i64 (rd_T24 l i).f0) := by simp [World.cell?, hxb]
      have HXB := Lib.hid hxb
      clear hxb
      obtain ⟨go, co, rfl, hc0, hc1, hc2, hf0, hf1, hf2, hst, -, -⟩ := HW2.out.elem (i : Int) (by omega) (by have := HS.out; omega)
      have HST := Aside0.mk (hst ⟨(rd_T24 l i).f0, -1, -1⟩)
      rw [Int.toNat_natCast] at hc0 hc1 hc2 hf0 hf1 hf2 HST
      clear hst
      have hio : i < out.length := by have := HS.out; omega
      go_upto_region 9 with (fail)
      have hgg : w11.grownBy (((w11.setCell ⟨go, i * 3, none⟩ (.int .i64 (rd_T24 l i).f0)).setCell ⟨go, i * 3 + 1, none⟩ (.int .i64 (-1))).setCell ⟨go, i * 3 + 2, none⟩ (.int .i64 (-1))) (some go) := ((grownBy_setCellO _ _ _ _).trans (grownBy_setCellO _ _ _ _)).trans (grownBy_setCellO _ _ _ _)
      have HXB2 := Lib.hid ((hgg.block xb (by have h := HXB.out; rcases Nat.lt_or_ge xb w11.heap.size with g | g; exact g; rw [Array.getElem?_eq_none g] at h; cases h) (by have := HBX.out.2 go rfl; simp; omega)).trans HXB.out)
      clear hgg HXB hxc hc0 hc1 hc2 hf0 hf1 hf2 HW2 hio
      generalize (((w11.setCell ⟨go, i * 3, none⟩ (.int .i64 (rd_T24 l i).f0)).setCell ⟨go, i * 3 + 1, none⟩ (.int .i64 (-1))).setCell ⟨go, i * 3 + 2, none⟩ (.int .i64 (-1))) = w12 at HST HXB2 ⊢
      have hlen2 : (out.set i (⟨(rd_T24 l i).f0, -1, -1⟩ : S29)).length = out.length := List.length_set
      have HLEN := Lib.hid hlen2
      clear hlen2
      have hown := HST.out.own
      go_wp2_with (first
        | (at_range; refine wpList_range_own _ rfl _ 41 rfl 3 3 lawI Try.underlying41 _ bm m _ rfl hown ?_; intro w13 hrg0 hg0 hs0)
        | fail)
      go_frame
      have HW3 := Aside0.mk (HST.out.kept hg0 (fun r e => by cases e))
      have hxlt : xb < w12.heap.size := by
        have h := HXB2.out
        rcases Nat.lt_or_ge xb w12.heap.size with g | g
        · exact g
        · rw [Array.getElem?_eq_none g] at h; cases h
      have HXB3 := Lib.hid ((hg0.block xb hxlt (by simp)).trans HXB2.out)
      have hgo : go < xb := HBX.out.2 go rfl
      have hbm : bm < xb := HBX.out.1
      have HXL := Lib.hid hxlt
      have HRG := Aside0.mk hrg0
      clear HST HXB2 hown hg0 hs0 hrg0 hxlt
      generalize w12.heap.size = r at HRG HXL ⊢
      go_loopw [10] (fun _ wq => ∃ (left : Lit → Bool) (c : Nat) (held2 : List Int) (D2 : DataW Unit), Aside0 (wq.ranges Try.prog 3 (plainElem Try.prog 3) bm r m D2 left c) ∧ Aside0 (Rep D2 held2) ∧ Aside0 (Part (endsB l i) held left held2) ∧ Aside0 (Wd w l (some ad) c0 (.slice (some ⟨go, 0, none⟩) out.length co) bm wq (out.set i ⟨(rd_T24 l i).f0, -1, -1⟩) m D2) ∧ Hid (wq.heap[xb]? = some (.cells #[.int .i64 (rd_T24 l i).f0, .int .i64 (rd_T24 l i).f1, .int .i64 (rd_T24 l i).f2] 24 (0, 0)))) (fun _ wq => wq.rangeLeft bm r)
      case atStart => exact ⟨_, _, held, D, HRG, HR, ⟨Part.start HR.out _⟩, HW3, HXB3⟩
      case round =>
        clear HRG HW3 HXB3
        obtain ⟨left, cq, held2, D2, HRG, HR2, HP, HW3, HXB3⟩ := hrel
        have hrg := HRG.out
        go_wp2_with (first
          | (at_next; refine wpList_next_ranges_ii _ rfl _ rfl 3 3 .i64 .i64 lawI Try.underlying3 Try.underlying3 bm r m _ _ _ rfl hrg ?_ ?_)
          | fail)
        · -- nothing is left
          intro _ hl0
          clear hrg
          obtain rfl := HP.out.done hl0
          have hstep : stepA l i out held sl = stepB l i out (expire (endsB l i) held) sl := rfl
          have hI1 := HI.out.expired (endsB l i) (⟨(rd_T24 l i).f0, -1, -1⟩ : S29)
          have hl1 := expire_len (endsB l i) held
          have hrun := HRun.out
          have hli : l.length - i = (l.length - (i + 1)) + 1 := by omega
          rw [hli, runA, hstep] at hrun
          have HST := Lib.hid hrun
          have hlh : (expire (endsB l i) held).length = N := hl1.trans HS.out.2.1
          have HLH := Lib.hid hlh
          have HI1 := Aside0.mk hI1
          clear hstep hI1 hl1 hrun hli HP HRG hl0 HR HI HRun hlh
          generalize expire (endsB l i) held = held1 at HR2 HST HLH HI1 ⊢
          have hcl := HW3.out.cell
          have hown := HW3.out.own
          have hio : i < out.length := by have := HS.out; omega
          have hm : m ≤ i := HS.out.2.2.1
          have hl6 := HL.out
          rcases (show freeFrom 0 held1 < 0 ∨ 0 ≤ freeFrom 0 held1 by omega) with hneg | hpos
          · have hall := freeFrom_neg held1 0 hneg
            have hq : freeFrom 0 held1 = -1 := freeFrom_full held1 0 hall
            have hfw := free_walk bm m D2 held1 N wr hown HR2.out HLH.out hN1
            rw [hq] at hfw
            have HFW := Aside0.mk hfw
            have HALL := Lib.hid hall
            have HQ := Lib.hid hq
            clear hq hfw hown hneg hl6 hcl hall
            go_upto_region 20 with (first | (go_at_call 12; refine HFW.out.mono ?_; rintro e w' ⟨rfl, rfl⟩))
            clear HFW
            go_wp2_with fail
            go_loopw [13, 68] (fun v13 v68 wq => ∃ (j : Nat) (v : Int), j ≤ N ∧ v13 = .int .i64 v ∧ v68 = .int .i64 (j : Int) ∧ Aside0 (Wd w l (some ad) c0 (.slice (some ⟨go, 0, none⟩) out.length co) bm wq (out.set i ⟨(rd_T24 l i).f0, -1, -1⟩) m D2) ∧ Hid (0 ≤ v ∧ v ≤ i) ∧ Hid (worstI l (held1.drop j) v = worstI l held1 i)) (fun _ v68 _ => N - (intOf v68).toNat)
            case atStart => exact ⟨0, (i : Int), Nat.zero_le _, rfl, rfl, HW3, Lib.hid ⟨by omega, by omega⟩, Lib.hid (by rw [List.drop_zero])⟩
            case round =>
              clear HW3
              obtain ⟨j, v, hj, rfl, rfl, HW3, HV, HWO⟩ := hrel
              have hcl := HW3.out.cell
              have hown := HW3.out.own
              by_cases hjN : j < N
              · obtain ⟨k, hk⟩ : ∃ k, held1[j]? = some k := ⟨held1[j]'(by rw [HLH.out]; exact hjN), List.getElem?_eq_getElem _⟩
                have hk0 : 0 ≤ k := HALL.out k (List.mem_of_getElem? hk)
                have hki := (HI1.out.le j k hk).2
                have hv := HV.out
                have HC := Lib.hid (fun (c : Int) (h : D2.atKey (KL j) (.lit (.int .i64 0)) = .lit (.int .i64 c)) => (show k = c by
                  have h4 := (HR2.out.at_ j k hk hk0 _).symm.trans h
                  injection h4 with h4
                  injection h4))
                have hkey : keyOf Try.prog 3 (.int .i64 (j : Int)) = some (KL j) := keyOf_int_mk Try.underlying3 (wf_small (by omega) (by omega))
                have HRD := Aside0.mk (HW3.out.read HR0.out)
                have hnext : worstI l (held1.drop j) v = worstI l (held1.drop (j + 1)) (if 0 < aheadI (rd_T24 l k) (rd_T24 l v) then k else v) := by
                  have hjl : j < held1.length := by rw [HLH.out]; exact hjN
                  have e : held1[j] = k := by rw [List.getElem?_eq_getElem hjl] at hk; exact Option.some.inj hk
                  rw [List.drop_eq_getElem_cons hjl, e]
                  rfl
                have HNX := Lib.hid hnext
                have HK := Lib.hid hk
                have HV2 := Lib.hid hv
                clear hnext hk
                by_cases ha : 0 < aheadI (rd_T24 l k) (rd_T24 l v)
                · have da : decide (0 < aheadI (rd_T24 l k) (rd_T24 l v)) = true := decide_eq_true ha
                  have HA := Lib.hid ha
                  clear ha
                  go_upto_region 24 with (first
                    | (at_lookup; refine wpList_lookup_own_int _ rfl _ _ 41 rfl 3 3 .i64 lawI Try.underlying41 Try.underlying3 (zeroI _) bm m D2 rfl hown _ _ rfl hkey ?_; intro c hat hwc; have hck := HC.out c hat; subst hck; clear hat hwc)
                    | (go_at_call 13; refine (ahead_walk l (some ad) c0 ⟨w.heap.size, 0, none⟩ k v _ hcl HRD.out hk0 (by omega) hv.1 (by omega)).mono ?_; rintro e w' ⟨rfl, hb⟩; have HBB := Aside0.mk hb; clear hb))
                  have HW4 := Aside0.mk (HW3.out.under HBB.out)
                  clear hown hcl HBB HRD HW3
                  have hown := HW4.out.own
                  go_wp2_with (first
                    | (at_lookup; refine wpList_lookup_own_int _ rfl _ _ 41 rfl 3 3 .i64 lawI Try.underlying41 Try.underlying3 (zeroI _) bm m D2 rfl hown _ _ rfl hkey ?_; intro c hat hwc; have hck := HC.out c hat; subst hck; clear hat hwc)
                    | fail)
                  go_roundw
                  case rel => exact ⟨j + 1, k, hjN, rfl, by go_num, HW4, Lib.hid ⟨hk0, by omega⟩, Lib.hid (by have := HNX.out; rw [if_pos HA.out] at this; rw [← this]; exact HWO.out)⟩
                  case measure => simp [intOf]; omega
                · have da : decide (0 < aheadI (rd_T24 l k) (rd_T24 l v)) = false := decide_eq_false ha
                  have HA := Lib.hid ha
                  clear ha
                  go_wp2_with (first
                    | (at_lookup; refine wpList_lookup_own_int _ rfl _ _ 41 rfl 3 3 .i64 lawI Try.underlying41 Try.underlying3 (zeroI _) bm m D2 rfl hown _ _ rfl hkey ?_; intro c hat hwc; have hck := HC.out c hat; subst hck; clear hat hwc)
                    | (go_at_call 13; refine (ahead_walk l (some ad) c0 ⟨w.heap.size, 0, none⟩ k v _ hcl HRD.out hk0 (by omega) hv.1 (by omega)).mono ?_; rintro e w' ⟨rfl, hb⟩; have HBB := Aside0.mk hb; clear hb))
                  have HW4 := Aside0.mk (HW3.out.under HBB.out)
                  go_roundw
                  case rel => exact ⟨j + 1, v, hjN, rfl, by go_num, HW4, HV, Lib.hid (by have := HNX.out; rw [if_neg (by have := HA.out; omega)] at this; rw [← this]; exact HWO.out)⟩
                  case measure => simp [intOf]; omega
              · obtain rfl : j = N := by omega
                have hwo := HWO.out
                rw [List.drop_of_length_le (by rw [HLH.out]; exact Nat.le_refl _)] at hwo
                have hwo2 : worstI l held1 i = v := hwo.symm
                have HWO2 := Lib.hid hwo2
                have hv := HV.out
                obtain ⟨vn, rfl⟩ : ∃ vn : Nat, v = (vn : Int) := ⟨v.toNat, by omega⟩
                have hvl : vn < out.length := by omega
                have hl7 := HL.out
                have hS := HS.out
                have hs0 := hS.2.2.2.1
                have hs1 := hS.2.2.2.2
                clear hwo hwo2 hS hown hcl HWO
                by_cases hvi : vn = i
                · subst hvi
                  obtain ⟨g2, co2, ev, hc0, hc1, hc2, hf0, hf1, hf2, -, -, hst2⟩ := HW3.out.elem (vn : Int) (by omega) (by rw [HLEN.out]; omega)
                  obtain rfl : go = g2 := by injection ev with ev _ _; injection ev with ev; injection ev
                  have HW5 := Aside0.mk (hst2 sl)
                  rw [Int.toNat_natCast] at hc0 hc1 hc2 hf0 hf1 hf2 HW5
                  clear ev hst2
                  rw [rd29_set _ hio, List.set_set] at HW5
                  have hst := HST.out
                  unfold stepB at hst
                  rw [HQ.out, if_neg (by decide), HWO2.out, if_pos rfl] at hst
                  have HSTEP := Lib.hid hst
                  have HI2 : Inv (out.set vn ⟨(rd_T24 l vn).f0, -1, sl⟩) held1 (vn + 1) := by
                    have := HI1.out.passed (⟨(rd_T24 l vn).f0, -1, sl⟩ : S29)
                    rw [List.set_set] at this
                    exact this
                  have HI3 := Aside0.mk HI2
                  clear hst HI2
                  go_wp2_with fail
                  have hS := HS.out
                  go_roundw
                  case rel => exact ⟨vn + 1, _, held1, sl + 1, m, D2, hlt, rfl, by go_num, HW5, HR2, HI3, ⟨by rw [List.length_set]; exact hS.1, HLH.out, by omega, by omega, by omega⟩, ⟨HSTEP.out⟩⟩
                  case measure => simp [intOf]; omega
                · have hmem : (vn : Int) ∈ held1 := by
                    rcases worst_mem l held1 (i : Int) with h | h
                    · rw [HWO2.out] at h; omega
                    · rw [HWO2.out] at h; exact h
                  obtain ⟨p, hp⟩ : ∃ p : Nat, held1[p]? = some (vn : Int) := by
                    obtain ⟨p, hp1, hp2⟩ := List.getElem_of_mem hmem
                    exact ⟨p, by rw [← hp2]; exact List.getElem?_eq_getElem hp1⟩
                  have hpN : p < held1.length := (List.getElem?_eq_some_iff.1 hp).1
                  have hph := HI1.out.at_ p vn hp (by omega)
                  have hpN2 : p ≤ 1000 := by have := HLH.out; omega
                  have HPH := Lib.hid hph
                  have HP := Lib.hid hp
                  obtain ⟨g3, co3, ev3, -, hv1, -, -, -, -, -, -, -⟩ := HW3.out.elem (vn : Int) (by omega) (by rw [HLEN.out]; omega)
                  obtain rfl : go = g3 := by injection ev3 with ev3 _ _; injection ev3 with ev3; injection ev3
                  rw [hph] at hv1
                  obtain ⟨g2, co2, ev, hc0, hc1, hc2, hf0, hf1, hf2, -, hst1, -⟩ := HW3.out.elem (i : Int) (by omega) (by rw [HLEN.out]; omega)
                  obtain rfl : go = g2 := by injection ev with ev _ _; injection ev with ev; injection ev
                  have hw5 := hst1 (p : Int)
                  rw [Int.toNat_natCast] at hc0 hc1 hc2 hf0 hf1 hf2 hw5 hv1
                  rw [rd29_set _ hio, List.set_set] at hw5
                  have HW5 := Aside0.mk hw5
                  have HPN := Lib.hid hpN
                  clear ev ev3 hst1 hph hp hmem hw5 hpN
                  go_upto_region 28 with (fail)
                  clear hc0 hc1 hc2 hf0 hf1 hf2 hv1 HW3
                  generalize wr.setCell ⟨go, i * 3 + 1, none⟩ (.int .i64 (p : Int)) = w5 at HW5 ⊢
                  obtain ⟨g2, co2, ev, -, hc1, -, -, -, -, -, -, -⟩ := HW5.out.elem (i : Int) (by omega) (by rw [List.length_set]; omega)
                  obtain rfl : go = g2 := by injection ev with ev _ _; injection ev with ev; injection ev
                  rw [rd29_set _ hio, Int.toNat_natCast] at hc1
                  have hown := HW5.out.own
                  have hkey : keyOf Try.prog 3 (.int .i64 (p : Int)) = some (KL p) := keyOf_int_mk Try.underlying3 (wf_small (by omega) (by omega))
                  have hwi : (Lit.int .i64 (i : Int)).wf = true := wf_small (by omega) (by omega)
                  have hmx : m < maxLen := by unfold maxLen; omega
                  clear ev
                  go_upto_region 29 with (first
                    | (at_mapUpdate; refine wpList_mapUpdate_own _ rfl _ _ _ 41 rfl 3 3 lawI Try.underlying41 _ bm m _ rfl hown hmx _ _ _ rfl rfl hkey _ [] (plainElem_int Try.underlying3 hwi) ?_; intro w8 hown8 hgrow8))
                  have HW6 := Aside0.mk (HW5.out.turned hgrow8 hown8)
                  have HR3 := Aside0.mk (HR2.out.put HP.out (show (0 : Int) ≤ (i : Int) by omega))
                  clear hc1 hown hkey hwi hmx hown8 hgrow8 HW5
                  obtain ⟨g2, co2, ev, hc0, hc1, hc2, hf0, hf1, hf2, -, hst1, -⟩ := HW6.out.elem (vn : Int) (by omega) (by rw [List.length_set]; omega)
                  obtain rfl : go = g2 := by injection ev with ev _ _; injection ev with ev; injection ev
                  have hw7 := hst1 (-1)
                  have hvl2 : vn < (out.set i (⟨(rd_T24 l i).f0, (p : Int), -1⟩ : S29)).length := by rw [List.length_set]; exact hvl
                  have HVL := Lib.hid hvl2
                  rw [Int.toNat_natCast] at hc0 hc1 hc2 hf0 hf1 hf2 hw7
                  have HW7 := Aside0.mk hw7
                  clear ev hst1 hw7 hvl2
                  go_upto_region 30 with (fail)
                  clear hc0 hc1 hc2 hf0 hf1 hf2 HW6
                  generalize w8.setCell ⟨go, vn * 3 + 1, none⟩ (.int .i64 (-1)) = w7 at HW7 ⊢
                  obtain ⟨g2, co2, ev, hc0, hc1, hc2, hf0, hf1, hf2, -, -, hst2⟩ := HW7.out.elem (vn : Int) (by omega) (by rw [List.length_set, List.length_set]; omega)
                  obtain rfl : go = g2 := by injection ev with ev _ _; injection ev with ev; injection ev
                  have hw9 := hst2 sl
                  rw [Int.toNat_natCast] at hc0 hc1 hc2 hf0 hf1 hf2 hw9
                  rw [rd29_set _ HVL.out, List.set_set, rd29_ne _ (vn : Int) (by omega) (by omega)] at hw9
                  have HW9 := Aside0.mk hw9
                  have hst := HST.out
                  unfold stepB at hst
                  have hph2 : (rd_T29 out (vn : Int)).f1 = (p : Int) := by
                    have := HPH.out
                    rw [rd29_ne _ (vn : Int) (by omega) (by omega)] at this
                    exact this
                  rw [HQ.out, if_neg (by decide), HWO2.out, if_neg (by omega), hph2, Int.toNat_natCast, Int.toNat_natCast] at hst
                  have HSTEP := Lib.hid hst
                  have hI2 : Inv ((out.set i ⟨(rd_T24 l i).f0, (p : Int), -1⟩).set vn ⟨(rd_T29 out (vn : Int)).f0, -1, sl⟩) (held1.set p i) (i + 1) := by
                    have := HI1.out.given (v := vn) (by rw [HLEN.out]; exact hio) HP.out (rd_T24 l i).f0 (-1) (⟨(rd_T29 out (vn : Int)).f0, -1, sl⟩ : S29)
                    rw [List.set_set] at this
                    exact this
                  have HI3 := Aside0.mk hI2
                  clear ev hst2 hw9 hst hph2 hI2
                  go_wp2_with fail
                  have hS := HS.out
                  go_roundw
                  case rel => exact ⟨i + 1, _, held1.set p i, sl + 1, m + 1, _, hlt, rfl, by go_num, HW9, HR3, HI3, ⟨by rw [List.length_set, List.length_set]; exact hS.1, by rw [List.length_set]; exact HLH.out, by omega, by omega, by omega⟩, ⟨HSTEP.out⟩⟩
                  case measure => simp [intOf]; omega
          · obtain ⟨q, kq, hq1, hq2, hq⟩ := freeFrom_pos held1 0 hpos
            rw [Nat.zero_add] at hq
            have hqN : q < N := by rw [← HLH.out]; exact (List.getElem?_eq_some_iff.1 hq1).1
            have hfw := free_walk bm m D2 held1 N wr hown HR2.out HLH.out hN1
            rw [hq] at hfw
            have HQ := Lib.hid hq
            have HQ1 := Lib.hid hq1
            have HFW := Aside0.mk hfw
            have HOWN := Aside0.mk hown
            clear hq hq1 hfw hown hpos hl6 hcl
            go_upto_region 16 with (first | (go_at_call 12; refine HFW.out.mono ?_; rintro e w' ⟨rfl, rfl⟩))
            obtain ⟨g2, co2, ev, hc0, hc1, hc2, hf0, hf1, hf2, -, hst1, -⟩ := HW3.out.elem (i : Int) (by omega) (by rw [HLEN.out]; omega)
            obtain rfl : go = g2 := by injection ev with ev _ _; injection ev with ev; injection ev
            have HW5 := Aside0.mk (hst1 (q : Int))
            rw [Int.toNat_natCast] at hc0 hc1 hc2 hf0 hf1 hf2 HW5
            clear ev hst1
            go_upto_region 17 with (fail)
            clear hc0 hc1 hc2 hf0 hf1 hf2 HFW HOWN HW3
            generalize w'.setCell ⟨go, i * 3 + 1, none⟩ (.int .i64 (q : Int)) = w7 at HW5 ⊢
            have hown := HW5.out.own
            have hkey : keyOf Try.prog 3 (.int .i64 (q : Int)) = some (KL q) := keyOf_int_mk Try.underlying3 (wf_small (by omega) (by omega))
            have hwi : (Lit.int .i64 (i : Int)).wf = true := wf_small (by omega) (by have := HL.out; omega)
            have hmx : m < maxLen := by have := HL.out; unfold maxLen; omega
            have hl7 := HL.out
            go_wp2_with (first
              | (at_mapUpdate; refine wpList_mapUpdate_own _ rfl _ _ _ 41 rfl 3 3 lawI Try.underlying41 _ bm m _ rfl hown hmx _ _ _ rfl rfl hkey _ [] (plainElem_int Try.underlying3 hwi) ?_; intro w8 hown8 hgrow8)
              | fail)
            have hW := HW5.out.turned hgrow8 hown8
            have hR := HR2.out.put HQ1.out (show (0 : Int) ≤ (i : Int) by omega)
            rw [rd29_set _ hio, List.set_set] at hW
            have hst := HST.out
            unfold stepB at hst
            rw [HQ.out, if_pos (by omega), Int.toNat_natCast] at hst
            have hIn : Inv (out.set i ⟨(rd_T24 l i).f0, (q : Int), -1⟩) (held1.set q i) (i + 1) := by
              have := HI1.out.taken (by rw [HLEN.out]; exact hio) (show q < held1.length by rw [HLH.out]; exact hqN) (rd_T24 l i).f0 (-1)
              rw [List.set_set] at this
              exact this
            have hS := HS.out
            go_roundw
            case rel => exact ⟨i + 1, _, _, sl, m + 1, _, hlt, rfl, by go_num, ⟨hW⟩, ⟨hR⟩, ⟨hIn⟩, ⟨by rw [List.length_set]; exact hS.1, by rw [List.length_set]; exact HLH.out, by omega, by omega, by omega⟩, ⟨hst⟩⟩
            case measure => simp [intOf]; omega
        · -- an entry has come
          intro x c w1 cnt1 hwx hwc hlx hat hrg1 hlt1 hg1 hs1 hen
          obtain ⟨p, rfl, hp2, hp0, hcc⟩ := HP.out.came HR2.out hat
          have hrow : ∀ q, some r = some q → w.heap.size < q ∧ q ≠ bm ∧ some q ≠ (Value.slice (some ⟨go, 0, none⟩) out.length co).ownBlock := by
            rintro q e
            obtain rfl := Option.some.inj e
            have h1 := HXL.out
            have h2 := HW3.out.bm_
            refine ⟨by omega, by omega, ?_⟩
            intro e2
            have : r = go := by simpa [Value.ownBlock] using e2
            omega
          have hxw : xb < wr.heap.size := by
            have h := HXB3.out
            rcases Nat.lt_or_ge xb wr.heap.size with g | g
            · exact g
            · rw [Array.getElem?_eq_none g] at h; cases h
          have HW4 := Aside0.mk (HW3.out.kept hg1 hrow)
          have HXB4 := Lib.hid ((hg1.block xb hxw (by have := HXL.out; simp; omega)).trans HXB3.out)
          have hxc : w1.cell? ⟨xb, 1, none⟩ = some (.int .i64 (rd_T24 l i).f1) := by simp [World.cell?, HXB4.out]
          have hcl := HW4.out.cell
          have hci : c < (i : Int) := (HI.out.le p c hp0).2
          obtain ⟨ad', e', -, -, hz⟩ := at_T24 (HW4.out.read HR0.out) c hcc (by omega)
          obtain rfl : ad = ad' := by injection e'
          have dc0 := eq_true hcc
          have dc1 : (c < (l.length : Int)) = True := eq_true (by omega)
          have HP0 := Lib.hid hp0
          have HP2 := Lib.hid hp2
          have HG1 := Aside0.mk hg1
          have HLX := Lib.hid hlx
          have hkey : keyOf Try.prog 3 (.int .i64 (p : Int)) = some (KL p) := keyOf_int_mk Try.underlying3 hwx
          have HAT := Lib.hid hat
          have HLT := Lib.hid hlt1
          have HRG1 := Aside0.mk hrg1
          have HEN := Lib.hid hen
          have hen2 := hen
          clear hp0 hp2 hg1 hlx hat hrow hxw hs1 e' hrg hlt1 hrg1 hen
          by_cases hends : (rd_T24 l c).f2 < (rd_T24 l i).f1
          · have de : decide ((rd_T24 l c).f2 < (rd_T24 l i).f1) = true := decide_eq_true hends
            have HE := Lib.hid hends
            clear hends
            go_wp2_with fail
            go_quiet (fail)
            have HW5 := Aside0.mk (HW4.out.drew nq)
            have hrg5 : (w1.drewN nq).ranges Try.prog 3 (plainElem Try.prog 3) bm r m D2 (fun z => left z && !z.sameKey (.int .i64 (p : Int))) cnt1 := HRG1.out
            have HXB5 : Hid ((w1.drewN nq).heap[xb]? = some (.cells #[.int .i64 (rd_T24 l i).f0, .int .i64 (rd_T24 l i).f1, .int .i64 (rd_T24 l i).f2] 24 (0, 0))) := HXB4
            clear HW4 HXB4 hxc hcl HRG1 hen2 HEN HG1
            generalize w1.drewN nq = w5 at HW5 hrg5 HXB5 ⊢
            go_wp2_with (first
              | (at_delete; refine wpList_delete_ranges _ rfl _ _ 41 3 rfl 3 lawI Try.underlying41 _ bm r m _ _ _ rfl hrg5 _ _ rfl hkey ?_; intro w6 cnt2 hrg6 hle hturn; go_frame)
              | fail)
            have hst := HP.out.struck HP0.out hcc (by unfold endsB; exact de)
            have hrd := HR2.out.del HP2.out hcc
            have hw6 := HW5.out.turned hturn.grown hrg6.owns
            have hxb6 := Lib.hid ((hturn.grown.block xb (by have h := HXB5.out; rcases Nat.lt_or_ge xb w5.heap.size with g | g; exact g; rw [Array.getElem?_eq_none g] at h; cases h) (by simp; omega)).trans HXB5.out)
            have hrg7 : w6.ranges Try.prog 3 (plainElem Try.prog 3) bm r m (D2.del (KL p)) (fun z => left z && !z.sameKey (KL p) && !z.sameKey (KL p)) cnt2 := hrg6
            rw [strike_twice] at hrg7
            clear hrg6
            go_roundw
            case rel => exact ⟨_, cnt2, _, _, ⟨hrg7⟩, ⟨hrd⟩, ⟨hst⟩, ⟨hw6⟩, hxb6⟩
            case measure => rw [hrg7.left_eq, HRG.out.left_eq]; have := HLT.out; omega
          · have de : decide ((rd_T24 l c).f2 < (rd_T24 l i).f1) = false := decide_eq_false hends
            have HE := Lib.hid hends
            clear hends
            go_wp2_with fail
            go_quiet (fail)
            have HW5 := Aside0.mk (HW4.out.drew nq)
            have hrg5 : (w1.drewN nq).ranges Try.prog 3 (plainElem Try.prog 3) bm r m D2 (fun z => left z && !z.sameKey (.int .i64 (p : Int))) cnt1 := HRG1.out
            have HXB5 : Hid ((w1.drewN nq).heap[xb]? = some (.cells #[.int .i64 (rd_T24 l i).f0, .int .i64 (rd_T24 l i).f1, .int .i64 (rd_T24 l i).f2] 24 (0, 0))) := HXB4
            clear HW4 HXB4 hxc hcl HRG1 hen2 HEN HG1
            generalize w1.drewN nq = w5 at HW5 hrg5 HXB5 ⊢
            have HRG5 := Aside0.mk hrg5
            clear hrg5
            have hst := HP.out.stays HP0.out (by unfold endsB; exact de)
            go_wp2_with fail
            go_roundw
            case rel => exact ⟨_, cnt1, _, _, HRG5, HR2, ⟨hst⟩, HW5, HXB5⟩
            case measure => rw [HRG5.out.left_eq, HRG.out.left_eq]; exact HLT.out
    · obtain rfl : i = l.length := by omega
      have hrun := HRun.out
      rw [Nat.sub_self, runA] at hrun
      go_wp2
      go_ret
      exact ⟨_, rfl, by rw [← hrun]; exact HW.out.row, HW.out.below⟩
end Go.Proofs.Ytidhllheipopbaa.XCol
