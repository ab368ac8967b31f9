/- XA: plain: ScopeSlots, all its programs. -/
import Derived.Test.YtjofmihdeblbmaaGreatDoorXaM34
namespace Go.Proofs.YtjofmihdeblbmaaGreatDoor.Xa
open Go Go.RowKit
set_option linter.unusedVariables false
set_option linter.unusedSimpArgs false
set_option maxRecDepth 100000
set_option maxHeartbeats 2000000
/-! ScopeSlots: the text, what is wanted, all 189 programs -/
def nmOf (w : List UInt8) : Nam := if h : goodW w = true ∧ wKind w = 1 then ⟨w, h.1, h.2⟩ else n_f
def vN (i : Nat) : Nam := nmOf [118, UInt8.ofNat (97 + i)]
def pN (i : Nat) : Nam := nmOf [112, UInt8.ofNat (97 + i)]
theorem vN_w : ∀ i < 20, (vN i).w = [118, UInt8.ofNat (97 + i)] := by decide +kernel
theorem pN_w : ∀ i < 8, (pN i).w = [112, UInt8.ofNat (97 + i)] := by decide +kernel
/-- the numbers from k - 1 down to j -/
def downTo (k j : Nat) : List Nat := (List.range (k - j)).map (fun i => k - 1 - i)
def slPs (n : Nat) : List Nam := (List.range n).map pN
def slLets (m : Nat) : List Sm := (List.range m).map (fun i => .letS (vN i))
def slPr (m j : Nat) : List Sm := (downTo m j).map (fun i => .prS (vN i))
def slSet (n j : Nat) : List Sm := (downTo n j).map (fun i => .setS (pN i) (pN (n - 1 - i)))
def slBody (n m : Nat) : List Sm := slLets m ++ slPr m 0 ++ slSet n 0
def slF (n m : Nat) : FnD := ⟨n_f, slPs n, slBody n m⟩
def slInit (n m : Nat) : List (List UInt8) := (slF n m).init ++ [[125]] ++ fMain.init
def slW1 (n m : Nat) : List Int := (List.range m).map (fun i => ((n + i : Nat) : Int))
def slW2 (n m j : Nat) : List Int := (downTo m j).map (fun i => ((n + i : Nat) : Int))
def slW3 (n j : Nat) : List Int := (downTo n j).flatMap (fun i => [((i : Nat) : Int), ((n - 1 - i : Nat) : Int)])
def slWant (n m : Nat) : List Int := slW1 n m ++ slW2 n m 0 ++ slW3 n 0
def slOk (n m : Nat) : Bool := match parC cs0 ((slPs n).map Nam.b) with
  | some (s1, true) => (s1.e == 0) && decide (Sm.needs (slBody n m) ≤ 900000) && decide (s1.names.length + Sm.costs (slBody n m) ≤ 1000000) && decide (s1.slots.length + Sm.costs (slBody n m) ≤ 1000000) && decide (s1.calls.length ≤ 1000000) && decide (Sm.deeps (slBody n m) ≤ 23) &&
    decide ((flatW (slInit n m)).length ≤ 3999) &&
    ((Sm.runs (slBody n m) s1).e == 0) && ((Sm.runs (slBody n m) s1).locals == ((n + m : Nat) : Int)) && ((Sm.runs (slBody n m) s1).slots == slWant n m) && ((Sm.runs (slBody n m) s1).calls == [])
  | _ => false
theorem slOk_all : ∀ n < 9, ∀ m < 21, slOk n m = true := by decide +kernel
theorem slots_src (n m : Nat) (hn : n < 9) (hm : m < 21) (b : ByteArray) (hd : b.data.toList = flatW (slInit n m) ++ [125]) :
    ∃ l, srcT 1000000 b = some ⟨l, [⟨((n + m : Nat) : Int), slWant n m, [], 0⟩, ⟨0, [], [], 0⟩], 0, 0⟩ := by
  have hk := slOk_all n hn m hm
  unfold slOk at hk
  split at hk
  case h_2 => cases hk
  rename_i s1 hp
  simp only [Bool.and_eq_true, beq_iff_eq, decide_eq_true_eq] at hk
  obtain ⟨⟨⟨⟨⟨⟨⟨⟨⟨⟨k1, k2⟩, k3⟩, k4⟩, k5⟩, k6⟩, k7⟩, k8⟩, k9⟩, k10⟩, k11⟩ := hk
  have hb : b.size ≤ 4000 := by rw [size_data, hd]; simp; omega
  have hps : (slF n m).ps.length = n := by simp [slF, slPs]
  have hpr := prog_ok 1000000 rfl b hb [slF n m, fMain] (slInit n m) (by simp [slInit, FnD.ws]) hd (by
    intro F hF
    simp only [List.mem_cons, List.not_mem_nil, or_false] at hF
    rcases hF with rfl | rfl
    · exact ⟨k2, k6, by rw [hps]; omega⟩
    · decide) (by simp)
  obtain ⟨l, hl⟩ := src_two b (slF n m) rfl s1 hpr (by rw [hps]; omega) hp k1 k2 ⟨k3, k4, k5⟩ k8 (by show (Sm.runs (slBody n m) s1).locals ≤ 64; rw [k9]; omega)
  refine ⟨l, ?_⟩
  rw [hl]
  have : funEnd (Sm.runs (slBody n m) s1) = ⟨((n + m : Nat) : Int), slWant n m, [], 0⟩ := by
    unfold funEnd
    rw [k8, k9, k10, k11]
    have : ltB 64 ((n + m : Nat) : Int) = false := by unfold ltB; simp; omega
    rw [this]
    rfl
  rw [show Sm.runs (slF n m).body s1 = Sm.runs (slBody n m) s1 from rfl, this]
/-! the text as the code makes it -/
theorem wss_append : ∀ a b : List Sm, Sm.wss (a ++ b) = Sm.wss a ++ Sm.wss b
  | [], b => rfl
  | t :: a, b => by rw [List.cons_append, Sm.wss, Sm.wss, wss_append a b, List.append_assoc]
theorem parW_snoc : ∀ (l : List Nam) (p : Nam), parW (l ++ [p]) = if l = [] then [p.w] else parW l ++ [[44], p.w]
  | [], p => rfl
  | [q], p => rfl
  | q :: r :: l, p => by
    have := parW_snoc (r :: l) p
    rw [if_neg (by simp)] at this
    rw [if_neg (by simp)]
    show q.w :: [44] :: parW (r :: (l ++ [p])) = _
    rw [← List.cons_append, this]
    simp [parW]
theorem downTo_self (k : Nat) : downTo k k = [] := by simp [downTo]
theorem downTo_step {k j : Nat} (h1 : 1 ≤ j) (h2 : j ≤ k) : downTo k (j - 1) = downTo k j ++ [j - 1] := by
  unfold downTo
  rw [show k - (j - 1) = k - j + 1 by omega, List.range_succ, List.map_append]
  simp
  omega
def slH1 (i : Nat) : List UInt8 := flatW ([k_fn, n_f.w, [40]] ++ parW (slPs i))
def slH (n : Nat) : List (List UInt8) := [k_fn, n_f.w, [40]] ++ parW (slPs n) ++ [[41], [123]]
def slL2 (n i : Nat) : List UInt8 := flatW (slH n ++ Sm.wss (slLets i))
def slL3 (n m j : Nat) : List UInt8 := flatW (slH n ++ Sm.wss (slLets m ++ slPr m j))
def slL4 (n m j : Nat) : List UInt8 := flatW (slH n ++ Sm.wss (slLets m ++ slPr m 0 ++ slSet n j))
theorem slH1_0 : slH1 0 = [102, 110, 32, 102, 32, 40, 32] := by decide +kernel
theorem slH1_s (i : Nat) (hi : i < 8) : slH1 (i + 1) = (if 0 < i then slH1 i ++ [44, 32] else slH1 i) ++ [112, UInt8.ofNat (97 + i)] ++ [32] := by
  unfold slH1 slPs
  rw [List.range_succ, List.map_append, List.map_cons, List.map_nil, parW_snoc]
  have hw := pN_w i hi
  by_cases h0 : i = 0
  · subst h0
    simp [flatW, hw, parW]
  · rw [if_neg (by simp; omega), if_pos (by omega)]
    simp [flatW, hw]
theorem slL2_0 (n : Nat) : slL2 n 0 = slH1 n ++ [41, 32, 123, 32] := by simp [slL2, slH, slH1, slLets, flatW, Sm.wss]
theorem slL2_s (n i : Nat) (hi : i < 20) : slL2 n (i + 1) = slL2 n i ++ [108, 101, 116, 32] ++ [118, UInt8.ofNat (97 + i)] ++ [32, 61, 32, 49, 32, 59, 32] := by
  unfold slL2 slLets
  rw [List.range_succ, List.map_append, List.map_cons, List.map_nil, wss_append]
  simp [flatW, vN_w i hi, Sm.wss, Sm.ws, k_let]
theorem slL3_0 (n m : Nat) : slL3 n m m = slL2 n m := by simp [slL3, slL2, slPr, downTo_self]
theorem slL3_s (n m j : Nat) (h1 : 1 ≤ j) (h2 : j ≤ m) (hm : m ≤ 20) : slL3 n m (j - 1) = slL3 n m j ++ [112, 114, 105, 110, 116, 32] ++ [118, UInt8.ofNat (97 + (j - 1))] ++ [32, 59, 32] := by
  unfold slL3 slPr
  rw [downTo_step h1 h2, List.map_append, List.map_cons, List.map_nil, ← List.append_assoc, wss_append _ [_]]
  simp [flatW, vN_w (j - 1) (by omega), Sm.wss, Sm.ws, k_print]
theorem slL4_0 (n m : Nat) : slL4 n m n = slL3 n m 0 := by simp [slL4, slL3, slSet, downTo_self]
theorem slL4_s (n m j : Nat) (h1 : 1 ≤ j) (h2 : j ≤ n) (hn : n ≤ 8) : slL4 n m (j - 1) = slL4 n m j ++ [112, UInt8.ofNat (97 + (j - 1))] ++ [32, 61, 32] ++ [112, UInt8.ofNat (97 + (n - 1 - (j - 1)))] ++ [32, 59, 32] := by
  unfold slL4 slSet
  rw [downTo_step h1 h2, List.map_append, List.map_cons, List.map_nil, ← List.append_assoc, wss_append _ [_]]
  simp [flatW, pN_w (j - 1) (by omega), pN_w (n - 1 - (j - 1)) (by omega), Sm.wss, Sm.ws]
def slTail : List UInt8 := [125, 32, 102, 110, 32, 109, 97, 105, 110, 32, 40, 32, 41, 32, 123, 32, 125]
theorem slL4_end (n m : Nat) : slL4 n m 0 ++ slTail = flatW (slInit n m) ++ [125] := by
  simp [slL4, slInit, slTail, FnD.init, slF, fMain, slH, flatW, slBody, parW, Sm.wss, k_fn, n_main]
theorem slW1_s (n i : Nat) : slW1 n (i + 1) = slW1 n i ++ [((n + i : Nat) : Int)] := by simp [slW1, List.range_succ]
theorem slW2_s (n m j : Nat) (h1 : 1 ≤ j) (h2 : j ≤ m) : slW2 n m (j - 1) = slW2 n m j ++ [((n + (j - 1) : Nat) : Int)] := by
  unfold slW2
  rw [downTo_step h1 h2]
  simp
theorem slW3_s (n j : Nat) (h1 : 1 ≤ j) (h2 : j ≤ n) : slW3 n (j - 1) = slW3 n j ++ [((j - 1 : Nat) : Int), ((n - 1 - (j - 1) : Nat) : Int)] := by
  unfold slW3
  rw [downTo_step h1 h2]
  simp
theorem slots_made (n m : Nat) (hn : n < 9) (hm : m < 21) (b b' : ByteArray) (h : b.data.toList = slL4 n m 0) (hb : b'.data.toList = b.data.toList ++ slTail) :
    ∃ l, srcT 1000000 b' = some ⟨l, [⟨((n + m : Nat) : Int), slWant n m, [], 0⟩, ⟨0, [], [], 0⟩], 0, 0⟩ :=
  slots_src n m hn hm b' (by rw [hb, h, slL4_end])
/-- bounds of what is made -/
theorem sl_len (n m : Nat) (hn : n < 9) (hm : m < 21) : (flatW (slInit n m)).length ≤ 3999 := by
  have hk := slOk_all n hn m hm
  unfold slOk at hk
  split at hk
  case h_2 => cases hk
  simp only [Bool.and_eq_true, beq_iff_eq, decide_eq_true_eq] at hk
  exact hk.1.1.1.1.2
end Go.Proofs.YtjofmihdeblbmaaGreatDoor.Xa
