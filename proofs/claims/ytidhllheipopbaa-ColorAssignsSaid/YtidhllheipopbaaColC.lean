/- color.free: the least register that is free. -/
import Derived.Test.YtidhllheipopbaaColB
import Derived.Test.YtidhllheipopbaaColM
import Derived.Maps.Keyed
namespace Go.Proofs.Ytidhllheipopbaa.XCol
open Go.RowKit Go.Maps Go.Proofs.YtidhllheipopbaaW.PrintWords Go.Proofs.YtidhllheipopbaaW.PrintLast Go.Proofs.YtidhllheipopbaaW.PrintMore
theorem lawI : Keyed Try.prog 3 := int_keyed Try.underlying3
theorem zeroI (w : World) : (zeroValue 3).run Try.prog w = .ok (.int .i64 0) w := by kernel_rfl
def freeFrom : Nat → List Int → Int
  | _, [] => -1
  | i, k :: r => if k < 0 then (i : Int) else freeFrom (i + 1) r
theorem freeFrom_full : ∀ (l : List Int) (i : Nat), (∀ k ∈ l, 0 ≤ k) → freeFrom i l = -1
  | [], _, _ => rfl
  | k :: r, i, h => by
    have := h k List.mem_cons_self
    rw [freeFrom, if_neg (by omega), freeFrom_full r (i + 1) (fun x hx => h x (List.mem_cons_of_mem _ hx))]
theorem freeFrom_drop (l : List Int) (h : cnt l ≠ l.length) : ∀ (d i : Nat), l.length = i + d → (∀ j k, j < i → l[j]? = some k → 0 ≤ k) → freeFrom 0 l = freeFrom i (l.drop i)
  | d, 0, _, _ => by rw [List.drop_zero]
  | d, i + 1, hi, hh => by
    have hlt : i < l.length := by omega
    rw [freeFrom_drop l h (d + 1) i (by omega) (fun j k hj => hh j k (by omega)), List.drop_eq_getElem_cons hlt, freeFrom, if_neg]
    have := hh i l[i] (by omega) (List.getElem?_eq_getElem hlt)
    omega
theorem wf_small {x : Int} (h0 : -1 ≤ x) (h1 : x ≤ 1000000000) : (Lit.int .i64 x).wf = true := by
  simp only [Lit.wf, Bool.and_eq_true, decide_eq_true_eq]
  rw [show IntKind.i64.min = -9223372036854775808 from by decide, show IntKind.i64.max = 9223372036854775807 from by decide]
  omega
set_option maxRecDepth 100000 in
theorem free_walk (b n : Nat) (D : DataW Unit) (held : List Int) (N : Nat) (w : World) (hown : w.ownsMap Try.prog 3 (plainElem Try.prog 3) b n D) (hr : Rep D held) (hN : held.length = N) (hN1 : N ≤ 1000) :
    Calls Try.prog 12 #[.map (some b), .int .i64 (N : Int)] w fun e w' => e = .returned (.int .i64 (freeFrom 0 held)) ∧ w' = w := by
  have hsz := hr.size_
  have hle := cnt_le held
  by_cases hfull : cnt held = held.length
  · have hres : freeFrom 0 held = -1 := freeFrom_full held 0 (cnt_full held hfull)
    have d1 : decide ((N : Int) ≤ (Maps.size D : Int)) = true := decide_eq_true (by omega)
    have d2 : decide (N ≤ Maps.size D) = true := decide_eq_true (by omega)
    rw [hres]
    clear hres hsz hle hfull hN
    go_enter Try.func12, Try.ntmps12
    go_wp2_with (first
      | (at_len; refine wpList_len_own _ rfl _ 41 rfl 3 3 Try.underlying41 (plainElem Try.prog 3) b n D rfl hown ?_)
      | go_in)
    go_ret
    exact ⟨rfl, rfl⟩
  · have d1 : decide ((N : Int) ≤ (Maps.size D : Int)) = false := decide_eq_false (by omega)
    have d2 : decide (N ≤ Maps.size D) = false := decide_eq_false (by omega)
    have HF := Lib.hid hfull
    have HN := Lib.hid hN
    have hdrop := freeFrom_drop held hfull
    have HD := Lib.hid hdrop
    clear hsz hle hfull hN hdrop
    go_enter Try.func12, Try.ntmps12
    go_wp2_with (first
      | (at_len; refine wpList_len_own _ rfl _ 41 rfl 3 3 Try.underlying41 (plainElem Try.prog 3) b n D rfl hown ?_)
      | go_in)
    go_loop [13] (fun i => ∃ j : Nat, j ≤ N ∧ i = .int .i64 (j : Int) ∧ Hid (∀ q k, q < j → held[q]? = some k → 0 ≤ k)) (fun i => N - (intOf i).toNat)
    case atStart => exact ⟨0, Nat.zero_le _, rfl, Lib.hid (fun q k h => absurd h (Nat.not_lt_zero q))⟩
    case round =>
      obtain ⟨j, hj, rfl, hq⟩ := hrel
      have hkey : keyOf Try.prog 3 (.int .i64 (j : Int)) = some (KL j) := keyOf_int_mk Try.underlying3 (wf_small (by omega) (by omega))
      have hlt : j < N := by
        rcases Nat.lt_or_ge j N with h | h
        · exact h
        · exfalso
          have hn := HN.out
          exact HF.out (cnt_all held (fun k hk => by
            obtain ⟨q, hq1, hq2⟩ := List.getElem_of_mem hk
            exact hq.out q k (by omega) (by rw [← hq2]; exact List.getElem?_eq_getElem hq1)))
      obtain ⟨k, hk⟩ : ∃ k, held[j]? = some k := ⟨held[j]'(by have := HN.out; omega), List.getElem?_eq_getElem (by have := HN.out; omega)⟩
      have hhas := hr.hasK hk
      have HK := Lib.hid hk
      have HH := Lib.hid hhas
      clear hk hhas
      by_cases hk0 : 0 ≤ k
      · have hh : has D (KL j) = true := by rw [HH.out]; exact decide_eq_true hk0
        have HH2 := Lib.hid hh
        clear hh
        go_wp2_with (first
          | (at_lookup; refine wpList_lookup_own_ok_int _ rfl _ _ 41 rfl 3 3 .i64 lawI Try.underlying41 Try.underlying3 (zeroI _) b n D rfl hown _ _ rfl hkey ?_; intro c hat hwc; rw [HH2.out]; clear hat)
          | go_in)
        go_round
        case rel => exact ⟨j + 1, hlt, by go_num, Lib.hid (fun q k' h1 h2 => by
          rcases Nat.lt_or_ge q j with h | h
          · exact hq.out q k' h h2
          · obtain rfl : q = j := by omega
            have := HK.out
            rw [h2] at this
            simp only [Option.some.injEq] at this
            omega)⟩
        case measure => simp [intOf]; omega
      · have hh : has D (KL j) = false := by rw [HH.out]; exact decide_eq_false hk0
        have HH2 := Lib.hid hh
        have hres : freeFrom 0 held = (j : Int) := by
          have hn := HN.out
          have hlt' : j < held.length := by omega
          rw [HD.out (held.length - j) j (by omega) hq.out, List.drop_eq_getElem_cons hlt', freeFrom, if_pos]
          have := HK.out
          rw [List.getElem?_eq_getElem hlt'] at this
          simp only [Option.some.injEq] at this
          omega
        have HR := Lib.hid hres
        clear hh hres
        go_wp2_with (first
          | (at_lookup; refine wpList_lookup_own_ok_int _ rfl _ _ 41 rfl 3 3 .i64 lawI Try.underlying41 Try.underlying3 (zeroI _) b n D rfl hown _ _ rfl hkey ?_; intro c hat hwc; rw [HH2.out]; clear hat)
          | go_in)
        go_ret
        exact ⟨by rw [HR.out]; rfl, rfl⟩
end Go.Proofs.Ytidhllheipopbaa.XCol
