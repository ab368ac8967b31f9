/- Slots, awake: what they tell. -/
import Derived.Test.YtidhllheipopbaaColGiven
import Derived.Test.YtidhllheipopbaaXColx1
import Derived.Laws.BitsLemmas
namespace Go.Proofs.Ytidhllheipopbaa.XCol
open Go.RowKit Go.Proofs.YtidhllheipopbaaW.PrintWords Go.Proofs.YtidhllheipopbaaW.PrintLast Go.Proofs.YtidhllheipopbaaW.PrintMore
theorem wrap_id {x : Int} (h0 : -9223372036854775808 ≤ x) (h1 : x ≤ 9223372036854775807) : wrap64 x = x := by unfold wrap64; omega
theorem and15 (n : Int) : bits .and .i64 n 15 = n % 16 := by
  have h7 : (BitVec.ofInt 64 15).toNat = 2 ^ 4 - 1 := by decide
  have key : (BitVec.ofInt 64 n &&& BitVec.ofInt 64 15).toNat = (n % ((2 ^ 64 : Nat) : Int)).toNat % 2 ^ 4 := by
    rw [BitVec.toNat_and, BitVec.toNat_ofInt, h7, Nat.and_two_pow_sub_one_eq_mod]
  show IntKind.i64.wrap ((BitVec.ofInt 64 n &&& BitVec.ofInt 64 15).toNat : Nat) = n % 16
  rw [key, IntKind.wrap_i64]
  omega
theorem rd24_get {l : List S24} {j : Nat} (h : j < l.length) : rd_T24 l (j : Int) = l[j] := by
  unfold rd_T24
  rw [Int.toNat_natCast, List.getD_eq_getElem?_getD, List.getElem?_eq_getElem h]
  rfl
theorem rd29_get {l : List S29} {j : Nat} (h : j < l.length) : rd_T29 l (j : Int) = l[j] := by
  unfold rd_T29
  rw [Int.toNat_natCast, List.getD_eq_getElem?_getD, List.getElem?_eq_getElem h]
  rfl
/-! Slots -/
theorem slots_l0 (out : List S29) (ho : out.length ≤ 1000000) (hb : ∀ p ∈ out, -1 ≤ p.f2 ∧ p.f2 ≤ 1000000) : ∀ (d j : Nat) (a : Int), out.length = j + d →
    Ev (fun k => color_Slots.l0 k a out (out.length : Int) j) ((out.drop j).foldl (fun a p => mx a (p.f2 + 1)) a) := by
  intro d
  induction d with
  | zero =>
    intro j a hj
    rw [List.drop_of_length_le (by omega)]
    refine Ev.step (f := fun _ => some _) (fun k => ?_) (Ev.now _)
    simp only [color_Slots.l0]
    rw [if_neg (by omega)]
    rfl
  | succ d ih =>
    intro j a hj
    have hlt : j < out.length := by omega
    have hp := hb out[j] (List.getElem_mem hlt)
    rw [List.drop_eq_getElem_cons hlt, List.foldl_cons]
    refine Ev.step (fun k => ?_) (ih (j + 1) _ (by omega))
    simp only [color_Slots.l0]
    rw [if_pos (Int.ofNat_lt.2 hlt), if_pos (Int.natCast_nonneg j), if_pos (Int.ofNat_lt.2 hlt), rd29_get hlt, wrap_id (x := out[j].f2 + 1) (by omega) (by omega), wrap_id (x := (j : Int) + 1) (by omega) (by omega)]
    rfl
theorem slots_ev (out : List S29) (ho : out.length ≤ 1000000) (hb : ∀ p ∈ out, -1 ≤ p.f2 ∧ p.f2 ≤ 1000000) : Ev (fun k => color_Slots.f k out) (out.foldl (fun a p => mx a (p.f2 + 1)) 0) := by
  have := slots_l0 out ho hb out.length 0 0 (by omega)
  rw [List.drop_zero] at this
  exact Ev.congr (fun k => rfl) this
theorem slots_none (out : List S29) (h : ∀ p ∈ out, p.f2 = -1) : out.foldl (fun a p => mx a (p.f2 + 1)) 0 = 0 := by
  induction out with
  | nil => rfl
  | cons p r ih =>
    rw [List.foldl_cons, h p List.mem_cons_self, show mx 0 (-1 + 1) = 0 from by unfold mx; rfl]
    exact ih (fun x hx => h x (List.mem_cons_of_mem _ hx))
theorem awake_assign : assignL [⟨0, 1, 9⟩, ⟨1, 2, 3⟩] 1 = [⟨0, -1, 0⟩, ⟨1, 0, -1⟩] := by kernel_rfl
theorem awake_ev : Ev (fun k => ratlinelaw18_awake.f k) true := by
  have hA : color_Assign.f [⟨0, 1, 9⟩, ⟨1, 2, 3⟩] 1 = some [⟨0, -1, 0⟩, ⟨1, 0, -1⟩] := by
    rw [color_Assign.f_eq, if_pos ⟨by decide, by decide⟩]
    exact congrArg some awake_assign
  have hS := slots_ev [⟨0, -1, 0⟩, ⟨1, 0, -1⟩] (by decide) (by intro p hp; simp at hp; rcases hp with rfl | rfl <;> decide)
  rw [show ([⟨0, -1, 0⟩, ⟨1, 0, -1⟩] : List S29).foldl (fun a p => mx a (p.f2 + 1)) 0 = 1 from rfl] at hS
  unfold ratlinelaw18_awake.f
  rw [hA]
  have h3 : Ev (fun k => (color_Slots.f k [⟨0, -1, 0⟩, ⟨1, 0, -1⟩]).bind fun t115 => (if t115 = 1 then ((color_Overlap.f 0 0 2 0 2 3).bind fun t116 => (some t116)) else (some false))) true := hS.bind (f := fun _ t115 => (if t115 = 1 then ((color_Overlap.f 0 0 2 0 2 3).bind fun t116 => (some t116)) else (some false))) (Ev.congr (fun k => rfl) (Ev.now true))
  refine Ev.congr (fun k => ?_) h3
  rfl
end Go.Proofs.Ytidhllheipopbaa.XCol
