-- written by gprint.py: the printer run with given contracts
import Derived.Test.YtmmndmfphcbieaaDoorXLexx0
import Derived.Test.YtmmndmfphcbieaaDoorXLexx1
import Derived.Test.YtmmndmfphcbieaaDoorXLexx2
import Derived.Test.YtmmndmfphcbieaaDoorXLexx3
namespace Go.Proofs.YtmmndmfphcbieaaDoor.XLex
open Go.RowKit Go.Proofs.YtmmndmfphcbieaaDoorW.PrintWords Go.Proofs.YtmmndmfphcbieaaDoorW.PrintLast Go.Proofs.YtmmndmfphcbieaaDoorW.PrintMore
attribute [local go_sem] max2_int min2_int max_two min_two max_three min_three max_four min_four   -- for this text's walks alone
set_option linter.unusedVariables false
set_option linter.unusedSimpArgs false

/-! ### ratlineref4_Tokens: function 9 -/
mutual
def ratlineref4_Tokens.l0 : Nat → ByteArray → List (S32) → Int → Option ((List (S32)) × Int × Int)
  | 0, _, _, _ => none
  | k + 1, x0, x3, x4 => if x4 < (x0.size : Int) then (if 0 ≤ x4 then (if (bt x0 x4) = 32 then (ratlineref4_Tokens.j1 k x0 x3 x4 (bt x0 x4) true) else (if (bt x0 x4) = 9 then (ratlineref4_Tokens.j1 k x0 x3 x4 (bt x0 x4) true) else (if (bt x0 x4) = 10 then (ratlineref4_Tokens.j1 k x0 x3 x4 (bt x0 x4) true) else (ratlineref4_Tokens.j1 k x0 x3 x4 (bt x0 x4) ((bt x0 x4) == 13))))) else (none)) else (some (x3, 0, 0))
def ratlineref4_Tokens.j1 : Nat → ByteArray → List (S32) → Int → Int → Bool → Option ((List (S32)) × Int × Int)
  | 0, _, _, _, _, _ => none
  | k + 1, x0, x3, x4, x5, x39 => if x39 = true then (ratlineref4_Tokens.l0 k x0 x3 (wrap64 (x4 + 1))) else (if x5 = 35 then (ratlineref4_Tokens.l1 k x0 x3 x4) else ((ratlineref4_digit.f x5).bind fun t144 => (if t144 = true then (ratlineref4_Tokens.l2 k x0 x3 x4 x4) else ((ratlineref4_letter.f x5).bind fun t163 => (if t163 = true then (ratlineref4_Tokens.l3 k x0 x3 x4 x4) else (if x5 = 34 then ((ratlineref4_text.f k x0 x4).bind fun bt172 => (if bt172.2.2 = true then (if x3.length < 3518437208883 then (ratlineref4_Tokens.l0 k x0 (x3 ++ [(⟨5, bt172.1, 0, x4⟩ : S32)]) bt172.2.1) else (none)) else (some (([] : List (S32)), x4, 10)))) else (if 0 ≤ x4 then (if x4 ≤ (x0.size : Int) then ((ratlineref4_op.f k (x0.extract (x4 : Int).toNat x0.size)).bind fun t178 => (if t178.toList = ([] : List UInt8) then (some (([] : List (S32)), x4, 10)) else (if x3.length < 3518437208883 then (ratlineref4_Tokens.l0 k x0 (x3 ++ [(⟨6, t178, 0, x4⟩ : S32)]) (wrap64 (x4 + (t178.size : Int)))) else (none)))) else (none)) else (none))))))))
def ratlineref4_Tokens.l1 : Nat → ByteArray → List (S32) → Int → Option ((List (S32)) × Int × Int)
  | 0, _, _, _ => none
  | k + 1, x0, x3, x4 => if x4 < (x0.size : Int) then (if 0 ≤ x4 then (if (bt x0 x4) = 10 then (ratlineref4_Tokens.l0 k x0 x3 x4) else (ratlineref4_Tokens.l1 k x0 x3 (wrap64 (x4 + 1)))) else (none)) else (ratlineref4_Tokens.l0 k x0 x3 x4)
def ratlineref4_Tokens.j4 : Nat → ByteArray → List (S32) → Int → Int → Option ((List (S32)) × Int × Int)
  | 0, _, _, _, _ => none
  | k + 1, x0, x3, x4, x6 => if 0 ≤ x4 then (if x4 ≤ x6 then (if x6 ≤ (x0.size : Int) then ((ratlineref4_number.f k (x0.extract (x4 : Int).toNat (x6 : Int).toNat)).bind fun bt146 => (if x6 < (x0.size : Int) then (if 0 ≤ x6 then (ratlineref4_Tokens.j5 k x0 x3 x4 x6 bt146.2 ((bt x0 x6) == 105) 3 (⟨#[]⟩ : ByteArray) bt146.1 x4) else (none)) else (ratlineref4_Tokens.j5 k x0 x3 x4 x6 bt146.2 false 3 (⟨#[]⟩ : ByteArray) bt146.1 x4))) else (none)) else (none)) else (none)
def ratlineref4_Tokens.j5 : Nat → ByteArray → List (S32) → Int → Int → Bool → Bool → Int → ByteArray → Int → Int → Option ((List (S32)) × Int × Int)
  | 0, _, _, _, _, _, _, _, _, _, _ => none
  | k + 1, x0, x3, x4, x6, x8, x110, x149000, x149001, x149002, x149003 => if x110 = true then (if x8 = true then (if (wrap64 (x6 + 1)) < (x0.size : Int) then (if 0 ≤ (wrap64 (x6 + 1)) then ((ratlineref4_letter.f (bt x0 (wrap64 (x6 + 1)))).bind fun t149 => (if t149 = true then (some (([] : List (S32)), x4, 10)) else (if x3.length < 3518437208883 then (ratlineref4_Tokens.l0 k x0 (x3 ++ [(⟨4, x149001, x149002, x149003⟩ : S32)]) (wrap64 (x6 + 1))) else (none)))) else (none)) else (if x3.length < 3518437208883 then (ratlineref4_Tokens.l0 k x0 (x3 ++ [(⟨4, x149001, x149002, x149003⟩ : S32)]) (wrap64 (x6 + 1))) else (none))) else (some (([] : List (S32)), x4, 10))) else (if x8 = true then (if x6 < (x0.size : Int) then (if 0 ≤ x6 then ((ratlineref4_letter.f (bt x0 x6)).bind fun t156 => (if t156 = true then (some (([] : List (S32)), x4, 10)) else (if x3.length < 3518437208883 then (ratlineref4_Tokens.l0 k x0 (x3 ++ [(⟨x149000, x149001, x149002, x149003⟩ : S32)]) x6) else (none)))) else (none)) else (if x3.length < 3518437208883 then (ratlineref4_Tokens.l0 k x0 (x3 ++ [(⟨x149000, x149001, x149002, x149003⟩ : S32)]) x6) else (none))) else (some (([] : List (S32)), x4, 10)))
def ratlineref4_Tokens.l2 : Nat → ByteArray → List (S32) → Int → Int → Option ((List (S32)) × Int × Int)
  | 0, _, _, _, _ => none
  | k + 1, x0, x3, x4, x6 => if x6 < (x0.size : Int) then (if 0 ≤ x6 then ((ratlineref4_digit.f (bt x0 x6)).bind fun t145 => (if t145 = true then (ratlineref4_Tokens.l2 k x0 x3 x4 (wrap64 (x6 + 1))) else (ratlineref4_Tokens.j4 k x0 x3 x4 x6))) else (none)) else (ratlineref4_Tokens.j4 k x0 x3 x4 x6)
def ratlineref4_Tokens.j7 : Nat → ByteArray → List (S32) → Int → Int → Option ((List (S32)) × Int × Int)
  | 0, _, _, _, _ => none
  | k + 1, x0, x3, x4, x6 => if (wrap64 (x6 - x4)) > 16 then (some (([] : List (S32)), x4, 10)) else (if 0 ≤ x4 then (if x4 ≤ x6 then (if x6 ≤ (x0.size : Int) then ((ratlineref4_isWord.f k (x0.extract (x4 : Int).toNat (x6 : Int).toNat)).bind fun t165 => (if t165 = true then (if x3.length < 3518437208883 then (ratlineref4_Tokens.l0 k x0 (x3 ++ [(⟨2, x0.extract (x4 : Int).toNat (x6 : Int).toNat, 0, x4⟩ : S32)]) x6) else (none)) else (if x3.length < 3518437208883 then (ratlineref4_Tokens.l0 k x0 (x3 ++ [(⟨1, x0.extract (x4 : Int).toNat (x6 : Int).toNat, 0, x4⟩ : S32)]) x6) else (none)))) else (none)) else (none)) else (none))
def ratlineref4_Tokens.l3 : Nat → ByteArray → List (S32) → Int → Int → Option ((List (S32)) × Int × Int)
  | 0, _, _, _, _ => none
  | k + 1, x0, x3, x4, x6 => if x6 < (x0.size : Int) then (if 0 ≤ x6 then ((ratlineref4_letter.f (bt x0 x6)).bind fun t164 => (if t164 = true then (ratlineref4_Tokens.l3 k x0 x3 x4 (wrap64 (x6 + 1))) else (ratlineref4_Tokens.j7 k x0 x3 x4 x6))) else (none)) else (ratlineref4_Tokens.j7 k x0 x3 x4 x6)
end
def ratlineref4_Tokens.f (k : Nat) (a0 : ByteArray) : Option ((List (S32)) × Int × Int) := if (a0.size : Int) > 4000 then (some (([] : List (S32)), 0, 2)) else (ratlineref4_Tokens.l0 k a0 ([] : List (S32)) 0)
theorem ratlineref4_Tokens.mono_l : ∀ k, (∀ y0 y1 y2, LeO (ratlineref4_Tokens.l0 k y0 y1 y2) (ratlineref4_Tokens.l0 (k + 1) y0 y1 y2)) ∧ (∀ y0 y1 y2 y3 y4, LeO (ratlineref4_Tokens.j1 k y0 y1 y2 y3 y4) (ratlineref4_Tokens.j1 (k + 1) y0 y1 y2 y3 y4)) ∧ (∀ y0 y1 y2, LeO (ratlineref4_Tokens.l1 k y0 y1 y2) (ratlineref4_Tokens.l1 (k + 1) y0 y1 y2)) ∧ (∀ y0 y1 y2 y3, LeO (ratlineref4_Tokens.j4 k y0 y1 y2 y3) (ratlineref4_Tokens.j4 (k + 1) y0 y1 y2 y3)) ∧ (∀ y0 y1 y2 y3 y4 y5 y6 y7 y8 y9, LeO (ratlineref4_Tokens.j5 k y0 y1 y2 y3 y4 y5 y6 y7 y8 y9) (ratlineref4_Tokens.j5 (k + 1) y0 y1 y2 y3 y4 y5 y6 y7 y8 y9)) ∧ (∀ y0 y1 y2 y3, LeO (ratlineref4_Tokens.l2 k y0 y1 y2 y3) (ratlineref4_Tokens.l2 (k + 1) y0 y1 y2 y3)) ∧ (∀ y0 y1 y2 y3, LeO (ratlineref4_Tokens.j7 k y0 y1 y2 y3) (ratlineref4_Tokens.j7 (k + 1) y0 y1 y2 y3)) ∧ (∀ y0 y1 y2 y3, LeO (ratlineref4_Tokens.l3 k y0 y1 y2 y3) (ratlineref4_Tokens.l3 (k + 1) y0 y1 y2 y3))
  | 0 => ⟨fun _ _ _ r h => by simp [ratlineref4_Tokens.l0] at h, fun _ _ _ _ _ r h => by simp [ratlineref4_Tokens.j1] at h, fun _ _ _ r h => by simp [ratlineref4_Tokens.l1] at h, fun _ _ _ _ r h => by simp [ratlineref4_Tokens.j4] at h, fun _ _ _ _ _ _ _ _ _ _ r h => by simp [ratlineref4_Tokens.j5] at h, fun _ _ _ _ r h => by simp [ratlineref4_Tokens.l2] at h, fun _ _ _ _ r h => by simp [ratlineref4_Tokens.j7] at h, fun _ _ _ _ r h => by simp [ratlineref4_Tokens.l3] at h⟩
  | k + 1 => by
    obtain ⟨ih0, ih1, ih2, ih3, ih4, ih5, ih6, ih7⟩ := ratlineref4_Tokens.mono_l k
    refine ⟨?_, ?_, ?_, ?_, ?_, ?_, ?_, ?_⟩
    · intro y0 y1 y2
      unfold ratlineref4_Tokens.l0
      repeat' first
      | (with_reducible exact ih0 _ _ _)
      | (with_reducible exact ih1 _ _ _ _ _)
      | (with_reducible exact ih2 _ _ _)
      | (with_reducible exact ih3 _ _ _ _)
      | (with_reducible exact ih4 _ _ _ _ _ _ _ _ _ _)
      | (with_reducible exact ih5 _ _ _ _)
      | (with_reducible exact ih6 _ _ _ _)
      | (with_reducible exact ih7 _ _ _ _)
      | (with_reducible exact ratlineref4_isWord.mono _ _)
      | (with_reducible exact ratlineref4_number.mono _ _)
      | (with_reducible exact ratlineref4_op.mono _ _)
      | (with_reducible exact ratlineref4_text.mono _ _ _)
      | (with_reducible exact LeO.refl _)
      | (with_reducible exact LeO.none _)
      | (with_reducible refine LeO.ite ?_ ?_)
      | (with_reducible refine LeO.bind ?_ (fun _ => ?_))
      | exact ih0 _ _ _
      | exact ih1 _ _ _ _ _
      | exact ih2 _ _ _
      | exact ih3 _ _ _ _
      | exact ih4 _ _ _ _ _ _ _ _ _ _
      | exact ih5 _ _ _ _
      | exact ih6 _ _ _ _
      | exact ih7 _ _ _ _
      | exact ratlineref4_isWord.mono _ _
      | exact ratlineref4_number.mono _ _
      | exact ratlineref4_op.mono _ _
      | exact ratlineref4_text.mono _ _ _
      | exact LeO.none _
      | refine LeO.ite ?_ ?_
      | refine LeO.bind ?_ (fun _ => ?_)
    · intro y0 y1 y2 y3 y4
      unfold ratlineref4_Tokens.j1
      repeat' first
      | (with_reducible exact ih0 _ _ _)
      | (with_reducible exact ih1 _ _ _ _ _)
      | (with_reducible exact ih2 _ _ _)
      | (with_reducible exact ih3 _ _ _ _)
      | (with_reducible exact ih4 _ _ _ _ _ _ _ _ _ _)
      | (with_reducible exact ih5 _ _ _ _)
      | (with_reducible exact ih6 _ _ _ _)
      | (with_reducible exact ih7 _ _ _ _)
      | (with_reducible exact ratlineref4_isWord.mono _ _)
      | (with_reducible exact ratlineref4_number.mono _ _)
      | (with_reducible exact ratlineref4_op.mono _ _)
      | (with_reducible exact ratlineref4_text.mono _ _ _)
      | (with_reducible exact LeO.refl _)
      | (with_reducible exact LeO.none _)
      | (with_reducible refine LeO.ite ?_ ?_)
      | (with_reducible refine LeO.bind ?_ (fun _ => ?_))
      | exact ih0 _ _ _
      | exact ih1 _ _ _ _ _
      | exact ih2 _ _ _
      | exact ih3 _ _ _ _
      | exact ih4 _ _ _ _ _ _ _ _ _ _
      | exact ih5 _ _ _ _
      | exact ih6 _ _ _ _
      | exact ih7 _ _ _ _
      | exact ratlineref4_isWord.mono _ _
      | exact ratlineref4_number.mono _ _
      | exact ratlineref4_op.mono _ _
      | exact ratlineref4_text.mono _ _ _
      | exact LeO.none _
      | refine LeO.ite ?_ ?_
      | refine LeO.bind ?_ (fun _ => ?_)
    · intro y0 y1 y2
      unfold ratlineref4_Tokens.l1
      repeat' first
      | (with_reducible exact ih0 _ _ _)
      | (with_reducible exact ih1 _ _ _ _ _)
      | (with_reducible exact ih2 _ _ _)
      | (with_reducible exact ih3 _ _ _ _)
      | (with_reducible exact ih4 _ _ _ _ _ _ _ _ _ _)
      | (with_reducible exact ih5 _ _ _ _)
      | (with_reducible exact ih6 _ _ _ _)
      | (with_reducible exact ih7 _ _ _ _)
      | (with_reducible exact ratlineref4_isWord.mono _ _)
      | (with_reducible exact ratlineref4_number.mono _ _)
      | (with_reducible exact ratlineref4_op.mono _ _)
      | (with_reducible exact ratlineref4_text.mono _ _ _)
      | (with_reducible exact LeO.refl _)
      | (with_reducible exact LeO.none _)
      | (with_reducible refine LeO.ite ?_ ?_)
      | (with_reducible refine LeO.bind ?_ (fun _ => ?_))
      | exact ih0 _ _ _
      | exact ih1 _ _ _ _ _
      | exact ih2 _ _ _
      | exact ih3 _ _ _ _
      | exact ih4 _ _ _ _ _ _ _ _ _ _
      | exact ih5 _ _ _ _
      | exact ih6 _ _ _ _
      | exact ih7 _ _ _ _
      | exact ratlineref4_isWord.mono _ _
      | exact ratlineref4_number.mono _ _
      | exact ratlineref4_op.mono _ _
      | exact ratlineref4_text.mono _ _ _
      | exact LeO.none _
      | refine LeO.ite ?_ ?_
      | refine LeO.bind ?_ (fun _ => ?_)
    · intro y0 y1 y2 y3
      unfold ratlineref4_Tokens.j4
      repeat' first
      | (with_reducible exact ih0 _ _ _)
      | (with_reducible exact ih1 _ _ _ _ _)
      | (with_reducible exact ih2 _ _ _)
      | (with_reducible exact ih3 _ _ _ _)
      | (with_reducible exact ih4 _ _ _ _ _ _ _ _ _ _)
      | (with_reducible exact ih5 _ _ _ _)
      | (with_reducible exact ih6 _ _ _ _)
      | (with_reducible exact ih7 _ _ _ _)
      | (with_reducible exact ratlineref4_isWord.mono _ _)
      | (with_reducible exact ratlineref4_number.mono _ _)
      | (with_reducible exact ratlineref4_op.mono _ _)
      | (with_reducible exact ratlineref4_text.mono _ _ _)
      | (with_reducible exact LeO.refl _)
      | (with_reducible exact LeO.none _)
      | (with_reducible refine LeO.ite ?_ ?_)
      | (with_reducible refine LeO.bind ?_ (fun _ => ?_))
      | exact ih0 _ _ _
      | exact ih1 _ _ _ _ _
      | exact ih2 _ _ _
      | exact ih3 _ _ _ _
      | exact ih4 _ _ _ _ _ _ _ _ _ _
      | exact ih5 _ _ _ _
      | exact ih6 _ _ _ _
      | exact ih7 _ _ _ _
      | exact ratlineref4_isWord.mono _ _
      | exact ratlineref4_number.mono _ _
      | exact ratlineref4_op.mono _ _
      | exact ratlineref4_text.mono _ _ _
      | exact LeO.none _
      | refine LeO.ite ?_ ?_
      | refine LeO.bind ?_ (fun _ => ?_)
    · intro y0 y1 y2 y3 y4 y5 y6 y7 y8 y9
      unfold ratlineref4_Tokens.j5
      repeat' first
      | (with_reducible exact ih0 _ _ _)
      | (with_reducible exact ih1 _ _ _ _ _)
      | (with_reducible exact ih2 _ _ _)
      | (with_reducible exact ih3 _ _ _ _)
      | (with_reducible exact ih4 _ _ _ _ _ _ _ _ _ _)
      | (with_reducible exact ih5 _ _ _ _)
      | (with_reducible exact ih6 _ _ _ _)
      | (with_reducible exact ih7 _ _ _ _)
      | (with_reducible exact ratlineref4_isWord.mono _ _)
      | (with_reducible exact ratlineref4_number.mono _ _)
      | (with_reducible exact ratlineref4_op.mono _ _)
      | (with_reducible exact ratlineref4_text.mono _ _ _)
      | (with_reducible exact LeO.refl _)
      | (with_reducible exact LeO.none _)
      | (with_reducible refine LeO.ite ?_ ?_)
      | (with_reducible refine LeO.bind ?_ (fun _ => ?_))
      | exact ih0 _ _ _
      | exact ih1 _ _ _ _ _
      | exact ih2 _ _ _
      | exact ih3 _ _ _ _
      | exact ih4 _ _ _ _ _ _ _ _ _ _
      | exact ih5 _ _ _ _
      | exact ih6 _ _ _ _
      | exact ih7 _ _ _ _
      | exact ratlineref4_isWord.mono _ _
      | exact ratlineref4_number.mono _ _
      | exact ratlineref4_op.mono _ _
      | exact ratlineref4_text.mono _ _ _
      | exact LeO.none _
      | refine LeO.ite ?_ ?_
      | refine LeO.bind ?_ (fun _ => ?_)
    · intro y0 y1 y2 y3
      unfold ratlineref4_Tokens.l2
      repeat' first
      | (with_reducible exact ih0 _ _ _)
      | (with_reducible exact ih1 _ _ _ _ _)
      | (with_reducible exact ih2 _ _ _)
      | (with_reducible exact ih3 _ _ _ _)
      | (with_reducible exact ih4 _ _ _ _ _ _ _ _ _ _)
      | (with_reducible exact ih5 _ _ _ _)
      | (with_reducible exact ih6 _ _ _ _)
      | (with_reducible exact ih7 _ _ _ _)
      | (with_reducible exact ratlineref4_isWord.mono _ _)
      | (with_reducible exact ratlineref4_number.mono _ _)
      | (with_reducible exact ratlineref4_op.mono _ _)
      | (with_reducible exact ratlineref4_text.mono _ _ _)
      | (with_reducible exact LeO.refl _)
      | (with_reducible exact LeO.none _)
      | (with_reducible refine LeO.ite ?_ ?_)
      | (with_reducible refine LeO.bind ?_ (fun _ => ?_))
      | exact ih0 _ _ _
      | exact ih1 _ _ _ _ _
      | exact ih2 _ _ _
      | exact ih3 _ _ _ _
      | exact ih4 _ _ _ _ _ _ _ _ _ _
      | exact ih5 _ _ _ _
      | exact ih6 _ _ _ _
      | exact ih7 _ _ _ _
      | exact ratlineref4_isWord.mono _ _
      | exact ratlineref4_number.mono _ _
      | exact ratlineref4_op.mono _ _
      | exact ratlineref4_text.mono _ _ _
      | exact LeO.none _
      | refine LeO.ite ?_ ?_
      | refine LeO.bind ?_ (fun _ => ?_)
    · intro y0 y1 y2 y3
      unfold ratlineref4_Tokens.j7
      repeat' first
      | (with_reducible exact ih0 _ _ _)
      | (with_reducible exact ih1 _ _ _ _ _)
      | (with_reducible exact ih2 _ _ _)
      | (with_reducible exact ih3 _ _ _ _)
      | (with_reducible exact ih4 _ _ _ _ _ _ _ _ _ _)
      | (with_reducible exact ih5 _ _ _ _)
      | (with_reducible exact ih6 _ _ _ _)
      | (with_reducible exact ih7 _ _ _ _)
      | (with_reducible exact ratlineref4_isWord.mono _ _)
      | (with_reducible exact ratlineref4_number.mono _ _)
      | (with_reducible exact ratlineref4_op.mono _ _)
      | (with_reducible exact ratlineref4_text.mono _ _ _)
      | (with_reducible exact LeO.refl _)
      | (with_reducible exact LeO.none _)
      | (with_reducible refine LeO.ite ?_ ?_)
      | (with_reducible refine LeO.bind ?_ (fun _ => ?_))
      | exact ih0 _ _ _
      | exact ih1 _ _ _ _ _
      | exact ih2 _ _ _
      | exact ih3 _ _ _ _
      | exact ih4 _ _ _ _ _ _ _ _ _ _
      | exact ih5 _ _ _ _
      | exact ih6 _ _ _ _
      | exact ih7 _ _ _ _
      | exact ratlineref4_isWord.mono _ _
      | exact ratlineref4_number.mono _ _
      | exact ratlineref4_op.mono _ _
      | exact ratlineref4_text.mono _ _ _
      | exact LeO.none _
      | refine LeO.ite ?_ ?_
      | refine LeO.bind ?_ (fun _ => ?_)
    · intro y0 y1 y2 y3
      unfold ratlineref4_Tokens.l3
      repeat' first
      | (with_reducible exact ih0 _ _ _)
      | (with_reducible exact ih1 _ _ _ _ _)
      | (with_reducible exact ih2 _ _ _)
      | (with_reducible exact ih3 _ _ _ _)
      | (with_reducible exact ih4 _ _ _ _ _ _ _ _ _ _)
      | (with_reducible exact ih5 _ _ _ _)
      | (with_reducible exact ih6 _ _ _ _)
      | (with_reducible exact ih7 _ _ _ _)
      | (with_reducible exact ratlineref4_isWord.mono _ _)
      | (with_reducible exact ratlineref4_number.mono _ _)
      | (with_reducible exact ratlineref4_op.mono _ _)
      | (with_reducible exact ratlineref4_text.mono _ _ _)
      | (with_reducible exact LeO.refl _)
      | (with_reducible exact LeO.none _)
      | (with_reducible refine LeO.ite ?_ ?_)
      | (with_reducible refine LeO.bind ?_ (fun _ => ?_))
      | exact ih0 _ _ _
      | exact ih1 _ _ _ _ _
      | exact ih2 _ _ _
      | exact ih3 _ _ _ _
      | exact ih4 _ _ _ _ _ _ _ _ _ _
      | exact ih5 _ _ _ _
      | exact ih6 _ _ _ _
      | exact ih7 _ _ _ _
      | exact ratlineref4_isWord.mono _ _
      | exact ratlineref4_number.mono _ _
      | exact ratlineref4_op.mono _ _
      | exact ratlineref4_text.mono _ _ _
      | exact LeO.none _
      | refine LeO.ite ?_ ?_
      | refine LeO.bind ?_ (fun _ => ?_)
theorem ratlineref4_Tokens.mono : ∀ a0 k, LeO (ratlineref4_Tokens.f k a0) (ratlineref4_Tokens.f (k + 1) a0) := by
  intro a0 k
  obtain ⟨ih0, ih1, ih2, ih3, ih4, ih5, ih6, ih7⟩ := ratlineref4_Tokens.mono_l k
  unfold ratlineref4_Tokens.f
  repeat' first
      | (with_reducible exact ih0 _ _ _)
      | (with_reducible exact ih1 _ _ _ _ _)
      | (with_reducible exact ih2 _ _ _)
      | (with_reducible exact ih3 _ _ _ _)
      | (with_reducible exact ih4 _ _ _ _ _ _ _ _ _ _)
      | (with_reducible exact ih5 _ _ _ _)
      | (with_reducible exact ih6 _ _ _ _)
      | (with_reducible exact ih7 _ _ _ _)
      | (with_reducible exact ratlineref4_isWord.mono _ _)
      | (with_reducible exact ratlineref4_number.mono _ _)
      | (with_reducible exact ratlineref4_op.mono _ _)
      | (with_reducible exact ratlineref4_text.mono _ _ _)
      | (with_reducible exact LeO.refl _)
      | (with_reducible exact LeO.none _)
      | (with_reducible refine LeO.ite ?_ ?_)
      | (with_reducible refine LeO.bind ?_ (fun _ => ?_))
      | exact ih0 _ _ _
      | exact ih1 _ _ _ _ _
      | exact ih2 _ _ _
      | exact ih3 _ _ _ _
      | exact ih4 _ _ _ _ _ _ _ _ _ _
      | exact ih5 _ _ _ _
      | exact ih6 _ _ _ _
      | exact ih7 _ _ _ _
      | exact ratlineref4_isWord.mono _ _
      | exact ratlineref4_number.mono _ _
      | exact ratlineref4_op.mono _ _
      | exact ratlineref4_text.mono _ _ _
      | exact LeO.none _
      | refine LeO.ite ?_ ?_
      | refine LeO.bind ?_ (fun _ => ?_)
set_option maxHeartbeats 8000000 in
set_option maxRecDepth 100000 in
theorem ratlineref4_Tokens.calls (k : Nat) (a0 : ByteArray) (r1 : List (S32)) (r2 : Int) (r3 : Int) (w : World) (h : ratlineref4_Tokens.f k a0 = some (r1, r2, r3)) :
    Calls Tryd.prog 9 #[.string a0] w fun e w' => ∃ v0_ : Value, e = .returned (.agg #[v0_, .int .i64 r2, .int .i64 r3]) ∧ Kd.R k32 32 w' w.heap.size (fun _ => True) v0_ r1 ∧ Below w.heap.size w w' := by
  have hu28 := Tryd.underlying28
  have hu32 := Tryd.underlying32
  have HB := Aside0.mk (Below.refl w.heap.size w)
  have H : (if (a0.size : Int) > 4000 then (some (([] : List (S32)), 0, 2)) else (ratlineref4_Tokens.l0 k a0 ([] : List (S32)) 0)) = some (r1, r2, r3) := h
  clear h
  by_cases c2 : (a0.size : Int) > 4000
  · rw [if_pos c2] at H
    have c2b0 : decide (4000 < (a0.size : Int)) = true := decide_eq_true c2
    have c2b1 : decide (4000 < a0.size) = true := decide_eq_true (by omega)
    clear c2
    simp only [Option.some.injEq, Prod.mk.injEq] at H
    obtain ⟨rfl, rfl, rfl⟩ := H
    go_enter Tryd.func9, Tryd.ntmps9
    go_wp2_with (first | ((with_reducible refine gate_dst (N := 2) rfl ?_); (try (refine gate_guard (by rfl) ?_; dsimp only)); refine box_event ?hg (N := 2) ?hd (cs := #[.slice none 0 0, .int .i64 0, .int .i64 0]) (t := 28) ?hr ?_; (case hd => rfl); (case hg => rfl); (case hr => first | (go_simp; done) | (go_simp; rfl)); intro gb143 hg w3 hbox hb; have n0_ := Aside0.mk (below_step (by repeat (first | (with_reducible first | exact HB.out | apply below_alloc | apply pw_below_drewN | apply below_drew1) | exact HB.out)) hb); have n1_ := Aside0.mk (hbox); have n2_ := Aside0.mk ((by rw [hg]; exact (below_size (by repeat (first | (with_reducible first | exact HB.out | apply below_alloc | apply pw_below_drewN | apply below_drew1) | exact HB.out))) : w.heap.size ≤ gb143)); have n3_ := Aside0.mk ((by rw [hg]; exact (below_size (by repeat (first | (with_reducible first | exact HB.out | apply below_alloc | apply pw_below_drewN | apply below_drew1) | exact HB.out))) : w.heap.size ≤ gb143)); clear HB; have HB := n0_; have BK143 := n1_; have GW143 := n2_; have GE143 := n3_; clear n0_ n1_ n2_ n3_; clear hb hbox hg; have hcz4_0 : w3.cell? ⟨gb143, 0, none⟩ = some (.slice none 0 0) := (blk_cell BK143.out 0).trans rfl; have hcz4_1 : w3.cell? ⟨gb143, 1, none⟩ = some (.int .i64 0) := (blk_cell BK143.out 1).trans rfl; have hcz4_2 : w3.cell? ⟨gb143, 2, none⟩ = some (.int .i64 0) := (blk_cell BK143.out 2).trans rfl; have hfz4_0 := blk_frozen BK143.out 0; have hfz4_1 := blk_frozen BK143.out 1; have hfz4_2 := blk_frozen BK143.out 2))
    refine bodyPost_ret (results_cell_row rfl _ _ gb143 28 #[.slice none 0 0, .int .i64 0, .int .i64 2] (0, 0) _ rfl (by (with_reducible repeat (first | refine blk_drewN ?_ _ | refine blk_drew ?_ | refine blk_alloc ?_ _)); refine blk_put (cs := #[.slice none 0 0, .int .i64 0, .int .i64 0]) ?_ 2 _ rfl; (with_reducible repeat (first | refine blk_drewN ?_ _ | refine blk_drew ?_ | refine blk_alloc ?_ _)); refine blk_put (cs := #[.slice none 0 0, .int .i64 0, .int .i64 0]) ?_ 1 _ rfl; (with_reducible repeat (first | refine blk_drewN ?_ _ | refine blk_drew ?_ | refine blk_alloc ?_ _)); refine blk_put (cs := #[.slice none 0 0, .int .i64 0, .int .i64 0]) ?_ 0 _ rfl; (with_reducible repeat (first | refine blk_drewN ?_ _ | refine blk_drew ?_ | refine blk_alloc ?_ _)); exact BK143.out) Tryd.underlying28 rfl (by kernel_rfl)) rfl ?_
    exact ⟨_, by first | rfl | (simp [errW_none, errW_some] <;> rfl) | (simp [*, errW_none, errW_some] <;> rfl), by first | exact Kd.R_nil _ _ _ _ _ | exact Kd.N_nil _ _ _ _ _ | exact Kd.V_nil _ _ _ _ _ | exact Kd.Q_nil _ _ _ _ _ | exact Kd.S_nil _ _ _ _ _, by repeat (first | (with_reducible first | exact HB.out | apply below_alloc | apply pw_below_drewN | apply below_drew1 | refine below_set ?_ GE143.out) | exact HB.out)⟩
  · rw [if_neg c2] at H
    have c2b0 : decide (4000 < (a0.size : Int)) = false := decide_eq_false c2
    have c2b1 : decide (4000 < a0.size) = false := decide_eq_false (by omega)
    clear c2
    have H' := Aside0.mk H
    clear H
    go_enter Tryd.func9, Tryd.ntmps9
    go_wp2_with (first | ((with_reducible refine gate_dst (N := 2) rfl ?_); (try (refine gate_guard (by rfl) ?_; dsimp only)); refine box_event ?hg (N := 2) ?hd (cs := #[.slice none 0 0, .int .i64 0, .int .i64 0]) (t := 28) ?hr ?_; (case hd => rfl); (case hg => rfl); (case hr => first | (go_simp; done) | (go_simp; rfl)); intro gb143 hg w5 hbox hb; have n0_ := Aside0.mk (below_step (by repeat (first | (with_reducible first | exact HB.out | apply below_alloc | apply pw_below_drewN | apply below_drew1) | exact HB.out)) hb); have n1_ := Aside0.mk (hbox); have n2_ := Aside0.mk ((by rw [hg]; exact (below_size (by repeat (first | (with_reducible first | exact HB.out | apply below_alloc | apply pw_below_drewN | apply below_drew1) | exact HB.out))) : w.heap.size ≤ gb143)); have n3_ := Aside0.mk ((by rw [hg]; exact (below_size (by repeat (first | (with_reducible first | exact HB.out | apply below_alloc | apply pw_below_drewN | apply below_drew1) | exact HB.out))) : w.heap.size ≤ gb143)); clear HB; have HB := n0_; have BK143 := n1_; have GW143 := n2_; have GE143 := n3_; clear n0_ n1_ n2_ n3_; clear hb hbox hg))
    go_loopg [3, 4] k (fun kq v3 v4 w' => ∃ (x3_1 : List (S32)) (x4_1 : Int) (x144001_1 : Int) (x144002_1 : Int), v4 = .int .i64 x4_1 ∧ Aside0 (ratlineref4_Tokens.l0 kq a0 x3_1 x4_1 = some (r1, r2, r3)) ∧ Aside0 (kq ≤ k) ∧ Aside0 (Kd.R k32 32 w' w.heap.size (fun _ => True) v3 x3_1) ∧ Aside0 (w'.heap[gb143]? = some (.cells #[(.slice none 0 0), .int .i64 x144001_1, .int .i64 x144002_1] 28 (0, 0))) ∧ Aside0 (Below w.heap.size w w'))
    case atStart => exact ⟨(([] : List (S32))), (0), (0), (0), (by first | rfl | (simp; done) | (simp [*]; done)), H', ⟨Nat.le_refl _⟩, ⟨by first | exact Kd.R_nil _ _ _ _ _ | exact Kd.N_nil _ _ _ _ _ | exact Kd.V_nil _ _ _ _ _ | exact Kd.Q_nil _ _ _ _ _ | exact Kd.S_nil _ _ _ _ _⟩, ⟨by (with_reducible repeat (first | refine blk_drewN ?_ _ | refine blk_drew ?_ | refine blk_alloc ?_ _)); exact BK143.out⟩, ⟨by repeat (first | (with_reducible first | exact HB.out | apply below_alloc | apply pw_below_drewN | apply below_drew1 | refine below_set ?_ GE143.out) | exact HB.out)⟩⟩
    case round => as_aux_lemma =>
      clear H'
      try clear c2
      try clear c2b0
      try clear c2b1
      try clear p2
      try clear hcz4_0
      try clear hcz4_1
      try clear hcz4_2
      try clear hfz4_0
      try clear hfz4_1
      try clear hfz4_2
      obtain ⟨x3_1, x4_1, x144001_1, x144002_1, rfl, HA, HK1, HO_3, BK143, HB⟩ := hrel
      cases gk with
      | zero => exact absurd HA.out (by simp [ratlineref4_Tokens.l0])
      | succ k1 =>
        have H := HA.out
        clear HA
        simp only [ratlineref4_Tokens.l0] at H
        by_cases c6 : x4_1 < (a0.size : Int)
        · rw [if_pos c6] at H
          have c6b0 : decide (x4_1 < (a0.size : Int)) = true := decide_eq_true c6
          clear c6
          by_cases c7 : 0 ≤ x4_1
          · rw [if_pos c7] at H
            have c7b0 : decide (0 ≤ x4_1) = true := decide_eq_true c7
            clear c7
            have HC9 := Aside0.mk H
            clear H
            have p8 : 0 ≤ (x4_1 : Int) := of_decide_eq_true (by first | (with_reducible assumption) | assumption)
            have q8 : x4_1 < (a0.size : Int) := of_decide_eq_true (by first | (with_reducible assumption) | assumption)
            have hx8 := bt_at a0 x4_1
            replace p8 := eq_true p8
            replace q8 := eq_true q8
            go_upto_region 7 with (fail)
            go_cut [39] (fun v39 wc => ∃ (kq : Nat) (x39_8 : Bool), v39 = .bool x39_8 ∧ Aside0 (ratlineref4_Tokens.j1 kq a0 x3_1 x4_1 (bt a0 x4_1) x39_8 = some (r1, r2, r3)) ∧ Aside0 (kq ≤ k1) ∧ Aside0 (Kd.R k32 32 wc w.heap.size (fun _ => True) u3 x3_1) ∧ Aside0 (wc.heap[gb143]? = some (.cells #[(.slice none 0 0), .int .i64 x144001_1, .int .i64 x144002_1] 28 (0, 0))) ∧ Aside0 (Below w.heap.size w wc))
            case first => as_aux_lemma =>
              have H := HC9.out
              clear HC9
              by_cases c10 : (bt a0 x4_1) = 32
              · rw [if_pos c10] at H
                have c10b0 : ((bt a0 x4_1) == 32) = true := beq_iff_eq.mpr c10
                have c10b1 : ((bt a0 x4_1) != 32) = false := bne_eq_false_iff_eq.mpr c10
                clear c10
                (first | rw [c10b0] | (simp only [i64_w, i32_w]; rw [c10b0]) | skip)
                have H' := Aside0.mk H
                clear H
                go_wp2
                go_meet
                case rel => exact ⟨_, (true), (by first | rfl | (simp; done) | (simp [*]; done)), H', ⟨by have := HK1.out; first | omega | exact Nat.le_refl _⟩, ⟨by (with_reducible repeat (first | apply Kd.R_alloc | apply Kd.R_drewN | apply Kd.R_drew)); exact HO_3.out⟩, ⟨by (with_reducible repeat (first | refine blk_drewN ?_ _ | refine blk_drew ?_ | refine blk_alloc ?_ _)); exact BK143.out⟩, ⟨by repeat (first | (with_reducible first | exact HB.out | apply below_alloc | apply pw_below_drewN | apply below_drew1 | refine below_set ?_ GE143.out) | exact HB.out)⟩⟩
              · rw [if_neg c10] at H
                have c10b0 : ((bt a0 x4_1) == 32) = false := beq_eq_false_iff_ne.mpr c10
                have c10b1 : ((bt a0 x4_1) != 32) = true := bne_iff_ne.mpr c10
                (first | rw [c10b0] | (simp only [i64_w, i32_w]; rw [c10b0]) | skip)
                by_cases c11 : (bt a0 x4_1) = 9
                · rw [if_pos c11] at H
                  have c11b0 : ((bt a0 x4_1) == 9) = true := beq_iff_eq.mpr c11
                  have c11b1 : ((bt a0 x4_1) != 9) = false := bne_eq_false_iff_eq.mpr c11
                  clear c11
                  have H' := Aside0.mk H
                  clear H
                  go_wp2
                  go_meet
                  case rel => exact ⟨_, (true), (by first | rfl | (simp; done) | (simp [*]; done)), H', ⟨by have := HK1.out; first | omega | exact Nat.le_refl _⟩, ⟨by (with_reducible repeat (first | apply Kd.R_alloc | apply Kd.R_drewN | apply Kd.R_drew)); exact HO_3.out⟩, ⟨by (with_reducible repeat (first | refine blk_drewN ?_ _ | refine blk_drew ?_ | refine blk_alloc ?_ _)); exact BK143.out⟩, ⟨by repeat (first | (with_reducible first | exact HB.out | apply below_alloc | apply pw_below_drewN | apply below_drew1 | refine below_set ?_ GE143.out) | exact HB.out)⟩⟩
                · rw [if_neg c11] at H
                  have c11b0 : ((bt a0 x4_1) == 9) = false := beq_eq_false_iff_ne.mpr c11
                  have c11b1 : ((bt a0 x4_1) != 9) = true := bne_iff_ne.mpr c11
                  by_cases c12 : (bt a0 x4_1) = 10
                  · rw [if_pos c12] at H
                    have c12b0 : ((bt a0 x4_1) == 10) = true := beq_iff_eq.mpr c12
                    have c12b1 : ((bt a0 x4_1) != 10) = false := bne_eq_false_iff_eq.mpr c12
                    clear c12
                    have H' := Aside0.mk H
                    clear H
                    go_wp2
                    go_meet
                    case rel => exact ⟨_, (true), (by first | rfl | (simp; done) | (simp [*]; done)), H', ⟨by have := HK1.out; first | omega | exact Nat.le_refl _⟩, ⟨by (with_reducible repeat (first | apply Kd.R_alloc | apply Kd.R_drewN | apply Kd.R_drew)); exact HO_3.out⟩, ⟨by (with_reducible repeat (first | refine blk_drewN ?_ _ | refine blk_drew ?_ | refine blk_alloc ?_ _)); exact BK143.out⟩, ⟨by repeat (first | (with_reducible first | exact HB.out | apply below_alloc | apply pw_below_drewN | apply below_drew1 | refine below_set ?_ GE143.out) | exact HB.out)⟩⟩
                  · rw [if_neg c12] at H
                    have c12b0 : ((bt a0 x4_1) == 10) = false := beq_eq_false_iff_ne.mpr c12
                    have c12b1 : ((bt a0 x4_1) != 10) = true := bne_iff_ne.mpr c12
                    have H' := Aside0.mk H
                    clear H
                    go_wp2
                    go_meet
                    case rel => exact ⟨_, (((bt a0 x4_1) == 13)), (by first | rfl | (simp; done) | (simp [*]; done)), H', ⟨by have := HK1.out; first | omega | exact Nat.le_refl _⟩, ⟨by (with_reducible repeat (first | apply Kd.R_alloc | apply Kd.R_drewN | apply Kd.R_drew)); exact HO_3.out⟩, ⟨by (with_reducible repeat (first | refine blk_drewN ?_ _ | refine blk_drew ?_ | refine blk_alloc ?_ _)); exact BK143.out⟩, ⟨by repeat (first | (with_reducible first | exact HB.out | apply below_alloc | apply pw_below_drewN | apply below_drew1 | refine below_set ?_ GE143.out) | exact HB.out)⟩⟩
            case rest => as_aux_lemma =>
              clear HC9
              try clear c1
              try clear c2
              try clear c2b0
              try clear c2b1
              try clear p2
              try clear c6
              try clear c6b0
              try clear c7
              try clear c7b0
              try clear p8
              try clear q8
              try clear hx8
              try clear c9
              try clear c10
              try clear c10b0
              try clear c10b1
              try clear c11
              try clear c11b0
              try clear c11b1
              try clear c12
              try clear c12b0
              try clear c12b1
              try clear hcz4_0
              try clear hcz4_1
              try clear hcz4_2
              try clear hfz4_0
              try clear hfz4_1
              try clear hfz4_2
              try clear p2
              try clear p8
              try clear q8
              obtain ⟨kq, x39_8, rfl, HA, HJ8, HO_3, BK143, HB⟩ := hcut
              cases kq with
              | zero => exact absurd HA.out (by simp [ratlineref4_Tokens.j1])
              | succ kj8 =>
                have H := HA.out
                clear HA
                simp only [ratlineref4_Tokens.j1] at H
                by_cases c13 : x39_8 = true
                · subst c13
                  have H1 : (ratlineref4_Tokens.l0 kj8 a0 x3_1 (wrap64 (x4_1 + 1))) = some (r1, r2, r3) := by rw [if_pos rfl] at H; exact H
                  clear H
                  have H := H1
                  clear H1
                  have H' := Aside0.mk H
                  clear H
                  go_wp2
                  go_roundg kj8
                  case measure => have := HK1.out; have := HJ8.out; omega
                  case rel => exact ⟨(x3_1), (wrap64 (x4_1 + 1)), (x144001_1), (x144002_1), (by first | rfl | (simp; done) | (simp [*]; done)), H', ⟨by have := HK1.out; have := HJ8.out; omega⟩, ⟨by (with_reducible repeat (first | apply Kd.R_alloc | apply Kd.R_drewN | apply Kd.R_drew)); exact HO_3.out⟩, ⟨by (with_reducible repeat (first | refine blk_drewN ?_ _ | refine blk_drew ?_ | refine blk_alloc ?_ _)); exact BK143.out⟩, ⟨by repeat (first | (with_reducible first | exact HB.out | apply below_alloc | apply pw_below_drewN | apply below_drew1 | refine below_set ?_ GE143.out) | exact HB.out)⟩⟩
                · replace c13 := Bool.eq_false_iff.mpr c13
                  subst c13
                  have H1 : (if (bt a0 x4_1) = 35 then (ratlineref4_Tokens.l1 kj8 a0 x3_1 x4_1) else ((ratlineref4_digit.f (bt a0 x4_1)).bind fun t144 => (if t144 = true then (ratlineref4_Tokens.l2 kj8 a0 x3_1 x4_1 x4_1) else ((ratlineref4_letter.f (bt a0 x4_1)).bind fun t163 => (if t163 = true then (ratlineref4_Tokens.l3 kj8 a0 x3_1 x4_1 x4_1) else (if (bt a0 x4_1) = 34 then ((ratlineref4_text.f kj8 a0 x4_1).bind fun bt172 => (if bt172.2.2 = true then (if x3_1.length < 3518437208883 then (ratlineref4_Tokens.l0 kj8 a0 (x3_1 ++ [(⟨5, bt172.1, 0, x4_1⟩ : S32)]) bt172.2.1) else (none)) else (some (([] : List (S32)), x4_1, 10)))) else (if 0 ≤ x4_1 then (if x4_1 ≤ (a0.size : Int) then ((ratlineref4_op.f kj8 (a0.extract (x4_1 : Int).toNat a0.size)).bind fun t178 => (if t178.toList = ([] : List UInt8) then (some (([] : List (S32)), x4_1, 10)) else (if x3_1.length < 3518437208883 then (ratlineref4_Tokens.l0 kj8 a0 (x3_1 ++ [(⟨6, t178, 0, x4_1⟩ : S32)]) (wrap64 (x4_1 + (t178.size : Int)))) else (none)))) else (none)) else (none)))))))) = some (r1, r2, r3) := by rw [if_neg (show ¬ (false = true) by decide)] at H; exact H
                  clear H
                  have H := H1
                  clear H1
                  by_cases c14 : (bt a0 x4_1) = 35
                  · rw [if_pos c14] at H
                    have c14b0 : ((bt a0 x4_1) == 35) = true := beq_iff_eq.mpr c14
                    have c14b1 : ((bt a0 x4_1) != 35) = false := bne_eq_false_iff_eq.mpr c14
                    clear c14
                    have H' := Aside0.mk H
                    clear H
                    go_wp2
                    go_loopg [4] kj8 (fun kq v4 w' => ∃ (x4_3 : Int), v4 = .int .i64 x4_3 ∧ Aside0 (ratlineref4_Tokens.l1 kq a0 x3_1 x4_3 = some (r1, r2, r3)) ∧ Aside0 (kq ≤ kj8) ∧ Aside0 (Kd.R k32 32 w' w.heap.size (fun _ => True) u3 x3_1) ∧ Aside0 (w'.heap[gb143]? = some (.cells #[(.slice none 0 0), .int .i64 x144001_1, .int .i64 x144002_1] 28 (0, 0))) ∧ Aside0 (Below w.heap.size w w'))
                    case atStart => exact ⟨(x4_1), (by first | rfl | (simp; done) | (simp [*]; done)), H', ⟨Nat.le_refl _⟩, ⟨by (with_reducible repeat (first | apply Kd.R_alloc | apply Kd.R_drewN | apply Kd.R_drew)); exact HO_3.out⟩, ⟨by (with_reducible repeat (first | refine blk_drewN ?_ _ | refine blk_drew ?_ | refine blk_alloc ?_ _)); exact BK143.out⟩, ⟨by repeat (first | (with_reducible first | exact HB.out | apply below_alloc | apply pw_below_drewN | apply below_drew1 | refine below_set ?_ GE143.out) | exact HB.out)⟩⟩
                    case round => as_aux_lemma =>
                      clear H'
                      try clear c1
                      try clear c2
                      try clear c2b0
                      try clear c2b1
                      try clear p2
                      try clear c6
                      try clear c6b0
                      try clear p6
                      try clear c7
                      try clear c7b0
                      try clear p8
                      try clear q8
                      try clear hx8
                      try clear c9
                      try clear c10
                      try clear c10b0
                      try clear c10b1
                      try clear c11
                      try clear c11b0
                      try clear c11b1
                      try clear c12
                      try clear c12b0
                      try clear c12b1
                      try clear c13
                      try clear c14
                      try clear c14b0
                      try clear c14b1
                      try clear hcz4_0
                      try clear hcz4_1
                      try clear hcz4_2
                      try clear hfz4_0
                      try clear hfz4_1
                      try clear hfz4_2
                      try clear p2
                      try clear p8
                      try clear q8
                      obtain ⟨x4_3, rfl, HA, HK3, HO_3, BK143, HB⟩ := hrel
                      cases gk with
                      | zero => exact absurd HA.out (by simp [ratlineref4_Tokens.l1])
                      | succ k3 =>
                        have H := HA.out
                        clear HA
                        simp only [ratlineref4_Tokens.l1] at H
                        by_cases c15 : x4_3 < (a0.size : Int)
                        · rw [if_pos c15] at H
                          have c15b0 : decide (x4_3 < (a0.size : Int)) = true := decide_eq_true c15
                          clear c15
                          by_cases c16 : 0 ≤ x4_3
                          · rw [if_pos c16] at H
                            have c16b0 : decide (0 ≤ x4_3) = true := decide_eq_true c16
                            clear c16
                            by_cases c18 : (bt a0 x4_3) = 10
                            · rw [if_pos c18] at H
                              have c18b0 : ((bt a0 x4_3) == 10) = true := beq_iff_eq.mpr c18
                              have c18b1 : ((bt a0 x4_3) != 10) = false := bne_eq_false_iff_eq.mpr c18
                              clear c18
                              have H' := Aside0.mk H
                              clear H
                              have p17 : 0 ≤ (x4_3 : Int) := of_decide_eq_true (by first | (with_reducible assumption) | assumption)
                              have q17 : x4_3 < (a0.size : Int) := of_decide_eq_true (by first | (with_reducible assumption) | assumption)
                              have hx17 := bt_at a0 x4_3
                              replace p17 := eq_true p17
                              replace q17 := eq_true q17
                              go_wp2
                              go_roundg k3
                              case measure => have := HK1.out; have := HJ8.out; have := HK3.out; omega
                              case rel => exact ⟨(x3_1), (x4_3), (x144001_1), (x144002_1), (by first | rfl | (simp; done) | (simp [*]; done)), H', ⟨by have := HK1.out; have := HJ8.out; have := HK3.out; omega⟩, ⟨by (with_reducible repeat (first | apply Kd.R_alloc | apply Kd.R_drewN | apply Kd.R_drew)); exact HO_3.out⟩, ⟨by (with_reducible repeat (first | refine blk_drewN ?_ _ | refine blk_drew ?_ | refine blk_alloc ?_ _)); exact BK143.out⟩, ⟨by repeat (first | (with_reducible first | exact HB.out | apply below_alloc | apply pw_below_drewN | apply below_drew1 | refine below_set ?_ GE143.out) | exact HB.out)⟩⟩
                            · rw [if_neg c18] at H
                              have c18b0 : ((bt a0 x4_3) == 10) = false := beq_eq_false_iff_ne.mpr c18
                              have c18b1 : ((bt a0 x4_3) != 10) = true := bne_iff_ne.mpr c18
                              have H' := Aside0.mk H
                              clear H
                              have p17 : 0 ≤ (x4_3 : Int) := of_decide_eq_true (by first | (with_reducible assumption) | assumption)
                              have q17 : x4_3 < (a0.size : Int) := of_decide_eq_true (by first | (with_reducible assumption) | assumption)
                              have hx17 := bt_at a0 x4_3
                              replace p17 := eq_true p17
                              replace q17 := eq_true q17
                              go_wp2
                              go_roundg k3
                              case measure => have := HK1.out; have := HJ8.out; have := HK3.out; omega
                              case rel => exact ⟨(wrap64 (x4_3 + 1)), (by first | rfl | (simp; done) | (simp [*]; done)), H', ⟨by have := HK1.out; have := HJ8.out; have := HK3.out; omega⟩, ⟨by (with_reducible repeat (first | apply Kd.R_alloc | apply Kd.R_drewN | apply Kd.R_drew)); exact HO_3.out⟩, ⟨by (with_reducible repeat (first | refine blk_drewN ?_ _ | refine blk_drew ?_ | refine blk_alloc ?_ _)); exact BK143.out⟩, ⟨by repeat (first | (with_reducible first | exact HB.out | apply below_alloc | apply pw_below_drewN | apply below_drew1 | refine below_set ?_ GE143.out) | exact HB.out)⟩⟩
                          · rw [if_neg c16] at H
                            exact absurd H (by simp)
                        · rw [if_neg c15] at H
                          have c15b0 : decide (x4_3 < (a0.size : Int)) = false := decide_eq_false c15
                          clear c15
                          have H' := Aside0.mk H
                          clear H
                          go_wp2
                          go_roundg k3
                          case measure => have := HK1.out; have := HJ8.out; have := HK3.out; omega
                          case rel => exact ⟨(x3_1), (x4_3), (x144001_1), (x144002_1), (by first | rfl | (simp; done) | (simp [*]; done)), H', ⟨by have := HK1.out; have := HJ8.out; have := HK3.out; omega⟩, ⟨by (with_reducible repeat (first | apply Kd.R_alloc | apply Kd.R_drewN | apply Kd.R_drew)); exact HO_3.out⟩, ⟨by (with_reducible repeat (first | refine blk_drewN ?_ _ | refine blk_drew ?_ | refine blk_alloc ?_ _)); exact BK143.out⟩, ⟨by repeat (first | (with_reducible first | exact HB.out | apply below_alloc | apply pw_below_drewN | apply below_drew1 | refine below_set ?_ GE143.out) | exact HB.out)⟩⟩
                  · rw [if_neg c14] at H
                    have c14b0 : ((bt a0 x4_1) == 35) = false := beq_eq_false_iff_ne.mpr c14
                    have c14b1 : ((bt a0 x4_1) != 35) = true := bne_iff_ne.mpr c14
                    replace H := Option.bind_eq_some_iff.mp H
                    obtain ⟨t144, A190, H⟩ := H
                    replace H : (if t144 = true then (ratlineref4_Tokens.l2 kj8 a0 x3_1 x4_1 x4_1) else ((ratlineref4_letter.f (bt a0 x4_1)).bind fun t163 => (if t163 = true then (ratlineref4_Tokens.l3 kj8 a0 x3_1 x4_1 x4_1) else (if (bt a0 x4_1) = 34 then ((ratlineref4_text.f kj8 a0 x4_1).bind fun bt172 => (if bt172.2.2 = true then (if x3_1.length < 3518437208883 then (ratlineref4_Tokens.l0 kj8 a0 (x3_1 ++ [(⟨5, bt172.1, 0, x4_1⟩ : S32)]) bt172.2.1) else (none)) else (some (([] : List (S32)), x4_1, 10)))) else (if 0 ≤ x4_1 then (if x4_1 ≤ (a0.size : Int) then ((ratlineref4_op.f kj8 (a0.extract (x4_1 : Int).toNat a0.size)).bind fun t178 => (if t178.toList = ([] : List UInt8) then (some (([] : List (S32)), x4_1, 10)) else (if x3_1.length < 3518437208883 then (ratlineref4_Tokens.l0 kj8 a0 (x3_1 ++ [(⟨6, t178, 0, x4_1⟩ : S32)]) (wrap64 (x4_1 + (t178.size : Int)))) else (none)))) else (none)) else (none)))))) = some (r1, r2, r3) := H
                    have A19 := Aside0.mk A190
                    clear A190
                    by_cases c20 : t144 = true
                    · subst c20
                      have H1 : (ratlineref4_Tokens.l2 kj8 a0 x3_1 x4_1 x4_1) = some (r1, r2, r3) := by rw [if_pos rfl] at H; exact H
                      clear H
                      have H := H1
                      clear H1
                      have HC21 := Aside0.mk H
                      clear H
                      go_upto_block 5 with (first | ((with_reducible refine gate_callee (f := 16) rfl ?_); refine goesL_ (some 77) rfl rfl Tryd.func16 (by kernel_rfl) rfl #[.int .u8 (bt a0 x4_1)] rfl (by (try simp only [List.map_toArray, List.map_cons, List.map_nil]); first | done | rfl | (simp only [List.length_drop, List.length_take]; rfl)) ?_; (with_reducible refine (ratlineref4_digit.calls (bt a0 x4_1) true _ A19.out).mono ?_); rintro e w' ⟨rfl, ⟨nd, rfl⟩⟩; refine ⟨_, rfl, ?_⟩))
                      (try simp only [Act.put, List.setIfInBounds_toArray, List.set_cons_zero, List.set_cons_succ])
                      go_cut [6] (fun v6 wc => ∃ (kq : Nat) (x6_20 : Int), v6 = .int .i64 x6_20 ∧ Aside0 (ratlineref4_Tokens.j4 kq a0 x3_1 x4_1 x6_20 = some (r1, r2, r3)) ∧ Aside0 (kq ≤ kj8) ∧ Aside0 (Kd.R k32 32 wc w.heap.size (fun _ => True) u3 x3_1) ∧ Aside0 (wc.heap[gb143]? = some (.cells #[(.slice none 0 0), .int .i64 x144001_1, .int .i64 x144002_1] 28 (0, 0))) ∧ Aside0 (Below w.heap.size w wc))
                      case first => as_aux_lemma =>
                        have H := HC21.out
                        clear HC21
                        have H' := Aside0.mk H
                        clear H
                        go_wp2
                        go_loopg [6] kj8 (fun kq v6 w' => ∃ (x6_3 : Int), v6 = .int .i64 x6_3 ∧ Aside0 (ratlineref4_Tokens.l2 kq a0 x3_1 x4_1 x6_3 = some (r1, r2, r3)) ∧ Aside0 (kq ≤ kj8) ∧ Aside0 (Kd.R k32 32 w' w.heap.size (fun _ => True) u3 x3_1) ∧ Aside0 (w'.heap[gb143]? = some (.cells #[(.slice none 0 0), .int .i64 x144001_1, .int .i64 x144002_1] 28 (0, 0))) ∧ Aside0 (Below w.heap.size w w'))
                        case atStart => exact ⟨(x4_1), (by first | rfl | (simp; done) | (simp [*]; done)), H', ⟨Nat.le_refl _⟩, ⟨by (with_reducible repeat (first | apply Kd.R_alloc | apply Kd.R_drewN | apply Kd.R_drew)); exact HO_3.out⟩, ⟨by (with_reducible repeat (first | refine blk_drewN ?_ _ | refine blk_drew ?_ | refine blk_alloc ?_ _)); exact BK143.out⟩, ⟨by repeat (first | (with_reducible first | exact HB.out | apply below_alloc | apply pw_below_drewN | apply below_drew1 | refine below_set ?_ GE143.out) | exact HB.out)⟩⟩
                        case round => as_aux_lemma =>
                          clear H'
                          try clear c1
                          try clear p1
                          try clear q1
                          try clear hx1
                          try clear c2
                          try clear c2b0
                          try clear c2b1
                          try clear p2
                          try clear c6
                          try clear c6b0
                          try clear p6
                          try clear c7
                          try clear c7b0
                          try clear p8
                          try clear q8
                          try clear hx8
                          try clear c9
                          try clear c10
                          try clear c10b0
                          try clear c10b1
                          try clear c11
                          try clear c11b0
                          try clear c11b1
                          try clear c12
                          try clear c12b0
                          try clear c12b1
                          try clear c13
                          try clear c14
                          try clear c14b0
                          try clear c14b1
                          try clear c15
                          try clear c15b0
                          try clear c16
                          try clear c16b0
                          try clear p17
                          try clear q17
                          try clear hx17
                          try clear c18
                          try clear c18b0
                          try clear c18b1
                          try clear c20
                          try clear hcz4_0
                          try clear hcz4_1
                          try clear hcz4_2
                          try clear hfz4_0
                          try clear hfz4_1
                          try clear hfz4_2
                          try clear p17
                          try clear p2
                          try clear p6
                          try clear p8
                          try clear q17
                          try clear q8
                          obtain ⟨x6_3, rfl, HA, HK3, HO_3, BK143, HB⟩ := hrel
                          cases gk with
                          | zero => exact absurd HA.out (by simp [ratlineref4_Tokens.l2])
                          | succ k3 =>
                            have H := HA.out
                            clear HA
                            simp only [ratlineref4_Tokens.l2] at H
                            by_cases c22 : x6_3 < (a0.size : Int)
                            · rw [if_pos c22] at H
                              have c22b0 : decide (x6_3 < (a0.size : Int)) = true := decide_eq_true c22
                              clear c22
                              (first | rw [c22b0] | (simp only [i64_w, i32_w]; rw [c22b0]) | skip)
                              by_cases c23 : 0 ≤ x6_3
                              · rw [if_pos c23] at H
                                have c23b0 : decide (0 ≤ x6_3) = true := decide_eq_true c23
                                clear c23
                                replace H := Option.bind_eq_some_iff.mp H
                                obtain ⟨t145, A250, H⟩ := H
                                replace H : (if t145 = true then (ratlineref4_Tokens.l2 k3 a0 x3_1 x4_1 (wrap64 (x6_3 + 1))) else (ratlineref4_Tokens.j4 k3 a0 x3_1 x4_1 x6_3)) = some (r1, r2, r3) := H
                                have A25 := Aside0.mk A250
                                clear A250
                                by_cases c26 : t145 = true
                                · subst c26
                                  have H1 : (ratlineref4_Tokens.l2 k3 a0 x3_1 x4_1 (wrap64 (x6_3 + 1))) = some (r1, r2, r3) := by rw [if_pos rfl] at H; exact H
                                  clear H
                                  have H := H1
                                  clear H1
                                  have H' := Aside0.mk H
                                  clear H
                                  have p24 : 0 ≤ (x6_3 : Int) := of_decide_eq_true (by first | (with_reducible assumption) | assumption)
                                  have q24 : x6_3 < (a0.size : Int) := of_decide_eq_true (by first | (with_reducible assumption) | assumption)
                                  have hx24 := bt_at a0 x6_3
                                  replace p24 := eq_true p24
                                  replace q24 := eq_true q24
                                  go_wp2_with (first | (go_at_call 16; (with_reducible refine (ratlineref4_digit.calls (bt a0 x6_3) true _ A25.out).mono ?_); rintro e w' ⟨rfl, ⟨nd, rfl⟩⟩))
                                  go_roundg k3
                                  case measure => have := HK1.out; have := HJ8.out; have := HK3.out; omega
                                  case rel => exact ⟨(wrap64 (x6_3 + 1)), (by first | rfl | (simp; done) | (simp [*]; done)), H', ⟨by have := HK1.out; have := HJ8.out; have := HK3.out; omega⟩, ⟨by (with_reducible repeat (first | apply Kd.R_alloc | apply Kd.R_drewN | apply Kd.R_drew)); exact HO_3.out⟩, ⟨by (with_reducible repeat (first | refine blk_drewN ?_ _ | refine blk_drew ?_ | refine blk_alloc ?_ _)); exact BK143.out⟩, ⟨by repeat (first | (with_reducible first | exact HB.out | apply below_alloc | apply pw_below_drewN | apply below_drew1 | refine below_set ?_ GE143.out) | exact HB.out)⟩⟩
                                · replace c26 := Bool.eq_false_iff.mpr c26
                                  subst c26
                                  have H1 : (ratlineref4_Tokens.j4 k3 a0 x3_1 x4_1 x6_3) = some (r1, r2, r3) := by rw [if_neg (show ¬ (false = true) by decide)] at H; exact H
                                  clear H
                                  have H := H1
                                  clear H1
                                  have H' := Aside0.mk H
                                  clear H
                                  have p24 : 0 ≤ (x6_3 : Int) := of_decide_eq_true (by first | (with_reducible assumption) | assumption)
                                  have q24 : x6_3 < (a0.size : Int) := of_decide_eq_true (by first | (with_reducible assumption) | assumption)
                                  have hx24 := bt_at a0 x6_3
                                  replace p24 := eq_true p24
                                  replace q24 := eq_true q24
                                  go_wp2_with (first | (go_at_call 16; (with_reducible refine (ratlineref4_digit.calls (bt a0 x6_3) false _ A25.out).mono ?_); rintro e w' ⟨rfl, ⟨nd, rfl⟩⟩))
                                  go_meet
                                  case rel => exact ⟨_, (x6_3), (by first | rfl | (simp; done) | (simp [*]; done)), H', ⟨by have := HK1.out; have := HJ8.out; have := HK3.out; first | omega | exact Nat.le_refl _⟩, ⟨by (with_reducible repeat (first | apply Kd.R_alloc | apply Kd.R_drewN | apply Kd.R_drew)); exact HO_3.out⟩, ⟨by (with_reducible repeat (first | refine blk_drewN ?_ _ | refine blk_drew ?_ | refine blk_alloc ?_ _)); exact BK143.out⟩, ⟨by repeat (first | (with_reducible first | exact HB.out | apply below_alloc | apply pw_below_drewN | apply below_drew1 | refine below_set ?_ GE143.out) | exact HB.out)⟩⟩
                              · rw [if_neg c23] at H
                                exact absurd H (by simp)
                            · rw [if_neg c22] at H
                              have c22b0 : decide (x6_3 < (a0.size : Int)) = false := decide_eq_false c22
                              clear c22
                              (first | rw [c22b0] | (simp only [i64_w, i32_w]; rw [c22b0]) | skip)
                              have H' := Aside0.mk H
                              clear H
                              go_wp2
                              go_meet
                              case rel => exact ⟨_, (x6_3), (by first | rfl | (simp; done) | (simp [*]; done)), H', ⟨by have := HK1.out; have := HJ8.out; have := HK3.out; first | omega | exact Nat.le_refl _⟩, ⟨by (with_reducible repeat (first | apply Kd.R_alloc | apply Kd.R_drewN | apply Kd.R_drew)); exact HO_3.out⟩, ⟨by (with_reducible repeat (first | refine blk_drewN ?_ _ | refine blk_drew ?_ | refine blk_alloc ?_ _)); exact BK143.out⟩, ⟨by repeat (first | (with_reducible first | exact HB.out | apply below_alloc | apply pw_below_drewN | apply below_drew1 | refine below_set ?_ GE143.out) | exact HB.out)⟩⟩
                      case rest => as_aux_lemma =>
                        clear HC21
                        try clear c1
                        try clear p1
                        try clear q1
                        try clear hx1
                        try clear c2
                        try clear c2b0
                        try clear c2b1
                        try clear p2
                        try clear q2
                        try clear hx2
                        try clear c6
                        try clear c6b0
                        try clear p6
                        try clear c7
                        try clear c7b0
                        try clear p8
                        try clear q8
                        try clear hx8
                        try clear c9
                        try clear c10
                        try clear c10b0
                        try clear c10b1
                        try clear c11
                        try clear c11b0
                        try clear c11b1
                        try clear c12
                        try clear c12b0
                        try clear c12b1
                        try clear c13
                        try clear c14
                        try clear c14b0
                        try clear c14b1
                        try clear c15
                        try clear c15b0
                        try clear c16
                        try clear c16b0
                        try clear p17
                        try clear q17
                        try clear hx17
                        try clear c18
                        try clear c18b0
                        try clear c18b1
                        try clear c20
                        try clear c22
                        try clear c22b0
                        try clear c23
                        try clear c23b0
                        try clear p24
                        try clear q24
                        try clear hx24
                        try clear c26
                        try clear hcz4_0
                        try clear hcz4_1
                        try clear hcz4_2
                        try clear hfz4_0
                        try clear hfz4_1
                        try clear hfz4_2
                        try clear p1
                        try clear p17
                        try clear p2
                        try clear p24
                        try clear p6
                        try clear p8
                        try clear q1
                        try clear q17
                        try clear q24
                        try clear q8
                        obtain ⟨kq, x6_20, rfl, HA, HJ20, HO_3, BK143, HB⟩ := hcut
                        cases kq with
                        | zero => exact absurd HA.out (by simp [ratlineref4_Tokens.j4])
                        | succ kj20 =>
                          have H := HA.out
                          clear HA
                          simp only [ratlineref4_Tokens.j4] at H
                          by_cases c27 : 0 ≤ x4_1
                          · rw [if_pos c27] at H
                            have c27b0 := eq_true c27
                            have c27b1 : decide (0 ≤ x4_1) = true := decide_eq_true c27
                            clear c27
                            by_cases c28 : x4_1 ≤ x6_20
                            · rw [if_pos c28] at H
                              have c28b0 := eq_true c28
                              have c28b1 : decide (x4_1 ≤ x6_20) = true := decide_eq_true c28
                              clear c28
                              by_cases c29 : x6_20 ≤ (a0.size : Int)
                              · rw [if_pos c29] at H
                                have c29b0 := eq_true c29
                                have c29b1 : decide (x6_20 ≤ (a0.size : Int)) = true := decide_eq_true c29
                                clear c29
                                replace H := Option.bind_eq_some_iff.mp H
                                obtain ⟨⟨t146, t147⟩, A300, H⟩ := H
                                replace H : (if x6_20 < (a0.size : Int) then (if 0 ≤ x6_20 then (ratlineref4_Tokens.j5 kj20 a0 x3_1 x4_1 x6_20 t147 ((bt a0 x6_20) == 105) 3 (⟨#[]⟩ : ByteArray) t146 x4_1) else (none)) else (ratlineref4_Tokens.j5 kj20 a0 x3_1 x4_1 x6_20 t147 false 3 (⟨#[]⟩ : ByteArray) t146 x4_1)) = some (r1, r2, r3) := H
                                have A30 := Aside0.mk A300
                                clear A300
                                have HC31 := Aside0.mk H
                                clear H
                                go_upto_region 23 with (first | ((with_reducible refine gate_callee (f := 17) rfl ?_); refine goesL_ (some 95) rfl rfl Tryd.func17 (by kernel_rfl) rfl #[.string (a0.extract (x4_1 : Int).toNat (x6_20 : Int).toNat)] rfl (by (try simp only [List.map_toArray, List.map_cons, List.map_nil]); first | done | rfl | (simp only [List.length_drop, List.length_take]; rfl)) ?_; (with_reducible refine (ratlineref4_number.calls kj20 (a0.extract (x4_1 : Int).toNat (x6_20 : Int).toNat) t146 t147 _ A30.out).mono ?_); rintro e w' ⟨rfl, ⟨nd, rfl⟩⟩; refine ⟨_, rfl, ?_⟩; (try (rw [drewN_self wc]; generalize hq_ : World.drewN wc _ = wc; have n0_ : Aside0 (Kd.R k32 32 wc w.heap.size (fun _ => True) u3 x3_1) := ⟨by rw [← hq_]; exact (by (with_reducible repeat (first | apply Kd.R_alloc | apply Kd.R_drewN | apply Kd.R_drew)); exact HO_3.out)⟩; have n1_ : Aside0 (wc.heap[gb143]? = some (.cells #[.slice none 0 0, .int .i64 x144001_1, .int .i64 x144002_1] 28 (0, 0))) := ⟨by rw [← hq_]; exact (by (with_reducible repeat (first | refine blk_drewN ?_ _ | refine blk_drew ?_ | refine blk_alloc ?_ _)); exact BK143.out)⟩; have n2_ : Aside0 (Below w.heap.size w wc) := ⟨by rw [← hq_]; exact (by repeat (first | (with_reducible first | exact HB.out | apply below_alloc | apply pw_below_drewN | apply below_drew1 | refine below_set ?_ GE143.out) | exact HB.out))⟩; clear HO_3 BK143 HB hq_; have HO_3 := n0_; have BK143 := n1_; have HB := n2_; clear n0_ n1_ n2_))) | ((with_reducible refine gate_dst (N := 9) rfl ?_); (try (refine gate_guard (by rfl) ?_; dsimp only)); refine box_event ?hg (N := 9) ?hd (cs := #[.int .i64 0, .string (⟨#[]⟩ : ByteArray), .int .i64 0, .int .i64 0]) (t := 32) ?hr ?_; (case hd => rfl); (case hg => rfl); (case hr => first | (go_simp; done) | (go_simp; rfl)); intro gb148 hg w32 hbox hb; have n0_ := Aside0.mk (Kd.R_below (Kd.R_elderB (by (with_reducible repeat (first | apply Kd.R_alloc | apply Kd.R_drewN | apply Kd.R_drew)); exact HO_3.out) gb148 (Nat.le_of_eq hg.symm)) hb); have n1_ := Aside0.mk (blk_below (g := gb143) (o := .cells #[.slice none 0 0, .int .i64 x144001_1, .int .i64 x144002_1] 28 (0, 0)) (by (with_reducible repeat (first | refine blk_drewN ?_ _ | refine blk_drew ?_ | refine blk_alloc ?_ _)); exact BK143.out) hb); have n2_ := Aside0.mk (below_step (by repeat (first | (with_reducible first | exact HB.out | apply below_alloc | apply pw_below_drewN | apply below_drew1 | refine below_set ?_ GE143.out) | exact HB.out)) hb); have n3_ := Aside0.mk (hbox); have n4_ := Aside0.mk ((by rw [hg]; exact (below_size (by repeat (first | (with_reducible first | exact HB.out | apply below_alloc | apply pw_below_drewN | apply below_drew1 | refine below_set ?_ GE143.out) | exact HB.out))) : w.heap.size ≤ gb148)); have n5_ := Aside0.mk ((by rw [hg]; exact (below_size (by repeat (first | (with_reducible first | exact HB.out | apply below_alloc | apply pw_below_drewN | apply below_drew1 | refine below_set ?_ GE143.out) | exact HB.out))) : w.heap.size ≤ gb148)); have n6_ := Aside0.mk ((by rw [hg]; exact Nat.ne_of_lt (blk_lt (g := gb143) (o := .cells #[.slice none 0 0, .int .i64 x144001_1, .int .i64 x144002_1] 28 (0, 0)) (by (with_reducible repeat (first | refine blk_drewN ?_ _ | refine blk_drew ?_ | refine blk_alloc ?_ _)); exact BK143.out)) : gb143 ≠ gb148)); have n7_ := Aside0.mk ((by rw [hg]; exact Nat.ne_of_gt (blk_lt (g := gb143) (o := .cells #[.slice none 0 0, .int .i64 x144001_1, .int .i64 x144002_1] 28 (0, 0)) (by (with_reducible repeat (first | refine blk_drewN ?_ _ | refine blk_drew ?_ | refine blk_alloc ?_ _)); exact BK143.out)) : gb148 ≠ gb143)); clear HO_3; clear BK143; clear HB; have HO_3 := n0_; have BK143 := n1_; have HB := n2_; have BK148 := n3_; have GW148 := n4_; have GE148 := n5_; have NB143_148 := n6_; have NB148_143 := n7_; clear n0_ n1_ n2_ n3_ n4_ n5_ n6_ n7_; clear hb hbox hg; have hnb33 := NB148_143.out; have hnc33 := NB143_148.out; have hcz34_0 : w32.cell? ⟨gb148, 0, none⟩ = some (.int .i64 0) := (blk_cell BK148.out 0).trans rfl; have hcz34_1 : w32.cell? ⟨gb148, 1, none⟩ = some (.string (⟨#[]⟩ : ByteArray)) := (blk_cell BK148.out 1).trans rfl; have hcz34_2 : w32.cell? ⟨gb148, 2, none⟩ = some (.int .i64 0) := (blk_cell BK148.out 2).trans rfl; have hcz34_3 : w32.cell? ⟨gb148, 3, none⟩ = some (.int .i64 0) := (blk_cell BK148.out 3).trans rfl; have hcz34_t : ∀ x0 x1 x2 x3 x4, (((((w32.setCell ⟨gb148, 0, none⟩ x0).setCell ⟨gb148, 1, none⟩ x1).setCell ⟨gb148, 2, none⟩ x2).setCell ⟨gb148, 3, none⟩ x3).setCell ⟨gb148, 3, none⟩ x4).cell? ⟨gb148, 3, none⟩ = some x4 := fun x0 x1 x2 x3 x4 => (blk_cell (blk_put (blk_put (blk_put (blk_put (blk_put BK148.out 0 x0 rfl) 1 x1 rfl) 2 x2 rfl) 3 x3 rfl) 3 x4 rfl) 3).trans rfl; have hfz34_0 := blk_frozen BK148.out 0; have hfz34_1 := blk_frozen BK148.out 1; have hfz34_2 := blk_frozen BK148.out 2; have hfz34_3 := blk_frozen BK148.out 3))
                                (try simp only [Act.put, List.setIfInBounds_toArray, List.set_cons_zero, List.set_cons_succ])
                                go_cut [110] (fun v110 wc => ∃ (kq : Nat) (x110_30 : Bool), v110 = .bool x110_30 ∧ Aside0 (ratlineref4_Tokens.j5 kq a0 x3_1 x4_1 x6_20 t147 x110_30 3 (⟨#[]⟩ : ByteArray) t146 x4_1 = some (r1, r2, r3)) ∧ Aside0 (kq ≤ kj20) ∧ Aside0 (Kd.R k32 32 wc w.heap.size (fun k_ => k_ ≠ gb148) u3 x3_1) ∧ Aside0 (wc.heap[gb143]? = some (.cells #[(.slice none 0 0), .int .i64 x144001_1, .int .i64 x144002_1] 28 (0, 0))) ∧ Aside0 (wc.heap[gb148]? = some (.cells #[.int .i64 3, .string (⟨#[]⟩ : ByteArray), .int .i64 t146, .int .i64 x4_1] 32 (0, 0))) ∧ Aside0 (Below w.heap.size w wc))
                                case first => as_aux_lemma =>
                                  have H := HC31.out
                                  clear HC31
                                  by_cases c35 : x6_20 < (a0.size : Int)
                                  · rw [if_pos c35] at H
                                    have c35b0 : decide (x6_20 < (a0.size : Int)) = true := decide_eq_true c35
                                    clear c35
                                    (first | rw [c35b0] | (simp only [i64_w, i32_w]; rw [c35b0]) | skip)
                                    by_cases c36 : 0 ≤ x6_20
                                    · rw [if_pos c36] at H
                                      have c36b0 : decide (0 ≤ x6_20) = true := decide_eq_true c36
                                      clear c36
                                      have H' := Aside0.mk H
                                      clear H
                                      have p37 : 0 ≤ (x6_20 : Int) := of_decide_eq_true (by first | (with_reducible assumption) | assumption)
                                      have q37 : x6_20 < (a0.size : Int) := of_decide_eq_true (by first | (with_reducible assumption) | assumption)
                                      have hx37 := bt_at a0 x6_20
                                      replace p37 := eq_true p37
                                      replace q37 := eq_true q37
                                      go_wp2
                                      go_meet
                                      case rel => exact ⟨_, (((bt a0 x6_20) == 105)), (by first | rfl | (simp; done) | (simp [*]; done)), H', ⟨by have := HK1.out; have := HJ8.out; have := HJ20.out; first | omega | exact Nat.le_refl _⟩, ⟨by (with_reducible repeat (first | apply Kd.R_alloc | apply Kd.R_drewN | apply Kd.R_drew)); exact Kd.R_mono (Kd.R_far (p := ⟨gb148, 3, none⟩) (Kd.R_far (p := ⟨gb148, 2, none⟩) (Kd.R_far (p := ⟨gb148, 1, none⟩) (Kd.R_far (p := ⟨gb148, 0, none⟩) (Kd.R_mono HO_3.out (fun k_ hk => (⟨hk, hk.2⟩ : _ ∧ k_ ≠ gb148))) (fun _ hk => hk.2) (.int .i64 3)) (fun _ hk => hk.2) (.string (⟨#[]⟩ : ByteArray))) (fun _ hk => hk.2) (.int .i64 t146)) (fun _ hk => hk.2) (.int .i64 x4_1)) (fun _ hk => hk.1.2)⟩, ⟨by (with_reducible repeat (first | refine blk_drewN ?_ _ | refine blk_drew ?_ | refine blk_alloc ?_ _)); refine blk_far ?_ NB143_148.out _; (with_reducible repeat (first | refine blk_drewN ?_ _ | refine blk_drew ?_ | refine blk_alloc ?_ _)); refine blk_far ?_ NB143_148.out _; (with_reducible repeat (first | refine blk_drewN ?_ _ | refine blk_drew ?_ | refine blk_alloc ?_ _)); refine blk_far ?_ NB143_148.out _; (with_reducible repeat (first | refine blk_drewN ?_ _ | refine blk_drew ?_ | refine blk_alloc ?_ _)); refine blk_far ?_ NB143_148.out _; (with_reducible repeat (first | refine blk_drewN ?_ _ | refine blk_drew ?_ | refine blk_alloc ?_ _)); exact BK143.out⟩, ⟨by (with_reducible repeat (first | refine blk_drewN ?_ _ | refine blk_drew ?_ | refine blk_alloc ?_ _)); refine blk_put (cs := #[.int .i64 3, .string (⟨#[]⟩ : ByteArray), .int .i64 t146, .int .i64 0]) ?_ 3 _ rfl; (with_reducible repeat (first | refine blk_drewN ?_ _ | refine blk_drew ?_ | refine blk_alloc ?_ _)); refine blk_put (cs := #[.int .i64 3, .string (⟨#[]⟩ : ByteArray), .int .i64 0, .int .i64 0]) ?_ 2 _ rfl; (with_reducible repeat (first | refine blk_drewN ?_ _ | refine blk_drew ?_ | refine blk_alloc ?_ _)); refine blk_put (cs := #[.int .i64 3, .string (⟨#[]⟩ : ByteArray), .int .i64 0, .int .i64 0]) ?_ 1 _ rfl; (with_reducible repeat (first | refine blk_drewN ?_ _ | refine blk_drew ?_ | refine blk_alloc ?_ _)); refine blk_put (cs := #[.int .i64 0, .string (⟨#[]⟩ : ByteArray), .int .i64 0, .int .i64 0]) ?_ 0 _ rfl; (with_reducible repeat (first | refine blk_drewN ?_ _ | refine blk_drew ?_ | refine blk_alloc ?_ _)); exact BK148.out⟩, ⟨by repeat (first | (with_reducible first | exact HB.out | apply below_alloc | apply pw_below_drewN | apply below_drew1 | refine below_set ?_ GE143.out | refine below_set ?_ GE148.out) | exact HB.out)⟩⟩
                                    · rw [if_neg c36] at H
                                      exact absurd H (by simp)
                                  · rw [if_neg c35] at H
                                    have c35b0 : decide (x6_20 < (a0.size : Int)) = false := decide_eq_false c35
                                    clear c35
                                    (first | rw [c35b0] | (simp only [i64_w, i32_w]; rw [c35b0]) | skip)
                                    have H' := Aside0.mk H
                                    clear H
                                    go_wp2
                                    go_meet
                                    case rel => exact ⟨_, (false), (by first | rfl | (simp; done) | (simp [*]; done)), H', ⟨by have := HK1.out; have := HJ8.out; have := HJ20.out; first | omega | exact Nat.le_refl _⟩, ⟨by (with_reducible repeat (first | apply Kd.R_alloc | apply Kd.R_drewN | apply Kd.R_drew)); exact Kd.R_mono (Kd.R_far (p := ⟨gb148, 3, none⟩) (Kd.R_far (p := ⟨gb148, 2, none⟩) (Kd.R_far (p := ⟨gb148, 1, none⟩) (Kd.R_far (p := ⟨gb148, 0, none⟩) (Kd.R_mono HO_3.out (fun k_ hk => (⟨hk, hk.2⟩ : _ ∧ k_ ≠ gb148))) (fun _ hk => hk.2) (.int .i64 3)) (fun _ hk => hk.2) (.string (⟨#[]⟩ : ByteArray))) (fun _ hk => hk.2) (.int .i64 t146)) (fun _ hk => hk.2) (.int .i64 x4_1)) (fun _ hk => hk.1.2)⟩, ⟨by (with_reducible repeat (first | refine blk_drewN ?_ _ | refine blk_drew ?_ | refine blk_alloc ?_ _)); refine blk_far ?_ NB143_148.out _; (with_reducible repeat (first | refine blk_drewN ?_ _ | refine blk_drew ?_ | refine blk_alloc ?_ _)); refine blk_far ?_ NB143_148.out _; (with_reducible repeat (first | refine blk_drewN ?_ _ | refine blk_drew ?_ | refine blk_alloc ?_ _)); refine blk_far ?_ NB143_148.out _; (with_reducible repeat (first | refine blk_drewN ?_ _ | refine blk_drew ?_ | refine blk_alloc ?_ _)); refine blk_far ?_ NB143_148.out _; (with_reducible repeat (first | refine blk_drewN ?_ _ | refine blk_drew ?_ | refine blk_alloc ?_ _)); exact BK143.out⟩, ⟨by (with_reducible repeat (first | refine blk_drewN ?_ _ | refine blk_drew ?_ | refine blk_alloc ?_ _)); refine blk_put (cs := #[.int .i64 3, .string (⟨#[]⟩ : ByteArray), .int .i64 t146, .int .i64 0]) ?_ 3 _ rfl; (with_reducible repeat (first | refine blk_drewN ?_ _ | refine blk_drew ?_ | refine blk_alloc ?_ _)); refine blk_put (cs := #[.int .i64 3, .string (⟨#[]⟩ : ByteArray), .int .i64 0, .int .i64 0]) ?_ 2 _ rfl; (with_reducible repeat (first | refine blk_drewN ?_ _ | refine blk_drew ?_ | refine blk_alloc ?_ _)); refine blk_put (cs := #[.int .i64 3, .string (⟨#[]⟩ : ByteArray), .int .i64 0, .int .i64 0]) ?_ 1 _ rfl; (with_reducible repeat (first | refine blk_drewN ?_ _ | refine blk_drew ?_ | refine blk_alloc ?_ _)); refine blk_put (cs := #[.int .i64 0, .string (⟨#[]⟩ : ByteArray), .int .i64 0, .int .i64 0]) ?_ 0 _ rfl; (with_reducible repeat (first | refine blk_drewN ?_ _ | refine blk_drew ?_ | refine blk_alloc ?_ _)); exact BK148.out⟩, ⟨by repeat (first | (with_reducible first | exact HB.out | apply below_alloc | apply pw_below_drewN | apply below_drew1 | refine below_set ?_ GE143.out | refine below_set ?_ GE148.out) | exact HB.out)⟩⟩
                                case rest => as_aux_lemma =>
                                  clear HC31
                                  try clear c1
                                  try clear p1
                                  try clear q1
                                  try clear hx1
                                  try clear c2
                                  try clear c2b0
                                  try clear c2b1
                                  try clear p2
                                  try clear q2
                                  try clear hx2
                                  try clear c3
                                  try clear p3
                                  try clear q3
                                  try clear hx3
                                  try clear c6
                                  try clear c6b0
                                  try clear p6
                                  try clear c7
                                  try clear c7b0
                                  try clear p8
                                  try clear q8
                                  try clear hx8
                                  try clear c9
                                  try clear c10
                                  try clear c10b0
                                  try clear c10b1
                                  try clear c11
                                  try clear c11b0
                                  try clear c11b1
                                  try clear c12
                                  try clear c12b0
                                  try clear c12b1
                                  try clear c13
                                  try clear c14
                                  try clear c14b0
                                  try clear c14b1
                                  try clear c15
                                  try clear c15b0
                                  try clear c16
                                  try clear c16b0
                                  try clear c17
                                  try clear p17
                                  try clear q17
                                  try clear hx17
                                  try clear c18
                                  try clear c18b0
                                  try clear c18b1
                                  try clear c20
                                  try clear c22
                                  try clear c22b0
                                  try clear c23
                                  try clear c23b0
                                  try clear p24
                                  try clear q24
                                  try clear hx24
                                  try clear c26
                                  try clear c27
                                  try clear c27b0
                                  try clear c27b1
                                  try clear c28
                                  try clear c28b0
                                  try clear c28b1
                                  try clear c29
                                  try clear c29b0
                                  try clear c29b1
                                  try clear c33
                                  try clear c35
                                  try clear c35b0
                                  try clear c36
                                  try clear c36b0
                                  try clear p37
                                  try clear q37
                                  try clear hx37
                                  try clear hcz34_0
                                  try clear hcz34_1
                                  try clear hcz34_2
                                  try clear hcz34_3
                                  try clear hcz4_0
                                  try clear hcz4_1
                                  try clear hcz4_2
                                  try clear hfz34_0
                                  try clear hfz34_1
                                  try clear hfz34_2
                                  try clear hfz34_3
                                  try clear hfz4_0
                                  try clear hfz4_1
                                  try clear hfz4_2
                                  try clear p1
                                  try clear p17
                                  try clear p2
                                  try clear p24
                                  try clear p37
                                  try clear p6
                                  try clear p8
                                  try clear q1
                                  try clear q17
                                  try clear q2
                                  try clear q24
                                  try clear q37
                                  try clear q8
                                  obtain ⟨kq, x110_30, rfl, HA, HJ30, HO_3, BK143, BK148, HB⟩ := hcut
                                  cases kq with
                                  | zero => exact absurd HA.out (by simp [ratlineref4_Tokens.j5])
                                  | succ kj30 =>
                                    have H := HA.out
                                    clear HA
                                    simp only [ratlineref4_Tokens.j5] at H
                                    by_cases c38 : x110_30 = true
                                    · subst c38
                                      have H1 : (if t147 = true then (if (wrap64 (x6_20 + 1)) < (a0.size : Int) then (if 0 ≤ (wrap64 (x6_20 + 1)) then ((ratlineref4_letter.f (bt a0 (wrap64 (x6_20 + 1)))).bind fun t149 => (if t149 = true then (some (([] : List (S32)), x4_1, 10)) else (if x3_1.length < 3518437208883 then (ratlineref4_Tokens.l0 kj30 a0 (x3_1 ++ [(⟨4, (⟨#[]⟩ : ByteArray), t146, x4_1⟩ : S32)]) (wrap64 (x6_20 + 1))) else (none)))) else (none)) else (if x3_1.length < 3518437208883 then (ratlineref4_Tokens.l0 kj30 a0 (x3_1 ++ [(⟨4, (⟨#[]⟩ : ByteArray), t146, x4_1⟩ : S32)]) (wrap64 (x6_20 + 1))) else (none))) else (some (([] : List (S32)), x4_1, 10))) = some (r1, r2, r3) := by rw [if_pos rfl] at H; exact H
                                      clear H
                                      have H := H1
                                      clear H1
                                      by_cases c39 : t147 = true
                                      · subst c39
                                        have H1 : (if (wrap64 (x6_20 + 1)) < (a0.size : Int) then (if 0 ≤ (wrap64 (x6_20 + 1)) then ((ratlineref4_letter.f (bt a0 (wrap64 (x6_20 + 1)))).bind fun t149 => (if t149 = true then (some (([] : List (S32)), x4_1, 10)) else (if x3_1.length < 3518437208883 then (ratlineref4_Tokens.l0 kj30 a0 (x3_1 ++ [(⟨4, (⟨#[]⟩ : ByteArray), t146, x4_1⟩ : S32)]) (wrap64 (x6_20 + 1))) else (none)))) else (none)) else (if x3_1.length < 3518437208883 then (ratlineref4_Tokens.l0 kj30 a0 (x3_1 ++ [(⟨4, (⟨#[]⟩ : ByteArray), t146, x4_1⟩ : S32)]) (wrap64 (x6_20 + 1))) else (none))) = some (r1, r2, r3) := by rw [if_pos rfl] at H; exact H
                                        clear H
                                        have H := H1
                                        clear H1
                                        by_cases c40 : (wrap64 (x6_20 + 1)) < (a0.size : Int)
                                        · rw [if_pos c40] at H
                                          have c40b0 : decide ((wrap64 (x6_20 + 1)) < (a0.size : Int)) = true := decide_eq_true c40
                                          clear c40
                                          obtain ⟨ji41, hji41⟩ : ∃ j_ : Int, (wrap64 (x6_20 + 1)) = j_ := ⟨_, rfl⟩
                                          replace H : (if 0 ≤ (ji41) then ((ratlineref4_letter.f (bt a0 (ji41))).bind fun t149 => (if t149 = true then (some (([] : List (S32)), x4_1, 10)) else (if x3_1.length < 3518437208883 then (ratlineref4_Tokens.l0 kj30 a0 (x3_1 ++ [(⟨4, (⟨#[]⟩ : ByteArray), t146, x4_1⟩ : S32)]) ji41) else (none)))) else (none)) = some (r1, r2, r3) := by first | (rw [hji41] at H; exact H) | (simp only [hji41] at H ⊢; exact H)
                                          (try rw [hji41] at c40b0)
                                          have hji41w : (IntKind.i64.wrap (x6_20 + 1)) = ji41 := (i64_w _).trans hji41
                                          by_cases c42 : 0 ≤ (ji41)
                                          · rw [if_pos c42] at H
                                            have c42b0 : decide (0 ≤ (ji41)) = true := decide_eq_true c42
                                            clear c42
                                            replace H := Option.bind_eq_some_iff.mp H
                                            obtain ⟨t149, A440, H⟩ := H
                                            replace H : (if t149 = true then (some (([] : List (S32)), x4_1, 10)) else (if x3_1.length < 3518437208883 then (ratlineref4_Tokens.l0 kj30 a0 (x3_1 ++ [(⟨4, (⟨#[]⟩ : ByteArray), t146, x4_1⟩ : S32)]) ji41) else (none))) = some (r1, r2, r3) := H
                                            have A44 := Aside0.mk A440
                                            clear A440
                                            by_cases c45 : t149 = true
                                            · subst c45
                                              have H1 : (some (([] : List (S32)), x4_1, 10)) = some (r1, r2, r3) := by rw [if_pos rfl] at H; exact H
                                              clear H
                                              have H := H1
                                              clear H1
                                              simp only [Option.some.injEq, Prod.mk.injEq] at H
                                              obtain ⟨rfl, rfl, rfl⟩ := H
                                              have hnb46 := NB148_143.out
                                              have hnc46 := NB143_148.out
                                              have hcz47_0 : wc.cell? ⟨gb148, 0, none⟩ = some (.int .i64 3) := (blk_cell BK148.out 0).trans rfl
                                              have hcz47_1 : wc.cell? ⟨gb148, 1, none⟩ = some (.string (⟨#[]⟩ : ByteArray)) := (blk_cell BK148.out 1).trans rfl
                                              have hcz47_2 : wc.cell? ⟨gb148, 2, none⟩ = some (.int .i64 t146) := (blk_cell BK148.out 2).trans rfl
                                              have hcz47_3 : wc.cell? ⟨gb148, 3, none⟩ = some (.int .i64 x4_1) := (blk_cell BK148.out 3).trans rfl
                                              have hfz47_0 := blk_frozen BK148.out 0
                                              have hfz47_1 := blk_frozen BK148.out 1
                                              have hfz47_2 := blk_frozen BK148.out 2
                                              have hfz47_3 := blk_frozen BK148.out 3
                                              have p43 : 0 ≤ ((ji41) : Int) := of_decide_eq_true (by first | (with_reducible assumption) | assumption)
                                              have q43 : (ji41) < (a0.size : Int) := of_decide_eq_true (by first | (with_reducible assumption) | assumption)
                                              have hx43 := bt_at a0 (ji41)
                                              replace p43 := eq_true p43
                                              replace q43 := eq_true q43
                                              go_wp2_with (first | (go_at_call 18; (with_reducible refine (ratlineref4_letter.calls (bt a0 (ji41)) true _ A44.out).mono ?_); rintro e w' ⟨rfl, ⟨nd, rfl⟩⟩; have hcz48_0 : wc.cell? ⟨gb143, 0, none⟩ = some (.slice none 0 0) := (blk_cell BK143.out 0).trans rfl; have hcz48_1 : wc.cell? ⟨gb143, 1, none⟩ = some (.int .i64 x144001_1) := (blk_cell BK143.out 1).trans rfl; have hcz48_2 : wc.cell? ⟨gb143, 2, none⟩ = some (.int .i64 x144002_1) := (blk_cell BK143.out 2).trans rfl; have hfz48_0 := blk_frozen BK143.out 0; have hfz48_1 := blk_frozen BK143.out 1; have hfz48_2 := blk_frozen BK143.out 2))
                                              refine bodyPost_ret (results_cell_row rfl _ _ gb143 28 #[.slice none 0 0, .int .i64 x4_1, .int .i64 10] (0, 0) _ rfl (by (with_reducible repeat (first | refine blk_drewN ?_ _ | refine blk_drew ?_ | refine blk_alloc ?_ _)); refine blk_put (cs := #[.slice none 0 0, .int .i64 x4_1, .int .i64 x144002_1]) ?_ 2 _ rfl; (with_reducible repeat (first | refine blk_drewN ?_ _ | refine blk_drew ?_ | refine blk_alloc ?_ _)); refine blk_put (cs := #[.slice none 0 0, .int .i64 x144001_1, .int .i64 x144002_1]) ?_ 1 _ rfl; (with_reducible repeat (first | refine blk_drewN ?_ _ | refine blk_drew ?_ | refine blk_alloc ?_ _)); refine blk_put (cs := #[.slice none 0 0, .int .i64 x144001_1, .int .i64 x144002_1]) ?_ 0 _ rfl; (with_reducible repeat (first | refine blk_drewN ?_ _ | refine blk_drew ?_ | refine blk_alloc ?_ _)); refine blk_far ?_ NB143_148.out _; (with_reducible repeat (first | refine blk_drewN ?_ _ | refine blk_drew ?_ | refine blk_alloc ?_ _)); exact BK143.out) Tryd.underlying28 rfl (by kernel_rfl)) rfl ?_
                                              exact ⟨_, by first | rfl | (simp [errW_none, errW_some] <;> rfl) | (simp only [← hji41]; first | rfl | (simp [errW_none, errW_some] <;> rfl)) | (simp [*, errW_none, errW_some] <;> rfl), by first | exact Kd.R_nil _ _ _ _ _ | exact Kd.N_nil _ _ _ _ _ | exact Kd.V_nil _ _ _ _ _ | exact Kd.Q_nil _ _ _ _ _ | exact Kd.S_nil _ _ _ _ _, by repeat (first | (with_reducible first | exact HB.out | apply below_alloc | apply pw_below_drewN | apply below_drew1 | refine below_set ?_ GE143.out | refine below_set ?_ GE148.out) | exact HB.out)⟩
                                            · replace c45 := Bool.eq_false_iff.mpr c45
                                              subst c45
                                              have H1 : (if x3_1.length < 3518437208883 then (ratlineref4_Tokens.l0 kj30 a0 (x3_1 ++ [(⟨4, (⟨#[]⟩ : ByteArray), t146, x4_1⟩ : S32)]) ji41) else (none)) = some (r1, r2, r3) := by rw [if_neg (show ¬ (false = true) by decide)] at H; exact H
                                              clear H
                                              have H := H1
                                              clear H1
                                              by_cases c49 : x3_1.length < 3518437208883
                                              · rw [if_pos c49] at H
                                                have LMc49 := Aside0.mk c49
                                                clear c49
                                                obtain ⟨y150, hy150⟩ : ∃ y_ : List (S32), y_ = (x3_1 ++ [(⟨4, (⟨#[]⟩ : ByteArray), t146, x4_1⟩ : S32)]) := ⟨_, rfl⟩
                                                replace H : (ratlineref4_Tokens.l0 kj30 a0 y150 ji41) = some (r1, r2, r3) := by first | (rw [hy150]; with_reducible exact H) | (have H2_ := (Option.bind_some _ _).symm.trans H; rw [hy150]; with_reducible exact H2_) | (have H2_ := (Option.bind_some _ _).symm.trans H; with_reducible exact H2_) | with_reducible exact H | (rw [hy150]; exact H) | exact H
                                                have Ny150 := Aside0.mk hy150
                                                clear hy150
                                                have H' := Aside0.mk H
                                                clear H
                                                have hnb50 := NB148_143.out
                                                have hnc50 := NB143_148.out
                                                have hcz51_0 : wc.cell? ⟨gb148, 0, none⟩ = some (.int .i64 3) := (blk_cell BK148.out 0).trans rfl
                                                have hcz51_1 : wc.cell? ⟨gb148, 1, none⟩ = some (.string (⟨#[]⟩ : ByteArray)) := (blk_cell BK148.out 1).trans rfl
                                                have hcz51_2 : wc.cell? ⟨gb148, 2, none⟩ = some (.int .i64 t146) := (blk_cell BK148.out 2).trans rfl
                                                have hcz51_3 : wc.cell? ⟨gb148, 3, none⟩ = some (.int .i64 x4_1) := (blk_cell BK148.out 3).trans rfl
                                                have hfz51_0 := blk_frozen BK148.out 0
                                                have hfz51_1 := blk_frozen BK148.out 1
                                                have hfz51_2 := blk_frozen BK148.out 2
                                                have hfz51_3 := blk_frozen BK148.out 3
                                                have p43 : 0 ≤ ((ji41) : Int) := of_decide_eq_true (by first | (with_reducible assumption) | assumption)
                                                have q43 : (ji41) < (a0.size : Int) := of_decide_eq_true (by first | (with_reducible assumption) | assumption)
                                                have hx43 := bt_at a0 (ji41)
                                                replace p43 := eq_true p43
                                                replace q43 := eq_true q43
                                                go_wp2_with (first | (go_at_call 18; (with_reducible refine (ratlineref4_letter.calls (bt a0 (ji41)) false _ A44.out).mono ?_); rintro e w' ⟨rfl, ⟨nd, rfl⟩⟩) | ((with_reducible refine gate_builtin (b := .append) (xs := #[.tmp 130, .tmp 132]) rfl ?_); (try (refine gate_guard (by rfl) ?_; dsimp only)); at_builtin; refine Kd.R_append k32 (w0 := w) w.heap.size rfl (.tmp 130) (.tmp 132) 26 32 (.agg #[(.int .i64 0), (.string ⟨#[]⟩), (.int .i64 0), (.int .i64 0)]) 40 rfl Tryd.underlying26 info32 rfl (by decide) (by omega) u3 x3_1 (⟨4, (⟨#[]⟩ : ByteArray), t146, x4_1⟩ : S32) [.int .i64 4, .string (⟨#[]⟩ : ByteArray), .int .i64 t146, .int .i64 x4_1] (fun k_ => k_ ≠ gb148) (fun _ => False) rfl (by first | (go_simp; done) | (go_simp; rfl)) ?aP (fun _ hk => hk.elim) ?aF ?aO ?aB ?aS ?aL ?_; (case aP => exact k32_mkM _ _ _ (⟨4, (⟨#[]⟩ : ByteArray), t146, x4_1⟩ : S32)); (case aB => exact (by repeat (first | (with_reducible first | exact HB.out | apply below_alloc | apply pw_below_drewN | apply below_drew1 | refine below_set ?_ GE143.out | refine below_set ?_ GE148.out) | exact HB.out))); (case aF => exact (fun k_ hk => Kd.freshB (g := gb148) (o := .cells #[.int .i64 4, .string (⟨#[]⟩ : ByteArray), .int .i64 t146, .int .i64 x4_1] 32 (0, 0)) (by (with_reducible repeat (first | refine blk_drewN ?_ _ | refine blk_drew ?_ | refine blk_alloc ?_ _)); refine blk_put (cs := #[.int .i64 3, .string (⟨#[]⟩ : ByteArray), .int .i64 t146, .int .i64 x4_1]) ?_ 0 _ rfl; (with_reducible repeat (first | refine blk_drewN ?_ _ | refine blk_drew ?_ | refine blk_alloc ?_ _)); exact BK148.out) k_ hk)); (case aO => exact (by (with_reducible repeat (first | apply Kd.R_alloc | apply Kd.R_drewN | apply Kd.R_drew)); exact Kd.R_mono (Kd.R_far (p := ⟨gb148, 0, none⟩) (Kd.R_mono HO_3.out (fun k_ hk => (⟨hk, hk⟩ : _ ∧ k_ ≠ gb148))) (fun _ hk => hk.2) (.int .i64 4)) (fun _ hk => hk.1))); (case aS => exact (below_size (by repeat (first | (with_reducible first | exact HB.out | apply below_alloc | apply pw_below_drewN | apply below_drew1 | refine below_set ?_ GE143.out | refine below_set ?_ GE148.out) | exact HB.out)))); (case aL => have := LMc49.out; omega); intro v151 w52 ho hb hg hat; rw [← Ny150.out] at ho; have n0_ := Aside0.mk (blk_grown (g := gb143) (o := .cells #[.slice none 0 0, .int .i64 x144001_1, .int .i64 x144002_1] 28 (0, 0)) (by (with_reducible repeat (first | refine blk_drewN ?_ _ | refine blk_drew ?_ | refine blk_alloc ?_ _)); refine blk_far ?_ NB143_148.out _; (with_reducible repeat (first | refine blk_drewN ?_ _ | refine blk_drew ?_ | refine blk_alloc ?_ _)); exact BK143.out) hg (Kd.R_ne HO_3.out BK143.out (by decide))); have n1_ := Aside0.mk (blk_grown (g := gb148) (o := .cells #[.int .i64 4, .string (⟨#[]⟩ : ByteArray), .int .i64 t146, .int .i64 x4_1] 32 (0, 0)) (by (with_reducible repeat (first | refine blk_drewN ?_ _ | refine blk_drew ?_ | refine blk_alloc ?_ _)); refine blk_put (cs := #[.int .i64 3, .string (⟨#[]⟩ : ByteArray), .int .i64 t146, .int .i64 x4_1]) ?_ 0 _ rfl; (with_reducible repeat (first | refine blk_drewN ?_ _ | refine blk_drew ?_ | refine blk_alloc ?_ _)); exact BK148.out) hg (Kd.R_away HO_3.out (fun _ hk => hk))); have n2_ := Aside0.mk (hb); have n3_ := Aside0.mk (ho); clear BK143; clear BK148; clear HB; clear HO_3; have BK143 := n0_; have BK148 := n1_; have HB := n2_; have HO152 := n3_; clear n0_ n1_ n2_ n3_; clear ho hb hg hat))
                                                go_roundg kj30
                                                case measure => have := HK1.out; have := HJ8.out; have := HJ20.out; have := HJ30.out; omega
                                                case rel => exact ⟨(y150), (ji41), (x144001_1), (x144002_1), (by first | rfl | (simp; done) | (simp only [← hji41] <;> (first | rfl | (simp; done))) | (simp [*]; done)), H', ⟨by have := HK1.out; have := HJ8.out; have := HJ20.out; have := HJ30.out; omega⟩, ⟨by (with_reducible repeat (first | apply Kd.R_alloc | apply Kd.R_drewN | apply Kd.R_drew)); exact Kd.R_mono HO152.out (fun _ hk => trivial)⟩, ⟨by (with_reducible repeat (first | refine blk_drewN ?_ _ | refine blk_drew ?_ | refine blk_alloc ?_ _)); exact BK143.out⟩, ⟨by repeat (first | (with_reducible first | exact HB.out | apply below_alloc | apply pw_below_drewN | apply below_drew1 | refine below_set ?_ GE143.out | refine below_set ?_ GE148.out) | exact HB.out)⟩⟩
                                              · rw [if_neg c49] at H
                                                exact absurd H (by simp)
                                          · rw [if_neg c42] at H
                                            exact absurd H (by simp)
                                        · rw [if_neg c40] at H
                                          have c40b0 : decide ((wrap64 (x6_20 + 1)) < (a0.size : Int)) = false := decide_eq_false c40
                                          clear c40
                                          by_cases c53 : x3_1.length < 3518437208883
                                          · rw [if_pos c53] at H
                                            have LMc53 := Aside0.mk c53
                                            clear c53
                                            obtain ⟨y153, hy153⟩ : ∃ y_ : List (S32), y_ = (x3_1 ++ [(⟨4, (⟨#[]⟩ : ByteArray), t146, x4_1⟩ : S32)]) := ⟨_, rfl⟩
                                            replace H : (ratlineref4_Tokens.l0 kj30 a0 y153 (wrap64 (x6_20 + 1))) = some (r1, r2, r3) := by first | (rw [hy153]; with_reducible exact H) | (have H2_ := (Option.bind_some _ _).symm.trans H; rw [hy153]; with_reducible exact H2_) | (have H2_ := (Option.bind_some _ _).symm.trans H; with_reducible exact H2_) | with_reducible exact H | (rw [hy153]; exact H) | exact H
                                            have Ny153 := Aside0.mk hy153
                                            clear hy153
                                            have H' := Aside0.mk H
                                            clear H
                                            have hnb54 := NB148_143.out
                                            have hnc54 := NB143_148.out
                                            have hcz55_0 : wc.cell? ⟨gb148, 0, none⟩ = some (.int .i64 3) := (blk_cell BK148.out 0).trans rfl
                                            have hcz55_1 : wc.cell? ⟨gb148, 1, none⟩ = some (.string (⟨#[]⟩ : ByteArray)) := (blk_cell BK148.out 1).trans rfl
                                            have hcz55_2 : wc.cell? ⟨gb148, 2, none⟩ = some (.int .i64 t146) := (blk_cell BK148.out 2).trans rfl
                                            have hcz55_3 : wc.cell? ⟨gb148, 3, none⟩ = some (.int .i64 x4_1) := (blk_cell BK148.out 3).trans rfl
                                            have hfz55_0 := blk_frozen BK148.out 0
                                            have hfz55_1 := blk_frozen BK148.out 1
                                            have hfz55_2 := blk_frozen BK148.out 2
                                            have hfz55_3 := blk_frozen BK148.out 3
                                            go_wp2_with (first | ((with_reducible refine gate_builtin (b := .append) (xs := #[.tmp 130, .tmp 132]) rfl ?_); (try (refine gate_guard (by rfl) ?_; dsimp only)); at_builtin; refine Kd.R_append k32 (w0 := w) w.heap.size rfl (.tmp 130) (.tmp 132) 26 32 (.agg #[(.int .i64 0), (.string ⟨#[]⟩), (.int .i64 0), (.int .i64 0)]) 40 rfl Tryd.underlying26 info32 rfl (by decide) (by omega) u3 x3_1 (⟨4, (⟨#[]⟩ : ByteArray), t146, x4_1⟩ : S32) [.int .i64 4, .string (⟨#[]⟩ : ByteArray), .int .i64 t146, .int .i64 x4_1] (fun k_ => k_ ≠ gb148) (fun _ => False) rfl (by first | (go_simp; done) | (go_simp; rfl)) ?aP (fun _ hk => hk.elim) ?aF ?aO ?aB ?aS ?aL ?_; (case aP => exact k32_mkM _ _ _ (⟨4, (⟨#[]⟩ : ByteArray), t146, x4_1⟩ : S32)); (case aB => exact (by repeat (first | (with_reducible first | exact HB.out | apply below_alloc | apply pw_below_drewN | apply below_drew1 | refine below_set ?_ GE143.out | refine below_set ?_ GE148.out) | exact HB.out))); (case aF => exact (fun k_ hk => Kd.freshB (g := gb148) (o := .cells #[.int .i64 4, .string (⟨#[]⟩ : ByteArray), .int .i64 t146, .int .i64 x4_1] 32 (0, 0)) (by (with_reducible repeat (first | refine blk_drewN ?_ _ | refine blk_drew ?_ | refine blk_alloc ?_ _)); refine blk_put (cs := #[.int .i64 3, .string (⟨#[]⟩ : ByteArray), .int .i64 t146, .int .i64 x4_1]) ?_ 0 _ rfl; (with_reducible repeat (first | refine blk_drewN ?_ _ | refine blk_drew ?_ | refine blk_alloc ?_ _)); exact BK148.out) k_ hk)); (case aO => exact (by (with_reducible repeat (first | apply Kd.R_alloc | apply Kd.R_drewN | apply Kd.R_drew)); exact Kd.R_mono (Kd.R_far (p := ⟨gb148, 0, none⟩) (Kd.R_mono HO_3.out (fun k_ hk => (⟨hk, hk⟩ : _ ∧ k_ ≠ gb148))) (fun _ hk => hk.2) (.int .i64 4)) (fun _ hk => hk.1))); (case aS => exact (below_size (by repeat (first | (with_reducible first | exact HB.out | apply below_alloc | apply pw_below_drewN | apply below_drew1 | refine below_set ?_ GE143.out | refine below_set ?_ GE148.out) | exact HB.out)))); (case aL => have := LMc53.out; omega); intro v154 w56 ho hb hg hat; rw [← Ny153.out] at ho; have n0_ := Aside0.mk (blk_grown (g := gb143) (o := .cells #[.slice none 0 0, .int .i64 x144001_1, .int .i64 x144002_1] 28 (0, 0)) (by (with_reducible repeat (first | refine blk_drewN ?_ _ | refine blk_drew ?_ | refine blk_alloc ?_ _)); refine blk_far ?_ NB143_148.out _; (with_reducible repeat (first | refine blk_drewN ?_ _ | refine blk_drew ?_ | refine blk_alloc ?_ _)); exact BK143.out) hg (Kd.R_ne HO_3.out BK143.out (by decide))); have n1_ := Aside0.mk (blk_grown (g := gb148) (o := .cells #[.int .i64 4, .string (⟨#[]⟩ : ByteArray), .int .i64 t146, .int .i64 x4_1] 32 (0, 0)) (by (with_reducible repeat (first | refine blk_drewN ?_ _ | refine blk_drew ?_ | refine blk_alloc ?_ _)); refine blk_put (cs := #[.int .i64 3, .string (⟨#[]⟩ : ByteArray), .int .i64 t146, .int .i64 x4_1]) ?_ 0 _ rfl; (with_reducible repeat (first | refine blk_drewN ?_ _ | refine blk_drew ?_ | refine blk_alloc ?_ _)); exact BK148.out) hg (Kd.R_away HO_3.out (fun _ hk => hk))); have n2_ := Aside0.mk (hb); have n3_ := Aside0.mk (ho); clear BK143; clear BK148; clear HB; clear HO_3; have BK143 := n0_; have BK148 := n1_; have HB := n2_; have HO155 := n3_; clear n0_ n1_ n2_ n3_; clear ho hb hg hat))
                                            go_roundg kj30
                                            case measure => have := HK1.out; have := HJ8.out; have := HJ20.out; have := HJ30.out; omega
                                            case rel => exact ⟨(y153), (wrap64 (x6_20 + 1)), (x144001_1), (x144002_1), (by first | rfl | (simp; done) | (simp [*]; done)), H', ⟨by have := HK1.out; have := HJ8.out; have := HJ20.out; have := HJ30.out; omega⟩, ⟨by (with_reducible repeat (first | apply Kd.R_alloc | apply Kd.R_drewN | apply Kd.R_drew)); exact Kd.R_mono HO155.out (fun _ hk => trivial)⟩, ⟨by (with_reducible repeat (first | refine blk_drewN ?_ _ | refine blk_drew ?_ | refine blk_alloc ?_ _)); exact BK143.out⟩, ⟨by repeat (first | (with_reducible first | exact HB.out | apply below_alloc | apply pw_below_drewN | apply below_drew1 | refine below_set ?_ GE143.out | refine below_set ?_ GE148.out) | exact HB.out)⟩⟩
                                          · rw [if_neg c53] at H
                                            exact absurd H (by simp)
                                      · replace c39 := Bool.eq_false_iff.mpr c39
                                        subst c39
                                        have H1 : (some (([] : List (S32)), x4_1, 10)) = some (r1, r2, r3) := by rw [if_neg (show ¬ (false = true) by decide)] at H; exact H
                                        clear H
                                        have H := H1
                                        clear H1
                                        simp only [Option.some.injEq, Prod.mk.injEq] at H
                                        obtain ⟨rfl, rfl, rfl⟩ := H
                                        have hnb57 := NB148_143.out
                                        have hnc57 := NB143_148.out
                                        have hcz58_0 : wc.cell? ⟨gb148, 0, none⟩ = some (.int .i64 3) := (blk_cell BK148.out 0).trans rfl
                                        have hcz58_1 : wc.cell? ⟨gb148, 1, none⟩ = some (.string (⟨#[]⟩ : ByteArray)) := (blk_cell BK148.out 1).trans rfl
                                        have hcz58_2 : wc.cell? ⟨gb148, 2, none⟩ = some (.int .i64 t146) := (blk_cell BK148.out 2).trans rfl
                                        have hcz58_3 : wc.cell? ⟨gb148, 3, none⟩ = some (.int .i64 x4_1) := (blk_cell BK148.out 3).trans rfl
                                        have hfz58_0 := blk_frozen BK148.out 0
                                        have hfz58_1 := blk_frozen BK148.out 1
                                        have hfz58_2 := blk_frozen BK148.out 2
                                        have hfz58_3 := blk_frozen BK148.out 3
                                        have hcz59_0 : wc.cell? ⟨gb143, 0, none⟩ = some (.slice none 0 0) := (blk_cell BK143.out 0).trans rfl
                                        have hcz59_1 : wc.cell? ⟨gb143, 1, none⟩ = some (.int .i64 x144001_1) := (blk_cell BK143.out 1).trans rfl
                                        have hcz59_2 : wc.cell? ⟨gb143, 2, none⟩ = some (.int .i64 x144002_1) := (blk_cell BK143.out 2).trans rfl
                                        have hfz59_0 := blk_frozen BK143.out 0
                                        have hfz59_1 := blk_frozen BK143.out 1
                                        have hfz59_2 := blk_frozen BK143.out 2
                                        go_wp2
                                        refine bodyPost_ret (results_cell_row rfl _ _ gb143 28 #[.slice none 0 0, .int .i64 x4_1, .int .i64 10] (0, 0) _ rfl (by (with_reducible repeat (first | refine blk_drewN ?_ _ | refine blk_drew ?_ | refine blk_alloc ?_ _)); refine blk_put (cs := #[.slice none 0 0, .int .i64 x4_1, .int .i64 x144002_1]) ?_ 2 _ rfl; (with_reducible repeat (first | refine blk_drewN ?_ _ | refine blk_drew ?_ | refine blk_alloc ?_ _)); refine blk_put (cs := #[.slice none 0 0, .int .i64 x144001_1, .int .i64 x144002_1]) ?_ 1 _ rfl; (with_reducible repeat (first | refine blk_drewN ?_ _ | refine blk_drew ?_ | refine blk_alloc ?_ _)); refine blk_put (cs := #[.slice none 0 0, .int .i64 x144001_1, .int .i64 x144002_1]) ?_ 0 _ rfl; (with_reducible repeat (first | refine blk_drewN ?_ _ | refine blk_drew ?_ | refine blk_alloc ?_ _)); refine blk_far ?_ NB143_148.out _; (with_reducible repeat (first | refine blk_drewN ?_ _ | refine blk_drew ?_ | refine blk_alloc ?_ _)); exact BK143.out) Tryd.underlying28 rfl (by kernel_rfl)) rfl ?_
                                        exact ⟨_, by first | rfl | (simp [errW_none, errW_some] <;> rfl) | (simp [*, errW_none, errW_some] <;> rfl), by first | exact Kd.R_nil _ _ _ _ _ | exact Kd.N_nil _ _ _ _ _ | exact Kd.V_nil _ _ _ _ _ | exact Kd.Q_nil _ _ _ _ _ | exact Kd.S_nil _ _ _ _ _, by repeat (first | (with_reducible first | exact HB.out | apply below_alloc | apply pw_below_drewN | apply below_drew1 | refine below_set ?_ GE143.out | refine below_set ?_ GE148.out) | exact HB.out)⟩
                                    · replace c38 := Bool.eq_false_iff.mpr c38
                                      subst c38
                                      have H1 : (if t147 = true then (if x6_20 < (a0.size : Int) then (if 0 ≤ x6_20 then ((ratlineref4_letter.f (bt a0 x6_20)).bind fun t156 => (if t156 = true then (some (([] : List (S32)), x4_1, 10)) else (if x3_1.length < 3518437208883 then (ratlineref4_Tokens.l0 kj30 a0 (x3_1 ++ [(⟨3, (⟨#[]⟩ : ByteArray), t146, x4_1⟩ : S32)]) x6_20) else (none)))) else (none)) else (if x3_1.length < 3518437208883 then (ratlineref4_Tokens.l0 kj30 a0 (x3_1 ++ [(⟨3, (⟨#[]⟩ : ByteArray), t146, x4_1⟩ : S32)]) x6_20) else (none))) else (some (([] : List (S32)), x4_1, 10))) = some (r1, r2, r3) := by rw [if_neg (show ¬ (false = true) by decide)] at H; exact H
                                      clear H
                                      have H := H1
                                      clear H1
                                      by_cases c60 : t147 = true
                                      · subst c60
                                        have H1 : (if x6_20 < (a0.size : Int) then (if 0 ≤ x6_20 then ((ratlineref4_letter.f (bt a0 x6_20)).bind fun t156 => (if t156 = true then (some (([] : List (S32)), x4_1, 10)) else (if x3_1.length < 3518437208883 then (ratlineref4_Tokens.l0 kj30 a0 (x3_1 ++ [(⟨3, (⟨#[]⟩ : ByteArray), t146, x4_1⟩ : S32)]) x6_20) else (none)))) else (none)) else (if x3_1.length < 3518437208883 then (ratlineref4_Tokens.l0 kj30 a0 (x3_1 ++ [(⟨3, (⟨#[]⟩ : ByteArray), t146, x4_1⟩ : S32)]) x6_20) else (none))) = some (r1, r2, r3) := by rw [if_pos rfl] at H; exact H
                                        clear H
                                        have H := H1
                                        clear H1
                                        by_cases c61 : x6_20 < (a0.size : Int)
                                        · rw [if_pos c61] at H
                                          have c61b0 : decide (x6_20 < (a0.size : Int)) = true := decide_eq_true c61
                                          clear c61
                                          by_cases c62 : 0 ≤ x6_20
                                          · rw [if_pos c62] at H
                                            have c62b0 : decide (0 ≤ x6_20) = true := decide_eq_true c62
                                            clear c62
                                            replace H := Option.bind_eq_some_iff.mp H
                                            obtain ⟨t156, A640, H⟩ := H
                                            replace H : (if t156 = true then (some (([] : List (S32)), x4_1, 10)) else (if x3_1.length < 3518437208883 then (ratlineref4_Tokens.l0 kj30 a0 (x3_1 ++ [(⟨3, (⟨#[]⟩ : ByteArray), t146, x4_1⟩ : S32)]) x6_20) else (none))) = some (r1, r2, r3) := H
                                            have A64 := Aside0.mk A640
                                            clear A640
                                            by_cases c65 : t156 = true
                                            · subst c65
                                              have H1 : (some (([] : List (S32)), x4_1, 10)) = some (r1, r2, r3) := by rw [if_pos rfl] at H; exact H
                                              clear H
                                              have H := H1
                                              clear H1
                                              simp only [Option.some.injEq, Prod.mk.injEq] at H
                                              obtain ⟨rfl, rfl, rfl⟩ := H
                                              have p63 : 0 ≤ (x6_20 : Int) := of_decide_eq_true (by first | (with_reducible assumption) | assumption)
                                              have q63 : x6_20 < (a0.size : Int) := of_decide_eq_true (by first | (with_reducible assumption) | assumption)
                                              have hx63 := bt_at a0 x6_20
                                              replace p63 := eq_true p63
                                              replace q63 := eq_true q63
                                              go_wp2_with (first | (go_at_call 18; (with_reducible refine (ratlineref4_letter.calls (bt a0 x6_20) true _ A64.out).mono ?_); rintro e w' ⟨rfl, ⟨nd, rfl⟩⟩; (try (rw [drewN_self wc]; generalize hq_ : World.drewN wc _ = wc; have n0_ : Aside0 (Kd.R k32 32 wc w.heap.size (fun k_ => k_ ≠ gb148) u3 x3_1) := ⟨by rw [← hq_]; exact (by (with_reducible repeat (first | apply Kd.R_alloc | apply Kd.R_drewN | apply Kd.R_drew)); exact HO_3.out)⟩; have n1_ : Aside0 (wc.heap[gb143]? = some (.cells #[.slice none 0 0, .int .i64 x144001_1, .int .i64 x144002_1] 28 (0, 0))) := ⟨by rw [← hq_]; exact (by (with_reducible repeat (first | refine blk_drewN ?_ _ | refine blk_drew ?_ | refine blk_alloc ?_ _)); exact BK143.out)⟩; have n2_ : Aside0 (wc.heap[gb148]? = some (.cells #[.int .i64 3, .string (⟨#[]⟩ : ByteArray), .int .i64 t146, .int .i64 x4_1] 32 (0, 0))) := ⟨by rw [← hq_]; exact (by (with_reducible repeat (first | refine blk_drewN ?_ _ | refine blk_drew ?_ | refine blk_alloc ?_ _)); exact BK148.out)⟩; have n3_ : Aside0 (Below w.heap.size w wc) := ⟨by rw [← hq_]; exact (by repeat (first | (with_reducible first | exact HB.out | apply below_alloc | apply pw_below_drewN | apply below_drew1 | refine below_set ?_ GE143.out | refine below_set ?_ GE148.out) | exact HB.out))⟩; clear HO_3 BK143 BK148 HB hq_; have HO_3 := n0_; have BK143 := n1_; have BK148 := n2_; have HB := n3_; clear n0_ n1_ n2_ n3_)); have hnb66 := NB143_148.out; have hnc66 := NB148_143.out; have hcz67_0 : wc.cell? ⟨gb143, 0, none⟩ = some (.slice none 0 0) := (blk_cell BK143.out 0).trans rfl; have hcz67_1 : wc.cell? ⟨gb143, 1, none⟩ = some (.int .i64 x144001_1) := (blk_cell BK143.out 1).trans rfl; have hcz67_2 : wc.cell? ⟨gb143, 2, none⟩ = some (.int .i64 x144002_1) := (blk_cell BK143.out 2).trans rfl; have hfz67_0 := blk_frozen BK143.out 0; have hfz67_1 := blk_frozen BK143.out 1; have hfz67_2 := blk_frozen BK143.out 2))
                                              refine bodyPost_ret (results_cell_row rfl _ _ gb143 28 #[.slice none 0 0, .int .i64 x4_1, .int .i64 10] (0, 0) _ rfl (by (with_reducible repeat (first | refine blk_drewN ?_ _ | refine blk_drew ?_ | refine blk_alloc ?_ _)); refine blk_put (cs := #[.slice none 0 0, .int .i64 x4_1, .int .i64 x144002_1]) ?_ 2 _ rfl; (with_reducible repeat (first | refine blk_drewN ?_ _ | refine blk_drew ?_ | refine blk_alloc ?_ _)); refine blk_put (cs := #[.slice none 0 0, .int .i64 x144001_1, .int .i64 x144002_1]) ?_ 1 _ rfl; (with_reducible repeat (first | refine blk_drewN ?_ _ | refine blk_drew ?_ | refine blk_alloc ?_ _)); refine blk_put (cs := #[.slice none 0 0, .int .i64 x144001_1, .int .i64 x144002_1]) ?_ 0 _ rfl; (with_reducible repeat (first | refine blk_drewN ?_ _ | refine blk_drew ?_ | refine blk_alloc ?_ _)); exact BK143.out) Tryd.underlying28 rfl (by kernel_rfl)) rfl ?_
                                              exact ⟨_, by first | rfl | (simp [errW_none, errW_some] <;> rfl) | (simp [*, errW_none, errW_some] <;> rfl), by first | exact Kd.R_nil _ _ _ _ _ | exact Kd.N_nil _ _ _ _ _ | exact Kd.V_nil _ _ _ _ _ | exact Kd.Q_nil _ _ _ _ _ | exact Kd.S_nil _ _ _ _ _, by repeat (first | (with_reducible first | exact HB.out | apply below_alloc | apply pw_below_drewN | apply below_drew1 | refine below_set ?_ GE143.out | refine below_set ?_ GE148.out) | exact HB.out)⟩
                                            · replace c65 := Bool.eq_false_iff.mpr c65
                                              subst c65
                                              have H1 : (if x3_1.length < 3518437208883 then (ratlineref4_Tokens.l0 kj30 a0 (x3_1 ++ [(⟨3, (⟨#[]⟩ : ByteArray), t146, x4_1⟩ : S32)]) x6_20) else (none)) = some (r1, r2, r3) := by rw [if_neg (show ¬ (false = true) by decide)] at H; exact H
                                              clear H
                                              have H := H1
                                              clear H1
                                              by_cases c68 : x3_1.length < 3518437208883
                                              · rw [if_pos c68] at H
                                                have LMc68 := Aside0.mk c68
                                                clear c68
                                                obtain ⟨y157, hy157⟩ : ∃ y_ : List (S32), y_ = (x3_1 ++ [(⟨3, (⟨#[]⟩ : ByteArray), t146, x4_1⟩ : S32)]) := ⟨_, rfl⟩
                                                replace H : (ratlineref4_Tokens.l0 kj30 a0 y157 x6_20) = some (r1, r2, r3) := by first | (rw [hy157]; with_reducible exact H) | (have H2_ := (Option.bind_some _ _).symm.trans H; rw [hy157]; with_reducible exact H2_) | (have H2_ := (Option.bind_some _ _).symm.trans H; with_reducible exact H2_) | with_reducible exact H | (rw [hy157]; exact H) | exact H
                                                have Ny157 := Aside0.mk hy157
                                                clear hy157
                                                have H' := Aside0.mk H
                                                clear H
                                                have p63 : 0 ≤ (x6_20 : Int) := of_decide_eq_true (by first | (with_reducible assumption) | assumption)
                                                have q63 : x6_20 < (a0.size : Int) := of_decide_eq_true (by first | (with_reducible assumption) | assumption)
                                                have hx63 := bt_at a0 x6_20
                                                replace p63 := eq_true p63
                                                replace q63 := eq_true q63
                                                go_wp2_with (first | (go_at_call 18; (with_reducible refine (ratlineref4_letter.calls (bt a0 x6_20) false _ A64.out).mono ?_); rintro e w' ⟨rfl, ⟨nd, rfl⟩⟩; have hnb69 := NB148_143.out; have hnc69 := NB143_148.out; have hcz70_0 : wc.cell? ⟨gb148, 0, none⟩ = some (.int .i64 3) := (blk_cell BK148.out 0).trans rfl; have hcz70_1 : wc.cell? ⟨gb148, 1, none⟩ = some (.string (⟨#[]⟩ : ByteArray)) := (blk_cell BK148.out 1).trans rfl; have hcz70_2 : wc.cell? ⟨gb148, 2, none⟩ = some (.int .i64 t146) := (blk_cell BK148.out 2).trans rfl; have hcz70_3 : wc.cell? ⟨gb148, 3, none⟩ = some (.int .i64 x4_1) := (blk_cell BK148.out 3).trans rfl; have hfz70_0 := blk_frozen BK148.out 0; have hfz70_1 := blk_frozen BK148.out 1; have hfz70_2 := blk_frozen BK148.out 2; have hfz70_3 := blk_frozen BK148.out 3) | ((with_reducible refine gate_builtin (b := .append) (xs := #[.tmp 130, .tmp 132]) rfl ?_); (try (refine gate_guard (by rfl) ?_; dsimp only)); at_builtin; refine Kd.R_append k32 (w0 := w) w.heap.size rfl (.tmp 130) (.tmp 132) 26 32 (.agg #[(.int .i64 0), (.string ⟨#[]⟩), (.int .i64 0), (.int .i64 0)]) 40 rfl Tryd.underlying26 info32 rfl (by decide) (by omega) u3 x3_1 (⟨3, (⟨#[]⟩ : ByteArray), t146, x4_1⟩ : S32) [.int .i64 3, .string (⟨#[]⟩ : ByteArray), .int .i64 t146, .int .i64 x4_1] (fun k_ => k_ ≠ gb148) (fun _ => False) rfl rfl ?aP (fun _ hk => hk.elim) ?aF ?aO ?aB ?aS ?aL ?_; (case aP => exact k32_mkM _ _ _ (⟨3, (⟨#[]⟩ : ByteArray), t146, x4_1⟩ : S32)); (case aB => exact (by repeat (first | (with_reducible first | exact HB.out | apply below_alloc | apply pw_below_drewN | apply below_drew1 | refine below_set ?_ GE143.out | refine below_set ?_ GE148.out) | exact HB.out))); (case aF => exact (fun k_ hk => Kd.freshB (g := gb148) (o := .cells #[.int .i64 3, .string (⟨#[]⟩ : ByteArray), .int .i64 t146, .int .i64 x4_1] 32 (0, 0)) (by (with_reducible repeat (first | refine blk_drewN ?_ _ | refine blk_drew ?_ | refine blk_alloc ?_ _)); exact BK148.out) k_ hk)); (case aO => exact (by (with_reducible repeat (first | apply Kd.R_alloc | apply Kd.R_drewN | apply Kd.R_drew)); exact HO_3.out)); (case aS => exact (below_size (by repeat (first | (with_reducible first | exact HB.out | apply below_alloc | apply pw_below_drewN | apply below_drew1 | refine below_set ?_ GE143.out | refine below_set ?_ GE148.out) | exact HB.out)))); (case aL => have := LMc68.out; omega); intro v158 w71 ho hb hg hat; rw [← Ny157.out] at ho; have n0_ := Aside0.mk (blk_grown (g := gb143) (o := .cells #[.slice none 0 0, .int .i64 x144001_1, .int .i64 x144002_1] 28 (0, 0)) (by (with_reducible repeat (first | refine blk_drewN ?_ _ | refine blk_drew ?_ | refine blk_alloc ?_ _)); exact BK143.out) hg (Kd.R_ne HO_3.out BK143.out (by decide))); have n1_ := Aside0.mk (blk_grown (g := gb148) (o := .cells #[.int .i64 3, .string (⟨#[]⟩ : ByteArray), .int .i64 t146, .int .i64 x4_1] 32 (0, 0)) (by (with_reducible repeat (first | refine blk_drewN ?_ _ | refine blk_drew ?_ | refine blk_alloc ?_ _)); exact BK148.out) hg (Kd.R_away HO_3.out (fun _ hk => hk))); have n2_ := Aside0.mk (hb); have n3_ := Aside0.mk (ho); clear BK143; clear BK148; clear HB; clear HO_3; have BK143 := n0_; have BK148 := n1_; have HB := n2_; have HO159 := n3_; clear n0_ n1_ n2_ n3_; clear ho hb hg hat))
                                                go_roundg kj30
                                                case measure => have := HK1.out; have := HJ8.out; have := HJ20.out; have := HJ30.out; omega
                                                case rel => exact ⟨(y157), (x6_20), (x144001_1), (x144002_1), (by first | rfl | (simp; done) | (simp [*]; done)), H', ⟨by have := HK1.out; have := HJ8.out; have := HJ20.out; have := HJ30.out; omega⟩, ⟨by (with_reducible repeat (first | apply Kd.R_alloc | apply Kd.R_drewN | apply Kd.R_drew)); exact Kd.R_mono HO159.out (fun _ hk => trivial)⟩, ⟨by (with_reducible repeat (first | refine blk_drewN ?_ _ | refine blk_drew ?_ | refine blk_alloc ?_ _)); exact BK143.out⟩, ⟨by repeat (first | (with_reducible first | exact HB.out | apply below_alloc | apply pw_below_drewN | apply below_drew1 | refine below_set ?_ GE143.out | refine below_set ?_ GE148.out) | exact HB.out)⟩⟩
                                              · rw [if_neg c68] at H
                                                exact absurd H (by simp)
                                          · rw [if_neg c62] at H
                                            exact absurd H (by simp)
                                        · rw [if_neg c61] at H
                                          have c61b0 : decide (x6_20 < (a0.size : Int)) = false := decide_eq_false c61
                                          clear c61
                                          by_cases c72 : x3_1.length < 3518437208883
                                          · rw [if_pos c72] at H
                                            have LMc72 := Aside0.mk c72
                                            clear c72
                                            obtain ⟨y160, hy160⟩ : ∃ y_ : List (S32), y_ = (x3_1 ++ [(⟨3, (⟨#[]⟩ : ByteArray), t146, x4_1⟩ : S32)]) := ⟨_, rfl⟩
                                            replace H : (ratlineref4_Tokens.l0 kj30 a0 y160 x6_20) = some (r1, r2, r3) := by first | (rw [hy160]; with_reducible exact H) | (have H2_ := (Option.bind_some _ _).symm.trans H; rw [hy160]; with_reducible exact H2_) | (have H2_ := (Option.bind_some _ _).symm.trans H; with_reducible exact H2_) | with_reducible exact H | (rw [hy160]; exact H) | exact H
                                            have Ny160 := Aside0.mk hy160
                                            clear hy160
                                            have H' := Aside0.mk H
                                            clear H
                                            have hnb73 := NB148_143.out
                                            have hnc73 := NB143_148.out
                                            have hcz74_0 : wc.cell? ⟨gb148, 0, none⟩ = some (.int .i64 3) := (blk_cell BK148.out 0).trans rfl
                                            have hcz74_1 : wc.cell? ⟨gb148, 1, none⟩ = some (.string (⟨#[]⟩ : ByteArray)) := (blk_cell BK148.out 1).trans rfl
                                            have hcz74_2 : wc.cell? ⟨gb148, 2, none⟩ = some (.int .i64 t146) := (blk_cell BK148.out 2).trans rfl
                                            have hcz74_3 : wc.cell? ⟨gb148, 3, none⟩ = some (.int .i64 x4_1) := (blk_cell BK148.out 3).trans rfl
                                            have hfz74_0 := blk_frozen BK148.out 0
                                            have hfz74_1 := blk_frozen BK148.out 1
                                            have hfz74_2 := blk_frozen BK148.out 2
                                            have hfz74_3 := blk_frozen BK148.out 3
                                            go_wp2_with (first | ((with_reducible refine gate_builtin (b := .append) (xs := #[.tmp 130, .tmp 132]) rfl ?_); (try (refine gate_guard (by rfl) ?_; dsimp only)); at_builtin; refine Kd.R_append k32 (w0 := w) w.heap.size rfl (.tmp 130) (.tmp 132) 26 32 (.agg #[(.int .i64 0), (.string ⟨#[]⟩), (.int .i64 0), (.int .i64 0)]) 40 rfl Tryd.underlying26 info32 rfl (by decide) (by omega) u3 x3_1 (⟨3, (⟨#[]⟩ : ByteArray), t146, x4_1⟩ : S32) [.int .i64 3, .string (⟨#[]⟩ : ByteArray), .int .i64 t146, .int .i64 x4_1] (fun k_ => k_ ≠ gb148) (fun _ => False) rfl rfl ?aP (fun _ hk => hk.elim) ?aF ?aO ?aB ?aS ?aL ?_; (case aP => exact k32_mkM _ _ _ (⟨3, (⟨#[]⟩ : ByteArray), t146, x4_1⟩ : S32)); (case aB => exact (by repeat (first | (with_reducible first | exact HB.out | apply below_alloc | apply pw_below_drewN | apply below_drew1 | refine below_set ?_ GE143.out | refine below_set ?_ GE148.out) | exact HB.out))); (case aF => exact (fun k_ hk => Kd.freshB (g := gb148) (o := .cells #[.int .i64 3, .string (⟨#[]⟩ : ByteArray), .int .i64 t146, .int .i64 x4_1] 32 (0, 0)) (by (with_reducible repeat (first | refine blk_drewN ?_ _ | refine blk_drew ?_ | refine blk_alloc ?_ _)); exact BK148.out) k_ hk)); (case aO => exact (by (with_reducible repeat (first | apply Kd.R_alloc | apply Kd.R_drewN | apply Kd.R_drew)); exact HO_3.out)); (case aS => exact (below_size (by repeat (first | (with_reducible first | exact HB.out | apply below_alloc | apply pw_below_drewN | apply below_drew1 | refine below_set ?_ GE143.out | refine below_set ?_ GE148.out) | exact HB.out)))); (case aL => have := LMc72.out; omega); intro v161 w75 ho hb hg hat; rw [← Ny160.out] at ho; have n0_ := Aside0.mk (blk_grown (g := gb143) (o := .cells #[.slice none 0 0, .int .i64 x144001_1, .int .i64 x144002_1] 28 (0, 0)) (by (with_reducible repeat (first | refine blk_drewN ?_ _ | refine blk_drew ?_ | refine blk_alloc ?_ _)); exact BK143.out) hg (Kd.R_ne HO_3.out BK143.out (by decide))); have n1_ := Aside0.mk (blk_grown (g := gb148) (o := .cells #[.int .i64 3, .string (⟨#[]⟩ : ByteArray), .int .i64 t146, .int .i64 x4_1] 32 (0, 0)) (by (with_reducible repeat (first | refine blk_drewN ?_ _ | refine blk_drew ?_ | refine blk_alloc ?_ _)); exact BK148.out) hg (Kd.R_away HO_3.out (fun _ hk => hk))); have n2_ := Aside0.mk (hb); have n3_ := Aside0.mk (ho); clear BK143; clear BK148; clear HB; clear HO_3; have BK143 := n0_; have BK148 := n1_; have HB := n2_; have HO162 := n3_; clear n0_ n1_ n2_ n3_; clear ho hb hg hat))
                                            go_roundg kj30
                                            case measure => have := HK1.out; have := HJ8.out; have := HJ20.out; have := HJ30.out; omega
                                            case rel => exact ⟨(y160), (x6_20), (x144001_1), (x144002_1), (by first | rfl | (simp; done) | (simp [*]; done)), H', ⟨by have := HK1.out; have := HJ8.out; have := HJ20.out; have := HJ30.out; omega⟩, ⟨by (with_reducible repeat (first | apply Kd.R_alloc | apply Kd.R_drewN | apply Kd.R_drew)); exact Kd.R_mono HO162.out (fun _ hk => trivial)⟩, ⟨by (with_reducible repeat (first | refine blk_drewN ?_ _ | refine blk_drew ?_ | refine blk_alloc ?_ _)); exact BK143.out⟩, ⟨by repeat (first | (with_reducible first | exact HB.out | apply below_alloc | apply pw_below_drewN | apply below_drew1 | refine below_set ?_ GE143.out | refine below_set ?_ GE148.out) | exact HB.out)⟩⟩
                                          · rw [if_neg c72] at H
                                            exact absurd H (by simp)
                                      · replace c60 := Bool.eq_false_iff.mpr c60
                                        subst c60
                                        have H1 : (some (([] : List (S32)), x4_1, 10)) = some (r1, r2, r3) := by rw [if_neg (show ¬ (false = true) by decide)] at H; exact H
                                        clear H
                                        have H := H1
                                        clear H1
                                        simp only [Option.some.injEq, Prod.mk.injEq] at H
                                        obtain ⟨rfl, rfl, rfl⟩ := H
                                        have hnb76 := NB143_148.out
                                        have hnc76 := NB148_143.out
                                        have hcz77_0 : wc.cell? ⟨gb143, 0, none⟩ = some (.slice none 0 0) := (blk_cell BK143.out 0).trans rfl
                                        have hcz77_1 : wc.cell? ⟨gb143, 1, none⟩ = some (.int .i64 x144001_1) := (blk_cell BK143.out 1).trans rfl
                                        have hcz77_2 : wc.cell? ⟨gb143, 2, none⟩ = some (.int .i64 x144002_1) := (blk_cell BK143.out 2).trans rfl
                                        have hfz77_0 := blk_frozen BK143.out 0
                                        have hfz77_1 := blk_frozen BK143.out 1
                                        have hfz77_2 := blk_frozen BK143.out 2
                                        go_wp2
                                        refine bodyPost_ret (results_cell_row rfl _ _ gb143 28 #[.slice none 0 0, .int .i64 x4_1, .int .i64 10] (0, 0) _ rfl (by (with_reducible repeat (first | refine blk_drewN ?_ _ | refine blk_drew ?_ | refine blk_alloc ?_ _)); refine blk_put (cs := #[.slice none 0 0, .int .i64 x4_1, .int .i64 x144002_1]) ?_ 2 _ rfl; (with_reducible repeat (first | refine blk_drewN ?_ _ | refine blk_drew ?_ | refine blk_alloc ?_ _)); refine blk_put (cs := #[.slice none 0 0, .int .i64 x144001_1, .int .i64 x144002_1]) ?_ 1 _ rfl; (with_reducible repeat (first | refine blk_drewN ?_ _ | refine blk_drew ?_ | refine blk_alloc ?_ _)); refine blk_put (cs := #[.slice none 0 0, .int .i64 x144001_1, .int .i64 x144002_1]) ?_ 0 _ rfl; (with_reducible repeat (first | refine blk_drewN ?_ _ | refine blk_drew ?_ | refine blk_alloc ?_ _)); exact BK143.out) Tryd.underlying28 rfl (by kernel_rfl)) rfl ?_
                                        exact ⟨_, by first | rfl | (simp [errW_none, errW_some] <;> rfl) | (simp [*, errW_none, errW_some] <;> rfl), by first | exact Kd.R_nil _ _ _ _ _ | exact Kd.N_nil _ _ _ _ _ | exact Kd.V_nil _ _ _ _ _ | exact Kd.Q_nil _ _ _ _ _ | exact Kd.S_nil _ _ _ _ _, by repeat (first | (with_reducible first | exact HB.out | apply below_alloc | apply pw_below_drewN | apply below_drew1 | refine below_set ?_ GE143.out | refine below_set ?_ GE148.out) | exact HB.out)⟩
                              · rw [if_neg c29] at H
                                exact absurd H (by simp)
                            · rw [if_neg c28] at H
                              exact absurd H (by simp)
                          · rw [if_neg c27] at H
                            exact absurd H (by simp)
                    · replace c20 := Bool.eq_false_iff.mpr c20
                      subst c20
                      have H1 : ((ratlineref4_letter.f (bt a0 x4_1)).bind fun t163 => (if t163 = true then (ratlineref4_Tokens.l3 kj8 a0 x3_1 x4_1 x4_1) else (if (bt a0 x4_1) = 34 then ((ratlineref4_text.f kj8 a0 x4_1).bind fun bt172 => (if bt172.2.2 = true then (if x3_1.length < 3518437208883 then (ratlineref4_Tokens.l0 kj8 a0 (x3_1 ++ [(⟨5, bt172.1, 0, x4_1⟩ : S32)]) bt172.2.1) else (none)) else (some (([] : List (S32)), x4_1, 10)))) else (if 0 ≤ x4_1 then (if x4_1 ≤ (a0.size : Int) then ((ratlineref4_op.f kj8 (a0.extract (x4_1 : Int).toNat a0.size)).bind fun t178 => (if t178.toList = ([] : List UInt8) then (some (([] : List (S32)), x4_1, 10)) else (if x3_1.length < 3518437208883 then (ratlineref4_Tokens.l0 kj8 a0 (x3_1 ++ [(⟨6, t178, 0, x4_1⟩ : S32)]) (wrap64 (x4_1 + (t178.size : Int)))) else (none)))) else (none)) else (none))))) = some (r1, r2, r3) := by rw [if_neg (show ¬ (false = true) by decide)] at H; exact H
                      clear H
                      have H := H1
                      clear H1
                      replace H := Option.bind_eq_some_iff.mp H
                      obtain ⟨t163, A780, H⟩ := H
                      replace H : (if t163 = true then (ratlineref4_Tokens.l3 kj8 a0 x3_1 x4_1 x4_1) else (if (bt a0 x4_1) = 34 then ((ratlineref4_text.f kj8 a0 x4_1).bind fun bt172 => (if bt172.2.2 = true then (if x3_1.length < 3518437208883 then (ratlineref4_Tokens.l0 kj8 a0 (x3_1 ++ [(⟨5, bt172.1, 0, x4_1⟩ : S32)]) bt172.2.1) else (none)) else (some (([] : List (S32)), x4_1, 10)))) else (if 0 ≤ x4_1 then (if x4_1 ≤ (a0.size : Int) then ((ratlineref4_op.f kj8 (a0.extract (x4_1 : Int).toNat a0.size)).bind fun t178 => (if t178.toList = ([] : List UInt8) then (some (([] : List (S32)), x4_1, 10)) else (if x3_1.length < 3518437208883 then (ratlineref4_Tokens.l0 kj8 a0 (x3_1 ++ [(⟨6, t178, 0, x4_1⟩ : S32)]) (wrap64 (x4_1 + (t178.size : Int)))) else (none)))) else (none)) else (none)))) = some (r1, r2, r3) := H
                      have A78 := Aside0.mk A780
                      clear A780
                      by_cases c79 : t163 = true
                      · subst c79
                        have H1 : (ratlineref4_Tokens.l3 kj8 a0 x3_1 x4_1 x4_1) = some (r1, r2, r3) := by rw [if_pos rfl] at H; exact H
                        clear H
                        have H := H1
                        clear H1
                        have HC80 := Aside0.mk H
                        clear H
                        go_upto_block 7 with (first | ((with_reducible refine gate_callee (f := 16) rfl ?_); refine goesL_ (some 77) rfl rfl Tryd.func16 (by kernel_rfl) rfl #[.int .u8 (bt a0 x4_1)] rfl (by (try simp only [List.map_toArray, List.map_cons, List.map_nil]); first | done | rfl | (simp only [List.length_drop, List.length_take]; rfl)) ?_; (with_reducible refine (ratlineref4_digit.calls (bt a0 x4_1) false _ A19.out).mono ?_); rintro e w' ⟨rfl, ⟨nd, rfl⟩⟩; refine ⟨_, rfl, ?_⟩) | ((with_reducible refine gate_callee (f := 18) rfl ?_); refine goesL_ (some 136) rfl rfl Tryd.func18 (by kernel_rfl) rfl #[.int .u8 (bt a0 x4_1)] rfl (by (try simp only [List.map_toArray, List.map_cons, List.map_nil]); first | done | rfl | (simp only [List.length_drop, List.length_take]; rfl)) ?_; (with_reducible refine (ratlineref4_letter.calls (bt a0 x4_1) true _ A78.out).mono ?_); rintro e w' ⟨rfl, ⟨nd, rfl⟩⟩; refine ⟨_, rfl, ?_⟩))
                        (try simp only [Act.put, List.setIfInBounds_toArray, List.set_cons_zero, List.set_cons_succ])
                        go_cut [6] (fun v6 wc => ∃ (kq : Nat) (x6_79 : Int), v6 = .int .i64 x6_79 ∧ Aside0 (ratlineref4_Tokens.j7 kq a0 x3_1 x4_1 x6_79 = some (r1, r2, r3)) ∧ Aside0 (kq ≤ kj8) ∧ Aside0 (Kd.R k32 32 wc w.heap.size (fun _ => True) u3 x3_1) ∧ Aside0 (wc.heap[gb143]? = some (.cells #[(.slice none 0 0), .int .i64 x144001_1, .int .i64 x144002_1] 28 (0, 0))) ∧ Aside0 (Below w.heap.size w wc))
                        case first => as_aux_lemma =>
                          have H := HC80.out
                          clear HC80
                          have H' := Aside0.mk H
                          clear H
                          go_wp2
                          go_loopg [6] kj8 (fun kq v6 w' => ∃ (x6_3 : Int), v6 = .int .i64 x6_3 ∧ Aside0 (ratlineref4_Tokens.l3 kq a0 x3_1 x4_1 x6_3 = some (r1, r2, r3)) ∧ Aside0 (kq ≤ kj8) ∧ Aside0 (Kd.R k32 32 w' w.heap.size (fun _ => True) u3 x3_1) ∧ Aside0 (w'.heap[gb143]? = some (.cells #[(.slice none 0 0), .int .i64 x144001_1, .int .i64 x144002_1] 28 (0, 0))) ∧ Aside0 (Below w.heap.size w w'))
                          case atStart => exact ⟨(x4_1), (by first | rfl | (simp; done) | (simp [*]; done)), H', ⟨Nat.le_refl _⟩, ⟨by (with_reducible repeat (first | apply Kd.R_alloc | apply Kd.R_drewN | apply Kd.R_drew)); exact HO_3.out⟩, ⟨by (with_reducible repeat (first | refine blk_drewN ?_ _ | refine blk_drew ?_ | refine blk_alloc ?_ _)); exact BK143.out⟩, ⟨by repeat (first | (with_reducible first | exact HB.out | apply below_alloc | apply pw_below_drewN | apply below_drew1 | refine below_set ?_ GE143.out) | exact HB.out)⟩⟩
                          case round => as_aux_lemma =>
                            clear H'
                            try clear c1
                            try clear p1
                            try clear q1
                            try clear hx1
                            try clear c2
                            try clear c2b0
                            try clear c2b1
                            try clear p2
                            try clear q2
                            try clear hx2
                            try clear c3
                            try clear p3
                            try clear q3
                            try clear hx3
                            try clear c4
                            try clear p4
                            try clear q4
                            try clear hx4
                            try clear c5
                            try clear c6
                            try clear c6b0
                            try clear p6
                            try clear q6
                            try clear hx6
                            try clear c7
                            try clear c7b0
                            try clear p8
                            try clear q8
                            try clear hx8
                            try clear c9
                            try clear c10
                            try clear c10b0
                            try clear c10b1
                            try clear c11
                            try clear c11b0
                            try clear c11b1
                            try clear c12
                            try clear c12b0
                            try clear c12b1
                            try clear c13
                            try clear c14
                            try clear c14b0
                            try clear c14b1
                            try clear c15
                            try clear c15b0
                            try clear c16
                            try clear c16b0
                            try clear c17
                            try clear p17
                            try clear q17
                            try clear hx17
                            try clear c18
                            try clear c18b0
                            try clear c18b1
                            try clear c20
                            try clear c22
                            try clear c22b0
                            try clear c23
                            try clear c23b0
                            try clear p24
                            try clear q24
                            try clear hx24
                            try clear c26
                            try clear c27
                            try clear c27b0
                            try clear c27b1
                            try clear c28
                            try clear c28b0
                            try clear c28b1
                            try clear c29
                            try clear c29b0
                            try clear c29b1
                            try clear c33
                            try clear c35
                            try clear c35b0
                            try clear c36
                            try clear c36b0
                            try clear p37
                            try clear q37
                            try clear hx37
                            try clear c38
                            try clear c39
                            try clear c40
                            try clear c40b0
                            try clear c42
                            try clear c42b0
                            try clear p43
                            try clear q43
                            try clear hx43
                            try clear c45
                            try clear c46
                            try clear c49
                            try clear c50
                            try clear c53
                            try clear c54
                            try clear c57
                            try clear c60
                            try clear c61
                            try clear c61b0
                            try clear c62
                            try clear c62b0
                            try clear p63
                            try clear q63
                            try clear hx63
                            try clear p64
                            try clear c65
                            try clear c66
                            try clear c68
                            try clear c69
                            try clear c72
                            try clear c73
                            try clear c76
                            try clear c79
                            try clear hcz34_0
                            try clear hcz34_1
                            try clear hcz34_2
                            try clear hcz34_3
                            try clear hcz47_0
                            try clear hcz47_1
                            try clear hcz47_2
                            try clear hcz47_3
                            try clear hcz48_0
                            try clear hcz48_1
                            try clear hcz48_2
                            try clear hcz4_0
                            try clear hcz4_1
                            try clear hcz4_2
                            try clear hcz51_0
                            try clear hcz51_1
                            try clear hcz51_2
                            try clear hcz51_3
                            try clear hcz55_0
                            try clear hcz55_1
                            try clear hcz55_2
                            try clear hcz55_3
                            try clear hcz58_0
                            try clear hcz58_1
                            try clear hcz58_2
                            try clear hcz58_3
                            try clear hcz59_0
                            try clear hcz59_1
                            try clear hcz59_2
                            try clear hcz67_0
                            try clear hcz67_1
                            try clear hcz67_2
                            try clear hcz70_0
                            try clear hcz70_1
                            try clear hcz70_2
                            try clear hcz70_3
                            try clear hcz74_0
                            try clear hcz74_1
                            try clear hcz74_2
                            try clear hcz74_3
                            try clear hcz77_0
                            try clear hcz77_1
                            try clear hcz77_2
                            try clear hfz34_0
                            try clear hfz34_1
                            try clear hfz34_2
                            try clear hfz34_3
                            try clear hfz47_0
                            try clear hfz47_1
                            try clear hfz47_2
                            try clear hfz47_3
                            try clear hfz48_0
                            try clear hfz48_1
                            try clear hfz48_2
                            try clear hfz4_0
                            try clear hfz4_1
                            try clear hfz4_2
                            try clear hfz51_0
                            try clear hfz51_1
                            try clear hfz51_2
                            try clear hfz51_3
                            try clear hfz55_0
                            try clear hfz55_1
                            try clear hfz55_2
                            try clear hfz55_3
                            try clear hfz58_0
                            try clear hfz58_1
                            try clear hfz58_2
                            try clear hfz58_3
                            try clear hfz59_0
                            try clear hfz59_1
                            try clear hfz59_2
                            try clear hfz67_0
                            try clear hfz67_1
                            try clear hfz67_2
                            try clear hfz70_0
                            try clear hfz70_1
                            try clear hfz70_2
                            try clear hfz70_3
                            try clear hfz74_0
                            try clear hfz74_1
                            try clear hfz74_2
                            try clear hfz74_3
                            try clear hfz77_0
                            try clear hfz77_1
                            try clear hfz77_2
                            try clear p1
                            try clear p17
                            try clear p2
                            try clear p24
                            try clear p3
                            try clear p37
                            try clear p43
                            try clear p6
                            try clear p63
                            try clear p8
                            try clear q1
                            try clear q17
                            try clear q2
                            try clear q24
                            try clear q3
                            try clear q37
                            try clear q43
                            try clear q63
                            try clear q8
                            obtain ⟨x6_3, rfl, HA, HK3, HO_3, BK143, HB⟩ := hrel
                            cases gk with
                            | zero => exact absurd HA.out (by simp [ratlineref4_Tokens.l3])
                            | succ k3 =>
                              have H := HA.out
                              clear HA
                              simp only [ratlineref4_Tokens.l3] at H
                              by_cases c81 : x6_3 < (a0.size : Int)
                              · rw [if_pos c81] at H
                                have c81b0 : decide (x6_3 < (a0.size : Int)) = true := decide_eq_true c81
                                clear c81
                                (first | rw [c81b0] | (simp only [i64_w, i32_w]; rw [c81b0]) | skip)
                                by_cases c82 : 0 ≤ x6_3
                                · rw [if_pos c82] at H
                                  have c82b0 : decide (0 ≤ x6_3) = true := decide_eq_true c82
                                  clear c82
                                  replace H := Option.bind_eq_some_iff.mp H
                                  obtain ⟨t164, A840, H⟩ := H
                                  replace H : (if t164 = true then (ratlineref4_Tokens.l3 k3 a0 x3_1 x4_1 (wrap64 (x6_3 + 1))) else (ratlineref4_Tokens.j7 k3 a0 x3_1 x4_1 x6_3)) = some (r1, r2, r3) := H
                                  have A84 := Aside0.mk A840
                                  clear A840
                                  by_cases c85 : t164 = true
                                  · subst c85
                                    have H1 : (ratlineref4_Tokens.l3 k3 a0 x3_1 x4_1 (wrap64 (x6_3 + 1))) = some (r1, r2, r3) := by rw [if_pos rfl] at H; exact H
                                    clear H
                                    have H := H1
                                    clear H1
                                    have H' := Aside0.mk H
                                    clear H
                                    have p83 : 0 ≤ (x6_3 : Int) := of_decide_eq_true (by first | (with_reducible assumption) | assumption)
                                    have q83 : x6_3 < (a0.size : Int) := of_decide_eq_true (by first | (with_reducible assumption) | assumption)
                                    have hx83 := bt_at a0 x6_3
                                    replace p83 := eq_true p83
                                    replace q83 := eq_true q83
                                    go_wp2_with (first | (go_at_call 18; (with_reducible refine (ratlineref4_letter.calls (bt a0 x6_3) true _ A84.out).mono ?_); rintro e w' ⟨rfl, ⟨nd, rfl⟩⟩))
                                    go_roundg k3
                                    case measure => have := HK1.out; have := HJ8.out; have := HK3.out; omega
                                    case rel => exact ⟨(wrap64 (x6_3 + 1)), (by first | rfl | (simp; done) | (simp [*]; done)), H', ⟨by have := HK1.out; have := HJ8.out; have := HK3.out; omega⟩, ⟨by (with_reducible repeat (first | apply Kd.R_alloc | apply Kd.R_drewN | apply Kd.R_drew)); exact HO_3.out⟩, ⟨by (with_reducible repeat (first | refine blk_drewN ?_ _ | refine blk_drew ?_ | refine blk_alloc ?_ _)); exact BK143.out⟩, ⟨by repeat (first | (with_reducible first | exact HB.out | apply below_alloc | apply pw_below_drewN | apply below_drew1 | refine below_set ?_ GE143.out) | exact HB.out)⟩⟩
                                  · replace c85 := Bool.eq_false_iff.mpr c85
                                    subst c85
                                    have H1 : (ratlineref4_Tokens.j7 k3 a0 x3_1 x4_1 x6_3) = some (r1, r2, r3) := by rw [if_neg (show ¬ (false = true) by decide)] at H; exact H
                                    clear H
                                    have H := H1
                                    clear H1
                                    have H' := Aside0.mk H
                                    clear H
                                    have p83 : 0 ≤ (x6_3 : Int) := of_decide_eq_true (by first | (with_reducible assumption) | assumption)
                                    have q83 : x6_3 < (a0.size : Int) := of_decide_eq_true (by first | (with_reducible assumption) | assumption)
                                    have hx83 := bt_at a0 x6_3
                                    replace p83 := eq_true p83
                                    replace q83 := eq_true q83
                                    go_wp2_with (first | (go_at_call 18; (with_reducible refine (ratlineref4_letter.calls (bt a0 x6_3) false _ A84.out).mono ?_); rintro e w' ⟨rfl, ⟨nd, rfl⟩⟩))
                                    go_meet
                                    case rel => exact ⟨_, (x6_3), (by first | rfl | (simp; done) | (simp [*]; done)), H', ⟨by have := HK1.out; have := HJ8.out; have := HK3.out; first | omega | exact Nat.le_refl _⟩, ⟨by (with_reducible repeat (first | apply Kd.R_alloc | apply Kd.R_drewN | apply Kd.R_drew)); exact HO_3.out⟩, ⟨by (with_reducible repeat (first | refine blk_drewN ?_ _ | refine blk_drew ?_ | refine blk_alloc ?_ _)); exact BK143.out⟩, ⟨by repeat (first | (with_reducible first | exact HB.out | apply below_alloc | apply pw_below_drewN | apply below_drew1 | refine below_set ?_ GE143.out) | exact HB.out)⟩⟩
                                · rw [if_neg c82] at H
                                  exact absurd H (by simp)
                              · rw [if_neg c81] at H
                                have c81b0 : decide (x6_3 < (a0.size : Int)) = false := decide_eq_false c81
                                clear c81
                                (first | rw [c81b0] | (simp only [i64_w, i32_w]; rw [c81b0]) | skip)
                                have H' := Aside0.mk H
                                clear H
                                go_wp2
                                go_meet
                                case rel => exact ⟨_, (x6_3), (by first | rfl | (simp; done) | (simp [*]; done)), H', ⟨by have := HK1.out; have := HJ8.out; have := HK3.out; first | omega | exact Nat.le_refl _⟩, ⟨by (with_reducible repeat (first | apply Kd.R_alloc | apply Kd.R_drewN | apply Kd.R_drew)); exact HO_3.out⟩, ⟨by (with_reducible repeat (first | refine blk_drewN ?_ _ | refine blk_drew ?_ | refine blk_alloc ?_ _)); exact BK143.out⟩, ⟨by repeat (first | (with_reducible first | exact HB.out | apply below_alloc | apply pw_below_drewN | apply below_drew1 | refine below_set ?_ GE143.out) | exact HB.out)⟩⟩
                        case rest => as_aux_lemma =>
                          clear HC80
                          try clear c1
                          try clear p1
                          try clear q1
                          try clear hx1
                          try clear c2
                          try clear c2b0
                          try clear c2b1
                          try clear p2
                          try clear q2
                          try clear hx2
                          try clear c3
                          try clear p3
                          try clear q3
                          try clear hx3
                          try clear c4
                          try clear p4
                          try clear q4
                          try clear hx4
                          try clear c5
                          try clear c6
                          try clear c6b0
                          try clear p6
                          try clear q6
                          try clear hx6
                          try clear c7
                          try clear c7b0
                          try clear c8
                          try clear p8
                          try clear q8
                          try clear hx8
                          try clear c9
                          try clear c10
                          try clear c10b0
                          try clear c10b1
                          try clear c11
                          try clear c11b0
                          try clear c11b1
                          try clear c12
                          try clear c12b0
                          try clear c12b1
                          try clear c13
                          try clear c14
                          try clear c14b0
                          try clear c14b1
                          try clear c15
                          try clear c15b0
                          try clear c16
                          try clear c16b0
                          try clear c17
                          try clear p17
                          try clear q17
                          try clear hx17
                          try clear c18
                          try clear c18b0
                          try clear c18b1
                          try clear c20
                          try clear c22
                          try clear c22b0
                          try clear c23
                          try clear c23b0
                          try clear p24
                          try clear q24
                          try clear hx24
                          try clear c26
                          try clear c27
                          try clear c27b0
                          try clear c27b1
                          try clear c28
                          try clear c28b0
                          try clear c28b1
                          try clear c29
                          try clear c29b0
                          try clear c29b1
                          try clear c33
                          try clear c35
                          try clear c35b0
                          try clear c36
                          try clear c36b0
                          try clear p37
                          try clear q37
                          try clear hx37
                          try clear c38
                          try clear c39
                          try clear c40
                          try clear c40b0
                          try clear c42
                          try clear c42b0
                          try clear p43
                          try clear q43
                          try clear hx43
                          try clear c45
                          try clear c46
                          try clear c49
                          try clear c50
                          try clear c53
                          try clear c54
                          try clear c57
                          try clear c60
                          try clear c61
                          try clear c61b0
                          try clear c62
                          try clear c62b0
                          try clear p63
                          try clear q63
                          try clear hx63
                          try clear p64
                          try clear c65
                          try clear c66
                          try clear c68
                          try clear c69
                          try clear c72
                          try clear c73
                          try clear c76
                          try clear c79
                          try clear c81
                          try clear c81b0
                          try clear c82
                          try clear c82b0
                          try clear p83
                          try clear q83
                          try clear hx83
                          try clear c85
                          try clear hcz34_0
                          try clear hcz34_1
                          try clear hcz34_2
                          try clear hcz34_3
                          try clear hcz47_0
                          try clear hcz47_1
                          try clear hcz47_2
                          try clear hcz47_3
                          try clear hcz48_0
                          try clear hcz48_1
                          try clear hcz48_2
                          try clear hcz4_0
                          try clear hcz4_1
                          try clear hcz4_2
                          try clear hcz51_0
                          try clear hcz51_1
                          try clear hcz51_2
                          try clear hcz51_3
                          try clear hcz55_0
                          try clear hcz55_1
                          try clear hcz55_2
                          try clear hcz55_3
                          try clear hcz58_0
                          try clear hcz58_1
                          try clear hcz58_2
                          try clear hcz58_3
                          try clear hcz59_0
                          try clear hcz59_1
                          try clear hcz59_2
                          try clear hcz67_0
                          try clear hcz67_1
                          try clear hcz67_2
                          try clear hcz70_0
                          try clear hcz70_1
                          try clear hcz70_2
                          try clear hcz70_3
                          try clear hcz74_0
                          try clear hcz74_1
                          try clear hcz74_2
                          try clear hcz74_3
                          try clear hcz77_0
                          try clear hcz77_1
                          try clear hcz77_2
                          try clear hfz34_0
                          try clear hfz34_1
                          try clear hfz34_2
                          try clear hfz34_3
                          try clear hfz47_0
                          try clear hfz47_1
                          try clear hfz47_2
                          try clear hfz47_3
                          try clear hfz48_0
                          try clear hfz48_1
                          try clear hfz48_2
                          try clear hfz4_0
                          try clear hfz4_1
                          try clear hfz4_2
                          try clear hfz51_0
                          try clear hfz51_1
                          try clear hfz51_2
                          try clear hfz51_3
                          try clear hfz55_0
                          try clear hfz55_1
                          try clear hfz55_2
                          try clear hfz55_3
                          try clear hfz58_0
                          try clear hfz58_1
                          try clear hfz58_2
                          try clear hfz58_3
                          try clear hfz59_0
                          try clear hfz59_1
                          try clear hfz59_2
                          try clear hfz67_0
                          try clear hfz67_1
                          try clear hfz67_2
                          try clear hfz70_0
                          try clear hfz70_1
                          try clear hfz70_2
                          try clear hfz70_3
                          try clear hfz74_0
                          try clear hfz74_1
                          try clear hfz74_2
                          try clear hfz74_3
                          try clear hfz77_0
                          try clear hfz77_1
                          try clear hfz77_2
                          try clear p1
                          try clear p17
                          try clear p2
                          try clear p24
                          try clear p3
                          try clear p37
                          try clear p4
                          try clear p43
                          try clear p6
                          try clear p63
                          try clear p64
                          try clear p8
                          try clear p83
                          try clear q1
                          try clear q17
                          try clear q2
                          try clear q24
                          try clear q3
                          try clear q37
                          try clear q4
                          try clear q43
                          try clear q6
                          try clear q63
                          try clear q8
                          try clear q83
                          obtain ⟨kq, x6_79, rfl, HA, HJ79, HO_3, BK143, HB⟩ := hcut
                          cases kq with
                          | zero => exact absurd HA.out (by simp [ratlineref4_Tokens.j7])
                          | succ kj79 =>
                            have H := HA.out
                            clear HA
                            simp only [ratlineref4_Tokens.j7] at H
                            by_cases c86 : (wrap64 (x6_79 - x4_1)) > 16
                            · rw [if_pos c86] at H
                              have c86b0 : decide (16 < (wrap64 (x6_79 - x4_1))) = true := decide_eq_true c86
                              clear c86
                              simp only [Option.some.injEq, Prod.mk.injEq] at H
                              obtain ⟨rfl, rfl, rfl⟩ := H
                              have hcz87_0 : wc.cell? ⟨gb143, 0, none⟩ = some (.slice none 0 0) := (blk_cell BK143.out 0).trans rfl
                              have hcz87_1 : wc.cell? ⟨gb143, 1, none⟩ = some (.int .i64 x144001_1) := (blk_cell BK143.out 1).trans rfl
                              have hcz87_2 : wc.cell? ⟨gb143, 2, none⟩ = some (.int .i64 x144002_1) := (blk_cell BK143.out 2).trans rfl
                              have hfz87_0 := blk_frozen BK143.out 0
                              have hfz87_1 := blk_frozen BK143.out 1
                              have hfz87_2 := blk_frozen BK143.out 2
                              go_wp2
                              refine bodyPost_ret (results_cell_row rfl _ _ gb143 28 #[.slice none 0 0, .int .i64 x4_1, .int .i64 10] (0, 0) _ rfl (by (with_reducible repeat (first | refine blk_drewN ?_ _ | refine blk_drew ?_ | refine blk_alloc ?_ _)); refine blk_put (cs := #[.slice none 0 0, .int .i64 x4_1, .int .i64 x144002_1]) ?_ 2 _ rfl; (with_reducible repeat (first | refine blk_drewN ?_ _ | refine blk_drew ?_ | refine blk_alloc ?_ _)); refine blk_put (cs := #[.slice none 0 0, .int .i64 x144001_1, .int .i64 x144002_1]) ?_ 1 _ rfl; (with_reducible repeat (first | refine blk_drewN ?_ _ | refine blk_drew ?_ | refine blk_alloc ?_ _)); refine blk_put (cs := #[.slice none 0 0, .int .i64 x144001_1, .int .i64 x144002_1]) ?_ 0 _ rfl; (with_reducible repeat (first | refine blk_drewN ?_ _ | refine blk_drew ?_ | refine blk_alloc ?_ _)); exact BK143.out) Tryd.underlying28 rfl (by kernel_rfl)) rfl ?_
                              exact ⟨_, by first | rfl | (simp [errW_none, errW_some] <;> rfl) | (simp [*, errW_none, errW_some] <;> rfl), by first | exact Kd.R_nil _ _ _ _ _ | exact Kd.N_nil _ _ _ _ _ | exact Kd.V_nil _ _ _ _ _ | exact Kd.Q_nil _ _ _ _ _ | exact Kd.S_nil _ _ _ _ _, by repeat (first | (with_reducible first | exact HB.out | apply below_alloc | apply pw_below_drewN | apply below_drew1 | refine below_set ?_ GE143.out) | exact HB.out)⟩
                            · rw [if_neg c86] at H
                              have c86b0 : decide (16 < (wrap64 (x6_79 - x4_1))) = false := decide_eq_false c86
                              clear c86
                              by_cases c88 : 0 ≤ x4_1
                              · rw [if_pos c88] at H
                                have c88b0 := eq_true c88
                                have c88b1 : decide (0 ≤ x4_1) = true := decide_eq_true c88
                                clear c88
                                by_cases c89 : x4_1 ≤ x6_79
                                · rw [if_pos c89] at H
                                  have c89b0 := eq_true c89
                                  have c89b1 : decide (x4_1 ≤ x6_79) = true := decide_eq_true c89
                                  clear c89
                                  by_cases c90 : x6_79 ≤ (a0.size : Int)
                                  · rw [if_pos c90] at H
                                    have c90b0 := eq_true c90
                                    have c90b1 : decide (x6_79 ≤ (a0.size : Int)) = true := decide_eq_true c90
                                    clear c90
                                    replace H := Option.bind_eq_some_iff.mp H
                                    obtain ⟨t165, A910, H⟩ := H
                                    replace H : (if t165 = true then (if x3_1.length < 3518437208883 then (ratlineref4_Tokens.l0 kj79 a0 (x3_1 ++ [(⟨2, a0.extract (x4_1 : Int).toNat (x6_79 : Int).toNat, 0, x4_1⟩ : S32)]) x6_79) else (none)) else (if x3_1.length < 3518437208883 then (ratlineref4_Tokens.l0 kj79 a0 (x3_1 ++ [(⟨1, a0.extract (x4_1 : Int).toNat (x6_79 : Int).toNat, 0, x4_1⟩ : S32)]) x6_79) else (none))) = some (r1, r2, r3) := H
                                    have A91 := Aside0.mk A910
                                    clear A910
                                    by_cases c92 : t165 = true
                                    · subst c92
                                      have H1 : (if x3_1.length < 3518437208883 then (ratlineref4_Tokens.l0 kj79 a0 (x3_1 ++ [(⟨2, a0.extract (x4_1 : Int).toNat (x6_79 : Int).toNat, 0, x4_1⟩ : S32)]) x6_79) else (none)) = some (r1, r2, r3) := by rw [if_pos rfl] at H; exact H
                                      clear H
                                      have H := H1
                                      clear H1
                                      have c93b0 := eq_true (of_decide_eq_true (by first | (with_reducible assumption) | assumption) : 0 ≤ x4_1)
                                      have c94b0 := eq_true (of_decide_eq_true (by first | (with_reducible assumption) | assumption) : x4_1 ≤ x6_79)
                                      have c95b0 := eq_true (of_decide_eq_true (by first | (with_reducible assumption) | assumption) : x6_79 ≤ (a0.size : Int))
                                      by_cases c96 : x3_1.length < 3518437208883
                                      · rw [if_pos c96] at H
                                        have LMc96 := Aside0.mk c96
                                        clear c96
                                        obtain ⟨y166, hy166⟩ : ∃ y_ : List (S32), y_ = (x3_1 ++ [(⟨2, a0.extract (x4_1 : Int).toNat (x6_79 : Int).toNat, 0, x4_1⟩ : S32)]) := ⟨_, rfl⟩
                                        replace H : (ratlineref4_Tokens.l0 kj79 a0 y166 x6_79) = some (r1, r2, r3) := by first | (rw [hy166]; with_reducible exact H) | (have H2_ := (Option.bind_some _ _).symm.trans H; rw [hy166]; with_reducible exact H2_) | (have H2_ := (Option.bind_some _ _).symm.trans H; with_reducible exact H2_) | with_reducible exact H | (rw [hy166]; exact H) | exact H
                                        have Ny166 := Aside0.mk hy166
                                        clear hy166
                                        have H' := Aside0.mk H
                                        clear H
                                        go_wp2_with (first | ((with_reducible refine gate_callee (f := 19) rfl ?_); refine goesL_ (some 159) rfl rfl Tryd.func19 (by kernel_rfl) rfl #[.string (a0.extract (x4_1 : Int).toNat (x6_79 : Int).toNat)] rfl (by (try simp only [List.map_toArray, List.map_cons, List.map_nil]); first | done | rfl | (simp only [List.length_drop, List.length_take]; rfl)) ?_; (with_reducible refine (ratlineref4_isWord.calls kj79 (a0.extract (x4_1 : Int).toNat (x6_79 : Int).toNat) true _ A91.out).mono ?_); rintro e w97 ⟨rfl, hb⟩; refine ⟨_, rfl, ?_⟩; have n0_ := Aside0.mk (Kd.R_below (by (with_reducible repeat (first | apply Kd.R_alloc | apply Kd.R_drewN | apply Kd.R_drew)); exact HO_3.out) hb); have n1_ := Aside0.mk (blk_below (g := gb143) (o := .cells #[.slice none 0 0, .int .i64 x144001_1, .int .i64 x144002_1] 28 (0, 0)) (by (with_reducible repeat (first | refine blk_drewN ?_ _ | refine blk_drew ?_ | refine blk_alloc ?_ _)); exact BK143.out) hb); have n2_ := Aside0.mk (below_step (by repeat (first | (with_reducible first | exact HB.out | apply below_alloc | apply pw_below_drewN | apply below_drew1 | refine below_set ?_ GE143.out) | exact HB.out)) hb); clear HO_3; clear BK143; clear HB; have HO_3 := n0_; have BK143 := n1_; have HB := n2_; clear n0_ n1_ n2_; (try clear hb); (try clear hb2); (try clear hk); (try clear hi)) | ((with_reducible refine gate_builtin (b := .append) (xs := #[.tmp 160, .tmp 168]) rfl ?_); (try (refine gate_guard (by rfl) ?_; dsimp only)); at_builtin; refine Kd.R_append k32 (w0 := w) w.heap.size rfl (.tmp 160) (.tmp 168) 26 32 (.agg #[(.int .i64 0), (.string ⟨#[]⟩), (.int .i64 0), (.int .i64 0)]) 40 rfl Tryd.underlying26 info32 rfl (by decide) (by omega) u3 x3_1 (⟨2, a0.extract (x4_1 : Int).toNat (x6_79 : Int).toNat, 0, x4_1⟩ : S32) [.int .i64 2, .string (a0.extract (x4_1 : Int).toNat (x6_79 : Int).toNat), .int .i64 0, .int .i64 x4_1] (fun _ => True) (fun _ => False) rfl rfl ?aP (fun _ hk => hk.elim) ?aF ?aO ?aB ?aS ?aL ?_; (case aP => exact k32_mkM _ _ _ (⟨2, a0.extract (x4_1 : Int).toNat (x6_79 : Int).toNat, 0, x4_1⟩ : S32)); (case aB => exact (by repeat (first | (with_reducible first | exact HB.out | apply below_alloc | apply pw_below_drewN | apply below_drew1 | refine below_set ?_ GE143.out) | exact HB.out))); (case aF => exact (fun _ _ => trivial)); (case aO => exact (by (with_reducible repeat (first | apply Kd.R_alloc | apply Kd.R_drewN | apply Kd.R_drew)); exact HO_3.out)); (case aS => exact (below_size (by repeat (first | (with_reducible first | exact HB.out | apply below_alloc | apply pw_below_drewN | apply below_drew1 | refine below_set ?_ GE143.out) | exact HB.out)))); (case aL => have := LMc96.out; omega); intro v167 w98 ho hb hg hat; rw [← Ny166.out] at ho; have n0_ := Aside0.mk (blk_grown (g := gb143) (o := .cells #[.slice none 0 0, .int .i64 x144001_1, .int .i64 x144002_1] 28 (0, 0)) (by (with_reducible repeat (first | refine blk_drewN ?_ _ | refine blk_drew ?_ | refine blk_alloc ?_ _)); exact BK143.out) hg (Kd.R_ne HO_3.out BK143.out (by decide))); have n1_ := Aside0.mk (hb); have n2_ := Aside0.mk (ho); clear BK143; clear HB; clear HO_3; have BK143 := n0_; have HB := n1_; have HO168 := n2_; clear n0_ n1_ n2_; clear ho hb hg hat))
                                        go_roundg kj79
                                        case measure => have := HK1.out; have := HJ8.out; have := HJ79.out; omega
                                        case rel => exact ⟨(y166), (x6_79), (x144001_1), (x144002_1), (by first | rfl | (simp; done) | (simp [*]; done)), H', ⟨by have := HK1.out; have := HJ8.out; have := HJ79.out; omega⟩, ⟨by (with_reducible repeat (first | apply Kd.R_alloc | apply Kd.R_drewN | apply Kd.R_drew)); exact HO168.out⟩, ⟨by (with_reducible repeat (first | refine blk_drewN ?_ _ | refine blk_drew ?_ | refine blk_alloc ?_ _)); exact BK143.out⟩, ⟨by repeat (first | (with_reducible first | exact HB.out | apply below_alloc | apply pw_below_drewN | apply below_drew1 | refine below_set ?_ GE143.out) | exact HB.out)⟩⟩
                                      · rw [if_neg c96] at H
                                        exact absurd H (by simp)
                                    · replace c92 := Bool.eq_false_iff.mpr c92
                                      subst c92
                                      have H1 : (if x3_1.length < 3518437208883 then (ratlineref4_Tokens.l0 kj79 a0 (x3_1 ++ [(⟨1, a0.extract (x4_1 : Int).toNat (x6_79 : Int).toNat, 0, x4_1⟩ : S32)]) x6_79) else (none)) = some (r1, r2, r3) := by rw [if_neg (show ¬ (false = true) by decide)] at H; exact H
                                      clear H
                                      have H := H1
                                      clear H1
                                      have c99b0 := eq_true (of_decide_eq_true (by first | (with_reducible assumption) | assumption) : 0 ≤ x4_1)
                                      have c100b0 := eq_true (of_decide_eq_true (by first | (with_reducible assumption) | assumption) : x4_1 ≤ x6_79)
                                      have c101b0 := eq_true (of_decide_eq_true (by first | (with_reducible assumption) | assumption) : x6_79 ≤ (a0.size : Int))
                                      by_cases c102 : x3_1.length < 3518437208883
                                      · rw [if_pos c102] at H
                                        have LMc102 := Aside0.mk c102
                                        clear c102
                                        obtain ⟨y169, hy169⟩ : ∃ y_ : List (S32), y_ = (x3_1 ++ [(⟨1, a0.extract (x4_1 : Int).toNat (x6_79 : Int).toNat, 0, x4_1⟩ : S32)]) := ⟨_, rfl⟩
                                        replace H : (ratlineref4_Tokens.l0 kj79 a0 y169 x6_79) = some (r1, r2, r3) := by first | (rw [hy169]; with_reducible exact H) | (have H2_ := (Option.bind_some _ _).symm.trans H; rw [hy169]; with_reducible exact H2_) | (have H2_ := (Option.bind_some _ _).symm.trans H; with_reducible exact H2_) | with_reducible exact H | (rw [hy169]; exact H) | exact H
                                        have Ny169 := Aside0.mk hy169
                                        clear hy169
                                        have H' := Aside0.mk H
                                        clear H
                                        go_wp2_with (first | ((with_reducible refine gate_callee (f := 19) rfl ?_); refine goesL_ (some 159) rfl rfl Tryd.func19 (by kernel_rfl) rfl #[.string (a0.extract (x4_1 : Int).toNat (x6_79 : Int).toNat)] rfl (by (try simp only [List.map_toArray, List.map_cons, List.map_nil]); first | done | rfl | (simp only [List.length_drop, List.length_take]; rfl)) ?_; (with_reducible refine (ratlineref4_isWord.calls kj79 (a0.extract (x4_1 : Int).toNat (x6_79 : Int).toNat) false _ A91.out).mono ?_); rintro e w103 ⟨rfl, hb⟩; refine ⟨_, rfl, ?_⟩; have n0_ := Aside0.mk (Kd.R_below (by (with_reducible repeat (first | apply Kd.R_alloc | apply Kd.R_drewN | apply Kd.R_drew)); exact HO_3.out) hb); have n1_ := Aside0.mk (blk_below (g := gb143) (o := .cells #[.slice none 0 0, .int .i64 x144001_1, .int .i64 x144002_1] 28 (0, 0)) (by (with_reducible repeat (first | refine blk_drewN ?_ _ | refine blk_drew ?_ | refine blk_alloc ?_ _)); exact BK143.out) hb); have n2_ := Aside0.mk (below_step (by repeat (first | (with_reducible first | exact HB.out | apply below_alloc | apply pw_below_drewN | apply below_drew1 | refine below_set ?_ GE143.out) | exact HB.out)) hb); clear HO_3; clear BK143; clear HB; have HO_3 := n0_; have BK143 := n1_; have HB := n2_; clear n0_ n1_ n2_; (try clear hb); (try clear hb2); (try clear hk); (try clear hi)) | ((with_reducible refine gate_builtin (b := .append) (xs := #[.tmp 160, .tmp 168]) rfl ?_); (try (refine gate_guard (by rfl) ?_; dsimp only)); at_builtin; refine Kd.R_append k32 (w0 := w) w.heap.size rfl (.tmp 160) (.tmp 168) 26 32 (.agg #[(.int .i64 0), (.string ⟨#[]⟩), (.int .i64 0), (.int .i64 0)]) 40 rfl Tryd.underlying26 info32 rfl (by decide) (by omega) u3 x3_1 (⟨1, a0.extract (x4_1 : Int).toNat (x6_79 : Int).toNat, 0, x4_1⟩ : S32) [.int .i64 1, .string (a0.extract (x4_1 : Int).toNat (x6_79 : Int).toNat), .int .i64 0, .int .i64 x4_1] (fun _ => True) (fun _ => False) rfl rfl ?aP (fun _ hk => hk.elim) ?aF ?aO ?aB ?aS ?aL ?_; (case aP => exact k32_mkM _ _ _ (⟨1, a0.extract (x4_1 : Int).toNat (x6_79 : Int).toNat, 0, x4_1⟩ : S32)); (case aB => exact (by repeat (first | (with_reducible first | exact HB.out | apply below_alloc | apply pw_below_drewN | apply below_drew1 | refine below_set ?_ GE143.out) | exact HB.out))); (case aF => exact (fun _ _ => trivial)); (case aO => exact (by (with_reducible repeat (first | apply Kd.R_alloc | apply Kd.R_drewN | apply Kd.R_drew)); exact HO_3.out)); (case aS => exact (below_size (by repeat (first | (with_reducible first | exact HB.out | apply below_alloc | apply pw_below_drewN | apply below_drew1 | refine below_set ?_ GE143.out) | exact HB.out)))); (case aL => have := LMc102.out; omega); intro v170 w104 ho hb hg hat; rw [← Ny169.out] at ho; have n0_ := Aside0.mk (blk_grown (g := gb143) (o := .cells #[.slice none 0 0, .int .i64 x144001_1, .int .i64 x144002_1] 28 (0, 0)) (by (with_reducible repeat (first | refine blk_drewN ?_ _ | refine blk_drew ?_ | refine blk_alloc ?_ _)); exact BK143.out) hg (Kd.R_ne HO_3.out BK143.out (by decide))); have n1_ := Aside0.mk (hb); have n2_ := Aside0.mk (ho); clear BK143; clear HB; clear HO_3; have BK143 := n0_; have HB := n1_; have HO171 := n2_; clear n0_ n1_ n2_; clear ho hb hg hat))
                                        go_roundg kj79
                                        case measure => have := HK1.out; have := HJ8.out; have := HJ79.out; omega
                                        case rel => exact ⟨(y169), (x6_79), (x144001_1), (x144002_1), (by first | rfl | (simp; done) | (simp [*]; done)), H', ⟨by have := HK1.out; have := HJ8.out; have := HJ79.out; omega⟩, ⟨by (with_reducible repeat (first | apply Kd.R_alloc | apply Kd.R_drewN | apply Kd.R_drew)); exact HO171.out⟩, ⟨by (with_reducible repeat (first | refine blk_drewN ?_ _ | refine blk_drew ?_ | refine blk_alloc ?_ _)); exact BK143.out⟩, ⟨by repeat (first | (with_reducible first | exact HB.out | apply below_alloc | apply pw_below_drewN | apply below_drew1 | refine below_set ?_ GE143.out) | exact HB.out)⟩⟩
                                      · rw [if_neg c102] at H
                                        exact absurd H (by simp)
                                  · rw [if_neg c90] at H
                                    exact absurd H (by simp)
                                · rw [if_neg c89] at H
                                  exact absurd H (by simp)
                              · rw [if_neg c88] at H
                                exact absurd H (by simp)
                      · replace c79 := Bool.eq_false_iff.mpr c79
                        subst c79
                        have H1 : (if (bt a0 x4_1) = 34 then ((ratlineref4_text.f kj8 a0 x4_1).bind fun bt172 => (if bt172.2.2 = true then (if x3_1.length < 3518437208883 then (ratlineref4_Tokens.l0 kj8 a0 (x3_1 ++ [(⟨5, bt172.1, 0, x4_1⟩ : S32)]) bt172.2.1) else (none)) else (some (([] : List (S32)), x4_1, 10)))) else (if 0 ≤ x4_1 then (if x4_1 ≤ (a0.size : Int) then ((ratlineref4_op.f kj8 (a0.extract (x4_1 : Int).toNat a0.size)).bind fun t178 => (if t178.toList = ([] : List UInt8) then (some (([] : List (S32)), x4_1, 10)) else (if x3_1.length < 3518437208883 then (ratlineref4_Tokens.l0 kj8 a0 (x3_1 ++ [(⟨6, t178, 0, x4_1⟩ : S32)]) (wrap64 (x4_1 + (t178.size : Int)))) else (none)))) else (none)) else (none))) = some (r1, r2, r3) := by rw [if_neg (show ¬ (false = true) by decide)] at H; exact H
                        clear H
                        have H := H1
                        clear H1
                        by_cases c105 : (bt a0 x4_1) = 34
                        · rw [if_pos c105] at H
                          have c105b0 : ((bt a0 x4_1) == 34) = true := beq_iff_eq.mpr c105
                          have c105b1 : ((bt a0 x4_1) != 34) = false := bne_eq_false_iff_eq.mpr c105
                          clear c105
                          replace H := Option.bind_eq_some_iff.mp H
                          obtain ⟨⟨t172, t173, t174⟩, A1060, H⟩ := H
                          replace H : (if t174 = true then (if x3_1.length < 3518437208883 then (ratlineref4_Tokens.l0 kj8 a0 (x3_1 ++ [(⟨5, t172, 0, x4_1⟩ : S32)]) t173) else (none)) else (some (([] : List (S32)), x4_1, 10))) = some (r1, r2, r3) := H
                          have A106 := Aside0.mk A1060
                          clear A1060
                          by_cases c107 : t174 = true
                          · subst c107
                            have H1 : (if x3_1.length < 3518437208883 then (ratlineref4_Tokens.l0 kj8 a0 (x3_1 ++ [(⟨5, t172, 0, x4_1⟩ : S32)]) t173) else (none)) = some (r1, r2, r3) := by rw [if_pos rfl] at H; exact H
                            clear H
                            have H := H1
                            clear H1
                            by_cases c108 : x3_1.length < 3518437208883
                            · rw [if_pos c108] at H
                              have LMc108 := Aside0.mk c108
                              clear c108
                              obtain ⟨y175, hy175⟩ : ∃ y_ : List (S32), y_ = (x3_1 ++ [(⟨5, t172, 0, x4_1⟩ : S32)]) := ⟨_, rfl⟩
                              replace H : (ratlineref4_Tokens.l0 kj8 a0 y175 t173) = some (r1, r2, r3) := by first | (rw [hy175]; with_reducible exact H) | (have H2_ := (Option.bind_some _ _).symm.trans H; rw [hy175]; with_reducible exact H2_) | (have H2_ := (Option.bind_some _ _).symm.trans H; with_reducible exact H2_) | with_reducible exact H | (rw [hy175]; exact H) | exact H
                              have Ny175 := Aside0.mk hy175
                              clear hy175
                              have H' := Aside0.mk H
                              clear H
                              go_wp2_with (first | ((with_reducible refine gate_callee (f := 16) rfl ?_); refine goesL_ (some 77) rfl rfl Tryd.func16 (by kernel_rfl) rfl #[.int .u8 (bt a0 x4_1)] rfl (by (try simp only [List.map_toArray, List.map_cons, List.map_nil]); first | done | rfl | (simp only [List.length_drop, List.length_take]; rfl)) ?_; (with_reducible refine (ratlineref4_digit.calls (bt a0 x4_1) false _ A19.out).mono ?_); rintro e w' ⟨rfl, ⟨nd, rfl⟩⟩; refine ⟨_, rfl, ?_⟩) | ((with_reducible refine gate_callee (f := 18) rfl ?_); refine goesL_ (some 136) rfl rfl Tryd.func18 (by kernel_rfl) rfl #[.int .u8 (bt a0 x4_1)] rfl (by (try simp only [List.map_toArray, List.map_cons, List.map_nil]); first | done | rfl | (simp only [List.length_drop, List.length_take]; rfl)) ?_; (with_reducible refine (ratlineref4_letter.calls (bt a0 x4_1) false _ A78.out).mono ?_); rintro e w' ⟨rfl, ⟨nd, rfl⟩⟩; refine ⟨_, rfl, ?_⟩) | ((with_reducible refine gate_callee (f := 20) rfl ?_); refine goesL_ (some 176) rfl rfl Tryd.func20 (by kernel_rfl) rfl #[.string a0, .int .i64 x4_1] rfl (by (try simp only [List.map_toArray, List.map_cons, List.map_nil]); first | done | rfl | (simp only [List.length_drop, List.length_take]; rfl)) ?_; (with_reducible refine (ratlineref4_text.calls kj8 a0 x4_1 t172 t173 true _ A106.out).mono ?_); rintro e w' ⟨rfl, ⟨nd, rfl⟩⟩; refine ⟨_, rfl, ?_⟩) | ((with_reducible refine gate_builtin (b := .append) (xs := #[.tmp 184, .tmp 188]) rfl ?_); (try (refine gate_guard (by rfl) ?_; dsimp only)); at_builtin; refine Kd.R_append k32 (w0 := w) w.heap.size rfl (.tmp 184) (.tmp 188) 26 32 (.agg #[(.int .i64 0), (.string ⟨#[]⟩), (.int .i64 0), (.int .i64 0)]) 40 rfl Tryd.underlying26 info32 rfl (by decide) (by omega) u3 x3_1 (⟨5, t172, 0, x4_1⟩ : S32) [.int .i64 5, .string t172, .int .i64 0, .int .i64 x4_1] (fun _ => True) (fun _ => False) rfl rfl ?aP (fun _ hk => hk.elim) ?aF ?aO ?aB ?aS ?aL ?_; (case aP => exact k32_mkM _ _ _ (⟨5, t172, 0, x4_1⟩ : S32)); (case aB => exact (by repeat (first | (with_reducible first | exact HB.out | apply below_alloc | apply pw_below_drewN | apply below_drew1 | refine below_set ?_ GE143.out) | exact HB.out))); (case aF => exact (fun _ _ => trivial)); (case aO => exact (by (with_reducible repeat (first | apply Kd.R_alloc | apply Kd.R_drewN | apply Kd.R_drew)); exact HO_3.out)); (case aS => exact (below_size (by repeat (first | (with_reducible first | exact HB.out | apply below_alloc | apply pw_below_drewN | apply below_drew1 | refine below_set ?_ GE143.out) | exact HB.out)))); (case aL => have := LMc108.out; omega); intro v176 w109 ho hb hg hat; rw [← Ny175.out] at ho; have n0_ := Aside0.mk (blk_grown (g := gb143) (o := .cells #[.slice none 0 0, .int .i64 x144001_1, .int .i64 x144002_1] 28 (0, 0)) (by (with_reducible repeat (first | refine blk_drewN ?_ _ | refine blk_drew ?_ | refine blk_alloc ?_ _)); exact BK143.out) hg (Kd.R_ne HO_3.out BK143.out (by decide))); have n1_ := Aside0.mk (hb); have n2_ := Aside0.mk (ho); clear BK143; clear HB; clear HO_3; have BK143 := n0_; have HB := n1_; have HO177 := n2_; clear n0_ n1_ n2_; clear ho hb hg hat))
                              go_roundg kj8
                              case measure => have := HK1.out; have := HJ8.out; omega
                              case rel => exact ⟨(y175), (t173), (x144001_1), (x144002_1), (by first | rfl | (simp; done) | (simp [*]; done)), H', ⟨by have := HK1.out; have := HJ8.out; omega⟩, ⟨by (with_reducible repeat (first | apply Kd.R_alloc | apply Kd.R_drewN | apply Kd.R_drew)); exact HO177.out⟩, ⟨by (with_reducible repeat (first | refine blk_drewN ?_ _ | refine blk_drew ?_ | refine blk_alloc ?_ _)); exact BK143.out⟩, ⟨by repeat (first | (with_reducible first | exact HB.out | apply below_alloc | apply pw_below_drewN | apply below_drew1 | refine below_set ?_ GE143.out) | exact HB.out)⟩⟩
                            · rw [if_neg c108] at H
                              exact absurd H (by simp)
                          · replace c107 := Bool.eq_false_iff.mpr c107
                            subst c107
                            have H1 : (some (([] : List (S32)), x4_1, 10)) = some (r1, r2, r3) := by rw [if_neg (show ¬ (false = true) by decide)] at H; exact H
                            clear H
                            have H := H1
                            clear H1
                            simp only [Option.some.injEq, Prod.mk.injEq] at H
                            obtain ⟨rfl, rfl, rfl⟩ := H
                            go_wp2_with (first | ((with_reducible refine gate_callee (f := 16) rfl ?_); refine goesL_ (some 77) rfl rfl Tryd.func16 (by kernel_rfl) rfl #[.int .u8 (bt a0 x4_1)] rfl (by (try simp only [List.map_toArray, List.map_cons, List.map_nil]); first | done | rfl | (simp only [List.length_drop, List.length_take]; rfl)) ?_; (with_reducible refine (ratlineref4_digit.calls (bt a0 x4_1) false _ A19.out).mono ?_); rintro e w' ⟨rfl, ⟨nd, rfl⟩⟩; refine ⟨_, rfl, ?_⟩; (try (rw [drewN_self wc]; generalize hq_ : World.drewN wc _ = wc; have n0_ : Aside0 (Kd.R k32 32 wc w.heap.size (fun _ => True) u3 x3_1) := ⟨by rw [← hq_]; exact (by (with_reducible repeat (first | apply Kd.R_alloc | apply Kd.R_drewN | apply Kd.R_drew)); exact HO_3.out)⟩; have n1_ : Aside0 (wc.heap[gb143]? = some (.cells #[.slice none 0 0, .int .i64 x144001_1, .int .i64 x144002_1] 28 (0, 0))) := ⟨by rw [← hq_]; exact (by (with_reducible repeat (first | refine blk_drewN ?_ _ | refine blk_drew ?_ | refine blk_alloc ?_ _)); exact BK143.out)⟩; have n2_ : Aside0 (Below w.heap.size w wc) := ⟨by rw [← hq_]; exact (by repeat (first | (with_reducible first | exact HB.out | apply below_alloc | apply pw_below_drewN | apply below_drew1 | refine below_set ?_ GE143.out) | exact HB.out))⟩; clear HO_3 BK143 HB hq_; have HO_3 := n0_; have BK143 := n1_; have HB := n2_; clear n0_ n1_ n2_))) | ((with_reducible refine gate_callee (f := 18) rfl ?_); refine goesL_ (some 136) rfl rfl Tryd.func18 (by kernel_rfl) rfl #[.int .u8 (bt a0 x4_1)] rfl (by (try simp only [List.map_toArray, List.map_cons, List.map_nil]); first | done | rfl | (simp only [List.length_drop, List.length_take]; rfl)) ?_; (with_reducible refine (ratlineref4_letter.calls (bt a0 x4_1) false _ A78.out).mono ?_); rintro e w' ⟨rfl, ⟨nd, rfl⟩⟩; refine ⟨_, rfl, ?_⟩; (try (rw [drewN_self wc]; generalize hq_ : World.drewN wc _ = wc; have n0_ : Aside0 (Kd.R k32 32 wc w.heap.size (fun _ => True) u3 x3_1) := ⟨by rw [← hq_]; exact (by (with_reducible repeat (first | apply Kd.R_alloc | apply Kd.R_drewN | apply Kd.R_drew)); exact HO_3.out)⟩; have n1_ : Aside0 (wc.heap[gb143]? = some (.cells #[.slice none 0 0, .int .i64 x144001_1, .int .i64 x144002_1] 28 (0, 0))) := ⟨by rw [← hq_]; exact (by (with_reducible repeat (first | refine blk_drewN ?_ _ | refine blk_drew ?_ | refine blk_alloc ?_ _)); exact BK143.out)⟩; have n2_ : Aside0 (Below w.heap.size w wc) := ⟨by rw [← hq_]; exact (by repeat (first | (with_reducible first | exact HB.out | apply below_alloc | apply pw_below_drewN | apply below_drew1 | refine below_set ?_ GE143.out) | exact HB.out))⟩; clear HO_3 BK143 HB hq_; have HO_3 := n0_; have BK143 := n1_; have HB := n2_; clear n0_ n1_ n2_))) | ((with_reducible refine gate_callee (f := 20) rfl ?_); refine goesL_ (some 176) rfl rfl Tryd.func20 (by kernel_rfl) rfl #[.string a0, .int .i64 x4_1] rfl (by (try simp only [List.map_toArray, List.map_cons, List.map_nil]); first | done | rfl | (simp only [List.length_drop, List.length_take]; rfl)) ?_; (with_reducible refine (ratlineref4_text.calls kj8 a0 x4_1 t172 t173 false _ A106.out).mono ?_); rintro e w' ⟨rfl, ⟨nd, rfl⟩⟩; refine ⟨_, rfl, ?_⟩; (try (rw [drewN_self wc]; generalize hq_ : World.drewN wc _ = wc; have n0_ : Aside0 (Kd.R k32 32 wc w.heap.size (fun _ => True) u3 x3_1) := ⟨by rw [← hq_]; exact (by (with_reducible repeat (first | apply Kd.R_alloc | apply Kd.R_drewN | apply Kd.R_drew)); exact HO_3.out)⟩; have n1_ : Aside0 (wc.heap[gb143]? = some (.cells #[.slice none 0 0, .int .i64 x144001_1, .int .i64 x144002_1] 28 (0, 0))) := ⟨by rw [← hq_]; exact (by (with_reducible repeat (first | refine blk_drewN ?_ _ | refine blk_drew ?_ | refine blk_alloc ?_ _)); exact BK143.out)⟩; have n2_ : Aside0 (Below w.heap.size w wc) := ⟨by rw [← hq_]; exact (by repeat (first | (with_reducible first | exact HB.out | apply below_alloc | apply pw_below_drewN | apply below_drew1 | refine below_set ?_ GE143.out) | exact HB.out))⟩; clear HO_3 BK143 HB hq_; have HO_3 := n0_; have BK143 := n1_; have HB := n2_; clear n0_ n1_ n2_)); have hcz110_0 : wc.cell? ⟨gb143, 0, none⟩ = some (.slice none 0 0) := (blk_cell BK143.out 0).trans rfl; have hcz110_1 : wc.cell? ⟨gb143, 1, none⟩ = some (.int .i64 x144001_1) := (blk_cell BK143.out 1).trans rfl; have hcz110_2 : wc.cell? ⟨gb143, 2, none⟩ = some (.int .i64 x144002_1) := (blk_cell BK143.out 2).trans rfl; have hfz110_0 := blk_frozen BK143.out 0; have hfz110_1 := blk_frozen BK143.out 1; have hfz110_2 := blk_frozen BK143.out 2))
                            refine bodyPost_ret (results_cell_row rfl _ _ gb143 28 #[.slice none 0 0, .int .i64 x4_1, .int .i64 10] (0, 0) _ rfl (by (with_reducible repeat (first | refine blk_drewN ?_ _ | refine blk_drew ?_ | refine blk_alloc ?_ _)); refine blk_put (cs := #[.slice none 0 0, .int .i64 x4_1, .int .i64 x144002_1]) ?_ 2 _ rfl; (with_reducible repeat (first | refine blk_drewN ?_ _ | refine blk_drew ?_ | refine blk_alloc ?_ _)); refine blk_put (cs := #[.slice none 0 0, .int .i64 x144001_1, .int .i64 x144002_1]) ?_ 1 _ rfl; (with_reducible repeat (first | refine blk_drewN ?_ _ | refine blk_drew ?_ | refine blk_alloc ?_ _)); refine blk_put (cs := #[.slice none 0 0, .int .i64 x144001_1, .int .i64 x144002_1]) ?_ 0 _ rfl; (with_reducible repeat (first | refine blk_drewN ?_ _ | refine blk_drew ?_ | refine blk_alloc ?_ _)); exact BK143.out) Tryd.underlying28 rfl (by kernel_rfl)) rfl ?_
                            exact ⟨_, by first | rfl | (simp [errW_none, errW_some] <;> rfl) | (simp [*, errW_none, errW_some] <;> rfl), by first | exact Kd.R_nil _ _ _ _ _ | exact Kd.N_nil _ _ _ _ _ | exact Kd.V_nil _ _ _ _ _ | exact Kd.Q_nil _ _ _ _ _ | exact Kd.S_nil _ _ _ _ _, by repeat (first | (with_reducible first | exact HB.out | apply below_alloc | apply pw_below_drewN | apply below_drew1 | refine below_set ?_ GE143.out) | exact HB.out)⟩
                        · rw [if_neg c105] at H
                          have c105b0 : ((bt a0 x4_1) == 34) = false := beq_eq_false_iff_ne.mpr c105
                          have c105b1 : ((bt a0 x4_1) != 34) = true := bne_iff_ne.mpr c105
                          by_cases c111 : 0 ≤ x4_1
                          · rw [if_pos c111] at H
                            have c111b0 := eq_true c111
                            have c111b1 : decide (0 ≤ x4_1) = true := decide_eq_true c111
                            clear c111
                            by_cases c112 : x4_1 ≤ (a0.size : Int)
                            · rw [if_pos c112] at H
                              have c112b0 := eq_true c112
                              have c112b1 : decide (x4_1 ≤ (a0.size : Int)) = true := decide_eq_true c112
                              clear c112
                              replace H := Option.bind_eq_some_iff.mp H
                              obtain ⟨t178, A1130, H⟩ := H
                              replace H : (if t178.toList = ([] : List UInt8) then (some (([] : List (S32)), x4_1, 10)) else (if x3_1.length < 3518437208883 then (ratlineref4_Tokens.l0 kj8 a0 (x3_1 ++ [(⟨6, t178, 0, x4_1⟩ : S32)]) (wrap64 (x4_1 + (t178.size : Int)))) else (none))) = some (r1, r2, r3) := H
                              have A113 := Aside0.mk A1130
                              clear A1130
                              by_cases c114 : t178.toList = ([] : List UInt8)
                              · rw [if_pos c114] at H
                                have c114b0 : (t178.toList == ([] : List UInt8)) = true := beq_iff_eq.mpr c114
                                have c114b1 : (t178.toList != ([] : List UInt8)) = false := bne_eq_false_iff_eq.mpr c114
                                clear c114
                                simp only [Option.some.injEq, Prod.mk.injEq] at H
                                obtain ⟨rfl, rfl, rfl⟩ := H
                                go_wp2_with (first | ((with_reducible refine gate_callee (f := 16) rfl ?_); refine goesL_ (some 77) rfl rfl Tryd.func16 (by kernel_rfl) rfl #[.int .u8 (bt a0 x4_1)] rfl (by (try simp only [List.map_toArray, List.map_cons, List.map_nil]); first | done | rfl | (simp only [List.length_drop, List.length_take]; rfl)) ?_; (with_reducible refine (ratlineref4_digit.calls (bt a0 x4_1) false _ A19.out).mono ?_); rintro e w' ⟨rfl, ⟨nd, rfl⟩⟩; refine ⟨_, rfl, ?_⟩; (try (rw [drewN_self wc]; generalize hq_ : World.drewN wc _ = wc; have n0_ : Aside0 (Kd.R k32 32 wc w.heap.size (fun _ => True) u3 x3_1) := ⟨by rw [← hq_]; exact (by (with_reducible repeat (first | apply Kd.R_alloc | apply Kd.R_drewN | apply Kd.R_drew)); exact HO_3.out)⟩; have n1_ : Aside0 (wc.heap[gb143]? = some (.cells #[.slice none 0 0, .int .i64 x144001_1, .int .i64 x144002_1] 28 (0, 0))) := ⟨by rw [← hq_]; exact (by (with_reducible repeat (first | refine blk_drewN ?_ _ | refine blk_drew ?_ | refine blk_alloc ?_ _)); exact BK143.out)⟩; have n2_ : Aside0 (Below w.heap.size w wc) := ⟨by rw [← hq_]; exact (by repeat (first | (with_reducible first | exact HB.out | apply below_alloc | apply pw_below_drewN | apply below_drew1 | refine below_set ?_ GE143.out) | exact HB.out))⟩; clear HO_3 BK143 HB hq_; have HO_3 := n0_; have BK143 := n1_; have HB := n2_; clear n0_ n1_ n2_))) | ((with_reducible refine gate_callee (f := 18) rfl ?_); refine goesL_ (some 136) rfl rfl Tryd.func18 (by kernel_rfl) rfl #[.int .u8 (bt a0 x4_1)] rfl (by (try simp only [List.map_toArray, List.map_cons, List.map_nil]); first | done | rfl | (simp only [List.length_drop, List.length_take]; rfl)) ?_; (with_reducible refine (ratlineref4_letter.calls (bt a0 x4_1) false _ A78.out).mono ?_); rintro e w' ⟨rfl, ⟨nd, rfl⟩⟩; refine ⟨_, rfl, ?_⟩; (try (rw [drewN_self wc]; generalize hq_ : World.drewN wc _ = wc; have n0_ : Aside0 (Kd.R k32 32 wc w.heap.size (fun _ => True) u3 x3_1) := ⟨by rw [← hq_]; exact (by (with_reducible repeat (first | apply Kd.R_alloc | apply Kd.R_drewN | apply Kd.R_drew)); exact HO_3.out)⟩; have n1_ : Aside0 (wc.heap[gb143]? = some (.cells #[.slice none 0 0, .int .i64 x144001_1, .int .i64 x144002_1] 28 (0, 0))) := ⟨by rw [← hq_]; exact (by (with_reducible repeat (first | refine blk_drewN ?_ _ | refine blk_drew ?_ | refine blk_alloc ?_ _)); exact BK143.out)⟩; have n2_ : Aside0 (Below w.heap.size w wc) := ⟨by rw [← hq_]; exact (by repeat (first | (with_reducible first | exact HB.out | apply below_alloc | apply pw_below_drewN | apply below_drew1 | refine below_set ?_ GE143.out) | exact HB.out))⟩; clear HO_3 BK143 HB hq_; have HO_3 := n0_; have BK143 := n1_; have HB := n2_; clear n0_ n1_ n2_))) | ((with_reducible refine gate_callee (f := 21) rfl ?_); refine goesL_ (some 60) rfl rfl Tryd.func21 (by kernel_rfl) rfl #[.string (a0.extract (x4_1 : Int).toNat a0.size)] rfl (by (try simp only [List.map_toArray, List.map_cons, List.map_nil]); first | done | rfl | (simp only [List.length_drop, List.length_take]; rfl)) ?_; (with_reducible refine (ratlineref4_op.calls kj8 (a0.extract (x4_1 : Int).toNat a0.size) t178 _ A113.out).mono ?_); rintro e w' ⟨rfl, ⟨nd, rfl⟩⟩; refine ⟨_, rfl, ?_⟩; (try (rw [drewN_self wc]; generalize hq_ : World.drewN wc _ = wc; have n0_ : Aside0 (Kd.R k32 32 wc w.heap.size (fun _ => True) u3 x3_1) := ⟨by rw [← hq_]; exact (by (with_reducible repeat (first | apply Kd.R_alloc | apply Kd.R_drewN | apply Kd.R_drew)); exact HO_3.out)⟩; have n1_ : Aside0 (wc.heap[gb143]? = some (.cells #[.slice none 0 0, .int .i64 x144001_1, .int .i64 x144002_1] 28 (0, 0))) := ⟨by rw [← hq_]; exact (by (with_reducible repeat (first | refine blk_drewN ?_ _ | refine blk_drew ?_ | refine blk_alloc ?_ _)); exact BK143.out)⟩; have n2_ : Aside0 (Below w.heap.size w wc) := ⟨by rw [← hq_]; exact (by repeat (first | (with_reducible first | exact HB.out | apply below_alloc | apply pw_below_drewN | apply below_drew1 | refine below_set ?_ GE143.out) | exact HB.out))⟩; clear HO_3 BK143 HB hq_; have HO_3 := n0_; have BK143 := n1_; have HB := n2_; clear n0_ n1_ n2_)); have hcz115_0 : wc.cell? ⟨gb143, 0, none⟩ = some (.slice none 0 0) := (blk_cell BK143.out 0).trans rfl; have hcz115_1 : wc.cell? ⟨gb143, 1, none⟩ = some (.int .i64 x144001_1) := (blk_cell BK143.out 1).trans rfl; have hcz115_2 : wc.cell? ⟨gb143, 2, none⟩ = some (.int .i64 x144002_1) := (blk_cell BK143.out 2).trans rfl; have hfz115_0 := blk_frozen BK143.out 0; have hfz115_1 := blk_frozen BK143.out 1; have hfz115_2 := blk_frozen BK143.out 2))
                                refine bodyPost_ret (results_cell_row rfl _ _ gb143 28 #[.slice none 0 0, .int .i64 x4_1, .int .i64 10] (0, 0) _ rfl (by (with_reducible repeat (first | refine blk_drewN ?_ _ | refine blk_drew ?_ | refine blk_alloc ?_ _)); refine blk_put (cs := #[.slice none 0 0, .int .i64 x4_1, .int .i64 x144002_1]) ?_ 2 _ rfl; (with_reducible repeat (first | refine blk_drewN ?_ _ | refine blk_drew ?_ | refine blk_alloc ?_ _)); refine blk_put (cs := #[.slice none 0 0, .int .i64 x144001_1, .int .i64 x144002_1]) ?_ 1 _ rfl; (with_reducible repeat (first | refine blk_drewN ?_ _ | refine blk_drew ?_ | refine blk_alloc ?_ _)); refine blk_put (cs := #[.slice none 0 0, .int .i64 x144001_1, .int .i64 x144002_1]) ?_ 0 _ rfl; (with_reducible repeat (first | refine blk_drewN ?_ _ | refine blk_drew ?_ | refine blk_alloc ?_ _)); exact BK143.out) Tryd.underlying28 rfl (by kernel_rfl)) rfl ?_
                                exact ⟨_, by first | rfl | (simp [errW_none, errW_some] <;> rfl) | (simp [*, errW_none, errW_some] <;> rfl), by first | exact Kd.R_nil _ _ _ _ _ | exact Kd.N_nil _ _ _ _ _ | exact Kd.V_nil _ _ _ _ _ | exact Kd.Q_nil _ _ _ _ _ | exact Kd.S_nil _ _ _ _ _, by repeat (first | (with_reducible first | exact HB.out | apply below_alloc | apply pw_below_drewN | apply below_drew1 | refine below_set ?_ GE143.out) | exact HB.out)⟩
                              · rw [if_neg c114] at H
                                have c114b0 : (t178.toList == ([] : List UInt8)) = false := beq_eq_false_iff_ne.mpr c114
                                have c114b1 : (t178.toList != ([] : List UInt8)) = true := bne_iff_ne.mpr c114
                                by_cases c116 : x3_1.length < 3518437208883
                                · rw [if_pos c116] at H
                                  have LMc116 := Aside0.mk c116
                                  clear c116
                                  obtain ⟨y179, hy179⟩ : ∃ y_ : List (S32), y_ = (x3_1 ++ [(⟨6, t178, 0, x4_1⟩ : S32)]) := ⟨_, rfl⟩
                                  replace H : (ratlineref4_Tokens.l0 kj8 a0 y179 (wrap64 (x4_1 + (t178.size : Int)))) = some (r1, r2, r3) := by first | (rw [hy179]; with_reducible exact H) | (have H2_ := (Option.bind_some _ _).symm.trans H; rw [hy179]; with_reducible exact H2_) | (have H2_ := (Option.bind_some _ _).symm.trans H; with_reducible exact H2_) | with_reducible exact H | (rw [hy179]; exact H) | exact H
                                  have Ny179 := Aside0.mk hy179
                                  clear hy179
                                  have H' := Aside0.mk H
                                  clear H
                                  go_wp2_with (first | ((with_reducible refine gate_callee (f := 16) rfl ?_); refine goesL_ (some 77) rfl rfl Tryd.func16 (by kernel_rfl) rfl #[.int .u8 (bt a0 x4_1)] rfl (by (try simp only [List.map_toArray, List.map_cons, List.map_nil]); first | done | rfl | (simp only [List.length_drop, List.length_take]; rfl)) ?_; (with_reducible refine (ratlineref4_digit.calls (bt a0 x4_1) false _ A19.out).mono ?_); rintro e w' ⟨rfl, ⟨nd, rfl⟩⟩; refine ⟨_, rfl, ?_⟩) | ((with_reducible refine gate_callee (f := 18) rfl ?_); refine goesL_ (some 136) rfl rfl Tryd.func18 (by kernel_rfl) rfl #[.int .u8 (bt a0 x4_1)] rfl (by (try simp only [List.map_toArray, List.map_cons, List.map_nil]); first | done | rfl | (simp only [List.length_drop, List.length_take]; rfl)) ?_; (with_reducible refine (ratlineref4_letter.calls (bt a0 x4_1) false _ A78.out).mono ?_); rintro e w' ⟨rfl, ⟨nd, rfl⟩⟩; refine ⟨_, rfl, ?_⟩) | ((with_reducible refine gate_callee (f := 21) rfl ?_); refine goesL_ (some 60) rfl rfl Tryd.func21 (by kernel_rfl) rfl #[.string (a0.extract (x4_1 : Int).toNat a0.size)] rfl (by (try simp only [List.map_toArray, List.map_cons, List.map_nil]); first | done | rfl | (simp only [List.length_drop, List.length_take]; rfl)) ?_; (with_reducible refine (ratlineref4_op.calls kj8 (a0.extract (x4_1 : Int).toNat a0.size) t178 _ A113.out).mono ?_); rintro e w' ⟨rfl, ⟨nd, rfl⟩⟩; refine ⟨_, rfl, ?_⟩) | ((with_reducible refine gate_builtin (b := .append) (xs := #[.tmp 65, .tmp 69]) rfl ?_); (try (refine gate_guard (by rfl) ?_; dsimp only)); at_builtin; refine Kd.R_append k32 (w0 := w) w.heap.size rfl (.tmp 65) (.tmp 69) 26 32 (.agg #[(.int .i64 0), (.string ⟨#[]⟩), (.int .i64 0), (.int .i64 0)]) 40 rfl Tryd.underlying26 info32 rfl (by decide) (by omega) u3 x3_1 (⟨6, t178, 0, x4_1⟩ : S32) [.int .i64 6, .string t178, .int .i64 0, .int .i64 x4_1] (fun _ => True) (fun _ => False) rfl rfl ?aP (fun _ hk => hk.elim) ?aF ?aO ?aB ?aS ?aL ?_; (case aP => exact k32_mkM _ _ _ (⟨6, t178, 0, x4_1⟩ : S32)); (case aB => exact (by repeat (first | (with_reducible first | exact HB.out | apply below_alloc | apply pw_below_drewN | apply below_drew1 | refine below_set ?_ GE143.out) | exact HB.out))); (case aF => exact (fun _ _ => trivial)); (case aO => exact (by (with_reducible repeat (first | apply Kd.R_alloc | apply Kd.R_drewN | apply Kd.R_drew)); exact HO_3.out)); (case aS => exact (below_size (by repeat (first | (with_reducible first | exact HB.out | apply below_alloc | apply pw_below_drewN | apply below_drew1 | refine below_set ?_ GE143.out) | exact HB.out)))); (case aL => have := LMc116.out; omega); intro v180 w117 ho hb hg hat; rw [← Ny179.out] at ho; have n0_ := Aside0.mk (blk_grown (g := gb143) (o := .cells #[.slice none 0 0, .int .i64 x144001_1, .int .i64 x144002_1] 28 (0, 0)) (by (with_reducible repeat (first | refine blk_drewN ?_ _ | refine blk_drew ?_ | refine blk_alloc ?_ _)); exact BK143.out) hg (Kd.R_ne HO_3.out BK143.out (by decide))); have n1_ := Aside0.mk (hb); have n2_ := Aside0.mk (ho); clear BK143; clear HB; clear HO_3; have BK143 := n0_; have HB := n1_; have HO181 := n2_; clear n0_ n1_ n2_; clear ho hb hg hat))
                                  go_roundg kj8
                                  case measure => have := HK1.out; have := HJ8.out; omega
                                  case rel => exact ⟨(y179), (wrap64 (x4_1 + (t178.size : Int))), (x144001_1), (x144002_1), (by first | rfl | (simp; done) | (simp [*]; done)), H', ⟨by have := HK1.out; have := HJ8.out; omega⟩, ⟨by (with_reducible repeat (first | apply Kd.R_alloc | apply Kd.R_drewN | apply Kd.R_drew)); exact HO181.out⟩, ⟨by (with_reducible repeat (first | refine blk_drewN ?_ _ | refine blk_drew ?_ | refine blk_alloc ?_ _)); exact BK143.out⟩, ⟨by repeat (first | (with_reducible first | exact HB.out | apply below_alloc | apply pw_below_drewN | apply below_drew1 | refine below_set ?_ GE143.out) | exact HB.out)⟩⟩
                                · rw [if_neg c116] at H
                                  exact absurd H (by simp)
                            · rw [if_neg c112] at H
                              exact absurd H (by simp)
                          · rw [if_neg c111] at H
                            exact absurd H (by simp)
          · rw [if_neg c7] at H
            exact absurd H (by simp)
        · rw [if_neg c6] at H
          have c6b0 : decide (x4_1 < (a0.size : Int)) = false := decide_eq_false c6
          clear c6
          simp only [Option.some.injEq, Prod.mk.injEq] at H
          obtain ⟨rfl, rfl, rfl⟩ := H
          obtain ⟨Ao118, co118, eo118⟩ := Kd.R_slice HO_3.out
          subst eo118
          have hcz119_0 : wr.cell? ⟨gb143, 0, none⟩ = some (.slice none 0 0) := (blk_cell BK143.out 0).trans rfl
          have hcz119_1 : wr.cell? ⟨gb143, 1, none⟩ = some (.int .i64 x144001_1) := (blk_cell BK143.out 1).trans rfl
          have hcz119_2 : wr.cell? ⟨gb143, 2, none⟩ = some (.int .i64 x144002_1) := (blk_cell BK143.out 2).trans rfl
          have hfz119_0 := blk_frozen BK143.out 0
          have hfz119_1 := blk_frozen BK143.out 1
          have hfz119_2 := blk_frozen BK143.out 2
          go_wp2
          refine bodyPost_ret (results_cell_row rfl _ _ gb143 28 #[.slice Ao118 x3_1.length co118, .int .i64 0, .int .i64 0] (0, 0) _ rfl (by (with_reducible repeat (first | refine blk_drewN ?_ _ | refine blk_drew ?_ | refine blk_alloc ?_ _)); refine blk_put (cs := #[.slice Ao118 x3_1.length co118, .int .i64 0, .int .i64 x144002_1]) ?_ 2 _ rfl; (with_reducible repeat (first | refine blk_drewN ?_ _ | refine blk_drew ?_ | refine blk_alloc ?_ _)); refine blk_put (cs := #[.slice Ao118 x3_1.length co118, .int .i64 x144001_1, .int .i64 x144002_1]) ?_ 1 _ rfl; (with_reducible repeat (first | refine blk_drewN ?_ _ | refine blk_drew ?_ | refine blk_alloc ?_ _)); refine blk_put (cs := #[.slice none 0 0, .int .i64 x144001_1, .int .i64 x144002_1]) ?_ 0 _ rfl; (with_reducible repeat (first | refine blk_drewN ?_ _ | refine blk_drew ?_ | refine blk_alloc ?_ _)); exact BK143.out) Tryd.underlying28 rfl (by kernel_rfl)) rfl ?_
          exact ⟨_, by first | rfl | (simp [errW_none, errW_some] <;> rfl) | (simp [*, errW_none, errW_some] <;> rfl), by (with_reducible repeat (first | apply Kd.R_alloc | apply Kd.R_drewN | apply Kd.R_drew)); exact Kd.R_mono (Kd.R_far (p := ⟨gb143, 2, none⟩) (Kd.R_far (p := ⟨gb143, 1, none⟩) (Kd.R_far (p := ⟨gb143, 0, none⟩) (Kd.R_types HO_3.out BK143.out (by decide)) (fun _ hk => hk.2) (.slice Ao118 x3_1.length co118)) (fun _ hk => hk.2) (.int .i64 0)) (fun _ hk => hk.2) (.int .i64 0)) (fun _ hk => trivial), by repeat (first | (with_reducible first | exact HB.out | apply below_alloc | apply pw_below_drewN | apply below_drew1 | refine below_set ?_ GE143.out) | exact HB.out)⟩

end Go.Proofs.YtmmndmfphcbieaaDoor.XLex
