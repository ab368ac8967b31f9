/- Binary floats as Go uses them: words, cleaning, comparing; what each float operation gives in a walk. -/
import Derived.Laws.FloatArith
import Derived.Laws.FloatBits
import Derived.Laws.Cover3
import Derived.Deep.Draws
import Derived.WalkKit
namespace Go.Proofs.YthgoihblpeeogaaDoor
open Ieee Go.RowKit

/-- the rung of infinity -/
abbrev infB : Nat := 0x7FF0000000000000

theorem dbl_sw : Ieee.double.signWeight = 2 ^ 63 := by rfl
theorem dbl_inf : Ieee.double.infRung = infB := by rfl
theorem dbl_bin : Ieee.double.binade = 2 ^ 52 := by rfl
theorem dbl_least : Ieee.double.leastPlace = -1074 := by rfl

/-- a finite word -/
def fin (x : Nat) : Bool := decide (x % 2 ^ 63 < infB)
def isNan (x : Nat) : Bool := decide (infB < x % 2 ^ 63)
def nought (x : Nat) : Bool := decide (x % 2 ^ 63 = 0)
def minusB (x : Nat) : Bool := decide (x / 2 ^ 63 % 2 = 1)
/-- a part, cleaned -/
def cl (x : Nat) : Nat := if x % 2 ^ 63 = 0 then 0 else x

/-- the number of least units that a finite rung tells -/
def unitsOf (r : Nat) : Nat := if r < 2 ^ 52 then r else (2 ^ 52 + r % 2 ^ 52) * 2 ^ (r / 2 ^ 52 - 1)

theorem read_eq (x : Nat) : Ieee.double.read x =
    if x % 2 ^ 63 < 2 ^ 52 then .number (minusB x) (x % 2 ^ 63) (-1074)
    else if x % 2 ^ 63 < infB then .number (minusB x) (2 ^ 52 + x % 2 ^ 63 % 2 ^ 52) (-1074 + ((x % 2 ^ 63 / 2 ^ 52 - 1 : Nat) : Int))
    else if x % 2 ^ 63 = infB then .infinity (minusB x)
    else .nan (minusB x) (x % 2 ^ 63 - infB) := by
  unfold Format.read
  simp only [dbl_sw, dbl_inf, dbl_bin, dbl_least]
  have : (x / 2 ^ 63 % 2 == 1) = minusB x := by
    unfold minusB; rw [Bool.eq_iff_iff]; simp
  rw [this]

/-- a number's value in least units -/
def sval (x : Nat) : Int := if minusB x then -(unitsOf (x % 2 ^ 63) : Int) else (unitsOf (x % 2 ^ 63) : Int)

/-- every finite word as a number: its place is -1074 + k -/
theorem read_fin (x : Nat) (h : fin x = true) : ∃ m k : Nat, Ieee.double.read x = .number (minusB x) m (-1074 + (k : Int)) ∧ unitsOf (x % 2 ^ 63) = m * 2 ^ k := by
  unfold fin at h
  have h' : x % 2 ^ 63 < infB := by simpa using h
  rw [read_eq]
  unfold unitsOf
  by_cases h1 : x % 2 ^ 63 < 2 ^ 52
  · rw [if_pos h1, if_pos h1]
    exact ⟨_, 0, rfl, by simp⟩
  · rw [if_neg h1, if_neg h1, if_pos h']
    exact ⟨_, _, rfl, rfl⟩

theorem read_inf (x : Nat) (h1 : fin x = false) (h2 : isNan x = false) : Ieee.double.read x = .infinity (minusB x) := by
  unfold fin at h1; unfold isNan at h2
  have a : ¬ x % 2 ^ 63 < infB := by simpa using h1
  have b : ¬ infB < x % 2 ^ 63 := by simpa using h2
  rw [read_eq, if_neg (by unfold infB at *; omega), if_neg a, if_pos (by omega)]

theorem read_nan (x : Nat) (h : isNan x = true) : Ieee.double.read x = .nan (minusB x) (x % 2 ^ 63 - infB) := by
  unfold isNan at h
  have b : infB < x % 2 ^ 63 := by simpa using h
  rw [read_eq, if_neg (by unfold infB at *; omega), if_neg (by omega), if_neg (by omega)]

theorem signed_units (s : Bool) (m a b : Nat) (h : b ≤ a) : signed s m ((-1074 + (a : Int)) - (-1074 + (b : Int))).toNat * (2 ^ b : Nat) = if s then -((m * 2 ^ a : Nat) : Int) else ((m * 2 ^ a : Nat) : Int) := by
  have e : ((-1074 + (a : Int)) - (-1074 + (b : Int))).toNat = a - b := by omega
  have e2 : (m <<< (a - b)) * 2 ^ b = m * 2 ^ a := by
    rw [Nat.shiftLeft_eq, Nat.mul_assoc, ← Nat.pow_add, Nat.sub_add_cancel h]
  rw [e]
  unfold signed
  cases s
  · simp only [Bool.false_eq_true, if_false]; exact_mod_cast e2
  · simp only [if_true]; rw [Int.neg_mul]; congr 1; exact_mod_cast e2


theorem compare_scale (a b c : Int) (h : 0 < c) : compare (a * c) (b * c) = compare a b := by
  simp only [compare, compareOfLessAndEq]
  have h1 : a * c < b * c ↔ a < b := ⟨fun e => Int.lt_of_mul_lt_mul_right e (by omega), fun e => Int.mul_lt_mul_of_pos_right e h⟩
  have h2 : a * c = b * c ↔ a = b := ⟨fun e => Int.eq_of_mul_eq_mul_right (by omega) e, fun e => by rw [e]⟩
  simp only [h1, h2]

theorem order_fin (x y : Nat) (hx : fin x = true) (hy : fin y = true) : Ieee.double.order x y = some (compare (sval x) (sval y)) := by
  obtain ⟨m, a, hm, hu⟩ := read_fin x hx
  obtain ⟨n, b, hn, hv⟩ := read_fin y hy
  unfold Format.order
  rw [hm, hn]
  simp only [Datum.order, sval, hu, hv]
  congr 1
  have key : ∀ (k : Nat), k ≤ a → k ≤ b → compare (signed (minusB x) m (-1074 + (a : Int) - (-1074 + (k : Int))).toNat) (signed (minusB y) n (-1074 + (b : Int) - (-1074 + (k : Int))).toNat) =
      compare (if minusB x = true then -((m * 2 ^ a : Nat) : Int) else ((m * 2 ^ a : Nat) : Int)) (if minusB y = true then -((n * 2 ^ b : Nat) : Int) else ((n * 2 ^ b : Nat) : Int)) := by
    intro k h1 h2
    have p : (0 : Int) < ((2 ^ k : Nat) : Int) := by exact_mod_cast Nat.two_pow_pos k
    rw [← compare_scale _ _ _ p, signed_units _ m a k h1, signed_units _ n b k h2]
  by_cases h : a ≤ b
  · have e : min (-1074 + (a : Int)) (-1074 + (b : Int)) = -1074 + (a : Int) := by omega
    rw [e]; exact key a (Nat.le_refl _) h
  · have e : min (-1074 + (a : Int)) (-1074 + (b : Int)) = -1074 + (b : Int) := by omega
    rw [e]; exact key b (by omega) (Nat.le_refl _)

theorem three (x : Nat) : fin x = true ∨ (fin x = false ∧ isNan x = false) ∨ isNan x = true := by
  unfold fin isNan
  by_cases h : x % 2 ^ 63 < infB
  · left; simpa using h
  · by_cases h2 : infB < x % 2 ^ 63
    · right; right; simpa using h2
    · right; left; exact ⟨by simpa using h, by simpa using h2⟩
theorem fin_not_nan (x : Nat) (h : fin x = true) : isNan x = false := by
  unfold fin at h; unfold isNan
  have : x % 2 ^ 63 < infB := by simpa using h
  simp only [decide_eq_false_iff_not]; omega
theorem nan_not_fin (x : Nat) (h : isNan x = true) : fin x = false := by
  unfold isNan at h; unfold fin
  have : infB < x % 2 ^ 63 := by simpa using h
  simp only [decide_eq_false_iff_not]; omega

theorem order_nan_l (x y : Nat) (h : isNan x = true) : Ieee.double.order x y = none := by
  unfold Format.order; rw [read_nan x h]; simp [Datum.order]
theorem compare_self' (a : Int) : compare a a = .eq := by simp [compare, compareOfLessAndEq]
theorem order_self (x : Nat) : (FloatKind.f64.format.order x x != some .eq) = isNan x := by
  show (Ieee.double.order x x != some .eq) = isNan x
  rcases three x with h | ⟨h, h'⟩ | h
  · rw [order_fin x x h h, compare_self', fin_not_nan x h]; rfl
  · unfold Format.order; rw [read_inf x h h', h']
    simp only [Datum.order]
    cases minusB x <;> rfl
  · rw [order_nan_l x x h, h]; rfl
theorem order_self' (x : Nat) : (FloatKind.f64.format.order x x == some .eq) = !isNan x := by
  rw [← order_self]; simp [bne]
theorem fin_zero : fin 0 = true := by decide
theorem sval_zero : sval 0 = 0 := by decide
theorem unitsOf_pos (r : Nat) (h : r ≠ 0) : 0 < unitsOf r := by
  unfold unitsOf
  split
  · omega
  · exact Nat.mul_pos (by omega) (Nat.two_pow_pos _)
theorem sval_eq_zero (x : Nat) : sval x = 0 ↔ x % 2 ^ 63 = 0 := by
  unfold sval
  by_cases h : x % 2 ^ 63 = 0
  · rw [h]; simp [unitsOf]
  · have := unitsOf_pos _ h
    constructor
    · intro e; split at e <;> omega
    · intro e; exact absurd e h
theorem order_zero (x : Nat) : (FloatKind.f64.format.order x 0 == some .eq) = nought x := by
  show (Ieee.double.order x 0 == some .eq) = nought x
  rcases three x with h | ⟨h, h'⟩ | h
  · rw [order_fin x 0 h fin_zero, sval_zero]
    unfold nought
    by_cases e : x % 2 ^ 63 = 0
    · rw [(sval_eq_zero x).2 e, compare_self', decide_eq_true e]; rfl
    · have e' : sval x ≠ 0 := fun c => e ((sval_eq_zero x).1 c)
      rw [decide_eq_false e]
      simp [compare, compareOfLessAndEq, e']
      split <;> simp
  · have r0 : Ieee.double.read 0 = .number false 0 (-1074) := by rw [read_eq]; decide
    have n0 : nought x = false := by
      unfold fin infB at h; unfold nought
      have : ¬ x % 2 ^ 63 < 0x7FF0000000000000 := by simpa using h
      exact decide_eq_false (by omega)
    unfold Format.order; rw [read_inf x h h', r0, n0]
    simp only [Datum.order]
    cases minusB x <;> rfl
  · have n0 : nought x = false := by
      unfold isNan infB at h; unfold nought
      have : 0x7FF0000000000000 < x % 2 ^ 63 := by simpa using h
      exact decide_eq_false (by omega)
    rw [order_nan_l x 0 h, n0]; rfl

/-- the greatest finite word -/
abbrev maxB : Nat := 9218868437227405311
abbrev minB : Nat := 18442240474082181119
def topE : Nat := 2045
def topUnits : Nat := (2 ^ 53 - 1) * 2 ^ topE
theorem units_max : unitsOf maxB = topUnits := by
  unfold unitsOf topUnits
  rw [if_neg (by decide), show maxB / 2 ^ 52 - 1 = topE from by decide, show 2 ^ 52 + maxB % 2 ^ 52 = 2 ^ 53 - 1 from by decide]
theorem unitsOf_le (r : Nat) (h : r < infB) : unitsOf r ≤ topUnits := by
  unfold unitsOf topUnits
  split
  · exact Nat.le_trans (show r ≤ (2 ^ 53 - 1) by omega) (Nat.le_mul_of_pos_right _ (Nat.two_pow_pos _))
  · refine Nat.mul_le_mul (by omega) (Nat.pow_le_pow_right (by omega) ?_)
    unfold infB at h
    have : r / 2 ^ 52 < 2047 := by omega
    unfold topE; omega
theorem sval_max : sval maxB = (topUnits : Int) := by
  have e1 : minusB maxB = false := by decide
  have e2 : unitsOf (maxB % 2 ^ 63) = topUnits := by
    have : maxB % 2 ^ 63 = maxB := by decide
    rw [this]; exact units_max
  unfold sval
  rw [e1, e2]; rfl
theorem sval_min : sval minB = -(topUnits : Int) := by
  have e1 : minusB minB = true := by decide
  have e2 : unitsOf (minB % 2 ^ 63) = topUnits := by
    have : minB % 2 ^ 63 = maxB := by decide
    rw [this]; exact units_max
  unfold sval
  rw [e1, e2]; rfl
theorem sval_bd (x : Nat) (h : fin x = true) : -(topUnits : Int) ≤ sval x ∧ sval x ≤ topUnits := by
  have h' : x % 2 ^ 63 < infB := by unfold fin at h; simpa using h
  have := unitsOf_le _ h'
  unfold sval; split <;> omega
theorem fin_max : fin maxB = true := by decide
theorem fin_min : fin minB = true := by decide

theorem cmp_gt (a b : Int) (h : a ≤ b) : (some (compare a b) == some Ordering.gt) = false := by
  simp only [compare, compareOfLessAndEq]
  by_cases h1 : a < b
  · rw [if_pos h1]; rfl
  · rw [if_neg h1, if_pos (show a = b by omega)]; rfl
theorem cmp_le (a b : Int) (h : a ≤ b) : (some (compare a b) == some Ordering.lt || some (compare a b) == some Ordering.eq) = true := by
  simp only [compare, compareOfLessAndEq]
  by_cases h1 : a < b
  · rw [if_pos h1]; rfl
  · rw [if_neg h1, if_pos (show a = b by omega)]; rfl
theorem cmp_ge (a b : Int) (h : b ≤ a) : (some (compare a b) == some Ordering.gt || some (compare a b) == some Ordering.eq) = true := by
  simp only [compare, compareOfLessAndEq]
  by_cases h1 : a = b
  · rw [if_neg (by omega), if_pos h1]; rfl
  · rw [if_neg (by omega), if_neg h1]; rfl

def isInfB (x : Nat) : Bool := decide (x % 2 ^ 63 = infB)
theorem mod_mod (x : Nat) : x % 2 ^ 63 % 2 ^ 63 = x % 2 ^ 63 := Nat.mod_mod _ _
theorem minus_mod (x : Nat) : minusB (x % 2 ^ 63) = false := by
  unfold minusB
  have : x % 2 ^ 63 / 2 ^ 63 = 0 := by omega
  rw [this]; rfl
theorem fin_mod (x : Nat) : fin (x % 2 ^ 63) = fin x := by unfold fin; rw [mod_mod]
theorem nan_mod (x : Nat) : isNan (x % 2 ^ 63) = isNan x := by unfold isNan; rw [mod_mod]
theorem read_max : ∃ m k, Ieee.double.read maxB = .number false m k := by
  obtain ⟨m, k, h, _⟩ := read_fin maxB fin_max
  exact ⟨m, _, h⟩
theorem read_min : ∃ m k, Ieee.double.read minB = .number true m k := by
  obtain ⟨m, k, h, _⟩ := read_fin minB fin_min
  exact ⟨m, _, h⟩
theorem inf_is (x : Nat) (h : fin x = false) (h' : isNan x = false) : isInfB x = true := by
  unfold fin at h; unfold isNan at h'; unfold isInfB
  have a : ¬ x % 2 ^ 63 < infB := by simpa using h
  have b : ¬ infB < x % 2 ^ 63 := by simpa using h'
  exact decide_eq_true (by omega)
theorem fin_not_inf (x : Nat) (h : fin x = true) : isInfB x = false := by
  unfold fin at h; unfold isInfB
  have a : x % 2 ^ 63 < infB := by simpa using h
  exact decide_eq_false (by omega)
theorem nan_not_inf (x : Nat) (h : isNan x = true) : isInfB x = false := by
  unfold isNan at h; unfold isInfB
  have a : infB < x % 2 ^ 63 := by simpa using h
  exact decide_eq_false (by omega)
/-- the test of IsInf -/
theorem order_top (x : Nat) : (FloatKind.f64.format.order (x % 2 ^ 63) 9218868437227405311 == some .gt) = isInfB x := by
  show (Ieee.double.order (x % 2 ^ 63) maxB == some .gt) = isInfB x
  rcases three x with h | ⟨h, h'⟩ | h
  · rw [order_fin _ _ (by rw [fin_mod]; exact h) fin_max, sval_max, cmp_gt _ _ (sval_bd _ (by rw [fin_mod]; exact h)).2, fin_not_inf x h]
  · obtain ⟨m, k, hr⟩ := read_max
    unfold Format.order
    rw [read_inf _ (by rw [fin_mod]; exact h) (by rw [nan_mod]; exact h'), hr, minus_mod, inf_is x h h']
    rfl
  · rw [order_nan_l _ _ (by rw [nan_mod]; exact h), nan_not_inf x h]; rfl

/-- the tests of 'finite', each -/
theorem order_le_max (x : Nat) (h : fin x = true) : (FloatKind.f64.format.order x 9218868437227405311 == some .lt || FloatKind.f64.format.order x 9218868437227405311 == some .eq) = true := by
  show (Ieee.double.order x maxB == some .lt || Ieee.double.order x maxB == some .eq) = true
  rw [order_fin _ _ h fin_max, sval_max]; exact cmp_le _ _ (sval_bd _ h).2
theorem order_ge_min (x : Nat) (h : fin x = true) : (FloatKind.f64.format.order x 18442240474082181119 == some .gt || FloatKind.f64.format.order x 18442240474082181119 == some .eq) = true := by
  show (Ieee.double.order x minB == some .gt || Ieee.double.order x minB == some .eq) = true
  rw [order_fin _ _ h fin_min, sval_min]; exact cmp_ge _ _ (sval_bd _ h).1
theorem order_inf_max (x : Nat) (h : fin x = false) (h' : isNan x = false) (hm : minusB x = false) : (FloatKind.f64.format.order x 9218868437227405311 == some .lt || FloatKind.f64.format.order x 9218868437227405311 == some .eq) = false := by
  show (Ieee.double.order x maxB == some .lt || Ieee.double.order x maxB == some .eq) = false
  obtain ⟨m, k, hr⟩ := read_max
  unfold Format.order
  rw [read_inf _ h h', hr, hm]; rfl
theorem order_inf_min (x : Nat) (h : fin x = false) (h' : isNan x = false) (hm : minusB x = true) : (FloatKind.f64.format.order x 18442240474082181119 == some .gt || FloatKind.f64.format.order x 18442240474082181119 == some .eq) = false := by
  show (Ieee.double.order x minB == some .gt || Ieee.double.order x minB == some .eq) = false
  obtain ⟨m, k, hr⟩ := read_min
  unfold Format.order
  rw [read_inf _ h h', hr, hm]; rfl
theorem finite_is (x : Nat) : (((FloatKind.f64.format.order x x == some .eq) && (FloatKind.f64.format.order x 9218868437227405311 == some .lt || FloatKind.f64.format.order x 9218868437227405311 == some .eq)) &&
    (FloatKind.f64.format.order x 18442240474082181119 == some .gt || FloatKind.f64.format.order x 18442240474082181119 == some .eq)) = fin x := by
  rcases three x with h | ⟨h, h'⟩ | h
  · rw [order_self', order_le_max x h, order_ge_min x h, fin_not_nan x h, h]; rfl
  · rw [h]
    by_cases hm : minusB x = true
    · rw [order_inf_min x h h' hm]; simp
    · rw [order_inf_max x h h' (by simpa using hm)]; simp
  · rw [order_self', h, nan_not_fin x h]; simp

def nanOf (x y : Nat) (w : World) : Nat := (Question.nanBits .f64 x y).cut (w.tape w.drawn (Question.nanBits .f64 x y))
/-- what the operation gives in this world: of an operation that is not valid what the tape says -/
def fres (op : BinOp) (x y : Nat) (w : World) : Nat := match floatBits op .f64 x y with | some r => r | none => nanOf x y w
def fnext (op : BinOp) (x y : Nat) (w : World) : World := match floatBits op .f64 x y with | some _ => w | none => w.drew

theorem run_fl {P : Program} (op : BinOp) (hop : op = .add ∨ op = .sub ∨ op = .mul ∨ op = .quo) (t : TypeId) (x y : Nat) (w : World) :
    (binOp op t (.float .f64 x) (.float .f64 y)).run P w = .ok (.float .f64 (fres op x y w)) (fnext op x y w) := by
  cases h : floatBits op .f64 x y with
  | some r => rw [run_float_arith w op t .f64 x y r h]; simp [fres, fnext, h]
  | none =>
    unfold floatBits at h
    have hr : fres op x y w = nanOf x y w := by simp only [fres, floatBits, h]
    have hn : fnext op x y w = w.drew := by simp only [fnext, floatBits, h]
    rw [hr, hn]
    rcases hop with rfl | rfl | rfl | rfl <;> simp only at h <;>
      (simp only [binOp, Op.floatArith, h, choose]; rfl)

theorem drew_is (w : World) (n : Nat) : (w.drewN n).drew = w.drewN (n + 1) := rfl
/-- the world after some draws -/
def Drawn (w w' : World) : Prop := ∃ n, w' = w.drewN n
theorem Drawn.refl (w : World) : Drawn w w := ⟨0, rfl⟩
theorem Drawn.trans {a b c : World} (h : Drawn a b) (g : Drawn b c) : Drawn a c := by
  obtain ⟨n, rfl⟩ := h; obtain ⟨m, rfl⟩ := g
  exact ⟨n + m, by rw [World.drewN_drewN]⟩
theorem Drawn.fnext {op : BinOp} {x y : Nat} {w : World} {w' : World} (h : Drawn w w') : Drawn w (fnext op x y w') := by
  refine h.trans ?_
  unfold YthgoihblpeeogaaDoor.fnext
  split
  · exact Drawn.refl _
  · exact ⟨1, rfl⟩

theorem nan_num (t : Nat) : ¬ (t % 2 * 9223372036854775808 + 9218868437227405312 + 1 + t / 2 % 4503599627370495) % 9223372036854775808 < 9218868437227405312 := by
  have h : t % 2 = 0 ∨ t % 2 = 1 := by omega
  have h2 : t / 2 % 4503599627370495 < 4503599627370495 := Nat.mod_lt _ (by omega)
  generalize t / 2 % 4503599627370495 = u at *
  rcases h with h | h <;> rw [h] <;> omega
theorem nan_tape (x y : Nat) (w : World) : fin (nanOf x y w) = false := by
  unfold nanOf fin infB
  exact decide_eq_false (nan_num _)

/-- what Clean answers: the parts, the end -/
def cre (a b : Nat) : Nat := if fin a && fin b then cl a else 0
def cim (a b : Nat) : Nat := if fin a && fin b then cl b else 0
def cer (a b : Nat) : Int := if fin a && fin b then 0 else 5
/-- the same of what an operation gave: none: it was not valid -/
def finO (a : Option Nat) : Bool := match a with | some r => fin r | none => false
def creO (a b : Option Nat) : Nat := if finO a && finO b then cl (a.getD 0) else 0
def cimO (a b : Option Nat) : Nat := if finO a && finO b then cl (b.getD 0) else 0
def cerO (a b : Option Nat) : Int := if finO a && finO b then 0 else 5

theorem fin_fres (op : BinOp) (x y : Nat) (w : World) : fin (fres op x y w) = finO (floatBits op .f64 x y) := by
  unfold fres finO; split
  · rfl
  · exact nan_tape x y w
theorem fres_some {op : BinOp} {x y : Nat} {w : World} {r : Nat} (h : floatBits op .f64 x y = some r) : fres op x y w = r := by unfold fres; rw [h]
theorem fnext_some {op : BinOp} {x y : Nat} {w : World} {r : Nat} (h : floatBits op .f64 x y = some r) : fnext op x y w = w := by unfold fnext; rw [h]
theorem fres_getD (op : BinOp) (x y : Nat) (w : World) (h : finO (floatBits op .f64 x y) = true) : fres op x y w = (floatBits op .f64 x y).getD 0 := by
  unfold finO at h
  cases e : floatBits op .f64 x y with
  | none => rw [e] at h; cases h
  | some r => rw [fres_some e]; rfl
theorem cre_fres (op op' : BinOp) (x y x' y' : Nat) (w w' : World) : cre (fres op x y w) (fres op' x' y' w') = creO (floatBits op .f64 x y) (floatBits op' .f64 x' y') := by
  unfold cre creO; rw [fin_fres, fin_fres]
  split
  · rename_i h; simp only [Bool.and_eq_true] at h; rw [fres_getD op x y w h.1]
  · rfl
theorem cim_fres (op op' : BinOp) (x y x' y' : Nat) (w w' : World) : cim (fres op x y w) (fres op' x' y' w') = cimO (floatBits op .f64 x y) (floatBits op' .f64 x' y') := by
  unfold cim cimO; rw [fin_fres, fin_fres]
  split
  · rename_i h; simp only [Bool.and_eq_true] at h; rw [fres_getD op' x' y' w' h.2]
  · rfl
theorem cer_fres (op op' : BinOp) (x y x' y' : Nat) (w w' : World) : cer (fres op x y w) (fres op' x' y' w') = cerO (floatBits op .f64 x y) (floatBits op' .f64 x' y') := by
  unfold cer cerO; rw [fin_fres, fin_fres]

/-! sums and products of finite words are valid -/
theorem fin_cl (x : Nat) : fin (cl x) = fin x := by
  unfold cl; split
  · rename_i h; unfold fin; rw [h]
  · rfl
theorem cl_cl (x : Nat) : cl (cl x) = cl x := by
  unfold cl
  by_cases h : x % 2 ^ 63 = 0
  · rw [if_pos h]; rfl
  · rw [if_neg h, if_neg h]
theorem fin_cre (a b : Nat) : fin (cre a b) = true := by
  unfold cre; split
  · rename_i h; simp only [Bool.and_eq_true] at h; rw [fin_cl]; exact h.1
  · exact fin_zero
theorem fin_cim (a b : Nat) : fin (cim a b) = true := by
  unfold cim; split
  · rename_i h; simp only [Bool.and_eq_true] at h; rw [fin_cl]; exact h.2
  · exact fin_zero
theorem add_valid (x y : Nat) (hx : fin x = true) (hy : fin y = true) : ∃ r, floatBits .add .f64 x y = some r := by
  obtain ⟨m, a, hm, _⟩ := read_fin x hx
  obtain ⟨n, b, hn, _⟩ := read_fin y hy
  show ∃ r, ((Ieee.double.read x).sum (Ieee.double.read y)).map Ieee.double.write = some r
  rw [hm, hn]; exact ⟨_, rfl⟩
theorem sub_valid (x y : Nat) (hx : fin x = true) (hy : fin y = true) : ∃ r, floatBits .sub .f64 x y = some r := by
  obtain ⟨m, a, hm, _⟩ := read_fin x hx
  obtain ⟨n, b, hn, _⟩ := read_fin y hy
  show ∃ r, ((Ieee.double.read x).sum (Ieee.double.read y).opposite).map Ieee.double.write = some r
  rw [hm, hn]; exact ⟨_, rfl⟩
theorem mul_valid (x y : Nat) (hx : fin x = true) (hy : fin y = true) : ∃ r, floatBits .mul .f64 x y = some r := by
  obtain ⟨m, a, hm, _⟩ := read_fin x hx
  obtain ⟨n, b, hn, _⟩ := read_fin y hy
  show ∃ r, ((Ieee.double.read x).product (Ieee.double.read y)).map Ieee.double.write = some r
  rw [hm, hn]; exact ⟨_, rfl⟩
/-- the product's word of two finite words -/
def fmul (x y : Nat) : Nat := (floatBits .mul .f64 x y).getD 0
theorem fmul_is (x y : Nat) (hx : fin x = true) (hy : fin y = true) : floatBits .mul .f64 x y = some (fmul x y) := by
  obtain ⟨r, h⟩ := mul_valid x y hx hy
  unfold fmul; rw [h]; rfl

/-! Go's Abs, Signbit -/
theorem bits_abs (x : Nat) : (bits .andNot .u64 (x : Int) 9223372036854775808).toNat = x % 2 ^ 63 := by
  show (IntKind.u64.wrap ((BitVec.ofInt 64 (x : Int) &&& ~~~ (BitVec.ofInt 64 9223372036854775808)).toNat : Int)).toNat = x % 2 ^ 63
  have e : (BitVec.ofInt 64 (x : Int) &&& ~~~ (BitVec.ofInt 64 9223372036854775808)).toNat = x % 2 ^ 63 := by
    have h1 : (BitVec.ofInt 64 (x : Int)).toNat = x % 2 ^ 64 := by simp
    have h2 : (~~~ (BitVec.ofInt 64 9223372036854775808)).toNat = 2 ^ 63 - 1 := by decide
    rw [BitVec.toNat_and, h1, h2, Nat.and_two_pow_sub_one_eq_mod]
    omega
  rw [e]
  simp only [IntKind.wrap_u64]
  omega
theorem sign_wrap (x : Nat) : decide (RowKit.wrap64 (x : Int) < 0) = minusB x := by
  unfold minusB RowKit.wrap64
  rw [Bool.eq_iff_iff, decide_eq_true_iff, decide_eq_true_iff]
  omega
theorem fin_eq (x : Nat) : fin x = (!isNan x && !isInfB x) := by
  rcases three x with h | ⟨h, h'⟩ | h
  · rw [h, fin_not_nan x h, fin_not_inf x h]; rfl
  · rw [h, h', inf_is x h h']; rfl
  · rw [nan_not_fin x h, h]; rfl
theorem cl_eq (x : Nat) : cl x = if nought x then 0 else x := by
  unfold cl nought
  by_cases h : x % 2 ^ 63 = 0 <;> simp [h]
/-- is a part sound? -/
def goodB (x : Nat) : Bool := fin x && !(nought x && minusB x)
def okB (a b : Nat) : Bool := goodB a && goodB b
def ng (x : Nat) : Nat := x ^^^ 2 ^ 63
theorem negFloat_is (x : Nat) : Op.negFloat .f64 x = ng x := rfl

/-! what Add, Sub, Mul, Div come to -/
def reO (p : Option Nat × Option Nat) : Nat := creO p.1 p.2
def imO (p : Option Nat × Option Nat) : Nat := cimO p.1 p.2
def erO (p : Option Nat × Option Nat) : Int := cerO p.1 p.2
def sumO (op : BinOp) (a b c d : Nat) : Option Nat × Option Nat := (floatBits op .f64 (cre a b) (cre c d), floatBits op .f64 (cim a b) (cim c d))
def mulO (a b c d : Nat) : Option Nat × Option Nat :=
  (floatBits .sub .f64 (fmul (cre a b) (cre c d)) (fmul (cim a b) (cim c d)), floatBits .add .f64 (fmul (cre a b) (cim c d)) (fmul (cim a b) (cre c d)))

theorem fadd_getD (x y : Nat) (w : World) (h : ∃ r, floatBits .add .f64 x y = some r) : fres .add x y w = (floatBits .add .f64 x y).getD 0 ∧ fnext .add x y w = w := by
  obtain ⟨r, h⟩ := h
  rw [fres_some h, fnext_some h, h]; exact ⟨rfl, rfl⟩

theorem word_not_nan (s : Bool) (r : Nat) (h : r ≤ infB) : isNan (Ieee.double.word s r) = false := by
  unfold isNan Format.word
  rw [dbl_sw]
  refine decide_eq_false ?_
  unfold infB at *
  cases s <;> simp <;> omega
theorem word_minus (r : Nat) (h : r ≤ infB) : minusB (Ieee.double.word false r) = false := by
  unfold minusB Format.word infB at *
  refine decide_eq_false ?_
  simp only [Bool.false_eq_true, if_false]; omega
theorem nearest_not_nan (s : Bool) (m : Nat) (p : Int) : isNan (Ieee.double.nearest s m p) = false := by
  unfold Format.nearest
  split
  · exact word_not_nan _ _ (by decide)
  · exact word_not_nan _ _ (by rw [dbl_inf]; exact Nat.min_le_right _ _)
theorem nearest_minus (m : Nat) (p : Int) : minusB (Ieee.double.nearest false m p) = false := by
  unfold Format.nearest
  split
  · exact word_minus _ (by decide)
  · exact word_minus _ (by rw [dbl_inf]; exact Nat.min_le_right _ _)
theorem square_is (x : Nat) (hx : fin x = true) : isNan (fmul x x) = false ∧ minusB (fmul x x) = false := by
  obtain ⟨m, a, hm, _⟩ := read_fin x hx
  have e : fmul x x = Ieee.double.nearest false (m * m) (-1074 + (a : Int) + (-1074 + (a : Int))) := by
    have : floatBits .mul .f64 x x = ((Ieee.double.read x).product (Ieee.double.read x)).map Ieee.double.write := rfl
    unfold fmul
    rw [this, hm]
    simp only [Datum.product, Option.map, Option.getD, Format.write, Bool.xor_self]
  rw [e]
  exact ⟨nearest_not_nan _ _ _, nearest_minus _ _⟩
theorem read_plus (x : Nat) (h : isNan x = false) (h' : minusB x = false) : (∃ m k, Ieee.double.read x = .number false m k) ∨ Ieee.double.read x = .infinity false := by
  rcases three x with f | ⟨f, _⟩ | f
  · obtain ⟨m, a, hm, _⟩ := read_fin x f
    rw [h'] at hm; exact .inl ⟨_, _, hm⟩
  · right; rw [read_inf x f h, h']
  · rw [h] at f; cases f
theorem write_not_nan (d : Datum) (h : d.isNaN = false) : isNan (Ieee.double.write d) = false := by
  cases d with
  | number s m p => exact nearest_not_nan s m p
  | infinity s => exact word_not_nan _ _ (by decide)
  | nan s f => cases h
theorem sq_valid (r s : Nat) (hr : fin r = true) (hs : fin s = true) : ∃ n, floatBits .add .f64 (fmul r r) (fmul s s) = some n ∧ isNan n = false := by
  obtain ⟨a1, a2⟩ := square_is r hr
  obtain ⟨b1, b2⟩ := square_is s hs
  show ∃ n, ((Ieee.double.read (fmul r r)).sum (Ieee.double.read (fmul s s))).map Ieee.double.write = some n ∧ isNan n = false
  rcases read_plus _ a1 a2 with ⟨m, k, e⟩ | e <;> rcases read_plus _ b1 b2 with ⟨m', k', e'⟩ | e' <;> rw [e, e'] <;> simp only [Datum.sum, Option.map, if_pos] <;>
    exact ⟨_, rfl, write_not_nan _ rfl⟩
/-- the sum of two squares -/
def sumsq (r s : Nat) : Nat := (floatBits .add .f64 (fmul r r) (fmul s s)).getD 0
theorem sumsq_is (r s : Nat) (hr : fin r = true) (hs : fin s = true) : floatBits .add .f64 (fmul r r) (fmul s s) = some (sumsq r s) := by
  obtain ⟨n, h, _⟩ := sq_valid r s hr hs
  unfold sumsq; rw [h]; rfl
theorem sumsq_not_nan (r s : Nat) (hr : fin r = true) (hs : fin s = true) : isNan (sumsq r s) = false := by
  obtain ⟨n, h, g⟩ := sq_valid r s hr hs
  unfold sumsq; rw [h]; exact g
def quoO (o : Option Nat) (n : Nat) : Option Nat := match o with | some x => floatBits .quo .f64 x n | none => none
theorem nan_nanOf (x y : Nat) (w : World) : isNan (nanOf x y w) = true := by
  unfold nanOf isNan infB
  refine decide_eq_true ?_
  show 9218868437227405312 < (w.tape w.drawn (Question.nanBits .f64 x y) % 2 * 9223372036854775808 + 9218868437227405312 + 1 + w.tape w.drawn (Question.nanBits .f64 x y) / 2 % 4503599627370495) % 9223372036854775808
  generalize w.tape w.drawn (Question.nanBits .f64 x y) = t
  have h : t % 2 = 0 ∨ t % 2 = 1 := by omega
  have h2 : t / 2 % 4503599627370495 < 4503599627370495 := Nat.mod_lt _ (by omega)
  generalize t / 2 % 4503599627370495 = u at *
  rcases h with h | h <;> rw [h] <;> omega
theorem quo_nan (x n : Nat) (h : isNan x = true) : floatBits .quo .f64 x n = none := by
  show ((Ieee.double.read x).quotient _ (Ieee.double.read n)).map Ieee.double.write = none
  rw [read_nan x h]; rfl
theorem quo_fres (op : BinOp) (x y n : Nat) (w : World) : floatBits .quo .f64 (fres op x y w) n = quoO (floatBits op .f64 x y) n := by
  cases h : floatBits op .f64 x y with
  | some r => rw [fres_some h]; rfl
  | none =>
    have : fres op x y w = nanOf x y w := by unfold fres; rw [h]
    rw [this, quo_nan _ _ (nan_nanOf x y w)]; rfl
def divP (a b c d : Nat) : Option Nat × Option Nat :=
  (quoO (floatBits .add .f64 (fmul (cre a b) (cre c d)) (fmul (cim a b) (cim c d))) (sumsq (cre c d) (cim c d)),
   quoO (floatBits .sub .f64 (fmul (cim a b) (cre c d)) (fmul (cre a b) (cim c d))) (sumsq (cre c d) (cim c d)))
def divRe (a b c d : Nat) : Nat := if nought (cre c d) && nought (cim c d) then 0 else if nought (sumsq (cre c d) (cim c d)) || isInfB (sumsq (cre c d) (cim c d)) then 0 else reO (divP a b c d)
def divIm (a b c d : Nat) : Nat := if nought (cre c d) && nought (cim c d) then 0 else if nought (sumsq (cre c d) (cim c d)) || isInfB (sumsq (cre c d) (cim c d)) then 0 else imO (divP a b c d)
def divEr (a b c d : Nat) : Int := if nought (cre c d) && nought (cim c d) then 2 else if nought (sumsq (cre c d) (cim c d)) || isInfB (sumsq (cre c d) (cim c d)) then 5 else erO (divP a b c d)
theorem cre_quo (op op' : BinOp) (x y x' y' n : Nat) (w w1 w2 w3 : World) : cre (fres .quo (fres op x y w) n w1) (fres .quo (fres op' x' y' w2) n w3) = reO (quoO (floatBits op .f64 x y) n, quoO (floatBits op' .f64 x' y') n) := by
  rw [cre_fres, quo_fres, quo_fres]; rfl
theorem cim_quo (op op' : BinOp) (x y x' y' n : Nat) (w w1 w2 w3 : World) : cim (fres .quo (fres op x y w) n w1) (fres .quo (fres op' x' y' w2) n w3) = imO (quoO (floatBits op .f64 x y) n, quoO (floatBits op' .f64 x' y') n) := by
  rw [cim_fres, quo_fres, quo_fres]; rfl
theorem cer_quo (op op' : BinOp) (x y x' y' n : Nat) (w w1 w2 w3 : World) : cer (fres .quo (fres op x y w) n w1) (fres .quo (fres op' x' y' w2) n w3) = erO (quoO (floatBits op .f64 x y) n, quoO (floatBits op' .f64 x' y') n) := by
  rw [cer_fres, quo_fres, quo_fres]; rfl
theorem order_zero_iff (x : Nat) : FloatKind.f64.format.order x 0 = some .eq ↔ nought x = true := by
  rw [← order_zero]; simp

/-! cleaned parts are sound; signs turned -/
theorem minus_zero : minusB 0 = false := by decide
theorem good_cl (x : Nat) (h : fin x = true) : goodB (cl x) = true := by
  unfold goodB; rw [fin_cl, h]
  unfold cl nought
  by_cases e : x % 2 ^ 63 = 0
  · rw [if_pos e, minus_zero]; simp
  · rw [if_neg e]; simp [e]
theorem good_zero : goodB 0 = true := by decide
theorem ok_clean (a b : Nat) : okB (cre a b) (cim a b) = true := by
  unfold okB cre cim
  cases h : (fin a && fin b)
  · simp [good_zero]
  · simp only [Bool.and_eq_true] at h
    simp [good_cl a h.1, good_cl b h.2]
theorem ng_mod (x : Nat) : ng x % 2 ^ 63 = x % 2 ^ 63 := by
  unfold ng
  apply Nat.eq_of_testBit_eq
  intro i
  rw [Nat.testBit_mod_two_pow, Nat.testBit_mod_two_pow, Nat.testBit_xor, Nat.testBit_two_pow]
  by_cases h : i < 63
  · have e : ¬ 63 = i := by omega
    simp [h, e]
  · simp [h]
theorem ng_ng (x : Nat) : ng (ng x) = x := by
  unfold ng; rw [Nat.xor_assoc, Nat.xor_self, Nat.xor_zero]
theorem fin_ng (x : Nat) : fin (ng x) = fin x := by unfold fin; rw [ng_mod]
theorem nan_ng (x : Nat) : isNan (ng x) = isNan x := by unfold isNan; rw [ng_mod]
/-- a word that is clean -/
def clean (x : Nat) : Prop := fin x = true ∧ cl x = x
theorem clean_cre (a b : Nat) : clean (cre a b) := by
  refine ⟨fin_cre a b, ?_⟩
  unfold cre; split
  · exact cl_cl _
  · rfl
theorem clean_cim (a b : Nat) : clean (cim a b) := by
  refine ⟨fin_cim a b, ?_⟩
  unfold cim; split
  · exact cl_cl _
  · rfl
theorem cre_fin (a b : Nat) (ha : fin a = true) (hb : fin b = true) : cre a b = cl a := by unfold cre; rw [ha, hb]; rfl
theorem cim_fin (a b : Nat) (ha : fin a = true) (hb : fin b = true) : cim a b = cl b := by unfold cim; rw [ha, hb]; rfl
theorem cer_fin (a b : Nat) (ha : fin a = true) (hb : fin b = true) : cer a b = 0 := by unfold cer; rw [ha, hb]; rfl
theorem cre_clean (a b : Nat) (ha : clean a) (hb : clean b) : cre a b = a := by rw [cre_fin a b ha.1 hb.1, ha.2]
theorem cim_clean (a b : Nat) (ha : clean a) (hb : clean b) : cim a b = b := by rw [cim_fin a b ha.1 hb.1, hb.2]
def negRe (a b : Nat) : Nat := cre (ng (cre a b)) (ng (cim a b))
def negIm (a b : Nat) : Nat := cim (ng (cre a b)) (ng (cim a b))
def conjRe (a b : Nat) : Nat := cre (cre a b) (ng (cim a b))
def conjIm (a b : Nat) : Nat := cim (cre a b) (ng (cim a b))
theorem negRe_is (a b : Nat) : negRe a b = cl (ng (cre a b)) := cre_fin _ _ (by rw [fin_ng]; exact fin_cre a b) (by rw [fin_ng]; exact fin_cim a b)
theorem negIm_is (a b : Nat) : negIm a b = cl (ng (cim a b)) := cim_fin _ _ (by rw [fin_ng]; exact fin_cre a b) (by rw [fin_ng]; exact fin_cim a b)
theorem conjRe_is (a b : Nat) : conjRe a b = cre a b := (cre_fin _ _ (fin_cre a b) (by rw [fin_ng]; exact fin_cim a b)).trans (clean_cre a b).2
theorem conjIm_is (a b : Nat) : conjIm a b = cl (ng (cim a b)) := cim_fin _ _ (fin_cre a b) (by rw [fin_ng]; exact fin_cim a b)
/-- a clean word's sign turned and cleaned, twice -/
theorem cl_ng (x : Nat) : cl (ng x) = if x % 2 ^ 63 = 0 then 0 else ng x := by unfold cl; rw [ng_mod]
theorem turn_turn (x : Nat) (h : clean x) : cl (ng (cl (ng x))) = x := by
  obtain ⟨_, h2⟩ := h
  rw [cl_ng (cl (ng x)), cl_ng x]
  unfold cl at h2
  by_cases e : x % 2 ^ 63 = 0
  · rw [if_pos e] at h2 ⊢
    rw [← h2]; rfl
  · rw [if_neg e, ng_mod, if_neg e, ng_ng]
theorem clean_turn (x : Nat) (h : fin x = true) : clean (cl (ng x)) := ⟨by rw [fin_cl, fin_ng]; exact h, cl_cl _⟩
theorem cre_neg (a b : Nat) : cre (negRe a b) (negIm a b) = cl (ng (cre a b)) := by
  rw [negRe_is, negIm_is]; exact cre_clean _ _ (clean_turn _ (fin_cre a b)) (clean_turn _ (fin_cim a b))
theorem cim_neg (a b : Nat) : cim (negRe a b) (negIm a b) = cl (ng (cim a b)) := by
  rw [negRe_is, negIm_is]; exact cim_clean _ _ (clean_turn _ (fin_cre a b)) (clean_turn _ (fin_cim a b))
theorem negRe_negRe (a b : Nat) : negRe (negRe a b) (negIm a b) = cre a b := by
  rw [negRe_is (negRe a b), cre_neg]; exact turn_turn _ (clean_cre a b)
theorem negIm_negIm (a b : Nat) : negIm (negRe a b) (negIm a b) = cim a b := by
  rw [negIm_is (negRe a b), cim_neg]; exact turn_turn _ (clean_cim a b)
theorem cre_conj (a b : Nat) : cre (conjRe a b) (conjIm a b) = cre a b := by
  rw [conjRe_is, conjIm_is]; exact cre_clean _ _ (clean_cre a b) (clean_turn _ (fin_cim a b))
theorem cim_conj (a b : Nat) : cim (conjRe a b) (conjIm a b) = cl (ng (cim a b)) := by
  rw [conjRe_is, conjIm_is]; exact cim_clean _ _ (clean_cre a b) (clean_turn _ (fin_cim a b))
theorem conjRe_conjRe (a b : Nat) : conjRe (conjRe a b) (conjIm a b) = cre a b := by rw [conjRe_is, cre_conj]
theorem conjIm_conjIm (a b : Nat) : conjIm (conjRe a b) (conjIm a b) = cim a b := by
  rw [conjIm_is (conjRe a b), cim_conj]; exact turn_turn _ (clean_cim a b)
theorem ok_neg (a b : Nat) : okB (negRe a b) (negIm a b) = true := ok_clean _ _
theorem ok_conj (a b : Nat) : okB (conjRe a b) (conjIm a b) = true := ok_clean _ _

theorem grown_drewN {W w : World} (h : Grown W w) (n : Nat) : Grown W (w.drewN n) := h
theorem Drawn.grown {w w' : World} (h : Drawn w w') : Grown w w' := by
  obtain ⟨n, rfl⟩ := h; exact grown_drewN (Grown.refl _) n
def oneB : Nat := 4607182418800017408
def mOneB : Nat := 13830554455654793216
end Go.Proofs.YthgoihblpeeogaaDoor
