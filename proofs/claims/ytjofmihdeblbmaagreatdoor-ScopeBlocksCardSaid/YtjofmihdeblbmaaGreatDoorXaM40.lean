/- XA: a call with a row of numbers that the caller handed over. -/
import Derived.Test.YtjofmihdeblbmaaGreatDoorXaM39
import Derived.ChangeSlices
import Derived.WideShapes
namespace Go.Proofs.YtjofmihdeblbmaaGreatDoor.Xa
open Go Go.RowKit
set_option linter.unusedVariables false
set_option maxRecDepth 100000
def H.two : H := ⟨2, fun _ => Option.none, fun _ => Option.none, fun _ => Option.none⟩
def Kp.one (w : World) (b o c : Nat) (cs : Array Value) (e : TypeId) : Kp :=
  ⟨w, 2, fun _ => Option.none, fun id => if id = 1 then some ⟨b, o, c, e, 1⟩ else Option.none, fun x => if x = b then some cs.toList else Option.none, fun _ => Option.none, fun _ => Option.none⟩
theorem Rel.one (P : Program) (w : World) {b o c : Nat} {cs : Array Value} {e : TypeId} {fz : Nat × Nat} (hb : w.heap[b]? = some (.cells cs e fz)) : Rel P (Kp.one w b o c cs e) H.two w where
  next := rfl
  pos := by decide
  below := Below.refl _ _
  obj := fun _ _ h => by cases h
  objb := fun _ _ h => by cases h
  inj := fun _ _ _ h => by cases h
  rt := fun x l h => by
    simp only [Kp.one] at h
    split at h
    · rename_i hx
      subst hx
      cases h
      exact ⟨cs, e, fz, hb, List.prefix_refl _⟩
    · cases h
  row := fun id r h => by
    simp only [Kp.one] at h
    split at h
    · rename_i hx
      subst hx
      exact ⟨by show 1 < 2; decide, by decide⟩
    · cases h
  ext := fun _ _ h => by cases h
  extinj := fun _ _ _ _ _ _ h => by cases h
  free := fun _ _ => ⟨rfl, rfl, rfl⟩
  hole := fun _ _ h => by cases h
  arr := fun _ _ h => by cases h
  arrb := fun _ _ h => by cases h
  arrinj := fun _ _ _ _ _ _ h => by cases h
  arro := fun _ _ _ h => by cases h
/-- a row of numbers in memory -/
def IntsAt (w : World) (a : Option Addr) (c : Nat) (l : List Int) : Prop :=
  (a = Option.none ∧ c = 0 ∧ l = []) ∨ ∃ b o cs e fz, a = some ⟨b, o, Option.none⟩ ∧ w.heap[b]? = some (.cells cs e fz) ∧ l.length ≤ c ∧ l.map (Value.int .i64) <+: cs.toList.drop o
theorem VRowss.ints (κ : Kp) : ∀ l : List Int, VRowss κ (l.map intV) (l.map fun n => [Value.int .i64 n])
  | [] => .nil
  | n :: l => .cons (.cons (.lit _) .nil) (VRowss.ints κ l)
theorem ints_flat : ∀ l : List Int, (l.map fun n => [Value.int .i64 n]).flatten = l.map (Value.int .i64)
  | [] => rfl
  | n :: l => by simp [ints_flat l]
theorem XCalls.trueI {f : FuncId} {Q Q' : H → Prop} {l : List Int} (c1 : XCalls e f [.slc 1 1 (l.map intV)] H.two (fun v h' => v = .lit (.bool true) ∧ Q h')) (c0 : XCalls e f [.slc 0 1 []] H.none (fun v h' => v = .lit (.bool true) ∧ Q' h'))
    (a : Option Addr) (c : Nat) (w : World) (hI : Inv w) (ha : IntsAt w a c l) :
    Calls Tryz.prog f #[.slice a l.length c] w fun e' w' => e' = .returned (.bool true) ∧ Below w.heap.size w w' := by
  rcases ha with ⟨rfl, rfl, rfl⟩ | ⟨b, o, cs, ty, fz, rfl, hb, hc, hp⟩
  · exact c0.true_ _ w hI (.cons (.nil 1) .nil)
  · have hv : VRel (Kp.one w b o c cs ty) (.slc 1 1 (l.map intV)) (.slice (some ⟨b, o, Option.none⟩) l.length c) := by
      have := VRel.slc (κ := Kp.one w b o c cs ty) (id := 1) (sz := 1) (xs := l.map intV) (b := b) (o := o) (c := c) (css := l.map fun n => [Value.int .i64 n]) (VRowss.ints _ l) (by
        intro x hx
        obtain ⟨n, _, rfl⟩ := List.mem_map.1 hx
        rfl) (by
        intro x hx v hv
        obtain ⟨n, _, rfl⟩ := List.mem_map.1 hx
        simp [intV] at hv
        subst hv
        rfl) (by simpa using hc) ⟨cs.toList, by simp [Kp.one], by rw [ints_flat]; exact hp⟩ ⟨by decide, by show 1 < 2; decide⟩ ⟨⟨b, o, c, ty, 1⟩, by simp [Kp.one], rfl, rfl, rfl, rfl⟩
      simpa using this
    refine (c1.2 (Kp.one w b o c cs ty) w _ hI (Rel.one _ w hb) (.cons hv .nil)).mono ?_
    rintro e' w' ⟨κ, v, cv, h', h1, h2, h3, h4, rfl, h5⟩
    subst h1
    cases h3
    have := h4.below
    rw [h2.w0] at this
    exact ⟨rfl, this⟩
theorem blocks_true (l : List Int) (a : Option Addr) (c : Nat) (w : World) (hI : Inv w) (ha : IntsAt w a c l) (hl : l.length ≤ maxLen) :
    Calls Tryz.prog 5 #[.slice a l.length c] w fun e' w' => e' = .returned (.bool true) ∧ Below w.heap.size w w' :=
  XCalls.trueI (blocks_calls H.two (by decide) l 1 1 (fun _ => rfl) (by unfold maxLen at hl; omega)) (blocks_calls H.none (by decide) [] 0 1 (fun h => absurd rfl h) (by decide)) a c w hI ha
end Go.Proofs.YtjofmihdeblbmaaGreatDoor.Xa
namespace Go.Proofs.YtjofmihdeblbmaaGreatDoor
open Go.ChangeShapes Go.WideShapes
set_option maxRecDepth 100000
/-- what the row's premise says of such a row -/
theorem ints_at {H : Type} {enc : TypeId × Value → H} {W : World} {base : Nat} {fuel : Nat} {a : Option Addr} {len cap : Nat} {x : DataW H × List MemPlace}
    (hv : Value.okWide Tryz.prog W .any base 23 (.slice a len cap)) (h : DataW.trod enc Tryz.prog W 0 (fun _ => true) true fuel 23 [.slice a len cap] = some x) :
    ∃ l0 : List Int, len = l0.length ∧ Xa.IntsAt W a cap l0 ∧ l0.length ≤ maxLen := by
  rcases open_ints Tryz.underlying23 Tryz.underlying3 (by kernel_rfl) h with ⟨h1, -⟩ | ⟨ad, len', cap', zs, h1, -, h2, h3, h4, -, h5, h6⟩
  · simp only [List.cons.injEq, Value.slice.injEq, and_true] at h1
    obtain ⟨rfl, rfl, rfl⟩ := h1
    exact ⟨[], rfl, .inl ⟨rfl, rfl, rfl⟩, by decide⟩
  · simp only [List.cons.injEq, Value.slice.injEq, and_true] at h1
    obtain ⟨rfl, rfl, rfl⟩ := h1
    simp only [if_true] at h4
    simp only [Value.okWide, Tryz.underlying23, Cell.okWide, Cell.ok, World.has] at hv
    obtain ⟨-, -, -, hsp, row, cells, hsh, -⟩ := hv
    obtain ⟨b, o, sp⟩ := ad
    simp only at hsp
    subst hsp
    unfold World.shape? at hsh
    simp only at hsh
    split at hsh
    case h_2 => cases hsh
    rename_i cs e fz hb
    refine ⟨zs.take len, by simp; omega, .inr ⟨b, o, cs, e, fz, rfl, hb, by simp; omega, ?_⟩, by simp; omega⟩
    have hk : zs.length = cap := h4
    have e1 : (zs.take len).map (Value.int .i64) = (cs.toList.drop o).take len := by
      apply List.ext_getElem?
      intro i
      by_cases hi : i < len
      · have hiz : i < zs.length := by omega
        have h7 := h5 i hiz
        have h8 : (⟨b, o, Option.none⟩ : Addr).add i = ⟨b, o + i, Option.none⟩ := by
          unfold Addr.add
          split <;> simp_all
        rw [h8] at h7
        unfold World.cell? at h7
        simp only [hb] at h7
        simp only [Option.isSome_none, Bool.false_eq_true, if_false] at h7
        rw [List.getElem?_take_of_lt hi, List.getElem?_drop, List.getElem?_map, List.getElem?_take_of_lt hi, List.getElem?_eq_getElem hiz]
        rw [List.getD_eq_getElem?_getD, List.getElem?_eq_getElem hiz] at h7
        simpa using h7.symm
      · rw [List.getElem?_eq_none (by simp; omega), List.getElem?_eq_none (by simp; omega)]
    rw [e1]
    exact List.take_prefix _ _
end Go.Proofs.YtjofmihdeblbmaaGreatDoor
