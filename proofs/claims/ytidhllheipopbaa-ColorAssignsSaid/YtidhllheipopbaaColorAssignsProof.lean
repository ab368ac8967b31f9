/- ColorAssigns: whatever the rows and the number of registers, the call answers true and changes nothing that was there. No condition. -/
import Derived.Test.YtidhllheipopbaaColR
import Derived.Test.YtidhllheipopbaaRows
import Derived.Deep.Slices
import Derived.Deep.Strs
import Derived.WalkKit
import Derived.ProofKit
import Derived.OpenShut
import Derived.ChangeOld
import Derived.Below
import Derived.SizedLaws
import Derived.Carry
import Derived.ChangeArms
namespace Go.Proofs.Ytidhllheipopbaa.colorAssigns
open Go.ChangeShapes Go.WideShapes Go.ChangeAt Go.RowKit Go.Deep
open XCol Go.Proofs.YtidhllheipopbaaW.PrintWords
set_option linter.unusedVariables false      -- a walk need not use every 'w<i>'

theorem own : ownKnob Try.prog.godebug = none := by kernel_rfl
theorem laidOut : laidOutB Try.prog = true := by kernel_rfl

/-- A slice of rows that reads, as a list. -/
theorem open_rows {H : Type} {enc : TypeId × Value → H} {W : World} {fuel : Nat} {a : Option Addr} {len cap : Nat} {x : DataW H × List MemPlace}
    (h : DataW.trod enc Try.prog W 0 (fun _ => true) true fuel 32 [.slice a len cap] = some x) :
    ∃ l0 : List S46, len = l0.length ∧ l0.length ≤ cap ∧ Kd.C k46 W a l0.length l0 := by
  rcases open_slice Try.underlying32 h with ⟨h1, -⟩ | ⟨ad, len', cap', m, n, D, Pl, h1, -, h2, h3, rfl, -, h4⟩
  · simp only [List.cons.injEq, Value.slice.injEq, and_true] at h1
    obtain ⟨rfl, rfl, rfl⟩ := h1
    exact ⟨[], rfl, Nat.le_refl _, Kd.C_nil k46 W⟩
  · simp only [List.cons.injEq, Value.slice.injEq, and_true] at h1
    obtain ⟨rfl, rfl, rfl⟩ := h1
    have hc : Try.prog.cellsOf 46 = 3 := by kernel_rfl
    have hi : Try.prog.cellsOf 3 = 1 := by kernel_rfl
    have hall : ∀ i, i < len → ∃ p : S46, ∀ j u, ([.int .i64 p.f0, .int .i64 p.f1, .int .i64 p.f2] : List Value)[j]? = some u → W.cell? (ad.add (i * 3 + j)) = some u := by
      intro i hi'
      obtain ⟨cs, h5, h6⟩ := h4 i (by omega)
      rw [hc] at h5
      obtain ⟨-, h7, h8⟩ := World.cells?_some h5
      obtain ⟨y0, y1, y2, n', -, -, g0, g1, g2⟩ := trod_struct3 Try.underlying46 h6
      obtain ⟨a0, e0, -, -⟩ := DataW.trod_int Try.underlying3 g0
      obtain ⟨a1, e1, -, -⟩ := DataW.trod_int Try.underlying3 g1
      obtain ⟨a2, e2, -, -⟩ := DataW.trod_int Try.underlying3 g2
      rw [show (Try.prog.cellsOf 3) = 1 from hi] at e0 e1 e2
      match cs, h7 with
      | [c0, c1, c2], _ =>
        simp at e0 e1 e2
        subst e0 e1 e2
        refine ⟨⟨a0, a1, a2⟩, fun j u hj => ?_⟩
        have hj3 : j < 3 := by
          rcases Nat.lt_or_ge j 3 with h | h
          · exact h
          · rw [List.getElem?_eq_none (by simpa using h)] at hj; cases hj
        have := h8 j hj3
        rw [Go.Deep.add_add] at this
        rw [this]; exact hj
    haveI : Inhabited S46 := ⟨⟨0, 0, 0⟩⟩
    obtain ⟨f, hf⟩ := choose_lt hall
    refine ⟨(List.range len).map f, by simp, by simpa using h2, by simp, ?_, fun _ => ⟨ad, rfl, fun j p hj => ?_⟩⟩
    · have : maxLen = 9223372036854775807 := rfl
      simp; omega
    · have hjl : j < len := by
        rcases Nat.lt_or_ge j len with h | h
        · exact h
        · rw [List.getElem?_eq_none (by simpa using h)] at hj; cases hj
      have hp : p = f j := by simpa [List.getElem?_map, List.getElem?_range hjl] using hj.symm
      subst hp
      exact ⟨_, rfl, k46_mk W (f j), fun i u hu => hf j hjl i u hu⟩

/-- The walk: the printed call, and the pure part. -/
theorem walk (A0 : Option Addr) (c0 : Nat) (l0 : List S46) (a1 : Int) (w : World) (hr0 : Kd.C k46 w A0 l0.length l0) (hc0 : l0.length ≤ c0) (w1 : (Lit.int .i64 a1).wf = true) :
    Calls Try.prog 4 #[.slice A0 l0.length c0, .int .i64 a1] w fun e w' => e = .returned (.bool true) ∧ Below w.heap.size w w' := by
  obtain ⟨k, hk⟩ := assigns_pure l0 a1
  exact ratlinelaw18_ColorAssigns.calls k A0 c0 l0 a1 true w hr0 hc0 hk

set_option maxRecDepth 100000 in
theorem lifted (os : Os) (started : os.Started) (H : Type) (enc : TypeId × Value → H) :
    ReturnsInHanded {} Try.checked os 4 .any (Rows.colorAssignsSpec.pre6 enc Try.prog Try.f4 Rows.colorAssignsRow.domain false) (Rows.colorAssignsSpec.post enc Try.prog Try.f4 false true false false) := by
  refine returnsInHanded_of_change_sized (C := Try.checked) own started (by kernel_rfl) Try.func4
    (ChangeSpec.witness6 (enc := enc) (C := Try.checked) false ⟨#[], #[.slice none 0 0, .int .i64 0], []⟩ 8 (by kernel_rfl) (by kernel_rfl) (by kernel_rfl) (by kernel_rfl)) ?_
  intro W base args ds gs before hval0 hW hcnd hsz0 _
  have hval : ∀ (j : Nat) t v, Try.f4.params[j]? = some t → args[j]? = some v → Value.okWide Try.prog W .any base t v := hval0
  have hW' := hW
  obtain ⟨p, q, hA0, hV, rfl, hfz, hnd⟩ := hW
  have hA : DataW.TrodAll enc Try.prog W 0 (fun _ => true) true Try.f4.params.toList args.toList ds p := hA0
  rw [Try.params4] at hA hval
  obtain ⟨v0, vs0, d0, ds0, p0, q0, hargs, rfl, rfl, h0, r0⟩ := trodAll_cons hA
  obtain ⟨v1, vs1, d1, ds1, p1, q1, rfl, rfl, rfl, h1, r1⟩ := trodAll_cons r0
  obtain ⟨rfl, rfl, rfl⟩ := trodAll_nil r1
  obtain rfl : args = #[v0, v1] := by cases args; simp_all
  obtain ⟨rfl, rfl⟩ := trodVars_none hV
  obtain ⟨A0, len0, c0, rfl⟩ := okWide_slice Try.underlying32 (hval 0 32 v0 rfl rfl)
  have k0 := h0
  have lt0 : ∀ x ∈ p0, x.block < W.heap.size := by
    obtain ⟨m, hm⟩ := k0
    exact DataW.trod_lt m _ _ _ hm
  obtain ⟨l0, rfl, hc0, hr0⟩ : ∃ l0 : List S46, len0 = l0.length ∧ l0.length ≤ c0 ∧ Kd.C k46 W A0 l0.length l0 := by
    obtain ⟨m, hm⟩ := h0
    exact open_rows hm
  obtain ⟨a1, rfl, rfl, rfl, w1⟩ := open_int Try.underlying3 (hval 1 3 v1 rfl rfl) h1
  clear hA0 hval0
  simp only [List.append_nil] at hW'
  refine (walk A0 c0 l0 a1 W hr0 hc0 w1).mono fun e W' ⟨he, bel⟩ => ?_
  subst he
  exact ⟨_, rfl, _, _, _, [], _, [], hW', trodAll_mk1 (shut_bool Try.underlying4 _), (trodAll_cons_mk (Below.trod laidOut (by kernel_rfl) (of_decide_eq_true (by kernel_rfl)) k0 bel lt0) (trodAll_cons_mk (shut_int Try.underlying3 w1) trodAll_mk0)), rfl, bel.frame _, fun h => by cases h⟩

theorem over : Rows.colorAssignsRow.holds Try.pinned (OpenSpec.ofChange Rows.colorAssignsSpec) :=
  OpenClaim.holds_of_wide 4 Try.f4 rfl rfl rfl rfl rfl rfl rfl ⟨rfl, rfl, rfl, rfl, rfl⟩ rfl rfl rfl rfl rfl (by kernel_rfl) Try.func4 (by kernel_rfl)
    (of_decide_eq_true (by kernel_rfl)) (by unfold Func.isWrapper; first | (rw [if_pos (by decide +kernel)]; kernel_rfl) | (rw [if_neg (by decide +kernel)]; exact ⟨rfl, rfl⟩))
    (fun os started H enc _ => lifted os started H enc)

/-- The statement. -/
theorem proved : Rows.ColorAssignsSaid :=
  over
#print axioms proved
end Go.Proofs.Ytidhllheipopbaa.colorAssigns
