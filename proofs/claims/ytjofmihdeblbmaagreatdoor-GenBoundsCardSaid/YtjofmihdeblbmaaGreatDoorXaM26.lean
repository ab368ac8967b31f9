/- XA, joined: XaSc0. -/
import Derived.Test.YtjofmihdeblbmaaGreatDoorXaM25
import Derived.Test.YtjofmihdeblbmaaGreatDoorXaMR
/- XA: scope's checker: its state in memory; find. -/
namespace Go.Proofs.YtjofmihdeblbmaaGreatDoor.Xa
open Go Go.RowKit
set_option linter.unusedVariables false
set_option linter.unusedSimpArgs false
set_option maxRecDepth 100000
set_option maxHeartbeats 1000000
theorem cfind_calls0 (cb : Nat) (nm : ByteArray) (a : Option Addr) (len cap : Nat) (ns : List Kn) (hreach : ns.length ≤ 1000000) (w : World) (hcb : cb < w.heap.size) (hsv : w.cell? ⟨cb, 2, none⟩ = some (.slice a len cap)) (hI : NamesAt w.heap.size w (.slice a len cap) ns) :
    Calls Tryz.prog 102 #[.pointer (some ⟨cb, 0, none⟩), .string nm] w fun e W' => e = .returned (.tuple #[.int .i64 (findR ns nm).1, .bool (findR ns nm).2]) ∧ Below w.heap.size w W' :=
  (find_in { fn := fun _ => True } 3 trivial trivial trivial rfl (Nat.le_refl _) cb nm a len cap ns hreach w hcb hsv hI).calls fun k d hd => by cases hd
structure CS where
  names : List Kn
  loops : Int
  locals : Int
  slots : List Int
  calls : List Int
  e : Int
structure CC where
  p : Nat
  fid : Nat
  fv : V          -- the functions as a row
def intV (n : Int) : List V := [.lit (.int .i64 n)]
def knV (p : Kn) : List V := [.lit (.string p.1), .lit (.int .i64 p.2)]
/-- the names that are seen, in memory -/
def NamesV (h : H) (lo : Nat) (nv : V) (ns : List Kn) : Prop :=
  (nv = .slc 0 0 [] ∧ ns = []) ∨ ∃ id a, nv = .msl id 0 ns.length 2 ∧ lo ≤ id ∧ id < h.next ∧ h.arr id = some a ∧ a.sz = 2 ∧ a.e = 164 ∧ ns.length ≤ a.rows.length ∧ a.rows.take ns.length = ns.map knV
structure CkAt (c : CC) (h : H) (s : CS) (nv : V) (si sz ci cz : Nat) : Prop where
  obj : h.obj c.p = some (.cells [.map c.fid, c.fv, nv, .lit (.int .i64 s.loops), .lit (.int .i64 s.locals), .slc si sz (s.slots.map intV), .slc ci cz (s.calls.map intV), .lit (.int .i64 s.e)] 115)
  lt : c.p < h.next
  names : NamesV h (c.p + 1) nv s.names
  slots : Own h si sz s.slots.length 1 (c.p + 1)
  calls : Own h ci cz s.calls.length 1 (c.p + 1)
  apart : si = ci → si = 0
def Ck (c : CC) (h : H) (s : CS) : Prop := ∃ nv si sz ci cz, CkAt c h s nv si sz ci cz
/-- what a call of the checker's leaves as it was -/
structure FrC (p : Nat) (h h' : H) : Prop where
  next : h.next ≤ h'.next
  obj : ∀ j, j < h.next → j ≠ p → h'.obj j = h.obj j
  ext : ∀ j, j < p → h'.ext j = h.ext j
  arr : ∀ j, j < p → h'.arr j = h.arr j
theorem FrC.refl (p : Nat) (h : H) : FrC p h h := ⟨Nat.le_refl _, fun _ _ _ => rfl, fun _ _ => rfl, fun _ _ => rfl⟩
theorem FrC.trans {p : Nat} {a b c : H} (x : FrC p a b) (y : FrC p b c) : FrC p a c := ⟨Nat.le_trans x.next y.next, fun j hj hp => (y.obj j (Nat.lt_of_lt_of_le hj x.next) hp).trans (x.obj j hj hp), fun j hj => (y.ext j hj).trans (x.ext j hj), fun j hj => (y.arr j hj).trans (x.arr j hj)⟩
theorem cfind_calls (c : CC) (h : H) (s : CS) (nv : V) (si sz ci cz : Nat) (hs : CkAt c h s nv si sz ci cz) (hn : s.names.length ≤ 1000000) (nm : ByteArray) :
    XCalls e 102 [.ptr c.p 0, .lit (.string nm)] h (fun v h' => v = .tup [.lit (.int .i64 (findR s.names nm).1), .lit (.bool (findR s.names nm).2)] ∧ h' = h) := by
  refine ⟨⟨_, _, Tryz.func102, rfl, by kernel_rfl⟩, fun κ w cargs hI R ha => ?_⟩
  obtain ⟨b, hb, ccs, h1, h2, h3⟩ := R.obj c.p _ hs.obj
  have hargs : cargs = #[.pointer (some ⟨b, 0, none⟩), .string nm] := by
    have := (VRels.uniq (κ := κ) (by simp [V.one]) ha (.cons (.ptr 0 hb) (.cons (.lit (.string nm)) .nil)))
    cases cargs; simp_all
  subst hargs
  have h4 := h2.getD 2
  simp only [List.getD_cons_succ, List.getD_cons_zero] at h4
  have hlen : ccs.size = 8 := by have := h2.length; simpa using this.symm
  have hcell : w.cell? ⟨b, 2, none⟩ = some (ccs.toList.getD 2 undef) := by
    simp only [World.cell?, h1]
    have : 2 < ccs.size := by omega
    simp [this]
  have hbw := (R.objb c.p b hb).2.1
  obtain ⟨a, len, cap, hcv, hNA⟩ : ∃ a len cap, ccs.toList.getD 2 undef = .slice a len cap ∧ NamesAt w.heap.size w (.slice a len cap) s.names := by
    generalize ccs.toList.getD 2 undef = cv at h4
    rcases hs.names with ⟨rfl, hn0⟩ | ⟨id, ar, rfl, hlo, hlt', har, hsz, he, hle, htake⟩
    · generalize hv : V.slc 0 0 [] = v at h4
      cases h4 <;> cases hv
      · exact ⟨none, 0, 0, rfl, .inl ⟨rfl, hn0⟩⟩
      · rename_i hid _ _ _ _ _ _
        all_goals omega
    · cases h4 with
      | msl hk hks hcap hnn =>
        rename_i c' k
        obtain ⟨k', hk', hA⟩ := R.arr id ar har
        rw [hk] at hk'
        obtain rfl := Option.some.inj hk'
        obtain ⟨css, g1, g2, g3⟩ := hA.cells 0 s.names.length
        have hkb := (R.arrb id k hk).2.1
        refine ⟨_, _, _, rfl, .inr ⟨k.b, k.o + 0 * 2, c', rfl, hkb, fun j hj => ?_⟩⟩
        rw [List.drop_zero, htake] at g1
        have hgj : (s.names.map knV)[j]? = some (knV s.names[j]) := by simp [hj]
        obtain ⟨cs, q1, q2⟩ := g1.get hgj
        obtain ⟨pre, post, f1, f2, _⟩ := flat_split (sz := 2) (fun r hr => by rw [g2 r hr, hsz]) q1
        have hcs : cs = [.string s.names[j].1, .int .i64 s.names[j].2] := VRels.uniq (κ := κ) (by simp [knV, V.one]) q2 (.cons (.lit _) (.cons (.lit _) .nil))
        subst hcs
        have hsome : s.names[j]?.getD (⟨#[]⟩, 0) = s.names[j] := by simp [hj]
        rw [hsome]
        have w1 := g3 (j * 2) (.string s.names[j].1) (by rw [f1, ← f2, List.getElem?_append_right (Nat.le_refl _)]; simp)
        have w2 := g3 (j * 2 + 1) (.int .i64 s.names[j].2) (by rw [f1, ← f2, List.getElem?_append_right (by omega)]; simp)
        rw [hsz] at w1 w2
        exact ⟨w1, by rw [Nat.add_assoc]; exact w2⟩
  rw [hcv] at hcell
  refine (cfind_calls0 b nm a len cap s.names hn w hbw hcell hNA).mono ?_
  rintro e W' ⟨rfl, hB⟩
  exact ⟨κ, _, _, h, rfl, Kp.le.refl κ, .tup (.cons (.lit _) (.cons (.lit _) .nil)), R.under hB, rfl, rfl⟩
end Go.Proofs.YtjofmihdeblbmaaGreatDoor.Xa
