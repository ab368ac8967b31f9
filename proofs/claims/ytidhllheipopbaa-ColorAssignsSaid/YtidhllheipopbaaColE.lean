/- The memory of color.Assign under way, and the plain function. -/
import Derived.Test.YtidhllheipopbaaColC
namespace Go.Proofs.Ytidhllheipopbaa.XCol
open Go.RowKit Go.Maps Go.Proofs.YtidhllheipopbaaW.PrintWords Go.Proofs.YtidhllheipopbaaW.PrintLast Go.Proofs.YtidhllheipopbaaW.PrintMore
/-- the register that is given up -/
def worstI (l : List S24) (held : List Int) (i : Int) : Int := held.foldl (fun v k => if 0 < aheadI (rd_T24 l k) (rd_T24 l v) then k else v) i
def endsB (l : List S24) (i : Int) (k : Int) : Bool := decide ((rd_T24 l k).f2 < (rd_T24 l i).f1)
/-- one interval, behind those that have ended: the row with its own place laid, who holds what, how many slots -/
def stepB (l : List S24) (i : Nat) (out : List S29) (held : List Int) (slots : Int) : List S29 × List Int × Int :=
  if 0 ≤ freeFrom 0 held then (out.set i ⟨(rd_T24 l i).f0, freeFrom 0 held, -1⟩, held.set (freeFrom 0 held).toNat i, slots)
  else if worstI l held i = i then (out.set i ⟨(rd_T24 l i).f0, -1, slots⟩, held, slots + 1)
  else
    ((out.set i ⟨(rd_T24 l i).f0, (rd_T29 out (worstI l held i)).f1, -1⟩).set (worstI l held i).toNat ⟨(rd_T29 out (worstI l held i)).f0, -1, slots⟩,
      held.set (rd_T29 out (worstI l held i)).f1.toNat i, slots + 1)
def stepA (l : List S24) (i : Nat) (out : List S29) (held : List Int) (slots : Int) : List S29 × List Int × Int := stepB l i out (expire (endsB l i) held) slots
def runA (l : List S24) : Nat → Nat → List S29 → List Int → Int → List S29
  | 0, _, out, _, _ => out
  | d + 1, i, out, held, slots => runA l d (i + 1) (stepA l i out held slots).1 (stepA l i out held slots).2.1 (stepA l i out held slots).2.2
def assignL (l : List S24) (N : Nat) : List S29 := runA l l.length 0 (List.replicate l.length z29) (List.replicate N (-1)) 0
/-- what holds of who holds what: it came before, and stands where it is held -/
structure Inv (out : List S29) (held : List Int) (i : Nat) : Prop where
  le : ∀ (p : Nat) (k : Int), held[p]? = some k → -1 ≤ k ∧ k < i
  at_ : ∀ (p : Nat) (k : Int), held[p]? = some k → 0 ≤ k → (rd_T29 out k).f1 = p
/-- the memory under way -/
structure Wd (w : World) (l : List S24) (A0 : Option Addr) (c0 : Nat) (v5 : Value) (bm : Nat) (wr : World) (out : List S29) (m : Nat) (D : DataW Unit) : Prop where
  below : Below w.heap.size w wr
  row : Kd.R k29 29 wr w.heap.size (fun _ => True) v5 out
  own : wr.ownsMap Try.prog 3 (plainElem Try.prog 3) bm m D
  cl : wr.heap[w.heap.size]? = some (.cells #[.slice A0 l.length c0] 22 (0, 0))
  bm_ : w.heap.size < bm
  go_ : ∀ g, v5.ownBlock = some g → g ≠ bm ∧ g ≠ w.heap.size ∧ w.heap.size < g
variable {w wr w2 : World} {l : List S24} {A0 : Option Addr} {c0 bm m : Nat} {v5 : Value} {out : List S29} {D : DataW Unit}
theorem Wd.cell (h : Wd w l A0 c0 v5 bm wr out m D) : wr.cell? ⟨w.heap.size, 0, none⟩ = some (.slice A0 l.length c0) := by
  simp [World.cell?, h.cl]
theorem Wd.read (h : Wd w l A0 c0 v5 bm wr out m D) (hr : Kd.C k24 w A0 l.length l) : Kd.C k24 wr A0 l.length l := Kd.C_below hr h.below
theorem Wd.lt (h : Wd w l A0 c0 v5 bm wr out m D) : w.heap.size < wr.heap.size := by
  have := h.cl
  rcases Nat.lt_or_ge w.heap.size wr.heap.size with g | g
  · exact g
  · rw [Array.getElem?_eq_none g] at this; cases this
/-- something else has turned, or come -/
theorem Wd.kept {row : Option Nat} (h : Wd w l A0 c0 v5 bm wr out m D) (hg : wr.grownBy w2 row) (hr : ∀ r, row = some r → w.heap.size < r ∧ r ≠ bm ∧ some r ≠ v5.ownBlock) : Wd w l A0 c0 v5 bm w2 out m D where
  below := h.below.grown hg (Nat.le_of_lt h.lt) (fun k hk => Nat.le_of_lt (hr k hk).1)
  row := Kd.R_grown2 h.row rfl hg (fun k hk => (hr k hk).2.2)
  own := h.own.kept hg (fun e => (hr bm e.symm).2.1 rfl)
  cl := (hg.block _ h.lt (fun e => Nat.lt_irrefl _ (hr _ e.symm).1)).trans h.cl
  bm_ := h.bm_
  go_ := h.go_
theorem Wd.alloc (h : Wd w l A0 c0 v5 bm wr out m D) (o : Obj) : Wd w l A0 c0 v5 bm (wr.alloc o) out m D := h.kept (World.grownBy_alloc wr o none) (fun r e => by cases e)
theorem Wd.drew (h : Wd w l A0 c0 v5 bm wr out m D) (n : Nat) : Wd w l A0 c0 v5 bm (wr.drewN n) out m D where
  below := below_drewN h.below n
  row := Kd.R_drewN h.row n
  own := h.own
  cl := h.cl
  bm_ := h.bm_
  go_ := h.go_
theorem Wd.under (h : Wd w l A0 c0 v5 bm wr out m D) (hb : Below wr.heap.size wr w2) : Wd w l A0 c0 v5 bm w2 out m D where
  below := h.below.trans (hb.mono (Nat.le_of_lt h.lt))
  row := Kd.R_below h.row hb
  own := h.own.kept (row := none) ⟨hb.os, hb.tape, hb.output, hb.size, fun k hk _ => hb.block k hk⟩ (by simp)
  cl := (hb.block _ h.lt).trans h.cl
  bm_ := h.bm_
  go_ := h.go_
/-- the map has turned -/
theorem Wd.turned {m' : Nat} {D' : DataW Unit} (h : Wd w l A0 c0 v5 bm wr out m D) (hg : wr.grownBy w2 (some bm)) (ho : w2.ownsMap Try.prog 3 (plainElem Try.prog 3) bm m' D') : Wd w l A0 c0 v5 bm w2 out m' D' where
  below := h.below.grown hg (Nat.le_of_lt h.lt) (fun k hk => by cases hk; exact Nat.le_of_lt h.bm_)
  row := Kd.R_grown2 h.row rfl hg (fun k hk e => by cases hk; exact (h.go_ _ e.symm).1 rfl)
  own := ho
  cl := (hg.block _ h.lt (fun e => by have := h.bm_; cases e; omega)).trans h.cl
  bm_ := h.bm_
  go_ := h.go_
/-- the row has turned -/
theorem Wd.stored {out' : List S29} {g : Nat} (h : Wd w l A0 c0 v5 bm wr out m D) (he : v5.ownBlock = some g) (hg : wr.grownBy w2 (some g)) (hr : Kd.R k29 29 w2 w.heap.size (fun _ => True) v5 out') : Wd w l A0 c0 v5 bm w2 out' m D where
  below := h.below.grown hg (Nat.le_of_lt h.lt) (fun k hk => by cases hk; exact Nat.le_of_lt (h.go_ g he).2.2)
  row := hr
  own := h.own.kept hg (fun e => by cases e; exact (h.go_ _ he).1 rfl)
  cl := (hg.block _ h.lt (fun e => by have := (h.go_ g he).2.2; cases e; omega)).trans h.cl
  bm_ := h.bm_
  go_ := h.go_
/-- an element of the row: its cells, and what a store of one field makes of them -/
theorem Wd.elem (h : Wd w l A0 c0 v5 bm wr out m D) (i : Int) (h0 : 0 ≤ i) (h1 : i < out.length) : ∃ g cap, v5 = .slice (some ⟨g, 0, none⟩) out.length cap ∧
    wr.cell? ⟨g, i.toNat * 3, none⟩ = some (.int .i64 (rd_T29 out i).f0) ∧ wr.cell? ⟨g, i.toNat * 3 + 1, none⟩ = some (.int .i64 (rd_T29 out i).f1) ∧ wr.cell? ⟨g, i.toNat * 3 + 2, none⟩ = some (.int .i64 (rd_T29 out i).f2) ∧
    wr.frozen? ⟨g, i.toNat * 3, none⟩ = false ∧ wr.frozen? ⟨g, i.toNat * 3 + 1, none⟩ = false ∧ wr.frozen? ⟨g, i.toNat * 3 + 2, none⟩ = false ∧
    (∀ x : S29, Wd w l A0 c0 v5 bm (((wr.setCell ⟨g, i.toNat * 3, none⟩ (.int .i64 x.f0)).setCell ⟨g, i.toNat * 3 + 1, none⟩ (.int .i64 x.f1)).setCell ⟨g, i.toNat * 3 + 2, none⟩ (.int .i64 x.f2)) (out.set i.toNat x) m D) ∧
    (∀ u : Int, Wd w l A0 c0 v5 bm (wr.setCell ⟨g, i.toNat * 3 + 1, none⟩ (.int .i64 u)) (out.set i.toNat ⟨(rd_T29 out i).f0, u, (rd_T29 out i).f2⟩) m D) ∧
    (∀ u : Int, Wd w l A0 c0 v5 bm (wr.setCell ⟨g, i.toNat * 3 + 2, none⟩ (.int .i64 u)) (out.set i.toNat ⟨(rd_T29 out i).f0, (rd_T29 out i).f1, u⟩) m D) := by
  obtain ⟨g, cap, rfl, _, _, cells, hc⟩ := Kd.R_form h.row (by omega)
  obtain ⟨c, hcl, hM, hcc, hfr⟩ := Kd.R_elem h.row z29 i h0 h1
  have hcell := hcc
  obtain rfl := k29_openM hM
  have e3 : k29.sz = 3 := rfl
  rw [e3] at hcc hfr
  refine ⟨g, cap, rfl, hcc 0 _ rfl, hcc 1 _ rfl, hcc 2 _ rfl, hfr 0, hfr 1, hfr 2, ?_, ?_, ?_⟩
  · intro x
    have s := Kd.R_seg h.row i h0 h1 (seg := [.int .i64 x.f0, .int .i64 x.f1, .int .i64 x.f2]) (j := 0) hcl hcell (show 3 ≤ 3 from by decide) (x' := x) (k29_mkM _ _ _ x) (fun _ hk => hk)
    exact h.stored rfl s.2 s.1
  · intro u
    have s := Kd.R_seg h.row i h0 h1 (seg := [.int .i64 u]) (j := 1) hcl hcell (show 2 ≤ 3 from by decide) (x' := ⟨(rd_T29 out i).f0, u, (rd_T29 out i).f2⟩) (k29_mkM _ _ _ ⟨(rd_T29 out i).f0, u, (rd_T29 out i).f2⟩) (fun _ hk => hk)
    exact h.stored rfl s.2 s.1
  · intro u
    have s := Kd.R_seg h.row i h0 h1 (seg := [.int .i64 u]) (j := 2) hcl hcell (show 3 ≤ 3 from by decide) (x' := ⟨(rd_T29 out i).f0, (rd_T29 out i).f1, u⟩) (k29_mkM _ _ _ ⟨(rd_T29 out i).f0, (rd_T29 out i).f1, u⟩) (fun _ hk => hk)
    exact h.stored rfl s.2 s.1
end Go.Proofs.Ytidhllheipopbaa.XCol
