/- Small facts on blocks, for the walks of lex (in place of the print's words). -/
import Derived.Test.YtjofmihdeblbmaaGreatDoorLexC
namespace Go.Proofs.YtjofmihdeblbmaaGreatDoor
open Go Go.RowKit
theorem blk_lt {w : World} {g : Nat} {o : Obj} (h : w.heap[g]? = some o) : g < w.heap.size := by
  rcases Nat.lt_or_ge g w.heap.size with q | q
  · exact q
  · rw [Array.getElem?_eq_none q] at h; cases h
theorem blk_alloc {w : World} {g : Nat} {o : Obj} (h : w.heap[g]? = some o) (o' : Obj) : (w.alloc o').heap[g]? = some o := by
  rw [Below.heap_alloc w o' g (blk_lt h)]; exact h
theorem blk_put {w : World} {g : Nat} {t : TypeId} {cs cs' : Array Value} (h : w.heap[g]? = some (.cells cs t (0, 0))) (i : Nat) (u : Value) (e : cs.setIfInBounds i u = cs') : (w.setCell ⟨g, i, none⟩ u).heap[g]? = some (.cells cs' t (0, 0)) := by
  subst e
  have hlt := blk_lt h
  have h2 : w.heap[g] = .cells cs t (0, 0) := (Array.getElem?_eq_some_iff.1 h).2
  simp [World.setCell, hlt, Array.getElem_modify, h2]
end Go.Proofs.YtjofmihdeblbmaaGreatDoor
