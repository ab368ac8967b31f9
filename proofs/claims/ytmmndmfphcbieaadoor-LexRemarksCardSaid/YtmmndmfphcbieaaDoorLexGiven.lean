/- lex.skip, name, number, text, op in the form that the printed texts call (their own names, irreducible: no walk looks into them). -/
import Derived.Test.YtmmndmfphcbieaaDoorLexB
import Derived.Test.YtmmndmfphcbieaaDoorLexC
import Derived.Test.YtmmndmfphcbieaaDoorLexD
import Derived.Test.YtmmndmfphcbieaaDoorLexE
import Derived.Test.YtmmndmfphcbieaaDoorLexF
namespace Go.Proofs.YtmmndmfphcbieaaDoor.XLex
open Go.RowKit
@[irreducible] def lex_skip.f (a0 : ByteArray) : Option Int := if a0.size ≤ 9223372036854775807 then some (skipB false a0.data.toList : Nat) else none
theorem lex_skip.f_eq (a0 : ByteArray) : lex_skip.f a0 = if a0.size ≤ 9223372036854775807 then some ((skipB false a0.data.toList : Nat) : Int) else none := by unfold lex_skip.f; rfl
theorem lex_skip.calls (a0 : ByteArray) (r : Int) (w : World) (h : lex_skip.f a0 = some r) :
    Calls Tryd.prog 14 #[.string a0] w fun e w' => e = .returned (.int .i64 r) ∧ Below w.heap.size w w' := by
  rw [lex_skip.f_eq] at h
  split at h
  case isFalse => simp at h
  rename_i hs
  obtain rfl := Option.some.inj h
  refine (skip_walk a0 w hs).mono ?_
  rintro e w' ⟨rfl, rfl⟩
  exact ⟨rfl, Below.refl _ _⟩
@[irreducible] def lex_name.f (a0 : ByteArray) : Option (Int × ByteArray × Int × Int × Int) := Go.Proofs.YtmmndmfphcbieaaDoor.lex_name.f a0
theorem lex_name.f_eq (a0 : ByteArray) : lex_name.f a0 = Go.Proofs.YtmmndmfphcbieaaDoor.lex_name.f a0 := by unfold XLex.lex_name.f; rfl
theorem lex_name.calls (a0 : ByteArray) (r1 : Int) (r2 : ByteArray) (r3 r4 r5 : Int) (w : World) (h : lex_name.f a0 = some (r1, r2, r3, r4, r5)) (hL : Laid w) :
    Calls Tryd.prog 27 #[.string a0] w fun e w' => e = .returned (.tuple #[.agg #[.int .i64 r1, .string r2, .int .i64 r3, .int .i64 r4], .int .i64 r5]) ∧ Below w.heap.size w w' :=
  lex_name.calls0 a0 r1 r2 r3 r4 r5 w ((lex_name.f_eq a0).symm.trans h) hL.maxLen
@[irreducible] def lex_number.f (a0 : ByteArray) : Option (Int × ByteArray × Int × Int × Int) := Go.Proofs.YtmmndmfphcbieaaDoor.lex_number.f a0
theorem lex_number.f_eq (a0 : ByteArray) : lex_number.f a0 = Go.Proofs.YtmmndmfphcbieaaDoor.lex_number.f a0 := by unfold XLex.lex_number.f; rfl
theorem lex_number.calls (a0 : ByteArray) (r1 : Int) (r2 : ByteArray) (r3 r4 r5 : Int) (w : World) (h : lex_number.f a0 = some (r1, r2, r3, r4, r5)) (hL : Laid w) :
    Calls Tryd.prog 29 #[.string a0] w fun e w' => e = .returned (.tuple #[.agg #[.int .i64 r1, .string r2, .int .i64 r3, .int .i64 r4], .int .i64 r5]) ∧ Below w.heap.size w w' :=
  lex_number.calls0 a0 r1 r2 r3 r4 r5 w ((lex_number.f_eq a0).symm.trans h) hL
@[irreducible] def lex_op.f (a0 : ByteArray) : Option (Int × ByteArray × Int × Int × Int) := Go.Proofs.YtmmndmfphcbieaaDoor.lex_op.f a0
theorem lex_op.f_eq (a0 : ByteArray) : lex_op.f a0 = Go.Proofs.YtmmndmfphcbieaaDoor.lex_op.f a0 := by unfold XLex.lex_op.f; rfl
theorem lex_op.calls (a0 : ByteArray) (r1 : Int) (r2 : ByteArray) (r3 r4 r5 : Int) (w : World) (h : lex_op.f a0 = some (r1, r2, r3, r4, r5)) :
    Calls Tryd.prog 31 #[.string a0] w fun e w' => e = .returned (.tuple #[.agg #[.int .i64 r1, .string r2, .int .i64 r3, .int .i64 r4], .int .i64 r5]) ∧ Below w.heap.size w w' :=
  lex_op.calls0 a0 r1 r2 r3 r4 r5 w ((lex_op.f_eq a0).symm.trans h)
@[irreducible] def lex_text.f (a0 : ByteArray) : Option (Int × ByteArray × Int × Int × Int) := Go.Proofs.YtmmndmfphcbieaaDoor.lex_text.f a0
theorem lex_text.f_eq (a0 : ByteArray) : lex_text.f a0 = Go.Proofs.YtmmndmfphcbieaaDoor.lex_text.f a0 := by unfold XLex.lex_text.f; rfl
theorem lex_text.calls (a0 : ByteArray) (r1 : Int) (r2 : ByteArray) (r3 r4 r5 : Int) (w : World) (h : lex_text.f a0 = some (r1, r2, r3, r4, r5)) :
    Calls Tryd.prog 30 #[.string a0] w fun e w' => e = .returned (.tuple #[.agg #[.int .i64 r1, .string r2, .int .i64 r3, .int .i64 r4], .int .i64 r5]) ∧ Below w.heap.size w w' :=
  lex_text.calls0 a0 r1 r2 r3 r4 r5 w ((lex_text.f_eq a0).symm.trans h)
end Go.Proofs.YtmmndmfphcbieaaDoor.XLex
