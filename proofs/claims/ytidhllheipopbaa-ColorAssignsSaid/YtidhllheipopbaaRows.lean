/-
  No cell of these rows narrows 'for every input' (looked for: loops, veiled, ifaces, maps, wideKeys, modest, calm, conditions, laid).
  DERIVED. THE GIVEN ROWS OF THIS SEAT. 3 by the template 'for every input the law returns true; each argument reads behind the call as it read before'; 0 by the template 'total and deterministic' (their statements: YtidhllheipopbaaTotals.lean).
  GIVEN WITH THE SEED: the statements are not yours to turn. If you find one false, say at which input.
  Laid BY PROGRAM, IN A SANDBOX (cutbox-rows.mjs): the forced cells as the released guide's own fill.sh prints them over the translation feac753889e45064… (all of the seat's roots in one cut). By AI agents, Wed Nov 11 2026. No macro, syntax, notation, axiom, sorry.
-/
import Derived.Test.YtidhllheipopbaaChecked
import GoSem.Claim
import GoSem.ClaimJoined
import GoSem.ClaimMapViews
import Derived.JoinedTies
import Derived.KernelRfl
namespace Go.Proofs.Ytidhllheipopbaa
/- THE CELL 'sum', in the pinned program and in every row, IS THE sha256 OF THE DUMP (.gsa) THAT YtidhllheipopbaaProg.lean LOADS. Nothing in Lean hashes anything: it is a label: what it is worth is what the hold of that sum in a sandbox is worth. -/
noncomputable def Try.pinned : Pinned := { name := "ytidhllheipopbaa", sum := "feac753889e450649de79fb79c3aa8f87d3ef4b07072aa30bba8c6f3a782c006", checked := Try.checked }
namespace Rows
def none {H : Type} : Left H := { results := [], args := [] }

/-- 'ratlinelaw18.ColorFew': WHATEVER THE INPUT: true; the input reads as it did. -/
def colorFewSpec : ChangeSpec := { name := "colorFew", fn := fun _ => fun
  | [d1, d2] => { results := [.lit (.bool true)], args := [d1, d2] }
  | _ => none }
def colorFewRow : OpenClaim := { program := "ytidhllheipopbaa", sum := "feac753889e450649de79fb79c3aa8f87d3ef4b07072aa30bba8c6f3a782c006", func := "ratline/ratlinelaw18.ColorFew", spec := "colorFew", unfollowed := true, recurses := true, apart := false }
def ColorFewSaid : Prop := colorFewRow.holds Try.pinned (OpenSpec.ofChange colorFewSpec)

/-- ITS FALSE NEIGHBOUR: 'it returns false'. Refute it at one input. -/
def colorFewWrong : ChangeSpec := { name := "colorFew", fn := fun _ => fun
  | [d1, d2] => { results := [.lit (.bool false)], args := [d1, d2] }
  | _ => none }
def ColorFewWrongFalsely : Prop := colorFewRow.holds Try.pinned (OpenSpec.ofChange colorFewWrong)

/-- 'ratlinelaw18.ColorAssigns': WHATEVER THE INPUT: true; the input reads as it did. -/
def colorAssignsSpec : ChangeSpec := { name := "colorAssigns", fn := fun _ => fun
  | [d1, d2] => { results := [.lit (.bool true)], args := [d1, d2] }
  | _ => none }
def colorAssignsRow : OpenClaim := { program := "ytidhllheipopbaa", sum := "feac753889e450649de79fb79c3aa8f87d3ef4b07072aa30bba8c6f3a782c006", func := "ratline/ratlinelaw18.ColorAssigns", spec := "colorAssigns", unfollowed := true, recurses := true, apart := false }
def ColorAssignsSaid : Prop := colorAssignsRow.holds Try.pinned (OpenSpec.ofChange colorAssignsSpec)

/-- ITS FALSE NEIGHBOUR: 'it returns false'. Refute it at one input. -/
def colorAssignsWrong : ChangeSpec := { name := "colorAssigns", fn := fun _ => fun
  | [d1, d2] => { results := [.lit (.bool false)], args := [d1, d2] }
  | _ => none }
def ColorAssignsWrongFalsely : Prop := colorAssignsRow.holds Try.pinned (OpenSpec.ofChange colorAssignsWrong)

/-- 'ratlinelaw18.ColorApart': WHATEVER THE INPUT: true; the input reads as it did. -/
def colorApartSpec : ChangeSpec := { name := "colorApart", fn := fun _ => fun
  | [d1, d2] => { results := [.lit (.bool true)], args := [d1, d2] }
  | _ => none }
def colorApartRow : OpenClaim := { program := "ytidhllheipopbaa", sum := "feac753889e450649de79fb79c3aa8f87d3ef4b07072aa30bba8c6f3a782c006", func := "ratline/ratlinelaw18.ColorApart", spec := "colorApart", unfollowed := true, recurses := true, apart := false }
def ColorApartSaid : Prop := colorApartRow.holds Try.pinned (OpenSpec.ofChange colorApartSpec)

/-- ITS FALSE NEIGHBOUR: 'it returns false'. Refute it at one input. -/
def colorApartWrong : ChangeSpec := { name := "colorApart", fn := fun _ => fun
  | [d1, d2] => { results := [.lit (.bool false)], args := [d1, d2] }
  | _ => none }
def ColorApartWrongFalsely : Prop := colorApartRow.holds Try.pinned (OpenSpec.ofChange colorApartWrong)

/- THE SECOND FORM. 'bulk': how many values and letters a reading holds, each counted each time it is reached (what is shared counts as often as it is met; a slice's spare places count too). A statement '..UptoSaid' is the law's where the arguments, and the package variables that the reading takes, are together of bulk at most 1048576: NARROWER than '..Said'. Prove '..Said' where nothing that the law and all that it calls make is longer than what came in: it says more and counts as full. Else prove '..UptoSaid'. A law counts once. -/
mutual
def uptoBulk {H : Type} : DataW H → Nat
  | .lit (.string bytes) => bytes.length + 1
  | .lit _ => 1
  | .nil => 1
  | .ptr d => uptoBulk d + 1
  | .slice elems spare => uptoBulkAll elems + uptoBulkAll spare + 1
  | .agg parts => uptoBulkAll parts + 1
  | .iface _ d => uptoBulk d + 1
  | .map entries => uptoBulkEntries entries + 1
  | .held _ => 1
def uptoBulkAll {H : Type} : List (DataW H) → Nat
  | [] => 0
  | d :: r => uptoBulk d + uptoBulkAll r
def uptoBulkEntries {H : Type} : List (Lit × DataW H) → Nat
  | [] => 0
  | x :: r => uptoBulkEntry x + uptoBulkEntries r
def uptoBulkEntry {H : Type} : Lit × DataW H → Nat
  | (.string bytes, d) => bytes.length + uptoBulk d + 1
  | (_, d) => uptoBulk d + 1
 end
def uptoSmall : (H : Type) → List (DataW H) → Bool := fun _ ds => decide (uptoBulkAll ds ≤ 1048576)
def OpenSpec.upto (s : _root_.Go.ChangeSpec) : _root_.Go.OpenSpec := { _root_.Go.OpenSpec.ofChange s with cond := some uptoSmall }

/-- 'ratlinelaw18.ColorFew', WHERE WHAT IT READS IS OF BULK AT MOST 1048576: true; the input reads as it did. -/
def colorFewUptoRow : OpenClaim := { program := "ytidhllheipopbaa", sum := "feac753889e450649de79fb79c3aa8f87d3ef4b07072aa30bba8c6f3a782c006", func := "ratline/ratlinelaw18.ColorFew", spec := "colorFew", unfollowed := true, recurses := true, apart := false, narrowed := true }
def ColorFewUptoSaid : Prop := colorFewUptoRow.holds Try.pinned (OpenSpec.upto colorFewSpec)

/-- 'ratlinelaw18.ColorAssigns', WHERE WHAT IT READS IS OF BULK AT MOST 1048576: true; the input reads as it did. -/
def colorAssignsUptoRow : OpenClaim := { program := "ytidhllheipopbaa", sum := "feac753889e450649de79fb79c3aa8f87d3ef4b07072aa30bba8c6f3a782c006", func := "ratline/ratlinelaw18.ColorAssigns", spec := "colorAssigns", unfollowed := true, recurses := true, apart := false, narrowed := true }
def ColorAssignsUptoSaid : Prop := colorAssignsUptoRow.holds Try.pinned (OpenSpec.upto colorAssignsSpec)

/-- 'ratlinelaw18.ColorApart', WHERE WHAT IT READS IS OF BULK AT MOST 1048576: true; the input reads as it did. -/
def colorApartUptoRow : OpenClaim := { program := "ytidhllheipopbaa", sum := "feac753889e450649de79fb79c3aa8f87d3ef4b07072aa30bba8c6f3a782c006", func := "ratline/ratlinelaw18.ColorApart", spec := "colorApart", unfollowed := true, recurses := true, apart := false, narrowed := true }
def ColorApartUptoSaid : Prop := colorApartUptoRow.holds Try.pinned (OpenSpec.upto colorApartSpec)

end Rows
end Go.Proofs.Ytidhllheipopbaa
