/-
  No cell of these rows narrows 'for every input' (looked for: loops, veiled, ifaces, maps, wideKeys, modest, calm, conditions, laid).
  DERIVED. THE GIVEN ROWS OF THIS SEAT. 10 by the template 'for every input the law returns true; each argument reads behind the call as it read before'; 0 by the template 'total and deterministic' (their statements: YthgoihblpeeogaaTotals.lean).
  GIVEN WITH THE SEED: the statements are not yours to turn. If you find one false, say at which input.
  Laid BY PROGRAM, IN A SANDBOX (cutbox-rows.mjs): the forced cells as the released guide's own fill.sh prints them over the translation 9beaaa5a7cd6c355… (all of the seat's roots in one cut). By AI agents, Wed Nov 11 2026. No macro, syntax, notation, axiom, sorry.
-/
import Derived.Test.YthgoihblpeeogaaChecked
import GoSem.Claim
import GoSem.ClaimJoined
import GoSem.ClaimMapViews
import Derived.JoinedTies
import Derived.KernelRfl
namespace Go.Proofs.Ythgoihblpeeogaa
/- THE CELL 'sum', in the pinned program and in every row, IS THE sha256 OF THE DUMP (.gsa) THAT YthgoihblpeeogaaProg.lean LOADS. Nothing in Lean hashes anything: it is a label: what it is worth is what the hold of that sum in a sandbox is worth. -/
noncomputable def Try.pinned : Pinned := { name := "ythgoihblpeeogaa", sum := "9beaaa5a7cd6c35516ccc210d75815e210348f42df489f3e62217db69b503dd3", checked := Try.checked }
namespace Rows
def none {H : Type} : Left H := { results := [], args := [] }

/-- 'ratlinelaw1.CplxCleans': WHATEVER THE INPUT: true; the input reads as it did. -/
def cplxCleansSpec : ChangeSpec := { name := "cplxCleans", fn := fun _ => fun
  | [d1, d2] => { results := [.lit (.bool true)], args := [d1, d2] }
  | _ => none }
def cplxCleansRow : OpenClaim := { program := "ythgoihblpeeogaa", sum := "9beaaa5a7cd6c35516ccc210d75815e210348f42df489f3e62217db69b503dd3", func := "ratline/ratlinelaw1.CplxCleans", spec := "cplxCleans", inPlace := ["math.Float64frombits", "math.Float64bits"], apart := false }
def CplxCleansSaid : Prop := cplxCleansRow.holds Try.pinned (OpenSpec.ofChange cplxCleansSpec)

/-- ITS FALSE NEIGHBOUR: 'it returns false'. Refute it at one input. -/
def cplxCleansWrong : ChangeSpec := { name := "cplxCleans", fn := fun _ => fun
  | [d1, d2] => { results := [.lit (.bool false)], args := [d1, d2] }
  | _ => none }
def CplxCleansWrongFalsely : Prop := cplxCleansRow.holds Try.pinned (OpenSpec.ofChange cplxCleansWrong)

/-- 'ratlinelaw1.CplxProducts': WHATEVER THE INPUT: true; the input reads as it did. -/
def cplxProductsSpec : ChangeSpec := { name := "cplxProducts", fn := fun _ => fun
  | [d1, d2, d3, d4] => { results := [.lit (.bool true)], args := [d1, d2, d3, d4] }
  | _ => none }
def cplxProductsRow : OpenClaim := { program := "ythgoihblpeeogaa", sum := "9beaaa5a7cd6c35516ccc210d75815e210348f42df489f3e62217db69b503dd3", func := "ratline/ratlinelaw1.CplxProducts", spec := "cplxProducts", inPlace := ["math.Float64frombits", "math.Float64bits"], apart := false }
def CplxProductsSaid : Prop := cplxProductsRow.holds Try.pinned (OpenSpec.ofChange cplxProductsSpec)

/-- ITS FALSE NEIGHBOUR: 'it returns false'. Refute it at one input. -/
def cplxProductsWrong : ChangeSpec := { name := "cplxProducts", fn := fun _ => fun
  | [d1, d2, d3, d4] => { results := [.lit (.bool false)], args := [d1, d2, d3, d4] }
  | _ => none }
def CplxProductsWrongFalsely : Prop := cplxProductsRow.holds Try.pinned (OpenSpec.ofChange cplxProductsWrong)

/-- 'ratlinelaw1.CplxLaws': WHATEVER THE INPUT: true; the input reads as it did. -/
def cplxLawsSpec : ChangeSpec := { name := "cplxLaws", fn := fun _ => fun
  | [d1, d2, d3, d4] => { results := [.lit (.bool true)], args := [d1, d2, d3, d4] }
  | _ => none }
def cplxLawsRow : OpenClaim := { program := "ythgoihblpeeogaa", sum := "9beaaa5a7cd6c35516ccc210d75815e210348f42df489f3e62217db69b503dd3", func := "ratline/ratlinelaw1.CplxLaws", spec := "cplxLaws", inPlace := ["math.Float64frombits", "math.Float64bits"], apart := false }
def CplxLawsSaid : Prop := cplxLawsRow.holds Try.pinned (OpenSpec.ofChange cplxLawsSpec)

/-- ITS FALSE NEIGHBOUR: 'it returns false'. Refute it at one input. -/
def cplxLawsWrong : ChangeSpec := { name := "cplxLaws", fn := fun _ => fun
  | [d1, d2, d3, d4] => { results := [.lit (.bool false)], args := [d1, d2, d3, d4] }
  | _ => none }
def CplxLawsWrongFalsely : Prop := cplxLawsRow.holds Try.pinned (OpenSpec.ofChange cplxLawsWrong)

/-- 'ratlinelaw1.CplxMirrors': WHATEVER THE INPUT: true; the input reads as it did. -/
def cplxMirrorsSpec : ChangeSpec := { name := "cplxMirrors", fn := fun _ => fun
  | [d1, d2, d3, d4] => { results := [.lit (.bool true)], args := [d1, d2, d3, d4] }
  | _ => none }
def cplxMirrorsRow : OpenClaim := { program := "ythgoihblpeeogaa", sum := "9beaaa5a7cd6c35516ccc210d75815e210348f42df489f3e62217db69b503dd3", func := "ratline/ratlinelaw1.CplxMirrors", spec := "cplxMirrors", inPlace := ["math.Float64frombits", "math.Float64bits"], apart := false }
def CplxMirrorsSaid : Prop := cplxMirrorsRow.holds Try.pinned (OpenSpec.ofChange cplxMirrorsSpec)

/-- ITS FALSE NEIGHBOUR: 'it returns false'. Refute it at one input. -/
def cplxMirrorsWrong : ChangeSpec := { name := "cplxMirrors", fn := fun _ => fun
  | [d1, d2, d3, d4] => { results := [.lit (.bool false)], args := [d1, d2, d3, d4] }
  | _ => none }
def CplxMirrorsWrongFalsely : Prop := cplxMirrorsRow.holds Try.pinned (OpenSpec.ofChange cplxMirrorsWrong)

/-- 'ratlinelaw1.CplxSums': WHATEVER THE INPUT: true; the input reads as it did. -/
def cplxSumsSpec : ChangeSpec := { name := "cplxSums", fn := fun _ => fun
  | [d1, d2, d3, d4] => { results := [.lit (.bool true)], args := [d1, d2, d3, d4] }
  | _ => none }
def cplxSumsRow : OpenClaim := { program := "ythgoihblpeeogaa", sum := "9beaaa5a7cd6c35516ccc210d75815e210348f42df489f3e62217db69b503dd3", func := "ratline/ratlinelaw1.CplxSums", spec := "cplxSums", inPlace := ["math.Float64frombits", "math.Float64bits"], apart := false }
def CplxSumsSaid : Prop := cplxSumsRow.holds Try.pinned (OpenSpec.ofChange cplxSumsSpec)

/-- ITS FALSE NEIGHBOUR: 'it returns false'. Refute it at one input. -/
def cplxSumsWrong : ChangeSpec := { name := "cplxSums", fn := fun _ => fun
  | [d1, d2, d3, d4] => { results := [.lit (.bool false)], args := [d1, d2, d3, d4] }
  | _ => none }
def CplxSumsWrongFalsely : Prop := cplxSumsRow.holds Try.pinned (OpenSpec.ofChange cplxSumsWrong)

/-- 'ratlinelaw1.CplxWholes': WHATEVER THE INPUT: true; the input reads as it did. -/
def cplxWholesSpec : ChangeSpec := { name := "cplxWholes", fn := fun _ => fun
  | [d1, d2, d3, d4] => { results := [.lit (.bool true)], args := [d1, d2, d3, d4] }
  | _ => none }
def cplxWholesRow : OpenClaim := { program := "ythgoihblpeeogaa", sum := "9beaaa5a7cd6c35516ccc210d75815e210348f42df489f3e62217db69b503dd3", func := "ratline/ratlinelaw1.CplxWholes", spec := "cplxWholes", inPlace := ["math.Float64bits", "math.Float64frombits"], apart := false }
def CplxWholesSaid : Prop := cplxWholesRow.holds Try.pinned (OpenSpec.ofChange cplxWholesSpec)

/-- ITS FALSE NEIGHBOUR: 'it returns false'. Refute it at one input. -/
def cplxWholesWrong : ChangeSpec := { name := "cplxWholes", fn := fun _ => fun
  | [d1, d2, d3, d4] => { results := [.lit (.bool false)], args := [d1, d2, d3, d4] }
  | _ => none }
def CplxWholesWrongFalsely : Prop := cplxWholesRow.holds Try.pinned (OpenSpec.ofChange cplxWholesWrong)

/-- 'ratlinelaw1.CplxTurns': WHATEVER THE INPUT: true; the input reads as it did. -/
def cplxTurnsSpec : ChangeSpec := { name := "cplxTurns", fn := fun _ => fun
  | [d1, d2, d3, d4] => { results := [.lit (.bool true)], args := [d1, d2, d3, d4] }
  | _ => none }
def cplxTurnsRow : OpenClaim := { program := "ythgoihblpeeogaa", sum := "9beaaa5a7cd6c35516ccc210d75815e210348f42df489f3e62217db69b503dd3", func := "ratline/ratlinelaw1.CplxTurns", spec := "cplxTurns", inPlace := ["math.Float64frombits", "math.Float64bits"], apart := false }
def CplxTurnsSaid : Prop := cplxTurnsRow.holds Try.pinned (OpenSpec.ofChange cplxTurnsSpec)

/-- ITS FALSE NEIGHBOUR: 'it returns false'. Refute it at one input. -/
def cplxTurnsWrong : ChangeSpec := { name := "cplxTurns", fn := fun _ => fun
  | [d1, d2, d3, d4] => { results := [.lit (.bool false)], args := [d1, d2, d3, d4] }
  | _ => none }
def CplxTurnsWrongFalsely : Prop := cplxTurnsRow.holds Try.pinned (OpenSpec.ofChange cplxTurnsWrong)

/-- 'ratlinelaw18.ColorFew': WHATEVER THE INPUT: true; the input reads as it did. -/
def colorFewSpec : ChangeSpec := { name := "colorFew", fn := fun _ => fun
  | [d1, d2] => { results := [.lit (.bool true)], args := [d1, d2] }
  | _ => none }
def colorFewRow : OpenClaim := { program := "ythgoihblpeeogaa", sum := "9beaaa5a7cd6c35516ccc210d75815e210348f42df489f3e62217db69b503dd3", func := "ratline/ratlinelaw18.ColorFew", spec := "colorFew", unfollowed := true, recurses := true, apart := false }
def ColorFewSaid : Prop := colorFewRow.holds Try.pinned (OpenSpec.ofChange colorFewSpec)

/-- ITS FALSE NEIGHBOUR: 'it returns false'. Refute it at one input. -/
def colorFewWrong : ChangeSpec := { name := "colorFew", fn := fun _ => fun
  | [d1, d2] => { results := [.lit (.bool false)], args := [d1, d2] }
  | _ => none }
def ColorFewWrongFalsely : Prop := colorFewRow.holds Try.pinned (OpenSpec.ofChange colorFewWrong)

/-- 'ratlinelaw18.ColorAssigns': WHATEVER THE INPUT: true; the input reads as it did. -/
def colorAssignsSpec : ChangeSpec := { name := "colorAssigns", fn := fun _ => fun
  | [d1, d2] => { results := [.lit (.bool true)], args := [d1, d2] }
  | _ => none }
def colorAssignsRow : OpenClaim := { program := "ythgoihblpeeogaa", sum := "9beaaa5a7cd6c35516ccc210d75815e210348f42df489f3e62217db69b503dd3", func := "ratline/ratlinelaw18.ColorAssigns", spec := "colorAssigns", unfollowed := true, recurses := true, apart := false }
def ColorAssignsSaid : Prop := colorAssignsRow.holds Try.pinned (OpenSpec.ofChange colorAssignsSpec)

/-- ITS FALSE NEIGHBOUR: 'it returns false'. Refute it at one input. -/
def colorAssignsWrong : ChangeSpec := { name := "colorAssigns", fn := fun _ => fun
  | [d1, d2] => { results := [.lit (.bool false)], args := [d1, d2] }
  | _ => none }
def ColorAssignsWrongFalsely : Prop := colorAssignsRow.holds Try.pinned (OpenSpec.ofChange colorAssignsWrong)

/-- 'ratlinelaw18.ColorApart': WHATEVER THE INPUT: true; the input reads as it did. -/
def colorApartSpec : ChangeSpec := { name := "colorApart", fn := fun _ => fun
  | [d1, d2] => { results := [.lit (.bool true)], args := [d1, d2] }
  | _ => none }
def colorApartRow : OpenClaim := { program := "ythgoihblpeeogaa", sum := "9beaaa5a7cd6c35516ccc210d75815e210348f42df489f3e62217db69b503dd3", func := "ratline/ratlinelaw18.ColorApart", spec := "colorApart", unfollowed := true, recurses := true, apart := false }
def ColorApartSaid : Prop := colorApartRow.holds Try.pinned (OpenSpec.ofChange colorApartSpec)

/-- ITS FALSE NEIGHBOUR: 'it returns false'. Refute it at one input. -/
def colorApartWrong : ChangeSpec := { name := "colorApart", fn := fun _ => fun
  | [d1, d2] => { results := [.lit (.bool false)], args := [d1, d2] }
  | _ => none }
def ColorApartWrongFalsely : Prop := colorApartRow.holds Try.pinned (OpenSpec.ofChange colorApartWrong)

/- THE SECOND FORM. 'bulk': how many values and letters a reading holds, each counted each time it is reached (what is shared counts as often as it is met; a slice's spare places count too). A statement '..UptoSaid' is the law's where the arguments, and the package variables that the reading takes, are together of bulk at most 1048576: NARROWER than '..Said'. Prove '..Said' where nothing that the law and all that it calls make is longer than what came in: it says more and counts as full. Else prove '..UptoSaid'. A law counts once. -/
mutual
def uptoBulk {H : Type} : DataW H → Nat
  | .lit (.string bytes) => bytes.length + 1
  | .lit _ => 1
  | .nil => 1
  | .ptr d => uptoBulk d + 1
  | .slice elems spare => uptoBulkAll elems + uptoBulkAll spare + 1
  | .agg parts => uptoBulkAll parts + 1
  | .iface _ d => uptoBulk d + 1
  | .map entries => uptoBulkEntries entries + 1
  | .held _ => 1
def uptoBulkAll {H : Type} : List (DataW H) → Nat
  | [] => 0
  | d :: r => uptoBulk d + uptoBulkAll r
def uptoBulkEntries {H : Type} : List (Lit × DataW H) → Nat
  | [] => 0
  | x :: r => uptoBulkEntry x + uptoBulkEntries r
def uptoBulkEntry {H : Type} : Lit × DataW H → Nat
  | (.string bytes, d) => bytes.length + uptoBulk d + 1
  | (_, d) => uptoBulk d + 1
 end
def uptoSmall : (H : Type) → List (DataW H) → Bool := fun _ ds => decide (uptoBulkAll ds ≤ 1048576)
def OpenSpec.upto (s : _root_.Go.ChangeSpec) : _root_.Go.OpenSpec := { _root_.Go.OpenSpec.ofChange s with cond := some uptoSmall }

/-- 'ratlinelaw1.CplxCleans', WHERE WHAT IT READS IS OF BULK AT MOST 1048576: true; the input reads as it did. -/
def cplxCleansUptoRow : OpenClaim := { program := "ythgoihblpeeogaa", sum := "9beaaa5a7cd6c35516ccc210d75815e210348f42df489f3e62217db69b503dd3", func := "ratline/ratlinelaw1.CplxCleans", spec := "cplxCleans", inPlace := ["math.Float64frombits", "math.Float64bits"], apart := false, narrowed := true }
def CplxCleansUptoSaid : Prop := cplxCleansUptoRow.holds Try.pinned (OpenSpec.upto cplxCleansSpec)

/-- 'ratlinelaw1.CplxProducts', WHERE WHAT IT READS IS OF BULK AT MOST 1048576: true; the input reads as it did. -/
def cplxProductsUptoRow : OpenClaim := { program := "ythgoihblpeeogaa", sum := "9beaaa5a7cd6c35516ccc210d75815e210348f42df489f3e62217db69b503dd3", func := "ratline/ratlinelaw1.CplxProducts", spec := "cplxProducts", inPlace := ["math.Float64frombits", "math.Float64bits"], apart := false, narrowed := true }
def CplxProductsUptoSaid : Prop := cplxProductsUptoRow.holds Try.pinned (OpenSpec.upto cplxProductsSpec)

/-- 'ratlinelaw1.CplxLaws', WHERE WHAT IT READS IS OF BULK AT MOST 1048576: true; the input reads as it did. -/
def cplxLawsUptoRow : OpenClaim := { program := "ythgoihblpeeogaa", sum := "9beaaa5a7cd6c35516ccc210d75815e210348f42df489f3e62217db69b503dd3", func := "ratline/ratlinelaw1.CplxLaws", spec := "cplxLaws", inPlace := ["math.Float64frombits", "math.Float64bits"], apart := false, narrowed := true }
def CplxLawsUptoSaid : Prop := cplxLawsUptoRow.holds Try.pinned (OpenSpec.upto cplxLawsSpec)

/-- 'ratlinelaw1.CplxMirrors', WHERE WHAT IT READS IS OF BULK AT MOST 1048576: true; the input reads as it did. -/
def cplxMirrorsUptoRow : OpenClaim := { program := "ythgoihblpeeogaa", sum := "9beaaa5a7cd6c35516ccc210d75815e210348f42df489f3e62217db69b503dd3", func := "ratline/ratlinelaw1.CplxMirrors", spec := "cplxMirrors", inPlace := ["math.Float64frombits", "math.Float64bits"], apart := false, narrowed := true }
def CplxMirrorsUptoSaid : Prop := cplxMirrorsUptoRow.holds Try.pinned (OpenSpec.upto cplxMirrorsSpec)

/-- 'ratlinelaw1.CplxSums', WHERE WHAT IT READS IS OF BULK AT MOST 1048576: true; the input reads as it did. -/
def cplxSumsUptoRow : OpenClaim := { program := "ythgoihblpeeogaa", sum := "9beaaa5a7cd6c35516ccc210d75815e210348f42df489f3e62217db69b503dd3", func := "ratline/ratlinelaw1.CplxSums", spec := "cplxSums", inPlace := ["math.Float64frombits", "math.Float64bits"], apart := false, narrowed := true }
def CplxSumsUptoSaid : Prop := cplxSumsUptoRow.holds Try.pinned (OpenSpec.upto cplxSumsSpec)

/-- 'ratlinelaw1.CplxWholes', WHERE WHAT IT READS IS OF BULK AT MOST 1048576: true; the input reads as it did. -/
def cplxWholesUptoRow : OpenClaim := { program := "ythgoihblpeeogaa", sum := "9beaaa5a7cd6c35516ccc210d75815e210348f42df489f3e62217db69b503dd3", func := "ratline/ratlinelaw1.CplxWholes", spec := "cplxWholes", inPlace := ["math.Float64bits", "math.Float64frombits"], apart := false, narrowed := true }
def CplxWholesUptoSaid : Prop := cplxWholesUptoRow.holds Try.pinned (OpenSpec.upto cplxWholesSpec)

/-- 'ratlinelaw1.CplxTurns', WHERE WHAT IT READS IS OF BULK AT MOST 1048576: true; the input reads as it did. -/
def cplxTurnsUptoRow : OpenClaim := { program := "ythgoihblpeeogaa", sum := "9beaaa5a7cd6c35516ccc210d75815e210348f42df489f3e62217db69b503dd3", func := "ratline/ratlinelaw1.CplxTurns", spec := "cplxTurns", inPlace := ["math.Float64frombits", "math.Float64bits"], apart := false, narrowed := true }
def CplxTurnsUptoSaid : Prop := cplxTurnsUptoRow.holds Try.pinned (OpenSpec.upto cplxTurnsSpec)

/-- 'ratlinelaw18.ColorFew', WHERE WHAT IT READS IS OF BULK AT MOST 1048576: true; the input reads as it did. -/
def colorFewUptoRow : OpenClaim := { program := "ythgoihblpeeogaa", sum := "9beaaa5a7cd6c35516ccc210d75815e210348f42df489f3e62217db69b503dd3", func := "ratline/ratlinelaw18.ColorFew", spec := "colorFew", unfollowed := true, recurses := true, apart := false, narrowed := true }
def ColorFewUptoSaid : Prop := colorFewUptoRow.holds Try.pinned (OpenSpec.upto colorFewSpec)

/-- 'ratlinelaw18.ColorAssigns', WHERE WHAT IT READS IS OF BULK AT MOST 1048576: true; the input reads as it did. -/
def colorAssignsUptoRow : OpenClaim := { program := "ythgoihblpeeogaa", sum := "9beaaa5a7cd6c35516ccc210d75815e210348f42df489f3e62217db69b503dd3", func := "ratline/ratlinelaw18.ColorAssigns", spec := "colorAssigns", unfollowed := true, recurses := true, apart := false, narrowed := true }
def ColorAssignsUptoSaid : Prop := colorAssignsUptoRow.holds Try.pinned (OpenSpec.upto colorAssignsSpec)

/-- 'ratlinelaw18.ColorApart', WHERE WHAT IT READS IS OF BULK AT MOST 1048576: true; the input reads as it did. -/
def colorApartUptoRow : OpenClaim := { program := "ythgoihblpeeogaa", sum := "9beaaa5a7cd6c35516ccc210d75815e210348f42df489f3e62217db69b503dd3", func := "ratline/ratlinelaw18.ColorApart", spec := "colorApart", unfollowed := true, recurses := true, apart := false, narrowed := true }
def ColorApartUptoSaid : Prop := colorApartUptoRow.holds Try.pinned (OpenSpec.upto colorApartSpec)

end Rows
end Go.Proofs.Ythgoihblpeeogaa
