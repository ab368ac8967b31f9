/-
  DERIVED. GIVEN WITH THE SEED: THE CARDS: each row of YthgoihblpeeogaaDoorRows.lean that lists a variable, with what it lists TIED to the program's text (the seventh form; the later family's looks); each row that meets fmt, with fmt's text TOLD by the authors' own Lean function (tested against real Go, not proved from fmt's source: count such statements apart). THE CARD IS WHAT COUNTS. Prove the row's statement (the work); the ties are given (YthgoihblpeeogaaDoorTie.lean); close each card by the builder's one call (the guide's Derived/Test/ToyasCard.lean, 'card_holds'). Laid BY PROGRAM, IN A SANDBOX (cutbox-door.mjs). By AI agents, Wed Nov 11 2026. No macro, syntax, notation, axiom, sorry.
-/
import Derived.Test.YthgoihblpeeogaaDoorRows
import GoSem.ClaimSeven
namespace Go.Proofs.YthgoihblpeeogaaDoor
namespace Rows

/-- THE TIED CARD OF 'ratlinelaw1.CplxBits'. -/
def cplxBitsCard : Claim7 := { stood := { row := cplxBitsRow, standIns := [], harness := (true, "b284e680f78ed4c9c8233485be4f9ad23424b4cbd65d19fea42ae806efa1e14f"), looks := true }, kinds := [], alts := [], laidByText := true, laidKinds := [.data, .data, .data, .sentinel, .sentinel], laidTests := true, laidLooks := .later }
def CplxBitsCardSaid : Prop := Claim7.holds Tryd.pinned (.plain (OpenSpec.ofChange cplxBitsSpec)) cplxBitsCard

/-- THE TIED CARD OF 'ratlinelaw1.CplxReads'. -/
def cplxReadsCard : Claim7 := { stood := { row := cplxReadsRow, standIns := [], harness := (true, "b284e680f78ed4c9c8233485be4f9ad23424b4cbd65d19fea42ae806efa1e14f"), looks := true }, kinds := [], alts := [], laidByText := true, laidKinds := [.data, .data, .data, .sentinel, .sentinel], laidTests := true, laidLooks := .later }
def CplxReadsCardSaid : Prop := Claim7.holds Tryd.pinned (.plain (OpenSpec.ofChange cplxReadsSpec)) cplxReadsCard

/-- THE SECOND FORM's CARD OF 'ratlinelaw1.CplxBits'. -/
def cplxBitsUptoCard : Claim7 := { stood := { row := cplxBitsUptoRow, standIns := [], harness := (true, "b284e680f78ed4c9c8233485be4f9ad23424b4cbd65d19fea42ae806efa1e14f"), looks := true }, kinds := [], alts := [], laidByText := true, laidKinds := [.data, .data, .data, .sentinel, .sentinel], laidTests := true, laidLooks := .later }
def CplxBitsUptoCardSaid : Prop := Claim7.holds Tryd.pinned (.plain (OpenSpec.upto cplxBitsSpec)) cplxBitsUptoCard

/-- THE SECOND FORM's CARD OF 'ratlinelaw1.CplxReads'. -/
def cplxReadsUptoCard : Claim7 := { stood := { row := cplxReadsUptoRow, standIns := [], harness := (true, "b284e680f78ed4c9c8233485be4f9ad23424b4cbd65d19fea42ae806efa1e14f"), looks := true }, kinds := [], alts := [], laidByText := true, laidKinds := [.data, .data, .data, .sentinel, .sentinel], laidTests := true, laidLooks := .later }
def CplxReadsUptoCardSaid : Prop := Claim7.holds Tryd.pinned (.plain (OpenSpec.upto cplxReadsSpec)) cplxReadsUptoCard
end Rows
end Go.Proofs.YthgoihblpeeogaaDoor
