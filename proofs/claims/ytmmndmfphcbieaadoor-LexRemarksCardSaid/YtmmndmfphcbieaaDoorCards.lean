/-
  DERIVED. GIVEN WITH THE SEED: THE CARDS: each row of YtmmndmfphcbieaaDoorRows.lean that lists a variable, with what it lists TIED to the program's text (the seventh form; the later family's looks); each row that meets fmt, with fmt's text TOLD by the authors' own Lean function (tested against real Go, not proved from fmt's source: count such statements apart). THE CARD IS WHAT COUNTS. Prove the row's statement (the work); the ties are given (YtmmndmfphcbieaaDoorTie.lean); close each card by the builder's one call (the guide's Derived/Test/ToyasCard.lean, 'card_holds'). Laid BY PROGRAM, IN A SANDBOX (cutbox-door.mjs). By AI agents, Wed Nov 11 2026. No macro, syntax, notation, axiom, sorry.
-/
import Derived.Test.YtmmndmfphcbieaaDoorRows
import GoSem.ClaimSeven
namespace Go.Proofs.YtmmndmfphcbieaaDoor
namespace Rows

/-- THE TIED CARD OF 'ratlinelaw4.LexTokens'. -/
def lexTokensCard : Claim7 := { stood := { row := lexTokensRow, standIns := [], harness := (true, "e1c682907f37c2e89533c5746845928575b372a3d980471f95bf81fd4178c27f"), looks := true }, kinds := [], alts := [], laidByText := true, laidKinds := [.data, .data, .data, .sentinel, .sentinel], laidTests := true, laidLooks := .later }
def LexTokensCardSaid : Prop := Claim7.holds Tryd.pinned (.plain (OpenSpec.ofChange lexTokensSpec)) lexTokensCard

/-- THE TIED CARD OF 'ratlinelaw4.LexNames'. -/
def lexNamesCard : Claim7 := { stood := { row := lexNamesRow, standIns := [], harness := (true, "e1c682907f37c2e89533c5746845928575b372a3d980471f95bf81fd4178c27f"), looks := true }, kinds := [], alts := [], laidByText := true, laidKinds := [.data, .data, .data, .sentinel, .sentinel], laidTests := true, laidLooks := .later }
def LexNamesCardSaid : Prop := Claim7.holds Tryd.pinned (.plain (OpenSpec.ofChange lexNamesSpec)) lexNamesCard

/-- THE TIED CARD OF 'ratlinelaw4.LexTexts'. -/
def lexTextsCard : Claim7 := { stood := { row := lexTextsRow, standIns := [], harness := (true, "e1c682907f37c2e89533c5746845928575b372a3d980471f95bf81fd4178c27f"), looks := true }, kinds := [], alts := [], laidByText := true, laidKinds := [.data, .data, .data, .sentinel, .sentinel], laidTests := true, laidLooks := .later }
def LexTextsCardSaid : Prop := Claim7.holds Tryd.pinned (.plain (OpenSpec.ofChange lexTextsSpec)) lexTextsCard

/-- THE TIED CARD OF 'ratlinelaw4.LexInts'. -/
def lexIntsCard : Claim7 := { stood := { row := lexIntsRow, standIns := [], harness := (true, "e1c682907f37c2e89533c5746845928575b372a3d980471f95bf81fd4178c27f"), looks := true }, kinds := [], alts := [], laidByText := true, laidKinds := [.data, .data, .data, .sentinel, .sentinel], laidTests := true, laidLooks := .later }
def LexIntsCardSaid : Prop := Claim7.holds Tryd.pinned (.plain (OpenSpec.ofChange lexIntsSpec)) lexIntsCard

/-- THE TIED CARD OF 'ratlinelaw4.LexRemarks'. -/
def lexRemarksCard : Claim7 := { stood := { row := lexRemarksRow, standIns := [], harness := (true, "e1c682907f37c2e89533c5746845928575b372a3d980471f95bf81fd4178c27f"), looks := true }, kinds := [], alts := [], laidByText := true, laidKinds := [.data, .data, .data, .sentinel, .sentinel], laidTests := true, laidLooks := .later }
def LexRemarksCardSaid : Prop := Claim7.holds Tryd.pinned (.plain (OpenSpec.ofChange lexRemarksSpec)) lexRemarksCard

/-- THE SECOND FORM's CARD OF 'ratlinelaw4.LexTokens'. -/
def lexTokensUptoCard : Claim7 := { stood := { row := lexTokensUptoRow, standIns := [], harness := (true, "e1c682907f37c2e89533c5746845928575b372a3d980471f95bf81fd4178c27f"), looks := true }, kinds := [], alts := [], laidByText := true, laidKinds := [.data, .data, .data, .sentinel, .sentinel], laidTests := true, laidLooks := .later }
def LexTokensUptoCardSaid : Prop := Claim7.holds Tryd.pinned (.plain (OpenSpec.upto lexTokensSpec)) lexTokensUptoCard

/-- THE SECOND FORM's CARD OF 'ratlinelaw4.LexNames'. -/
def lexNamesUptoCard : Claim7 := { stood := { row := lexNamesUptoRow, standIns := [], harness := (true, "e1c682907f37c2e89533c5746845928575b372a3d980471f95bf81fd4178c27f"), looks := true }, kinds := [], alts := [], laidByText := true, laidKinds := [.data, .data, .data, .sentinel, .sentinel], laidTests := true, laidLooks := .later }
def LexNamesUptoCardSaid : Prop := Claim7.holds Tryd.pinned (.plain (OpenSpec.upto lexNamesSpec)) lexNamesUptoCard

/-- THE SECOND FORM's CARD OF 'ratlinelaw4.LexTexts'. -/
def lexTextsUptoCard : Claim7 := { stood := { row := lexTextsUptoRow, standIns := [], harness := (true, "e1c682907f37c2e89533c5746845928575b372a3d980471f95bf81fd4178c27f"), looks := true }, kinds := [], alts := [], laidByText := true, laidKinds := [.data, .data, .data, .sentinel, .sentinel], laidTests := true, laidLooks := .later }
def LexTextsUptoCardSaid : Prop := Claim7.holds Tryd.pinned (.plain (OpenSpec.upto lexTextsSpec)) lexTextsUptoCard

/-- THE SECOND FORM's CARD OF 'ratlinelaw4.LexInts'. -/
def lexIntsUptoCard : Claim7 := { stood := { row := lexIntsUptoRow, standIns := [], harness := (true, "e1c682907f37c2e89533c5746845928575b372a3d980471f95bf81fd4178c27f"), looks := true }, kinds := [], alts := [], laidByText := true, laidKinds := [.data, .data, .data, .sentinel, .sentinel], laidTests := true, laidLooks := .later }
def LexIntsUptoCardSaid : Prop := Claim7.holds Tryd.pinned (.plain (OpenSpec.upto lexIntsSpec)) lexIntsUptoCard

/-- THE SECOND FORM's CARD OF 'ratlinelaw4.LexRemarks'. -/
def lexRemarksUptoCard : Claim7 := { stood := { row := lexRemarksUptoRow, standIns := [], harness := (true, "e1c682907f37c2e89533c5746845928575b372a3d980471f95bf81fd4178c27f"), looks := true }, kinds := [], alts := [], laidByText := true, laidKinds := [.data, .data, .data, .sentinel, .sentinel], laidTests := true, laidLooks := .later }
def LexRemarksUptoCardSaid : Prop := Claim7.holds Tryd.pinned (.plain (OpenSpec.upto lexRemarksSpec)) lexRemarksUptoCard
end Rows
end Go.Proofs.YtmmndmfphcbieaaDoor
