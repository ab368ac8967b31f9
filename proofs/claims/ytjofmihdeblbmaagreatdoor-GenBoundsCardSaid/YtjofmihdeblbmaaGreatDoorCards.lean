/-
  DERIVED. GIVEN WITH THE SEED: THE CARDS: each row of YtjofmihdeblbmaaGreatDoorRows.lean that lists a variable, with what it lists TIED to the program's text (the seventh form; the later family's looks); each row that meets fmt, with fmt's text TOLD by the authors' own Lean function (tested against real Go, not proved from fmt's source: count such statements apart). THE CARD IS WHAT COUNTS. Prove the row's statement (the work); the ties are given (YtjofmihdeblbmaaGreatDoorTie.lean); close each card by the builder's one call (the guide's Derived/Test/ToyasCard.lean, 'card_holds'). Laid BY PROGRAM, IN A SANDBOX (cutbox-door.mjs). By AI agents, Wed Nov 11 2026. No macro, syntax, notation, axiom, sorry.
-/
import Derived.Test.YtjofmihdeblbmaaGreatDoorRows
import GoSem.ClaimSeven
namespace Go.Proofs.YtjofmihdeblbmaaGreatDoor
namespace Rows

/-- THE TIED CARD OF 'ratlinelaw6.ScopeSlots'. -/
def scopeSlotsCard : Claim7 := { stood := { row := scopeSlotsRow, standIns := [], harness := (true, "6189b876a7b44d5242a32f9a41ea90c03c60cb616c47c131ca1892d62bd8e776"), looks := true }, kinds := [], alts := [], laidByText := true, laidKinds := [.data, .data, .data, .sentinel, .sentinel], laidTests := true, laidLooks := .later }
def ScopeSlotsCardSaid : Prop := Claim7.holds Tryz.pinned (.plain (OpenSpec.ofChange scopeSlotsSpec)) scopeSlotsCard

/-- THE TIED CARD OF 'ratlinelaw6.ScopeBuiltins'. -/
def scopeBuiltinsCard : Claim7 := { stood := { row := scopeBuiltinsRow, standIns := [], harness := (true, "6189b876a7b44d5242a32f9a41ea90c03c60cb616c47c131ca1892d62bd8e776"), looks := true }, kinds := [], alts := [], laidByText := true, laidKinds := [.data, .data, .data, .sentinel, .sentinel], laidTests := true, laidLooks := .later }
def ScopeBuiltinsCardSaid : Prop := Claim7.holds Tryz.pinned (.plain (OpenSpec.ofChange scopeBuiltinsSpec)) scopeBuiltinsCard

/-- THE TIED CARD OF 'ratlinelaw6.ScopeBlocks'. -/
def scopeBlocksCard : Claim7 := { stood := { row := scopeBlocksRow, standIns := [], harness := (true, "6189b876a7b44d5242a32f9a41ea90c03c60cb616c47c131ca1892d62bd8e776"), looks := true }, kinds := [], alts := [], laidByText := true, laidKinds := [.data, .data, .data, .sentinel, .sentinel], laidTests := true, laidLooks := .later }
def ScopeBlocksCardSaid : Prop := Claim7.holds Tryz.pinned (.plain (OpenSpec.ofChange scopeBlocksSpec)) scopeBlocksCard

/-- THE TIED CARD OF 'ratlinelaw5.ParseShows'. -/
def parseShowsCard : Claim7 := { stood := { row := parseShowsRow, standIns := [], harness := (true, "6189b876a7b44d5242a32f9a41ea90c03c60cb616c47c131ca1892d62bd8e776"), looks := true }, kinds := [], alts := [], laidByText := true, laidKinds := [.data, .data, .data, .sentinel, .sentinel], laidTests := true, laidLooks := .later }
def ParseShowsCardSaid : Prop := Claim7.holds Tryz.pinned (.plain (OpenSpec.ofChange parseShowsSpec)) parseShowsCard

/-- THE TIED CARD OF 'ratlinelaw5.ParseDeep'. -/
def parseDeepCard : Claim7 := { stood := { row := parseDeepRow, standIns := [], harness := (true, "6189b876a7b44d5242a32f9a41ea90c03c60cb616c47c131ca1892d62bd8e776"), looks := true }, kinds := [], alts := [], laidByText := true, laidKinds := [.data, .data, .data, .sentinel, .sentinel], laidTests := true, laidLooks := .later }
def ParseDeepCardSaid : Prop := Claim7.holds Tryz.pinned (.plain (OpenSpec.ofChange parseDeepSpec)) parseDeepCard

/-- THE TIED CARD OF 'ratlinelaw8.GenTicks'. -/
def genTicksCard : Claim7 := { stood := { row := genTicksRow, standIns := [], harness := (true, "6189b876a7b44d5242a32f9a41ea90c03c60cb616c47c131ca1892d62bd8e776"), looks := true }, kinds := [], alts := [], laidByText := true, laidKinds := [.data, .data, .data, .sentinel, .sentinel], laidTests := true, laidLooks := .later }
def GenTicksCardSaid : Prop := Claim7.holds Tryz.pinned (.plain (OpenSpec.ofChange genTicksSpec)) genTicksCard

/-- THE TIED CARD OF 'ratlinelaw8.GenBounds'. -/
def genBoundsCard : Claim7 := { stood := { row := genBoundsRow, standIns := [], harness := (true, "6189b876a7b44d5242a32f9a41ea90c03c60cb616c47c131ca1892d62bd8e776"), looks := true }, kinds := [], alts := [], laidByText := true, laidKinds := [.data, .data, .data, .sentinel, .sentinel], laidTests := true, laidLooks := .later }
def GenBoundsCardSaid : Prop := Claim7.holds Tryz.pinned (.plain (OpenSpec.ofChange genBoundsSpec)) genBoundsCard

/-- THE TIED CARD OF 'ratlinelaw5.ParsePrints'. -/
def parsePrintsCard : Claim7 := { stood := { row := parsePrintsRow, standIns := [], harness := (true, "6189b876a7b44d5242a32f9a41ea90c03c60cb616c47c131ca1892d62bd8e776"), looks := true }, kinds := [], alts := [], laidByText := true, laidKinds := [.data, .data, .data, .sentinel, .sentinel], laidTests := true, laidLooks := .later }
def ParsePrintsCardSaid : Prop := Claim7.holds Tryz.pinned (.plain (OpenSpec.ofChange parsePrintsSpec)) parsePrintsCard

/-- THE TIED CARD OF 'ratlinelaw5.ParseTrees'. -/
def parseTreesCard : Claim7 := { stood := { row := parseTreesRow, standIns := [], harness := (true, "6189b876a7b44d5242a32f9a41ea90c03c60cb616c47c131ca1892d62bd8e776"), looks := true }, kinds := [], alts := [], laidByText := true, laidKinds := [.data, .data, .data, .sentinel, .sentinel], laidTests := true, laidLooks := .later }
def ParseTreesCardSaid : Prop := Claim7.holds Tryz.pinned (.plain (OpenSpec.ofChange parseTreesSpec)) parseTreesCard

/-- THE TIED CARD OF 'ratlinelaw5.ParseBlocks'. -/
def parseBlocksCard : Claim7 := { stood := { row := parseBlocksRow, standIns := [], harness := (true, "6189b876a7b44d5242a32f9a41ea90c03c60cb616c47c131ca1892d62bd8e776"), looks := true }, kinds := [], alts := [], laidByText := true, laidKinds := [.data, .data, .data, .sentinel, .sentinel], laidTests := true, laidLooks := .later }
def ParseBlocksCardSaid : Prop := Claim7.holds Tryz.pinned (.plain (OpenSpec.ofChange parseBlocksSpec)) parseBlocksCard

/-- THE SECOND FORM's CARD OF 'ratlinelaw6.ScopeSlots'. -/
def scopeSlotsUptoCard : Claim7 := { stood := { row := scopeSlotsUptoRow, standIns := [], harness := (true, "6189b876a7b44d5242a32f9a41ea90c03c60cb616c47c131ca1892d62bd8e776"), looks := true }, kinds := [], alts := [], laidByText := true, laidKinds := [.data, .data, .data, .sentinel, .sentinel], laidTests := true, laidLooks := .later }
def ScopeSlotsUptoCardSaid : Prop := Claim7.holds Tryz.pinned (.plain (OpenSpec.upto scopeSlotsSpec)) scopeSlotsUptoCard

/-- THE SECOND FORM's CARD OF 'ratlinelaw6.ScopeBuiltins'. -/
def scopeBuiltinsUptoCard : Claim7 := { stood := { row := scopeBuiltinsUptoRow, standIns := [], harness := (true, "6189b876a7b44d5242a32f9a41ea90c03c60cb616c47c131ca1892d62bd8e776"), looks := true }, kinds := [], alts := [], laidByText := true, laidKinds := [.data, .data, .data, .sentinel, .sentinel], laidTests := true, laidLooks := .later }
def ScopeBuiltinsUptoCardSaid : Prop := Claim7.holds Tryz.pinned (.plain (OpenSpec.upto scopeBuiltinsSpec)) scopeBuiltinsUptoCard

/-- THE SECOND FORM's CARD OF 'ratlinelaw6.ScopeBlocks'. -/
def scopeBlocksUptoCard : Claim7 := { stood := { row := scopeBlocksUptoRow, standIns := [], harness := (true, "6189b876a7b44d5242a32f9a41ea90c03c60cb616c47c131ca1892d62bd8e776"), looks := true }, kinds := [], alts := [], laidByText := true, laidKinds := [.data, .data, .data, .sentinel, .sentinel], laidTests := true, laidLooks := .later }
def ScopeBlocksUptoCardSaid : Prop := Claim7.holds Tryz.pinned (.plain (OpenSpec.upto scopeBlocksSpec)) scopeBlocksUptoCard

/-- THE SECOND FORM's CARD OF 'ratlinelaw5.ParseShows'. -/
def parseShowsUptoCard : Claim7 := { stood := { row := parseShowsUptoRow, standIns := [], harness := (true, "6189b876a7b44d5242a32f9a41ea90c03c60cb616c47c131ca1892d62bd8e776"), looks := true }, kinds := [], alts := [], laidByText := true, laidKinds := [.data, .data, .data, .sentinel, .sentinel], laidTests := true, laidLooks := .later }
def ParseShowsUptoCardSaid : Prop := Claim7.holds Tryz.pinned (.plain (OpenSpec.upto parseShowsSpec)) parseShowsUptoCard

/-- THE SECOND FORM's CARD OF 'ratlinelaw5.ParseDeep'. -/
def parseDeepUptoCard : Claim7 := { stood := { row := parseDeepUptoRow, standIns := [], harness := (true, "6189b876a7b44d5242a32f9a41ea90c03c60cb616c47c131ca1892d62bd8e776"), looks := true }, kinds := [], alts := [], laidByText := true, laidKinds := [.data, .data, .data, .sentinel, .sentinel], laidTests := true, laidLooks := .later }
def ParseDeepUptoCardSaid : Prop := Claim7.holds Tryz.pinned (.plain (OpenSpec.upto parseDeepSpec)) parseDeepUptoCard

/-- THE SECOND FORM's CARD OF 'ratlinelaw8.GenTicks'. -/
def genTicksUptoCard : Claim7 := { stood := { row := genTicksUptoRow, standIns := [], harness := (true, "6189b876a7b44d5242a32f9a41ea90c03c60cb616c47c131ca1892d62bd8e776"), looks := true }, kinds := [], alts := [], laidByText := true, laidKinds := [.data, .data, .data, .sentinel, .sentinel], laidTests := true, laidLooks := .later }
def GenTicksUptoCardSaid : Prop := Claim7.holds Tryz.pinned (.plain (OpenSpec.upto genTicksSpec)) genTicksUptoCard

/-- THE SECOND FORM's CARD OF 'ratlinelaw8.GenBounds'. -/
def genBoundsUptoCard : Claim7 := { stood := { row := genBoundsUptoRow, standIns := [], harness := (true, "6189b876a7b44d5242a32f9a41ea90c03c60cb616c47c131ca1892d62bd8e776"), looks := true }, kinds := [], alts := [], laidByText := true, laidKinds := [.data, .data, .data, .sentinel, .sentinel], laidTests := true, laidLooks := .later }
def GenBoundsUptoCardSaid : Prop := Claim7.holds Tryz.pinned (.plain (OpenSpec.upto genBoundsSpec)) genBoundsUptoCard

/-- THE SECOND FORM's CARD OF 'ratlinelaw5.ParsePrints'. -/
def parsePrintsUptoCard : Claim7 := { stood := { row := parsePrintsUptoRow, standIns := [], harness := (true, "6189b876a7b44d5242a32f9a41ea90c03c60cb616c47c131ca1892d62bd8e776"), looks := true }, kinds := [], alts := [], laidByText := true, laidKinds := [.data, .data, .data, .sentinel, .sentinel], laidTests := true, laidLooks := .later }
def ParsePrintsUptoCardSaid : Prop := Claim7.holds Tryz.pinned (.plain (OpenSpec.upto parsePrintsSpec)) parsePrintsUptoCard

/-- THE SECOND FORM's CARD OF 'ratlinelaw5.ParseTrees'. -/
def parseTreesUptoCard : Claim7 := { stood := { row := parseTreesUptoRow, standIns := [], harness := (true, "6189b876a7b44d5242a32f9a41ea90c03c60cb616c47c131ca1892d62bd8e776"), looks := true }, kinds := [], alts := [], laidByText := true, laidKinds := [.data, .data, .data, .sentinel, .sentinel], laidTests := true, laidLooks := .later }
def ParseTreesUptoCardSaid : Prop := Claim7.holds Tryz.pinned (.plain (OpenSpec.upto parseTreesSpec)) parseTreesUptoCard

/-- THE SECOND FORM's CARD OF 'ratlinelaw5.ParseBlocks'. -/
def parseBlocksUptoCard : Claim7 := { stood := { row := parseBlocksUptoRow, standIns := [], harness := (true, "6189b876a7b44d5242a32f9a41ea90c03c60cb616c47c131ca1892d62bd8e776"), looks := true }, kinds := [], alts := [], laidByText := true, laidKinds := [.data, .data, .data, .sentinel, .sentinel], laidTests := true, laidLooks := .later }
def ParseBlocksUptoCardSaid : Prop := Claim7.holds Tryz.pinned (.plain (OpenSpec.upto parseBlocksSpec)) parseBlocksUptoCard
end Rows
end Go.Proofs.YtjofmihdeblbmaaGreatDoor
