/-
  DERIVED. GIVEN WITH THE SEED: THE CARDS: each row of YthjekbmgbidcfaaDoorRows.lean that lists a variable, with what it lists TIED to the program's text (the seventh form; the later family's looks); each row that meets fmt, with fmt's text TOLD by the authors' own Lean function (tested against real Go, not proved from fmt's source: count such statements apart). THE CARD IS WHAT COUNTS. Prove the row's statement (the work); the ties are given (YthjekbmgbidcfaaDoorTie.lean); close each card by the builder's one call (the guide's Derived/Test/ToyasCard.lean, 'card_holds'). Laid BY PROGRAM, IN A SANDBOX (cutbox-door.mjs). By AI agents, Wed Nov 11 2026. No macro, syntax, notation, axiom, sorry.
-/
import Derived.Test.YthjekbmgbidcfaaDoorRows
import GoSem.ClaimSeven
namespace Go.Proofs.YthjekbmgbidcfaaDoor
namespace Rows

/-- THE TIED CARD OF 'chittylaw16.LexJoins'. -/
def lexJoinsCard : Claim7 := { stood := { row := lexJoinsRow, standIns := [], harness := (true, "6444c9bc39b83d3241a342497afcf021aba91f2e364c31ea08fcc9f883c874c0"), looks := true }, kinds := [], alts := [], laidByText := true, laidKinds := [.data, .pinned], laidTests := true, laidLooks := .later }
def LexJoinsCardSaid : Prop := Claim7.holds Tryd.pinned (.plain (OpenSpec.ofChange lexJoinsSpec)) lexJoinsCard

/-- THE TIED CARD OF 'chittylaw15.CostBounds'. -/
def costBoundsCard : Claim7 := { stood := { row := costBoundsRow, standIns := [], harness := (true, "6444c9bc39b83d3241a342497afcf021aba91f2e364c31ea08fcc9f883c874c0"), looks := true }, kinds := [], alts := [], laidByText := true, laidKinds := [.data, .data, .data], laidTests := true, laidLooks := .later }
def CostBoundsCardSaid : Prop := Claim7.holds Tryd.pinned (.plain (OpenSpec.ofChange costBoundsSpec)) costBoundsCard

/-- THE TIED CARD OF 'chittylaw14.PathTells'. -/
def pathTellsCard : Claim7 := { stood := { row := pathTellsRow, standIns := [], harness := (true, "6444c9bc39b83d3241a342497afcf021aba91f2e364c31ea08fcc9f883c874c0"), looks := true }, kinds := [], alts := [], laidByText := true, laidKinds := [.data, .pinned], laidTests := true, laidLooks := .later }
def PathTellsCardSaid : Prop := Claim7.holds Tryd.pinned (.plain (OpenSpec.ofChange pathTellsSpec)) pathTellsCard

/-- THE TIED CARD OF 'chittylaw14.PathOrder'. -/
def pathOrderCard : Claim7 := { stood := { row := pathOrderRow, standIns := [], harness := (true, "6444c9bc39b83d3241a342497afcf021aba91f2e364c31ea08fcc9f883c874c0"), looks := true }, kinds := [], alts := [], laidByText := true, laidKinds := [.data, .pinned], laidTests := true, laidLooks := .later }
def PathOrderCardSaid : Prop := Claim7.holds Tryd.pinned (.plain (OpenSpec.ofChange pathOrderSpec)) pathOrderCard

/-- THE TIED CARD OF 'chittylaw16.LexTells'. -/
def lexTellsCard : Claim7 := { stood := { row := lexTellsRow, standIns := [], harness := (true, "6444c9bc39b83d3241a342497afcf021aba91f2e364c31ea08fcc9f883c874c0"), looks := true }, kinds := [], alts := [], laidByText := true, laidKinds := [.data, .data, .data, .data, .sentinel, .sentinel, .pinned], laidTests := true, laidLooks := .later }
def LexTellsCardSaid : Prop := Claim7.holds Tryd.pinned (.plain (OpenSpec.ofChange lexTellsSpec)) lexTellsCard

/-- THE TIED CARD OF 'chittylaw16.LexParts'. -/
def lexPartsCard : Claim7 := { stood := { row := lexPartsRow, standIns := [], harness := (true, "6444c9bc39b83d3241a342497afcf021aba91f2e364c31ea08fcc9f883c874c0"), looks := true }, kinds := [], alts := [], laidByText := true, laidKinds := [.data, .data, .data, .data, .sentinel, .sentinel, .pinned], laidTests := true, laidLooks := .later }
def LexPartsCardSaid : Prop := Claim7.holds Tryd.pinned (.plain (OpenSpec.ofChange lexPartsSpec)) lexPartsCard

/-- THE TIED CARD OF 'chittylaw12.AddrTells'. -/
def addrTellsCard : Claim7 := { stood := { row := addrTellsRow, standIns := [], harness := (true, "6444c9bc39b83d3241a342497afcf021aba91f2e364c31ea08fcc9f883c874c0"), looks := true }, kinds := [], alts := [], laidByText := true, laidKinds := [.data, .data, .data, .data, .sentinel, .sentinel, .pinned], laidTests := true, laidLooks := .later }
def AddrTellsCardSaid : Prop := Claim7.holds Tryd.pinned (.plain (OpenSpec.ofChange addrTellsSpec)) addrTellsCard

/-- THE TIED CARD OF 'chittylaw12.AddrBack'. -/
def addrBackCard : Claim7 := { stood := { row := addrBackRow, standIns := [], harness := (true, "6444c9bc39b83d3241a342497afcf021aba91f2e364c31ea08fcc9f883c874c0"), looks := true }, kinds := [], alts := [], laidByText := true, laidKinds := [.data, .data, .data, .data, .sentinel, .sentinel, .pinned], laidTests := true, laidLooks := .later }
def AddrBackCardSaid : Prop := Claim7.holds Tryd.pinned (.plain (OpenSpec.ofChange addrBackSpec)) addrBackCard

/-- THE SECOND FORM's CARD OF 'chittylaw16.LexJoins'. -/
def lexJoinsUptoCard : Claim7 := { stood := { row := lexJoinsUptoRow, standIns := [], harness := (true, "6444c9bc39b83d3241a342497afcf021aba91f2e364c31ea08fcc9f883c874c0"), looks := true }, kinds := [], alts := [], laidByText := true, laidKinds := [.data, .pinned], laidTests := true, laidLooks := .later }
def LexJoinsUptoCardSaid : Prop := Claim7.holds Tryd.pinned (.plain (OpenSpec.upto lexJoinsSpec)) lexJoinsUptoCard

/-- THE SECOND FORM's CARD OF 'chittylaw15.CostBounds'. -/
def costBoundsUptoCard : Claim7 := { stood := { row := costBoundsUptoRow, standIns := [], harness := (true, "6444c9bc39b83d3241a342497afcf021aba91f2e364c31ea08fcc9f883c874c0"), looks := true }, kinds := [], alts := [], laidByText := true, laidKinds := [.data, .data, .data], laidTests := true, laidLooks := .later }
def CostBoundsUptoCardSaid : Prop := Claim7.holds Tryd.pinned (.plain (OpenSpec.upto costBoundsSpec)) costBoundsUptoCard

/-- THE SECOND FORM's CARD OF 'chittylaw14.PathTells'. -/
def pathTellsUptoCard : Claim7 := { stood := { row := pathTellsUptoRow, standIns := [], harness := (true, "6444c9bc39b83d3241a342497afcf021aba91f2e364c31ea08fcc9f883c874c0"), looks := true }, kinds := [], alts := [], laidByText := true, laidKinds := [.data, .pinned], laidTests := true, laidLooks := .later }
def PathTellsUptoCardSaid : Prop := Claim7.holds Tryd.pinned (.plain (OpenSpec.upto pathTellsSpec)) pathTellsUptoCard

/-- THE SECOND FORM's CARD OF 'chittylaw14.PathOrder'. -/
def pathOrderUptoCard : Claim7 := { stood := { row := pathOrderUptoRow, standIns := [], harness := (true, "6444c9bc39b83d3241a342497afcf021aba91f2e364c31ea08fcc9f883c874c0"), looks := true }, kinds := [], alts := [], laidByText := true, laidKinds := [.data, .pinned], laidTests := true, laidLooks := .later }
def PathOrderUptoCardSaid : Prop := Claim7.holds Tryd.pinned (.plain (OpenSpec.upto pathOrderSpec)) pathOrderUptoCard

/-- THE SECOND FORM's CARD OF 'chittylaw16.LexTells'. -/
def lexTellsUptoCard : Claim7 := { stood := { row := lexTellsUptoRow, standIns := [], harness := (true, "6444c9bc39b83d3241a342497afcf021aba91f2e364c31ea08fcc9f883c874c0"), looks := true }, kinds := [], alts := [], laidByText := true, laidKinds := [.data, .data, .data, .data, .sentinel, .sentinel, .pinned], laidTests := true, laidLooks := .later }
def LexTellsUptoCardSaid : Prop := Claim7.holds Tryd.pinned (.plain (OpenSpec.upto lexTellsSpec)) lexTellsUptoCard

/-- THE SECOND FORM's CARD OF 'chittylaw16.LexParts'. -/
def lexPartsUptoCard : Claim7 := { stood := { row := lexPartsUptoRow, standIns := [], harness := (true, "6444c9bc39b83d3241a342497afcf021aba91f2e364c31ea08fcc9f883c874c0"), looks := true }, kinds := [], alts := [], laidByText := true, laidKinds := [.data, .data, .data, .data, .sentinel, .sentinel, .pinned], laidTests := true, laidLooks := .later }
def LexPartsUptoCardSaid : Prop := Claim7.holds Tryd.pinned (.plain (OpenSpec.upto lexPartsSpec)) lexPartsUptoCard

/-- THE SECOND FORM's CARD OF 'chittylaw12.AddrTells'. -/
def addrTellsUptoCard : Claim7 := { stood := { row := addrTellsUptoRow, standIns := [], harness := (true, "6444c9bc39b83d3241a342497afcf021aba91f2e364c31ea08fcc9f883c874c0"), looks := true }, kinds := [], alts := [], laidByText := true, laidKinds := [.data, .data, .data, .data, .sentinel, .sentinel, .pinned], laidTests := true, laidLooks := .later }
def AddrTellsUptoCardSaid : Prop := Claim7.holds Tryd.pinned (.plain (OpenSpec.upto addrTellsSpec)) addrTellsUptoCard

/-- THE SECOND FORM's CARD OF 'chittylaw12.AddrBack'. -/
def addrBackUptoCard : Claim7 := { stood := { row := addrBackUptoRow, standIns := [], harness := (true, "6444c9bc39b83d3241a342497afcf021aba91f2e364c31ea08fcc9f883c874c0"), looks := true }, kinds := [], alts := [], laidByText := true, laidKinds := [.data, .data, .data, .data, .sentinel, .sentinel, .pinned], laidTests := true, laidLooks := .later }
def AddrBackUptoCardSaid : Prop := Claim7.holds Tryd.pinned (.plain (OpenSpec.upto addrBackSpec)) addrBackUptoCard
end Rows
end Go.Proofs.YthjekbmgbidcfaaDoor
