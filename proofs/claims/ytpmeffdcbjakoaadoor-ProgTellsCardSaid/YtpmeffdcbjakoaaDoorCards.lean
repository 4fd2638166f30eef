/-
  DERIVED. GIVEN WITH THE SEED: THE CARDS: each row of YtpmeffdcbjakoaaDoorRows.lean that lists a variable, with what it lists TIED to the program's text (the seventh form; the later family's looks); each row that meets fmt, with fmt's text TOLD by the authors' own Lean function (tested against real Go, not proved from fmt's source: count such statements apart). THE CARD IS WHAT COUNTS. Prove the row's statement (the work); the ties are given (YtpmeffdcbjakoaaDoorTie.lean); close each card by the builder's one call (the guide's Derived/Test/ToyasCard.lean, 'card_holds'). Laid BY PROGRAM, IN A SANDBOX (cutbox-door.mjs). By AI agents, Wed Nov 11 2026. No macro, syntax, notation, axiom, sorry.
-/
import Derived.Test.YtpmeffdcbjakoaaDoorRows
import GoSem.ClaimSeven
namespace Go.Proofs.YtpmeffdcbjakoaaDoor
namespace Rows

/-- THE TIED CARD OF 'towncrierlaw20.ProgParts'. -/
def progPartsCard : Claim7 := { stood := { row := progPartsRow, standIns := [], harness := (true, "a7dfbe529ff36ec43de6089cfce21073e0844a51bdb3a9b8c3e71376727ce933"), looks := false }, kinds := [], alts := [], laidByText := true, laidKinds := [.data, .data], laidTests := true, laidLooks := .later }
def ProgPartsCardSaid : Prop := Claim7.holds Tryd.pinned (.plain (OpenSpec.ofChange progPartsSpec)) progPartsCard

/-- THE TIED CARD OF 'towncrierlaw20.ProgTells'. -/
def progTellsCard : Claim7 := { stood := { row := progTellsRow, standIns := [], harness := (true, "a7dfbe529ff36ec43de6089cfce21073e0844a51bdb3a9b8c3e71376727ce933"), looks := false }, kinds := [], alts := [], laidByText := true, laidKinds := [.data, .data], laidTests := true, laidLooks := .later }
def ProgTellsCardSaid : Prop := Claim7.holds Tryd.pinned (.plain (OpenSpec.ofChange progTellsSpec)) progTellsCard

/-- THE SECOND FORM's CARD OF 'towncrierlaw20.ProgParts'. -/
def progPartsUptoCard : Claim7 := { stood := { row := progPartsUptoRow, standIns := [], harness := (true, "a7dfbe529ff36ec43de6089cfce21073e0844a51bdb3a9b8c3e71376727ce933"), looks := false }, kinds := [], alts := [], laidByText := true, laidKinds := [.data, .data], laidTests := true, laidLooks := .later }
def ProgPartsUptoCardSaid : Prop := Claim7.holds Tryd.pinned (.plain (OpenSpec.upto progPartsSpec)) progPartsUptoCard

/-- THE SECOND FORM's CARD OF 'towncrierlaw20.ProgTells'. -/
def progTellsUptoCard : Claim7 := { stood := { row := progTellsUptoRow, standIns := [], harness := (true, "a7dfbe529ff36ec43de6089cfce21073e0844a51bdb3a9b8c3e71376727ce933"), looks := false }, kinds := [], alts := [], laidByText := true, laidKinds := [.data, .data], laidTests := true, laidLooks := .later }
def ProgTellsUptoCardSaid : Prop := Claim7.holds Tryd.pinned (.plain (OpenSpec.upto progTellsSpec)) progTellsUptoCard
end Rows
end Go.Proofs.YtpmeffdcbjakoaaDoor
