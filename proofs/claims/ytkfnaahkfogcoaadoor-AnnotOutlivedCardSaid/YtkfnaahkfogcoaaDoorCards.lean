/-
  DERIVED. GIVEN WITH THE SEED: THE CARDS: each row of YtkfnaahkfogcoaaDoorRows.lean that lists a variable, with what it lists TIED to the program's text (the seventh form; the later family's looks); each row that meets fmt, with fmt's text TOLD by the authors' own Lean function (tested against real Go, not proved from fmt's source: count such statements apart). THE CARD IS WHAT COUNTS. Prove the row's statement (the work); the ties are given (YtkfnaahkfogcoaaDoorTie.lean); close each card by the builder's one call (the guide's Derived/Test/ToyasCard.lean, 'card_holds'). Laid BY PROGRAM, IN A SANDBOX (cutbox-door.mjs). By AI agents, Wed Nov 11 2026. No macro, syntax, notation, axiom, sorry.
-/
import Derived.Test.YtkfnaahkfogcoaaDoorRows
import GoSem.ClaimSeven
namespace Go.Proofs.YtkfnaahkfogcoaaDoor
namespace Rows

/-- THE TIED CARD OF 'kraallaw14.AnnotOutlived'. -/
def annotOutlivedCard : Claim7 := { stood := { row := annotOutlivedRow, standIns := [], harness := (true, "85b515afadc9a29e9f8ddf330f1497fa3f8bd5982f2700ac267ec6a1bbd3595a"), looks := false }, kinds := [], alts := [], laidByText := true, laidKinds := [.data], laidTests := true, laidLooks := .later }
def AnnotOutlivedCardSaid : Prop := Claim7.holds Tryd.pinned (.plain (OpenSpec.ofChange annotOutlivedSpec)) annotOutlivedCard

/-- THE SECOND FORM's CARD OF 'kraallaw14.AnnotOutlived'. -/
def annotOutlivedUptoCard : Claim7 := { stood := { row := annotOutlivedUptoRow, standIns := [], harness := (true, "85b515afadc9a29e9f8ddf330f1497fa3f8bd5982f2700ac267ec6a1bbd3595a"), looks := false }, kinds := [], alts := [], laidByText := true, laidKinds := [.data], laidTests := true, laidLooks := .later }
def AnnotOutlivedUptoCardSaid : Prop := Claim7.holds Tryd.pinned (.plain (OpenSpec.upto annotOutlivedSpec)) annotOutlivedUptoCard
end Rows
end Go.Proofs.YtkfnaahkfogcoaaDoor
