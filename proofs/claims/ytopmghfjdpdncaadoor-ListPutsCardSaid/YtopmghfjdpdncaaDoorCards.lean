/-
  DERIVED. GIVEN WITH THE SEED: THE CARDS: each row of YtopmghfjdpdncaaDoorRows.lean that lists a variable, with what it lists TIED to the program's text (the seventh form; the later family's looks); each row that meets fmt, with fmt's text TOLD by the authors' own Lean function (tested against real Go, not proved from fmt's source: count such statements apart). THE CARD IS WHAT COUNTS. Prove the row's statement (the work); the ties are given (YtopmghfjdpdncaaDoorTie.lean); close each card by the builder's one call (the guide's Derived/Test/ToyasCard.lean, 'card_holds'). Laid BY PROGRAM, IN A SANDBOX (cutbox-door.mjs). By AI agents, Wed Nov 11 2026. No macro, syntax, notation, axiom, sorry.
-/
import Derived.Test.YtopmghfjdpdncaaDoorRows
import GoSem.ClaimSeven
namespace Go.Proofs.YtopmghfjdpdncaaDoor
namespace Rows

/-- THE TIED CARD OF 'jalousielaw11.ListPuts'. -/
def listPutsCard : Claim7 := { stood := { row := listPutsRow, standIns := [], harness := (true, "a5d0fefd916fd73e4730df68ef7e6e0e6f66a8a32b0f1056262db9ce2a7e3457"), looks := false }, kinds := [], alts := [], laidByText := true, laidKinds := [.data], laidTests := true, laidLooks := .later }
def ListPutsCardSaid : Prop := Claim7.holds Tryd.pinned (.plain (OpenSpec.ofChange listPutsSpec)) listPutsCard

/-- THE SECOND FORM's CARD OF 'jalousielaw11.ListPuts'. -/
def listPutsUptoCard : Claim7 := { stood := { row := listPutsUptoRow, standIns := [], harness := (true, "a5d0fefd916fd73e4730df68ef7e6e0e6f66a8a32b0f1056262db9ce2a7e3457"), looks := false }, kinds := [], alts := [], laidByText := true, laidKinds := [.data], laidTests := true, laidLooks := .later }
def ListPutsUptoCardSaid : Prop := Claim7.holds Tryd.pinned (.plain (OpenSpec.upto listPutsSpec)) listPutsUptoCard
end Rows
end Go.Proofs.YtopmghfjdpdncaaDoor
