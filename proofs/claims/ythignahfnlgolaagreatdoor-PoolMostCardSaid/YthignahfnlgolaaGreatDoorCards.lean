/-
  DERIVED. GIVEN WITH THE SEED: THE CARDS: each row of YthignahfnlgolaaGreatDoorRows.lean that lists a variable, with what it lists TIED to the program's text (the seventh form; the later family's looks); each row that meets fmt, with fmt's text TOLD by the authors' own Lean function (tested against real Go, not proved from fmt's source: count such statements apart). THE CARD IS WHAT COUNTS. Prove the row's statement (the work); the ties are given (YthignahfnlgolaaGreatDoorTie.lean); close each card by the builder's one call (the guide's Derived/Test/ToyasCard.lean, 'card_holds'). Laid BY PROGRAM, IN A SANDBOX (cutbox-door.mjs). By AI agents, Wed Nov 11 2026. No macro, syntax, notation, axiom, sorry.
-/
import Derived.Test.YthignahfnlgolaaGreatDoorRows
import GoSem.ClaimSeven
namespace Go.Proofs.YthignahfnlgolaaGreatDoor
namespace Rows

/-- THE TIED CARD OF 'bywashlaw23.PoolMost'. -/
def poolMostCard : Claim7 := { stood := { row := poolMostRow, standIns := [], harness := (true, "f5f4424a379712531fe0df738f3f3d1cf8e5881b53df32fe3fd82ea388ee0785"), looks := true }, kinds := [], alts := [], laidByText := true, laidKinds := [.data, .data, .data, .data, .sentinel, .sentinel, .pinned], laidTests := true, laidLooks := .later }
def PoolMostCardSaid : Prop := Claim7.holds Tryz.pinned (.plain (OpenSpec.ofChange poolMostSpec)) poolMostCard

/-- THE SECOND FORM's CARD OF 'bywashlaw23.PoolMost'. -/
def poolMostUptoCard : Claim7 := { stood := { row := poolMostUptoRow, standIns := [], harness := (true, "f5f4424a379712531fe0df738f3f3d1cf8e5881b53df32fe3fd82ea388ee0785"), looks := true }, kinds := [], alts := [], laidByText := true, laidKinds := [.data, .data, .data, .data, .sentinel, .sentinel, .pinned], laidTests := true, laidLooks := .later }
def PoolMostUptoCardSaid : Prop := Claim7.holds Tryz.pinned (.plain (OpenSpec.upto poolMostSpec)) poolMostUptoCard
end Rows
end Go.Proofs.YthignahfnlgolaaGreatDoor
