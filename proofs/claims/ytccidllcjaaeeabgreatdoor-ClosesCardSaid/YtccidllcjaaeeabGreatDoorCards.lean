/-
  DERIVED. GIVEN WITH THE SEED: THE CARDS: each row of YtccidllcjaaeeabGreatDoorRows.lean that lists a variable, with what it lists TIED to the program's text (the seventh form; the later family's looks); each row that meets fmt, with fmt's text TOLD by the authors' own Lean function (tested against real Go, not proved from fmt's source: count such statements apart). THE CARD IS WHAT COUNTS. Prove the row's statement (the work); the ties are given (YtccidllcjaaeeabGreatDoorTie.lean); close each card by the builder's one call (the guide's Derived/Test/ToyasCard.lean, 'card_holds'). Laid BY PROGRAM, IN A SANDBOX (cutbox-door.mjs). By AI agents, Wed Nov 11 2026. No macro, syntax, notation, axiom, sorry.
-/
import Derived.Test.YtccidllcjaaeeabGreatDoorRows
import GoSem.ClaimSeven
namespace Go.Proofs.YtccidllcjaaeeabGreatDoor
namespace Rows

/-- THE TIED CARD OF 'epochlaw.Closes'. -/
def closesCard : Claim7 := { stood := { row := closesRow, standIns := [], harness := (true, "439728c7a9d8a1a827561a1a837f82d685bf07c71edb1f07a906500c374f69aa"), looks := true }, kinds := [], alts := [], laidByText := true, laidKinds := [.handle], laidTests := true, laidLooks := .later }
def ClosesCardSaid : Prop := Claim7.holds Tryz.pinned (.plain (OpenSpec.ofChange closesSpec)) closesCard

/-- THE SECOND FORM's CARD OF 'epochlaw.Closes'. -/
def closesUptoCard : Claim7 := { stood := { row := closesUptoRow, standIns := [], harness := (true, "439728c7a9d8a1a827561a1a837f82d685bf07c71edb1f07a906500c374f69aa"), looks := true }, kinds := [], alts := [], laidByText := true, laidKinds := [.handle], laidTests := true, laidLooks := .later }
def ClosesUptoCardSaid : Prop := Claim7.holds Tryz.pinned (.plain (OpenSpec.upto closesSpec)) closesUptoCard
end Rows
end Go.Proofs.YtccidllcjaaeeabGreatDoor
