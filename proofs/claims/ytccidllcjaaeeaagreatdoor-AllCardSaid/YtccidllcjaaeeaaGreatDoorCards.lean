/-
  DERIVED. GIVEN WITH THE SEED: THE CARDS: each row of YtccidllcjaaeeaaGreatDoorRows.lean that lists a variable, with what it lists TIED to the program's text (the seventh form; the later family's looks); each row that meets fmt, with fmt's text TOLD by the authors' own Lean function (tested against real Go, not proved from fmt's source: count such statements apart). THE CARD IS WHAT COUNTS. Prove the row's statement (the work); the ties are given (YtccidllcjaaeeaaGreatDoorTie.lean); close each card by the builder's one call (the guide's Derived/Test/ToyasCard.lean, 'card_holds'). Laid BY PROGRAM, IN A SANDBOX (cutbox-door.mjs). By AI agents, Wed Nov 11 2026. No macro, syntax, notation, axiom, sorry.
-/
import Derived.Test.YtccidllcjaaeeaaGreatDoorRows
import GoSem.ClaimSeven
namespace Go.Proofs.YtccidllcjaaeeaaGreatDoor
namespace Rows

/-- THE TIED CARD OF 'epochkeep.Over'. -/
def overCard : Claim7 := { stood := { row := overRow, standIns := [], harness := (true, "e8d72447f37f46090b15777d5db3d19b1e22b617a791fe864c273cf834eb4ac4"), looks := true }, kinds := [], alts := [], laidByText := true, laidKinds := [.handle], laidTests := true, laidLooks := .later }
def OverCardSaid : Prop := Claim7.holds Tryz.pinned (.plain (OpenSpec.ofChange overSpec)) overCard

/-- THE TIED CARD OF 'epochlaw.All'. -/
def allCard : Claim7 := { stood := { row := allRow, standIns := [], harness := (true, "e8d72447f37f46090b15777d5db3d19b1e22b617a791fe864c273cf834eb4ac4"), looks := true }, kinds := [], alts := [], laidByText := true, laidKinds := [.handle], laidTests := true, laidLooks := .later }
def AllCardSaid : Prop := Claim7.holds Tryz.pinned (.plain (OpenSpec.ofChange allSpec)) allCard

/-- THE TIED CARD OF 'epochkeep.Ends'. -/
def endsCard : Claim7 := { stood := { row := endsRow, standIns := [], harness := (true, "e8d72447f37f46090b15777d5db3d19b1e22b617a791fe864c273cf834eb4ac4"), looks := true }, kinds := [], alts := [], laidByText := true, laidKinds := [.handle], laidTests := true, laidLooks := .later }
def EndsCardSaid : Prop := Claim7.holds Tryz.pinned (.plain (OpenSpec.ofChange endsSpec)) endsCard

/-- THE TIED CARD OF 'epochkeep.Comes'. -/
def comesCard : Claim7 := { stood := { row := comesRow, standIns := [], harness := (true, "e8d72447f37f46090b15777d5db3d19b1e22b617a791fe864c273cf834eb4ac4"), looks := true }, kinds := [], alts := [], laidByText := true, laidKinds := [.handle], laidTests := true, laidLooks := .later }
def ComesCardSaid : Prop := Claim7.holds Tryz.pinned (.plain (OpenSpec.ofChange comesSpec)) comesCard

/-- THE TIED CARD OF 'epochkeep.Forged'. -/
def forgedCard : Claim7 := { stood := { row := forgedRow, standIns := [], harness := (true, "e8d72447f37f46090b15777d5db3d19b1e22b617a791fe864c273cf834eb4ac4"), looks := true }, kinds := [], alts := [], laidByText := true, laidKinds := [.handle], laidTests := true, laidLooks := .later }
def ForgedCardSaid : Prop := Claim7.holds Tryz.pinned (.plain (OpenSpec.ofChange forgedSpec)) forgedCard

/-- THE TIED CARD OF 'epochkeep.Forward'. -/
def forwardCard : Claim7 := { stood := { row := forwardRow, standIns := [], harness := (true, "e8d72447f37f46090b15777d5db3d19b1e22b617a791fe864c273cf834eb4ac4"), looks := true }, kinds := [], alts := [], laidByText := true, laidKinds := [.handle], laidTests := true, laidLooks := .later }
def ForwardCardSaid : Prop := Claim7.holds Tryz.pinned (.plain (OpenSpec.ofChange forwardSpec)) forwardCard

/-- THE TIED CARD OF 'epochlaw.Protects'. -/
def protectsCard : Claim7 := { stood := { row := protectsRow, standIns := [], harness := (true, "e8d72447f37f46090b15777d5db3d19b1e22b617a791fe864c273cf834eb4ac4"), looks := true }, kinds := [], alts := [], laidByText := true, laidKinds := [.handle], laidTests := true, laidLooks := .later }
def ProtectsCardSaid : Prop := Claim7.holds Tryz.pinned (.plain (OpenSpec.ofChange protectsSpec)) protectsCard

/-- THE TIED CARD OF 'epochlaw.Opens'. -/
def opensCard : Claim7 := { stood := { row := opensRow, standIns := [], harness := (true, "e8d72447f37f46090b15777d5db3d19b1e22b617a791fe864c273cf834eb4ac4"), looks := true }, kinds := [], alts := [], laidByText := true, laidKinds := [.handle], laidTests := true, laidLooks := .later }
def OpensCardSaid : Prop := Claim7.holds Tryz.pinned (.plain (OpenSpec.ofChange opensSpec)) opensCard

/-- THE SECOND FORM's CARD OF 'epochkeep.Over'. -/
def overUptoCard : Claim7 := { stood := { row := overUptoRow, standIns := [], harness := (true, "e8d72447f37f46090b15777d5db3d19b1e22b617a791fe864c273cf834eb4ac4"), looks := true }, kinds := [], alts := [], laidByText := true, laidKinds := [.handle], laidTests := true, laidLooks := .later }
def OverUptoCardSaid : Prop := Claim7.holds Tryz.pinned (.plain (OpenSpec.upto overSpec)) overUptoCard

/-- THE SECOND FORM's CARD OF 'epochlaw.All'. -/
def allUptoCard : Claim7 := { stood := { row := allUptoRow, standIns := [], harness := (true, "e8d72447f37f46090b15777d5db3d19b1e22b617a791fe864c273cf834eb4ac4"), looks := true }, kinds := [], alts := [], laidByText := true, laidKinds := [.handle], laidTests := true, laidLooks := .later }
def AllUptoCardSaid : Prop := Claim7.holds Tryz.pinned (.plain (OpenSpec.upto allSpec)) allUptoCard

/-- THE SECOND FORM's CARD OF 'epochkeep.Ends'. -/
def endsUptoCard : Claim7 := { stood := { row := endsUptoRow, standIns := [], harness := (true, "e8d72447f37f46090b15777d5db3d19b1e22b617a791fe864c273cf834eb4ac4"), looks := true }, kinds := [], alts := [], laidByText := true, laidKinds := [.handle], laidTests := true, laidLooks := .later }
def EndsUptoCardSaid : Prop := Claim7.holds Tryz.pinned (.plain (OpenSpec.upto endsSpec)) endsUptoCard

/-- THE SECOND FORM's CARD OF 'epochkeep.Comes'. -/
def comesUptoCard : Claim7 := { stood := { row := comesUptoRow, standIns := [], harness := (true, "e8d72447f37f46090b15777d5db3d19b1e22b617a791fe864c273cf834eb4ac4"), looks := true }, kinds := [], alts := [], laidByText := true, laidKinds := [.handle], laidTests := true, laidLooks := .later }
def ComesUptoCardSaid : Prop := Claim7.holds Tryz.pinned (.plain (OpenSpec.upto comesSpec)) comesUptoCard

/-- THE SECOND FORM's CARD OF 'epochkeep.Forged'. -/
def forgedUptoCard : Claim7 := { stood := { row := forgedUptoRow, standIns := [], harness := (true, "e8d72447f37f46090b15777d5db3d19b1e22b617a791fe864c273cf834eb4ac4"), looks := true }, kinds := [], alts := [], laidByText := true, laidKinds := [.handle], laidTests := true, laidLooks := .later }
def ForgedUptoCardSaid : Prop := Claim7.holds Tryz.pinned (.plain (OpenSpec.upto forgedSpec)) forgedUptoCard

/-- THE SECOND FORM's CARD OF 'epochkeep.Forward'. -/
def forwardUptoCard : Claim7 := { stood := { row := forwardUptoRow, standIns := [], harness := (true, "e8d72447f37f46090b15777d5db3d19b1e22b617a791fe864c273cf834eb4ac4"), looks := true }, kinds := [], alts := [], laidByText := true, laidKinds := [.handle], laidTests := true, laidLooks := .later }
def ForwardUptoCardSaid : Prop := Claim7.holds Tryz.pinned (.plain (OpenSpec.upto forwardSpec)) forwardUptoCard

/-- THE SECOND FORM's CARD OF 'epochlaw.Protects'. -/
def protectsUptoCard : Claim7 := { stood := { row := protectsUptoRow, standIns := [], harness := (true, "e8d72447f37f46090b15777d5db3d19b1e22b617a791fe864c273cf834eb4ac4"), looks := true }, kinds := [], alts := [], laidByText := true, laidKinds := [.handle], laidTests := true, laidLooks := .later }
def ProtectsUptoCardSaid : Prop := Claim7.holds Tryz.pinned (.plain (OpenSpec.upto protectsSpec)) protectsUptoCard

/-- THE SECOND FORM's CARD OF 'epochlaw.Opens'. -/
def opensUptoCard : Claim7 := { stood := { row := opensUptoRow, standIns := [], harness := (true, "e8d72447f37f46090b15777d5db3d19b1e22b617a791fe864c273cf834eb4ac4"), looks := true }, kinds := [], alts := [], laidByText := true, laidKinds := [.handle], laidTests := true, laidLooks := .later }
def OpensUptoCardSaid : Prop := Claim7.holds Tryz.pinned (.plain (OpenSpec.upto opensSpec)) opensUptoCard
end Rows
end Go.Proofs.YtccidllcjaaeeaaGreatDoor
