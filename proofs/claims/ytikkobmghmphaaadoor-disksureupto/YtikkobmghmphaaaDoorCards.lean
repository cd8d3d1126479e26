/-
  DERIVED. GIVEN WITH THE SEED: THE CARDS: each row of YtikkobmghmphaaaDoorRows.lean that lists a variable, with what it lists TIED to the program's text (the seventh form; the later family's looks); each row that meets fmt, with fmt's text TOLD by the authors' own Lean function (tested against real Go, not proved from fmt's source: count such statements apart). THE CARD IS WHAT COUNTS. Prove the row's statement (the work); the ties are given (YtikkobmghmphaaaDoorTie.lean); close each card by the builder's one call (the guide's Derived/Test/ToyasCard.lean, 'card_holds'). Laid BY PROGRAM, IN A SANDBOX (cutbox-door.mjs). By AI agents, Wed Nov 11 2026. No macro, syntax, notation, axiom, sorry.
-/
import Derived.Test.YtikkobmghmphaaaDoorRows
import GoSem.ClaimSeven
namespace Go.Proofs.YtikkobmghmphaaaDoor
namespace Rows

/-- THE TIED CARD OF 'tallymanlaw9.DiskAll'. -/
def diskAllCard : Claim7 := { stood := { row := diskAllRow, standIns := [], harness := (true, "7ae5b2793e279a55d5240c3f0396df15df8c36144ddcb287bf90d5273d0aee86"), looks := false }, kinds := [], alts := [], laidByText := true, laidKinds := [.data, .pinned], laidTests := true, laidLooks := .later }
def DiskAllCardSaid : Prop := Claim7.holds Tryd.pinned (.plain (OpenSpec.ofChange diskAllSpec)) diskAllCard

/-- THE TIED CARD OF 'tallymanlaw9.DiskSure'. -/
def diskSureCard : Claim7 := { stood := { row := diskSureRow, standIns := [], harness := (true, "7ae5b2793e279a55d5240c3f0396df15df8c36144ddcb287bf90d5273d0aee86"), looks := false }, kinds := [], alts := [], laidByText := true, laidKinds := [.data, .pinned], laidTests := true, laidLooks := .later }
def DiskSureCardSaid : Prop := Claim7.holds Tryd.pinned (.plain (OpenSpec.ofChange diskSureSpec)) diskSureCard

/-- THE SECOND FORM's CARD OF 'tallymanlaw9.DiskAll'. -/
def diskAllUptoCard : Claim7 := { stood := { row := diskAllUptoRow, standIns := [], harness := (true, "7ae5b2793e279a55d5240c3f0396df15df8c36144ddcb287bf90d5273d0aee86"), looks := false }, kinds := [], alts := [], laidByText := true, laidKinds := [.data, .pinned], laidTests := true, laidLooks := .later }
def DiskAllUptoCardSaid : Prop := Claim7.holds Tryd.pinned (.plain (OpenSpec.upto diskAllSpec)) diskAllUptoCard

/-- THE SECOND FORM's CARD OF 'tallymanlaw9.DiskSure'. -/
def diskSureUptoCard : Claim7 := { stood := { row := diskSureUptoRow, standIns := [], harness := (true, "7ae5b2793e279a55d5240c3f0396df15df8c36144ddcb287bf90d5273d0aee86"), looks := false }, kinds := [], alts := [], laidByText := true, laidKinds := [.data, .pinned], laidTests := true, laidLooks := .later }
def DiskSureUptoCardSaid : Prop := Claim7.holds Tryd.pinned (.plain (OpenSpec.upto diskSureSpec)) diskSureUptoCard
end Rows
end Go.Proofs.YtikkobmghmphaaaDoor
