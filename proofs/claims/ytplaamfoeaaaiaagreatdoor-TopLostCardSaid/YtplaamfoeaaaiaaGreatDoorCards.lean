/-
  DERIVED. GIVEN WITH THE SEED: THE CARDS: each row of YtplaamfoeaaaiaaGreatDoorRows.lean that lists a variable, with what it lists TIED to the program's text (the seventh form; the later family's looks); each row that meets fmt, with fmt's text TOLD by the authors' own Lean function (tested against real Go, not proved from fmt's source: count such statements apart). THE CARD IS WHAT COUNTS. Prove the row's statement (the work); the ties are given (YtplaamfoeaaaiaaGreatDoorTie.lean); close each card by the builder's one call (the guide's Derived/Test/ToyasCard.lean, 'card_holds'). Laid BY PROGRAM, IN A SANDBOX (cutbox-door.mjs). By AI agents, Wed Nov 11 2026. No macro, syntax, notation, axiom, sorry.
-/
import Derived.Test.YtplaamfoeaaaiaaGreatDoorRows
import GoSem.ClaimSeven
namespace Go.Proofs.YtplaamfoeaaaiaaGreatDoor
namespace Rows

/-- THE TIED CARD OF 'lifelinetop.TopLost'. -/
def topLostCard : Claim7 := { stood := { row := topLostRow, standIns := [], harness := (true, "794c87ffce333cab1671144415649b10c32d3f7bb820424d5d7b992ab5ffdd37"), looks := true }, kinds := [], alts := [], laidByText := true, laidKinds := [.data, .data, .data, .data, .handle, .sentinel, .sentinel, .pinned], laidTests := true, laidLooks := .later }
def TopLostCardSaid : Prop := Claim7.holds Tryz.pinned (.plain (OpenSpec.ofChange topLostSpec)) topLostCard

/-- THE TIED CARD OF 'lifelinetop.TopRoom'. -/
def topRoomCard : Claim7 := { stood := { row := topRoomRow, standIns := [], harness := (true, "794c87ffce333cab1671144415649b10c32d3f7bb820424d5d7b992ab5ffdd37"), looks := true }, kinds := [], alts := [], laidByText := true, laidKinds := [.data, .data, .data, .data, .handle, .sentinel, .sentinel, .pinned], laidTests := true, laidLooks := .later }
def TopRoomCardSaid : Prop := Claim7.holds Tryz.pinned (.plain (OpenSpec.ofChange topRoomSpec)) topRoomCard

/-- THE TIED CARD OF 'lifelinetop.TopNever'. -/
def topNeverCard : Claim7 := { stood := { row := topNeverRow, standIns := [], harness := (true, "794c87ffce333cab1671144415649b10c32d3f7bb820424d5d7b992ab5ffdd37"), looks := true }, kinds := [], alts := [], laidByText := true, laidKinds := [.data, .data, .data, .data, .handle, .sentinel, .sentinel, .pinned], laidTests := true, laidLooks := .later }
def TopNeverCardSaid : Prop := Claim7.holds Tryz.pinned (.plain (OpenSpec.ofChange topNeverSpec)) topNeverCard

/-- THE SECOND FORM's CARD OF 'lifelinetop.TopLost'. -/
def topLostUptoCard : Claim7 := { stood := { row := topLostUptoRow, standIns := [], harness := (true, "794c87ffce333cab1671144415649b10c32d3f7bb820424d5d7b992ab5ffdd37"), looks := true }, kinds := [], alts := [], laidByText := true, laidKinds := [.data, .data, .data, .data, .handle, .sentinel, .sentinel, .pinned], laidTests := true, laidLooks := .later }
def TopLostUptoCardSaid : Prop := Claim7.holds Tryz.pinned (.plain (OpenSpec.upto topLostSpec)) topLostUptoCard

/-- THE SECOND FORM's CARD OF 'lifelinetop.TopRoom'. -/
def topRoomUptoCard : Claim7 := { stood := { row := topRoomUptoRow, standIns := [], harness := (true, "794c87ffce333cab1671144415649b10c32d3f7bb820424d5d7b992ab5ffdd37"), looks := true }, kinds := [], alts := [], laidByText := true, laidKinds := [.data, .data, .data, .data, .handle, .sentinel, .sentinel, .pinned], laidTests := true, laidLooks := .later }
def TopRoomUptoCardSaid : Prop := Claim7.holds Tryz.pinned (.plain (OpenSpec.upto topRoomSpec)) topRoomUptoCard

/-- THE SECOND FORM's CARD OF 'lifelinetop.TopNever'. -/
def topNeverUptoCard : Claim7 := { stood := { row := topNeverUptoRow, standIns := [], harness := (true, "794c87ffce333cab1671144415649b10c32d3f7bb820424d5d7b992ab5ffdd37"), looks := true }, kinds := [], alts := [], laidByText := true, laidKinds := [.data, .data, .data, .data, .handle, .sentinel, .sentinel, .pinned], laidTests := true, laidLooks := .later }
def TopNeverUptoCardSaid : Prop := Claim7.holds Tryz.pinned (.plain (OpenSpec.upto topNeverSpec)) topNeverUptoCard
end Rows
end Go.Proofs.YtplaamfoeaaaiaaGreatDoor
