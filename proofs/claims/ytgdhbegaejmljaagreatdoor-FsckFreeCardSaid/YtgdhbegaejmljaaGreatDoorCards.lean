/-
  DERIVED. GIVEN WITH THE SEED: THE CARDS: each row of YtgdhbegaejmljaaGreatDoorRows.lean that lists a variable, with what it lists TIED to the program's text (the seventh form; the later family's looks); each row that meets fmt, with fmt's text TOLD by the authors' own Lean function (tested against real Go, not proved from fmt's source: count such statements apart). THE CARD IS WHAT COUNTS. Prove the row's statement (the work); the ties are given (YtgdhbegaejmljaaGreatDoorTie.lean); close each card by the builder's one call (the guide's Derived/Test/ToyasCard.lean, 'card_holds'). Laid BY PROGRAM, IN A SANDBOX (cutbox-door.mjs). By AI agents, Wed Nov 11 2026. No macro, syntax, notation, axiom, sorry.
-/
import Derived.Test.YtgdhbegaejmljaaGreatDoorRows
import GoSem.ClaimSeven
namespace Go.Proofs.YtgdhbegaejmljaaGreatDoor
namespace Rows

/-- THE TIED CARD OF 'penelopelaw24.FsckTells'. -/
def fsckTellsCard : Claim7 := { stood := { row := fsckTellsRow, standIns := [], harness := (true, "fb5bbd697cbfd84b6612421afcbd2bac7148ea7b6fb57b9c1d5b8ff9cf080460"), looks := false }, kinds := [], alts := [], laidByText := true, laidKinds := [.data, .pinned], laidTests := true, laidLooks := .later }
def FsckTellsCardSaid : Prop := Claim7.holds Tryz.pinned (.plain (OpenSpec.ofChange fsckTellsSpec)) fsckTellsCard

/-- THE TIED CARD OF 'penelopelaw24.FsckFree'. -/
def fsckFreeCard : Claim7 := { stood := { row := fsckFreeRow, standIns := [], harness := (true, "fb5bbd697cbfd84b6612421afcbd2bac7148ea7b6fb57b9c1d5b8ff9cf080460"), looks := false }, kinds := [], alts := [], laidByText := true, laidKinds := [.data, .pinned], laidTests := true, laidLooks := .later }
def FsckFreeCardSaid : Prop := Claim7.holds Tryz.pinned (.plain (OpenSpec.ofChange fsckFreeSpec)) fsckFreeCard

/-- THE SECOND FORM's CARD OF 'penelopelaw24.FsckTells'. -/
def fsckTellsUptoCard : Claim7 := { stood := { row := fsckTellsUptoRow, standIns := [], harness := (true, "fb5bbd697cbfd84b6612421afcbd2bac7148ea7b6fb57b9c1d5b8ff9cf080460"), looks := false }, kinds := [], alts := [], laidByText := true, laidKinds := [.data, .pinned], laidTests := true, laidLooks := .later }
def FsckTellsUptoCardSaid : Prop := Claim7.holds Tryz.pinned (.plain (OpenSpec.upto fsckTellsSpec)) fsckTellsUptoCard

/-- THE SECOND FORM's CARD OF 'penelopelaw24.FsckFree'. -/
def fsckFreeUptoCard : Claim7 := { stood := { row := fsckFreeUptoRow, standIns := [], harness := (true, "fb5bbd697cbfd84b6612421afcbd2bac7148ea7b6fb57b9c1d5b8ff9cf080460"), looks := false }, kinds := [], alts := [], laidByText := true, laidKinds := [.data, .pinned], laidTests := true, laidLooks := .later }
def FsckFreeUptoCardSaid : Prop := Claim7.holds Tryz.pinned (.plain (OpenSpec.upto fsckFreeSpec)) fsckFreeUptoCard
end Rows
end Go.Proofs.YtgdhbegaejmljaaGreatDoor
