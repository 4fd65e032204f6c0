/-
  DERIVED. GIVEN WITH THE SEED: THE CARDS: each row of YtoffondipgjcoaaGreatDoorRows.lean that lists a variable, with what it lists TIED to the program's text (the seventh form; the later family's looks); each row that meets fmt, with fmt's text TOLD by the authors' own Lean function (tested against real Go, not proved from fmt's source: count such statements apart). THE CARD IS WHAT COUNTS. Prove the row's statement (the work); the ties are given (YtoffondipgjcoaaGreatDoorTie.lean); close each card by the builder's one call (the guide's Derived/Test/ToyasCard.lean, 'card_holds'). Laid BY PROGRAM, IN A SANDBOX (cutbox-door.mjs). By AI agents, Wed Nov 11 2026. No macro, syntax, notation, axiom, sorry.
-/
import Derived.Test.YtoffondipgjcoaaGreatDoorRows
import GoSem.ClaimSeven
namespace Go.Proofs.YtoffondipgjcoaaGreatDoor
namespace Rows

/-- THE TIED CARD OF 'factotumlaw11.BaseNil'. -/
def baseNilCard : Claim7 := { stood := { row := baseNilRow, standIns := [], harness := (true, "737048d3540a7c3b66680499e1f0907eeab0862f97e60c4edfef27d17b753313"), looks := true }, kinds := [], alts := [], laidByText := true, laidKinds := [.data, .pinned], laidTests := true, laidLooks := .later }
def BaseNilCardSaid : Prop := Claim7.holds Tryz.pinned (.plain (OpenSpec.ofChange baseNilSpec)) baseNilCard

/-- THE TIED CARD OF 'factotumlaw11.BaseCrash'. -/
def baseCrashCard : Claim7 := { stood := { row := baseCrashRow, standIns := [], harness := (true, "737048d3540a7c3b66680499e1f0907eeab0862f97e60c4edfef27d17b753313"), looks := true }, kinds := [], alts := [], laidByText := true, laidKinds := [.data, .pinned], laidTests := true, laidLooks := .later }
def BaseCrashCardSaid : Prop := Claim7.holds Tryz.pinned (.plain (OpenSpec.ofChange baseCrashSpec)) baseCrashCard

/-- THE SECOND FORM's CARD OF 'factotumlaw11.BaseNil'. -/
def baseNilUptoCard : Claim7 := { stood := { row := baseNilUptoRow, standIns := [], harness := (true, "737048d3540a7c3b66680499e1f0907eeab0862f97e60c4edfef27d17b753313"), looks := true }, kinds := [], alts := [], laidByText := true, laidKinds := [.data, .pinned], laidTests := true, laidLooks := .later }
def BaseNilUptoCardSaid : Prop := Claim7.holds Tryz.pinned (.plain (OpenSpec.upto baseNilSpec)) baseNilUptoCard

/-- THE SECOND FORM's CARD OF 'factotumlaw11.BaseCrash'. -/
def baseCrashUptoCard : Claim7 := { stood := { row := baseCrashUptoRow, standIns := [], harness := (true, "737048d3540a7c3b66680499e1f0907eeab0862f97e60c4edfef27d17b753313"), looks := true }, kinds := [], alts := [], laidByText := true, laidKinds := [.data, .pinned], laidTests := true, laidLooks := .later }
def BaseCrashUptoCardSaid : Prop := Claim7.holds Tryz.pinned (.plain (OpenSpec.upto baseCrashSpec)) baseCrashUptoCard
end Rows
end Go.Proofs.YtoffondipgjcoaaGreatDoor
