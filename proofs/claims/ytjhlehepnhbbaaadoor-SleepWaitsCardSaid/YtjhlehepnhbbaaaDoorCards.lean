/-
  DERIVED. GIVEN WITH THE SEED: THE CARDS: each row of YtjhlehepnhbbaaaDoorRows.lean that lists a variable, with what it lists TIED to the program's text (the seventh form; the later family's looks); each row that meets fmt, with fmt's text TOLD by the authors' own Lean function (tested against real Go, not proved from fmt's source: count such statements apart). THE CARD IS WHAT COUNTS. Prove the row's statement (the work); the ties are given (YtjhlehepnhbbaaaDoorTie.lean); close each card by the builder's one call (the guide's Derived/Test/ToyasCard.lean, 'card_holds'). Laid BY PROGRAM, IN A SANDBOX (cutbox-door.mjs). By AI agents, Wed Nov 11 2026. No macro, syntax, notation, axiom, sorry.
-/
import Derived.Test.YtjhlehepnhbbaaaDoorRows
import GoSem.ClaimSeven
namespace Go.Proofs.YtjhlehepnhbbaaaDoor
namespace Rows

/-- THE TIED CARD OF 'racetreelaw17.SleepWaits'. -/
def sleepWaitsCard : Claim7 := { stood := { row := sleepWaitsRow, standIns := [], harness := (true, "31404d60cfcf2387db8bd4b721e3d939c98ee4c099136ef5a90dab808b4214b7"), looks := true }, kinds := [], alts := [], laidByText := true, laidKinds := [.data, .data], laidTests := true, laidLooks := .later }
def SleepWaitsCardSaid : Prop := Claim7.holds Tryd.pinned (.plain (OpenSpec.ofChange sleepWaitsSpec)) sleepWaitsCard

/-- THE SECOND FORM's CARD OF 'racetreelaw17.SleepWaits'. -/
def sleepWaitsUptoCard : Claim7 := { stood := { row := sleepWaitsUptoRow, standIns := [], harness := (true, "31404d60cfcf2387db8bd4b721e3d939c98ee4c099136ef5a90dab808b4214b7"), looks := true }, kinds := [], alts := [], laidByText := true, laidKinds := [.data, .data], laidTests := true, laidLooks := .later }
def SleepWaitsUptoCardSaid : Prop := Claim7.holds Tryd.pinned (.plain (OpenSpec.upto sleepWaitsSpec)) sleepWaitsUptoCard
end Rows
end Go.Proofs.YtjhlehepnhbbaaaDoor
