/-
  DERIVED. GIVEN WITH THE SEED: THE CARDS: each row of YtobhandimolmhaaDoorRows.lean that lists a variable, with what it lists TIED to the program's text (the seventh form; the later family's looks); each row that meets fmt, with fmt's text TOLD by the authors' own Lean function (tested against real Go, not proved from fmt's source: count such statements apart). THE CARD IS WHAT COUNTS. Prove the row's statement (the work); the ties are given (YtobhandimolmhaaDoorTie.lean); close each card by the builder's one call (the guide's Derived/Test/ToyasCard.lean, 'card_holds'). Laid BY PROGRAM, IN A SANDBOX (cutbox-door.mjs). By AI agents, Wed Nov 11 2026. No macro, syntax, notation, axiom, sorry.
-/
import Derived.Test.YtobhandimolmhaaDoorRows
import GoSem.ClaimSeven
namespace Go.Proofs.YtobhandimolmhaaDoor
namespace Rows

/-- THE TIED CARD OF 'racetreelaw17.SleepStacks'. -/
def sleepStacksCard : Claim7 := { stood := { row := sleepStacksRow, standIns := [], harness := (true, "7cccf4eb050612b2098741e032c97920152f647926c0a6f3cdf211eaff5fabb2"), looks := true }, kinds := [], alts := [], laidByText := true, laidKinds := [.data, .data], laidTests := true, laidLooks := .later }
def SleepStacksCardSaid : Prop := Claim7.holds Tryd.pinned (.plain (OpenSpec.ofChange sleepStacksSpec)) sleepStacksCard

/-- THE SECOND FORM's CARD OF 'racetreelaw17.SleepStacks'. -/
def sleepStacksUptoCard : Claim7 := { stood := { row := sleepStacksUptoRow, standIns := [], harness := (true, "7cccf4eb050612b2098741e032c97920152f647926c0a6f3cdf211eaff5fabb2"), looks := true }, kinds := [], alts := [], laidByText := true, laidKinds := [.data, .data], laidTests := true, laidLooks := .later }
def SleepStacksUptoCardSaid : Prop := Claim7.holds Tryd.pinned (.plain (OpenSpec.upto sleepStacksSpec)) sleepStacksUptoCard
end Rows
end Go.Proofs.YtobhandimolmhaaDoor
