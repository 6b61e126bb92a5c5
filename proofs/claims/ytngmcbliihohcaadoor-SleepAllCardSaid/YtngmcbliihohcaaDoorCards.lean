/-
  DERIVED. GIVEN WITH THE SEED: THE CARDS: each row of YtngmcbliihohcaaDoorRows.lean that lists a variable, with what it lists TIED to the program's text (the seventh form; the later family's looks); each row that meets fmt, with fmt's text TOLD by the authors' own Lean function (tested against real Go, not proved from fmt's source: count such statements apart). THE CARD IS WHAT COUNTS. Prove the row's statement (the work); the ties are given (YtngmcbliihohcaaDoorTie.lean); close each card by the builder's one call (the guide's Derived/Test/ToyasCard.lean, 'card_holds'). Laid BY PROGRAM, IN A SANDBOX (cutbox-door.mjs). By AI agents, Wed Nov 11 2026. No macro, syntax, notation, axiom, sorry.
-/
import Derived.Test.YtngmcbliihohcaaDoorRows
import GoSem.ClaimSeven
namespace Go.Proofs.YtngmcbliihohcaaDoor
namespace Rows

/-- THE TIED CARD OF 'racetreelaw17.SleepSets'. -/
def sleepSetsCard : Claim7 := { stood := { row := sleepSetsRow, standIns := [], harness := (true, "2d7cb13f98e2fc8a81259cb66c24a3911f2506b45f74b486781d37280b0b3e57"), looks := true }, kinds := [], alts := [], laidByText := true, laidKinds := [.data, .data], laidTests := true, laidLooks := .later }
def SleepSetsCardSaid : Prop := Claim7.holds Tryd.pinned (.plain (OpenSpec.ofChange sleepSetsSpec)) sleepSetsCard

/-- THE TIED CARD OF 'racetreelaw17.SleepAll'. -/
def sleepAllCard : Claim7 := { stood := { row := sleepAllRow, standIns := [], harness := (true, "2d7cb13f98e2fc8a81259cb66c24a3911f2506b45f74b486781d37280b0b3e57"), looks := true }, kinds := [], alts := [], laidByText := true, laidKinds := [.data, .data], laidTests := true, laidLooks := .later }
def SleepAllCardSaid : Prop := Claim7.holds Tryd.pinned (.plain (OpenSpec.ofChange sleepAllSpec)) sleepAllCard

/-- THE TIED CARD OF 'racetreelaw17.SleepBehind'. -/
def sleepBehindCard : Claim7 := { stood := { row := sleepBehindRow, standIns := [], harness := (true, "2d7cb13f98e2fc8a81259cb66c24a3911f2506b45f74b486781d37280b0b3e57"), looks := true }, kinds := [], alts := [], laidByText := true, laidKinds := [.data, .data], laidTests := true, laidLooks := .later }
def SleepBehindCardSaid : Prop := Claim7.holds Tryd.pinned (.plain (OpenSpec.ofChange sleepBehindSpec)) sleepBehindCard

/-- THE TIED CARD OF 'racetreelaw17.SleepJoins'. -/
def sleepJoinsCard : Claim7 := { stood := { row := sleepJoinsRow, standIns := [], harness := (true, "2d7cb13f98e2fc8a81259cb66c24a3911f2506b45f74b486781d37280b0b3e57"), looks := true }, kinds := [], alts := [], laidByText := true, laidKinds := [.data, .data], laidTests := true, laidLooks := .later }
def SleepJoinsCardSaid : Prop := Claim7.holds Tryd.pinned (.plain (OpenSpec.ofChange sleepJoinsSpec)) sleepJoinsCard

/-- THE TIED CARD OF 'racetreelaw19.SourceInsert'. -/
def sourceInsertCard : Claim7 := { stood := { row := sourceInsertRow, standIns := [], harness := (true, "2d7cb13f98e2fc8a81259cb66c24a3911f2506b45f74b486781d37280b0b3e57"), looks := true }, kinds := [], alts := [], laidByText := true, laidKinds := [.data, .data], laidTests := true, laidLooks := .later }
def SourceInsertCardSaid : Prop := Claim7.holds Tryd.pinned (.plain (OpenSpec.ofChange sourceInsertSpec)) sourceInsertCard

/-- THE TIED CARD OF 'racetreelaw17.SleepStacks'. -/
def sleepStacksCard : Claim7 := { stood := { row := sleepStacksRow, standIns := [], harness := (true, "2d7cb13f98e2fc8a81259cb66c24a3911f2506b45f74b486781d37280b0b3e57"), looks := true }, kinds := [], alts := [], laidByText := true, laidKinds := [.data, .data], laidTests := true, laidLooks := .later }
def SleepStacksCardSaid : Prop := Claim7.holds Tryd.pinned (.plain (OpenSpec.ofChange sleepStacksSpec)) sleepStacksCard

/-- THE SECOND FORM's CARD OF 'racetreelaw17.SleepSets'. -/
def sleepSetsUptoCard : Claim7 := { stood := { row := sleepSetsUptoRow, standIns := [], harness := (true, "2d7cb13f98e2fc8a81259cb66c24a3911f2506b45f74b486781d37280b0b3e57"), looks := true }, kinds := [], alts := [], laidByText := true, laidKinds := [.data, .data], laidTests := true, laidLooks := .later }
def SleepSetsUptoCardSaid : Prop := Claim7.holds Tryd.pinned (.plain (OpenSpec.upto sleepSetsSpec)) sleepSetsUptoCard

/-- THE SECOND FORM's CARD OF 'racetreelaw17.SleepAll'. -/
def sleepAllUptoCard : Claim7 := { stood := { row := sleepAllUptoRow, standIns := [], harness := (true, "2d7cb13f98e2fc8a81259cb66c24a3911f2506b45f74b486781d37280b0b3e57"), looks := true }, kinds := [], alts := [], laidByText := true, laidKinds := [.data, .data], laidTests := true, laidLooks := .later }
def SleepAllUptoCardSaid : Prop := Claim7.holds Tryd.pinned (.plain (OpenSpec.upto sleepAllSpec)) sleepAllUptoCard

/-- THE SECOND FORM's CARD OF 'racetreelaw17.SleepBehind'. -/
def sleepBehindUptoCard : Claim7 := { stood := { row := sleepBehindUptoRow, standIns := [], harness := (true, "2d7cb13f98e2fc8a81259cb66c24a3911f2506b45f74b486781d37280b0b3e57"), looks := true }, kinds := [], alts := [], laidByText := true, laidKinds := [.data, .data], laidTests := true, laidLooks := .later }
def SleepBehindUptoCardSaid : Prop := Claim7.holds Tryd.pinned (.plain (OpenSpec.upto sleepBehindSpec)) sleepBehindUptoCard

/-- THE SECOND FORM's CARD OF 'racetreelaw17.SleepJoins'. -/
def sleepJoinsUptoCard : Claim7 := { stood := { row := sleepJoinsUptoRow, standIns := [], harness := (true, "2d7cb13f98e2fc8a81259cb66c24a3911f2506b45f74b486781d37280b0b3e57"), looks := true }, kinds := [], alts := [], laidByText := true, laidKinds := [.data, .data], laidTests := true, laidLooks := .later }
def SleepJoinsUptoCardSaid : Prop := Claim7.holds Tryd.pinned (.plain (OpenSpec.upto sleepJoinsSpec)) sleepJoinsUptoCard

/-- THE SECOND FORM's CARD OF 'racetreelaw19.SourceInsert'. -/
def sourceInsertUptoCard : Claim7 := { stood := { row := sourceInsertUptoRow, standIns := [], harness := (true, "2d7cb13f98e2fc8a81259cb66c24a3911f2506b45f74b486781d37280b0b3e57"), looks := true }, kinds := [], alts := [], laidByText := true, laidKinds := [.data, .data], laidTests := true, laidLooks := .later }
def SourceInsertUptoCardSaid : Prop := Claim7.holds Tryd.pinned (.plain (OpenSpec.upto sourceInsertSpec)) sourceInsertUptoCard

/-- THE SECOND FORM's CARD OF 'racetreelaw17.SleepStacks'. -/
def sleepStacksUptoCard : Claim7 := { stood := { row := sleepStacksUptoRow, standIns := [], harness := (true, "2d7cb13f98e2fc8a81259cb66c24a3911f2506b45f74b486781d37280b0b3e57"), looks := true }, kinds := [], alts := [], laidByText := true, laidKinds := [.data, .data], laidTests := true, laidLooks := .later }
def SleepStacksUptoCardSaid : Prop := Claim7.holds Tryd.pinned (.plain (OpenSpec.upto sleepStacksSpec)) sleepStacksUptoCard
end Rows
end Go.Proofs.YtngmcbliihohcaaDoor
