/-
  No cell of these rows narrows 'for every input' (looked for: loops, veiled, ifaces, maps, wideKeys, modest, calm, conditions, laid).
  DERIVED. THE GIVEN ROWS OF THIS SEAT. 13 by the template 'for every input the law returns true; each argument reads behind the call as it read before'; 0 by the template 'total and deterministic' (their statements: YthooddkoldfebaaTotals.lean).
  GIVEN WITH THE SEED: the statements are not yours to turn. If you find one false, say at which input.
  Laid BY PROGRAM, IN A SANDBOX (cutbox-rows.mjs): the forced cells as the released guide's own fill.sh prints them over the translation fcff3513508e6db6… (all of the seat's roots in one cut). By AI agents, Wed Nov 11 2026. No macro, syntax, notation, axiom, sorry.
-/
import Derived.Test.YthooddkoldfebaaChecked
import GoSem.Claim
import GoSem.ClaimJoined
import GoSem.ClaimMapViews
import Derived.JoinedTies
import Derived.KernelRfl
namespace Go.Proofs.Ythooddkoldfebaa
/- THE CELL 'sum', in the pinned program and in every row, IS THE sha256 OF THE DUMP (.gsa) THAT YthooddkoldfebaaProg.lean LOADS. Nothing in Lean hashes anything: it is a label: what it is worth is what the hold of that sum in a sandbox is worth. -/
noncomputable def Try.pinned : Pinned := { name := "ythooddkoldfebaa", sum := "fcff3513508e6db64e209b370ba8ed2cf53df4006bf99f2435e757160aaf79af", checked := Try.checked }
namespace Rows
def none {H : Type} : Left H := { results := [], args := [] }

/-- 'racetreelaw14.OrderGoes': WHATEVER THE INPUT: true; the input reads as it did. -/
def orderGoesSpec : ChangeSpec := { name := "orderGoes", fn := fun _ => fun
  | [d1, d2, d3] => { results := [.lit (.bool true)], args := [d1, d2, d3] }
  | _ => none }
def orderGoesRow : OpenClaim := { program := "ythooddkoldfebaa", sum := "fcff3513508e6db64e209b370ba8ed2cf53df4006bf99f2435e757160aaf79af", func := "racetree/racetreelaw14.OrderGoes", spec := "orderGoes", unfollowed := true, recurses := true, apart := false }
def OrderGoesSaid : Prop := orderGoesRow.holds Try.pinned (OpenSpec.ofChange orderGoesSpec)

/-- ITS FALSE NEIGHBOUR: 'it returns false'. Refute it at one input. -/
def orderGoesWrong : ChangeSpec := { name := "orderGoes", fn := fun _ => fun
  | [d1, d2, d3] => { results := [.lit (.bool false)], args := [d1, d2, d3] }
  | _ => none }
def OrderGoesWrongFalsely : Prop := orderGoesRow.holds Try.pinned (OpenSpec.ofChange orderGoesWrong)

/-- 'racetreelaw14.OrderStays': WHATEVER THE INPUT: true; the input reads as it did. -/
def orderStaysSpec : ChangeSpec := { name := "orderStays", fn := fun _ => fun
  | [d1, d2] => { results := [.lit (.bool true)], args := [d1, d2] }
  | _ => none }
def orderStaysRow : OpenClaim := { program := "ythooddkoldfebaa", sum := "fcff3513508e6db64e209b370ba8ed2cf53df4006bf99f2435e757160aaf79af", func := "racetree/racetreelaw14.OrderStays", spec := "orderStays", unfollowed := true, recurses := true, apart := false }
def OrderStaysSaid : Prop := orderStaysRow.holds Try.pinned (OpenSpec.ofChange orderStaysSpec)

/-- ITS FALSE NEIGHBOUR: 'it returns false'. Refute it at one input. -/
def orderStaysWrong : ChangeSpec := { name := "orderStays", fn := fun _ => fun
  | [d1, d2] => { results := [.lit (.bool false)], args := [d1, d2] }
  | _ => none }
def OrderStaysWrongFalsely : Prop := orderStaysRow.holds Try.pinned (OpenSpec.ofChange orderStaysWrong)

/-- 'racetreelaw14.OrderOf': WHATEVER THE INPUT: true; the input reads as it did. -/
def orderOfSpec : ChangeSpec := { name := "orderOf", fn := fun _ => fun
  | [d] => { results := [.lit (.bool true)], args := [d] }
  | _ => none }
def orderOfRow : OpenClaim := { program := "ythooddkoldfebaa", sum := "fcff3513508e6db64e209b370ba8ed2cf53df4006bf99f2435e757160aaf79af", func := "racetree/racetreelaw14.OrderOf", spec := "orderOf", unfollowed := true, recurses := true, apart := false }
def OrderOfSaid : Prop := orderOfRow.holds Try.pinned (OpenSpec.ofChange orderOfSpec)

/-- ITS FALSE NEIGHBOUR: 'it returns false'. Refute it at one input. -/
def orderOfWrong : ChangeSpec := { name := "orderOf", fn := fun _ => fun
  | [d] => { results := [.lit (.bool false)], args := [d] }
  | _ => none }
def OrderOfWrongFalsely : Prop := orderOfRow.holds Try.pinned (OpenSpec.ofChange orderOfWrong)

/-- 'racetreelaw14.OrderClocks': WHATEVER THE INPUT: true; the input reads as it did. -/
def orderClocksSpec : ChangeSpec := { name := "orderClocks", fn := fun _ => fun
  | [d1, d2] => { results := [.lit (.bool true)], args := [d1, d2] }
  | _ => none }
def orderClocksRow : OpenClaim := { program := "ythooddkoldfebaa", sum := "fcff3513508e6db64e209b370ba8ed2cf53df4006bf99f2435e757160aaf79af", func := "racetree/racetreelaw14.OrderClocks", spec := "orderClocks", unfollowed := true, recurses := true, apart := false }
def OrderClocksSaid : Prop := orderClocksRow.holds Try.pinned (OpenSpec.ofChange orderClocksSpec)

/-- ITS FALSE NEIGHBOUR: 'it returns false'. Refute it at one input. -/
def orderClocksWrong : ChangeSpec := { name := "orderClocks", fn := fun _ => fun
  | [d1, d2] => { results := [.lit (.bool false)], args := [d1, d2] }
  | _ => none }
def OrderClocksWrongFalsely : Prop := orderClocksRow.holds Try.pinned (OpenSpec.ofChange orderClocksWrong)

/-- 'racetreelaw14.OrderCovers': WHATEVER THE INPUT: true; the input reads as it did. -/
def orderCoversSpec : ChangeSpec := { name := "orderCovers", fn := fun _ => fun
  | [d1, d2, d3] => { results := [.lit (.bool true)], args := [d1, d2, d3] }
  | _ => none }
def orderCoversRow : OpenClaim := { program := "ythooddkoldfebaa", sum := "fcff3513508e6db64e209b370ba8ed2cf53df4006bf99f2435e757160aaf79af", func := "racetree/racetreelaw14.OrderCovers", spec := "orderCovers", unfollowed := true, recurses := true, apart := false }
def OrderCoversSaid : Prop := orderCoversRow.holds Try.pinned (OpenSpec.ofChange orderCoversSpec)

/-- ITS FALSE NEIGHBOUR: 'it returns false'. Refute it at one input. -/
def orderCoversWrong : ChangeSpec := { name := "orderCovers", fn := fun _ => fun
  | [d1, d2, d3] => { results := [.lit (.bool false)], args := [d1, d2, d3] }
  | _ => none }
def OrderCoversWrongFalsely : Prop := orderCoversRow.holds Try.pinned (OpenSpec.ofChange orderCoversWrong)

/-- 'racetreelaw14.OrderLists': WHATEVER THE INPUT: true; the input reads as it did. -/
def orderListsSpec : ChangeSpec := { name := "orderLists", fn := fun _ => fun
  | [d1, d2] => { results := [.lit (.bool true)], args := [d1, d2] }
  | _ => none }
def orderListsRow : OpenClaim := { program := "ythooddkoldfebaa", sum := "fcff3513508e6db64e209b370ba8ed2cf53df4006bf99f2435e757160aaf79af", func := "racetree/racetreelaw14.OrderLists", spec := "orderLists", unfollowed := true, recurses := true, apart := false }
def OrderListsSaid : Prop := orderListsRow.holds Try.pinned (OpenSpec.ofChange orderListsSpec)

/-- ITS FALSE NEIGHBOUR: 'it returns false'. Refute it at one input. -/
def orderListsWrong : ChangeSpec := { name := "orderLists", fn := fun _ => fun
  | [d1, d2] => { results := [.lit (.bool false)], args := [d1, d2] }
  | _ => none }
def OrderListsWrongFalsely : Prop := orderListsRow.holds Try.pinned (OpenSpec.ofChange orderListsWrong)

/-- 'racetreelaw18.RaceOf': WHATEVER THE INPUT: true; the input reads as it did. -/
def raceOfSpec : ChangeSpec := { name := "raceOf", fn := fun _ => fun
  | [d1, d2] => { results := [.lit (.bool true)], args := [d1, d2] }
  | _ => none }
def raceOfRow : OpenClaim := { program := "ythooddkoldfebaa", sum := "fcff3513508e6db64e209b370ba8ed2cf53df4006bf99f2435e757160aaf79af", func := "racetree/racetreelaw18.RaceOf", spec := "raceOf", unfollowed := true, recurses := true, apart := false }
def RaceOfSaid : Prop := raceOfRow.holds Try.pinned (OpenSpec.ofChange raceOfSpec)

/-- ITS FALSE NEIGHBOUR: 'it returns false'. Refute it at one input. -/
def raceOfWrong : ChangeSpec := { name := "raceOf", fn := fun _ => fun
  | [d1, d2] => { results := [.lit (.bool false)], args := [d1, d2] }
  | _ => none }
def RaceOfWrongFalsely : Prop := raceOfRow.holds Try.pinned (OpenSpec.ofChange raceOfWrong)

/-- 'racetreelaw18.RaceBeside': WHATEVER THE INPUT: true; the input reads as it did. -/
def raceBesideSpec : ChangeSpec := { name := "raceBeside", fn := fun _ => fun
  | [d1, d2] => { results := [.lit (.bool true)], args := [d1, d2] }
  | _ => none }
def raceBesideRow : OpenClaim := { program := "ythooddkoldfebaa", sum := "fcff3513508e6db64e209b370ba8ed2cf53df4006bf99f2435e757160aaf79af", func := "racetree/racetreelaw18.RaceBeside", spec := "raceBeside", unfollowed := true, recurses := true, apart := false }
def RaceBesideSaid : Prop := raceBesideRow.holds Try.pinned (OpenSpec.ofChange raceBesideSpec)

/-- ITS FALSE NEIGHBOUR: 'it returns false'. Refute it at one input. -/
def raceBesideWrong : ChangeSpec := { name := "raceBeside", fn := fun _ => fun
  | [d1, d2] => { results := [.lit (.bool false)], args := [d1, d2] }
  | _ => none }
def RaceBesideWrongFalsely : Prop := raceBesideRow.holds Try.pinned (OpenSpec.ofChange raceBesideWrong)

/-- 'racetreelaw18.RaceAll': WHATEVER THE INPUT: true; the input reads as it did. -/
def raceAllSpec : ChangeSpec := { name := "raceAll", fn := fun _ => fun
  | [d] => { results := [.lit (.bool true)], args := [d] }
  | _ => none }
def raceAllRow : OpenClaim := { program := "ythooddkoldfebaa", sum := "fcff3513508e6db64e209b370ba8ed2cf53df4006bf99f2435e757160aaf79af", func := "racetree/racetreelaw18.RaceAll", spec := "raceAll", unfollowed := true, recurses := true, apart := false }
def RaceAllSaid : Prop := raceAllRow.holds Try.pinned (OpenSpec.ofChange raceAllSpec)

/-- ITS FALSE NEIGHBOUR: 'it returns false'. Refute it at one input. -/
def raceAllWrong : ChangeSpec := { name := "raceAll", fn := fun _ => fun
  | [d] => { results := [.lit (.bool false)], args := [d] }
  | _ => none }
def RaceAllWrongFalsely : Prop := raceAllRow.holds Try.pinned (OpenSpec.ofChange raceAllWrong)

/-- 'racetreelaw18.RaceStays': WHATEVER THE INPUT: true; the input reads as it did. -/
def raceStaysSpec : ChangeSpec := { name := "raceStays", fn := fun _ => fun
  | [d1, d2] => { results := [.lit (.bool true)], args := [d1, d2] }
  | _ => none }
def raceStaysRow : OpenClaim := { program := "ythooddkoldfebaa", sum := "fcff3513508e6db64e209b370ba8ed2cf53df4006bf99f2435e757160aaf79af", func := "racetree/racetreelaw18.RaceStays", spec := "raceStays", unfollowed := true, recurses := true, apart := false }
def RaceStaysSaid : Prop := raceStaysRow.holds Try.pinned (OpenSpec.ofChange raceStaysSpec)

/-- ITS FALSE NEIGHBOUR: 'it returns false'. Refute it at one input. -/
def raceStaysWrong : ChangeSpec := { name := "raceStays", fn := fun _ => fun
  | [d1, d2] => { results := [.lit (.bool false)], args := [d1, d2] }
  | _ => none }
def RaceStaysWrongFalsely : Prop := raceStaysRow.holds Try.pinned (OpenSpec.ofChange raceStaysWrong)

/-- 'racetreelaw18.RaceWaiting': WHATEVER THE INPUT: true; the input reads as it did. -/
def raceWaitingSpec : ChangeSpec := { name := "raceWaiting", fn := fun _ => fun
  | [d1, d2, d3] => { results := [.lit (.bool true)], args := [d1, d2, d3] }
  | _ => none }
def raceWaitingRow : OpenClaim := { program := "ythooddkoldfebaa", sum := "fcff3513508e6db64e209b370ba8ed2cf53df4006bf99f2435e757160aaf79af", func := "racetree/racetreelaw18.RaceWaiting", spec := "raceWaiting", unfollowed := true, recurses := true, apart := false }
def RaceWaitingSaid : Prop := raceWaitingRow.holds Try.pinned (OpenSpec.ofChange raceWaitingSpec)

/-- ITS FALSE NEIGHBOUR: 'it returns false'. Refute it at one input. -/
def raceWaitingWrong : ChangeSpec := { name := "raceWaiting", fn := fun _ => fun
  | [d1, d2, d3] => { results := [.lit (.bool false)], args := [d1, d2, d3] }
  | _ => none }
def RaceWaitingWrongFalsely : Prop := raceWaitingRow.holds Try.pinned (OpenSpec.ofChange raceWaitingWrong)

/-- 'racetreelaw18.RaceReverse': WHATEVER THE INPUT: true; the input reads as it did. -/
def raceReverseSpec : ChangeSpec := { name := "raceReverse", fn := fun _ => fun
  | [d1, d2] => { results := [.lit (.bool true)], args := [d1, d2] }
  | _ => none }
def raceReverseRow : OpenClaim := { program := "ythooddkoldfebaa", sum := "fcff3513508e6db64e209b370ba8ed2cf53df4006bf99f2435e757160aaf79af", func := "racetree/racetreelaw18.RaceReverse", spec := "raceReverse", unfollowed := true, recurses := true, apart := false }
def RaceReverseSaid : Prop := raceReverseRow.holds Try.pinned (OpenSpec.ofChange raceReverseSpec)

/-- ITS FALSE NEIGHBOUR: 'it returns false'. Refute it at one input. -/
def raceReverseWrong : ChangeSpec := { name := "raceReverse", fn := fun _ => fun
  | [d1, d2] => { results := [.lit (.bool false)], args := [d1, d2] }
  | _ => none }
def RaceReverseWrongFalsely : Prop := raceReverseRow.holds Try.pinned (OpenSpec.ofChange raceReverseWrong)

/-- 'racetreelaw18.RaceTurns': WHATEVER THE INPUT: true; the input reads as it did. -/
def raceTurnsSpec : ChangeSpec := { name := "raceTurns", fn := fun _ => fun
  | [d] => { results := [.lit (.bool true)], args := [d] }
  | _ => none }
def raceTurnsRow : OpenClaim := { program := "ythooddkoldfebaa", sum := "fcff3513508e6db64e209b370ba8ed2cf53df4006bf99f2435e757160aaf79af", func := "racetree/racetreelaw18.RaceTurns", spec := "raceTurns", unfollowed := true, recurses := true, apart := false }
def RaceTurnsSaid : Prop := raceTurnsRow.holds Try.pinned (OpenSpec.ofChange raceTurnsSpec)

/-- ITS FALSE NEIGHBOUR: 'it returns false'. Refute it at one input. -/
def raceTurnsWrong : ChangeSpec := { name := "raceTurns", fn := fun _ => fun
  | [d] => { results := [.lit (.bool false)], args := [d] }
  | _ => none }
def RaceTurnsWrongFalsely : Prop := raceTurnsRow.holds Try.pinned (OpenSpec.ofChange raceTurnsWrong)

/- THE SECOND FORM. 'bulk': how many values and letters a reading holds, each counted each time it is reached (what is shared counts as often as it is met; a slice's spare places count too). A statement '..UptoSaid' is the law's where the arguments, and the package variables that the reading takes, are together of bulk at most 1048576: NARROWER than '..Said'. Prove '..Said' where nothing that the law and all that it calls make is longer than what came in: it says more and counts as full. Else prove '..UptoSaid'. A law counts once. -/
mutual
def uptoBulk {H : Type} : DataW H → Nat
  | .lit (.string bytes) => bytes.length + 1
  | .lit _ => 1
  | .nil => 1
  | .ptr d => uptoBulk d + 1
  | .slice elems spare => uptoBulkAll elems + uptoBulkAll spare + 1
  | .agg parts => uptoBulkAll parts + 1
  | .iface _ d => uptoBulk d + 1
  | .map entries => uptoBulkEntries entries + 1
  | .held _ => 1
def uptoBulkAll {H : Type} : List (DataW H) → Nat
  | [] => 0
  | d :: r => uptoBulk d + uptoBulkAll r
def uptoBulkEntries {H : Type} : List (Lit × DataW H) → Nat
  | [] => 0
  | x :: r => uptoBulkEntry x + uptoBulkEntries r
def uptoBulkEntry {H : Type} : Lit × DataW H → Nat
  | (.string bytes, d) => bytes.length + uptoBulk d + 1
  | (_, d) => uptoBulk d + 1
 end
def uptoSmall : (H : Type) → List (DataW H) → Bool := fun _ ds => decide (uptoBulkAll ds ≤ 1048576)
def OpenSpec.upto (s : _root_.Go.ChangeSpec) : _root_.Go.OpenSpec := { _root_.Go.OpenSpec.ofChange s with cond := some uptoSmall }

/-- 'racetreelaw14.OrderGoes', WHERE WHAT IT READS IS OF BULK AT MOST 1048576: true; the input reads as it did. -/
def orderGoesUptoRow : OpenClaim := { program := "ythooddkoldfebaa", sum := "fcff3513508e6db64e209b370ba8ed2cf53df4006bf99f2435e757160aaf79af", func := "racetree/racetreelaw14.OrderGoes", spec := "orderGoes", unfollowed := true, recurses := true, apart := false, narrowed := true }
def OrderGoesUptoSaid : Prop := orderGoesUptoRow.holds Try.pinned (OpenSpec.upto orderGoesSpec)

/-- 'racetreelaw14.OrderStays', WHERE WHAT IT READS IS OF BULK AT MOST 1048576: true; the input reads as it did. -/
def orderStaysUptoRow : OpenClaim := { program := "ythooddkoldfebaa", sum := "fcff3513508e6db64e209b370ba8ed2cf53df4006bf99f2435e757160aaf79af", func := "racetree/racetreelaw14.OrderStays", spec := "orderStays", unfollowed := true, recurses := true, apart := false, narrowed := true }
def OrderStaysUptoSaid : Prop := orderStaysUptoRow.holds Try.pinned (OpenSpec.upto orderStaysSpec)

/-- 'racetreelaw14.OrderOf', WHERE WHAT IT READS IS OF BULK AT MOST 1048576: true; the input reads as it did. -/
def orderOfUptoRow : OpenClaim := { program := "ythooddkoldfebaa", sum := "fcff3513508e6db64e209b370ba8ed2cf53df4006bf99f2435e757160aaf79af", func := "racetree/racetreelaw14.OrderOf", spec := "orderOf", unfollowed := true, recurses := true, apart := false, narrowed := true }
def OrderOfUptoSaid : Prop := orderOfUptoRow.holds Try.pinned (OpenSpec.upto orderOfSpec)

/-- 'racetreelaw14.OrderClocks', WHERE WHAT IT READS IS OF BULK AT MOST 1048576: true; the input reads as it did. -/
def orderClocksUptoRow : OpenClaim := { program := "ythooddkoldfebaa", sum := "fcff3513508e6db64e209b370ba8ed2cf53df4006bf99f2435e757160aaf79af", func := "racetree/racetreelaw14.OrderClocks", spec := "orderClocks", unfollowed := true, recurses := true, apart := false, narrowed := true }
def OrderClocksUptoSaid : Prop := orderClocksUptoRow.holds Try.pinned (OpenSpec.upto orderClocksSpec)

/-- 'racetreelaw14.OrderCovers', WHERE WHAT IT READS IS OF BULK AT MOST 1048576: true; the input reads as it did. -/
def orderCoversUptoRow : OpenClaim := { program := "ythooddkoldfebaa", sum := "fcff3513508e6db64e209b370ba8ed2cf53df4006bf99f2435e757160aaf79af", func := "racetree/racetreelaw14.OrderCovers", spec := "orderCovers", unfollowed := true, recurses := true, apart := false, narrowed := true }
def OrderCoversUptoSaid : Prop := orderCoversUptoRow.holds Try.pinned (OpenSpec.upto orderCoversSpec)

/-- 'racetreelaw14.OrderLists', WHERE WHAT IT READS IS OF BULK AT MOST 1048576: true; the input reads as it did. -/
def orderListsUptoRow : OpenClaim := { program := "ythooddkoldfebaa", sum := "fcff3513508e6db64e209b370ba8ed2cf53df4006bf99f2435e757160aaf79af", func := "racetree/racetreelaw14.OrderLists", spec := "orderLists", unfollowed := true, recurses := true, apart := false, narrowed := true }
def OrderListsUptoSaid : Prop := orderListsUptoRow.holds Try.pinned (OpenSpec.upto orderListsSpec)

/-- 'racetreelaw18.RaceOf', WHERE WHAT IT READS IS OF BULK AT MOST 1048576: true; the input reads as it did. -/
def raceOfUptoRow : OpenClaim := { program := "ythooddkoldfebaa", sum := "fcff3513508e6db64e209b370ba8ed2cf53df4006bf99f2435e757160aaf79af", func := "racetree/racetreelaw18.RaceOf", spec := "raceOf", unfollowed := true, recurses := true, apart := false, narrowed := true }
def RaceOfUptoSaid : Prop := raceOfUptoRow.holds Try.pinned (OpenSpec.upto raceOfSpec)

/-- 'racetreelaw18.RaceBeside', WHERE WHAT IT READS IS OF BULK AT MOST 1048576: true; the input reads as it did. -/
def raceBesideUptoRow : OpenClaim := { program := "ythooddkoldfebaa", sum := "fcff3513508e6db64e209b370ba8ed2cf53df4006bf99f2435e757160aaf79af", func := "racetree/racetreelaw18.RaceBeside", spec := "raceBeside", unfollowed := true, recurses := true, apart := false, narrowed := true }
def RaceBesideUptoSaid : Prop := raceBesideUptoRow.holds Try.pinned (OpenSpec.upto raceBesideSpec)

/-- 'racetreelaw18.RaceAll', WHERE WHAT IT READS IS OF BULK AT MOST 1048576: true; the input reads as it did. -/
def raceAllUptoRow : OpenClaim := { program := "ythooddkoldfebaa", sum := "fcff3513508e6db64e209b370ba8ed2cf53df4006bf99f2435e757160aaf79af", func := "racetree/racetreelaw18.RaceAll", spec := "raceAll", unfollowed := true, recurses := true, apart := false, narrowed := true }
def RaceAllUptoSaid : Prop := raceAllUptoRow.holds Try.pinned (OpenSpec.upto raceAllSpec)

/-- 'racetreelaw18.RaceStays', WHERE WHAT IT READS IS OF BULK AT MOST 1048576: true; the input reads as it did. -/
def raceStaysUptoRow : OpenClaim := { program := "ythooddkoldfebaa", sum := "fcff3513508e6db64e209b370ba8ed2cf53df4006bf99f2435e757160aaf79af", func := "racetree/racetreelaw18.RaceStays", spec := "raceStays", unfollowed := true, recurses := true, apart := false, narrowed := true }
def RaceStaysUptoSaid : Prop := raceStaysUptoRow.holds Try.pinned (OpenSpec.upto raceStaysSpec)

/-- 'racetreelaw18.RaceWaiting', WHERE WHAT IT READS IS OF BULK AT MOST 1048576: true; the input reads as it did. -/
def raceWaitingUptoRow : OpenClaim := { program := "ythooddkoldfebaa", sum := "fcff3513508e6db64e209b370ba8ed2cf53df4006bf99f2435e757160aaf79af", func := "racetree/racetreelaw18.RaceWaiting", spec := "raceWaiting", unfollowed := true, recurses := true, apart := false, narrowed := true }
def RaceWaitingUptoSaid : Prop := raceWaitingUptoRow.holds Try.pinned (OpenSpec.upto raceWaitingSpec)

/-- 'racetreelaw18.RaceReverse', WHERE WHAT IT READS IS OF BULK AT MOST 1048576: true; the input reads as it did. -/
def raceReverseUptoRow : OpenClaim := { program := "ythooddkoldfebaa", sum := "fcff3513508e6db64e209b370ba8ed2cf53df4006bf99f2435e757160aaf79af", func := "racetree/racetreelaw18.RaceReverse", spec := "raceReverse", unfollowed := true, recurses := true, apart := false, narrowed := true }
def RaceReverseUptoSaid : Prop := raceReverseUptoRow.holds Try.pinned (OpenSpec.upto raceReverseSpec)

/-- 'racetreelaw18.RaceTurns', WHERE WHAT IT READS IS OF BULK AT MOST 1048576: true; the input reads as it did. -/
def raceTurnsUptoRow : OpenClaim := { program := "ythooddkoldfebaa", sum := "fcff3513508e6db64e209b370ba8ed2cf53df4006bf99f2435e757160aaf79af", func := "racetree/racetreelaw18.RaceTurns", spec := "raceTurns", unfollowed := true, recurses := true, apart := false, narrowed := true }
def RaceTurnsUptoSaid : Prop := raceTurnsUptoRow.holds Try.pinned (OpenSpec.upto raceTurnsSpec)

end Rows
end Go.Proofs.Ythooddkoldfebaa
