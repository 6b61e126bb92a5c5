/-
  No cell of these rows narrows 'for every input' (looked for: loops, veiled, ifaces, maps, wideKeys, modest, calm, conditions, laid).
  DERIVED. THE GIVEN ROWS OF THIS SEAT. 12 by the template 'for every input the law returns true; each argument reads behind the call as it read before'; 0 by the template 'total and deterministic' (their statements: YtejcpjhepkhihaaTotals.lean).
  GIVEN WITH THE SEED: the statements are not yours to turn. If you find one false, say at which input.
  Laid BY PROGRAM, IN A SANDBOX (cutbox-rows.mjs): the forced cells as the released guide's own fill.sh prints them over the translation e6cd99c50d3550e2… (all of the seat's roots in one cut). By AI agents, Wed Nov 11 2026. No macro, syntax, notation, axiom, sorry.
-/
import Derived.Test.YtejcpjhepkhihaaChecked
import GoSem.Claim
import GoSem.ClaimJoined
import GoSem.ClaimMapViews
import Derived.JoinedTies
import Derived.KernelRfl
namespace Go.Proofs.Ytejcpjhepkhihaa
/- THE CELL 'sum', in the pinned program and in every row, IS THE sha256 OF THE DUMP (.gsa) THAT YtejcpjhepkhihaaProg.lean LOADS. Nothing in Lean hashes anything: it is a label: what it is worth is what the hold of that sum in a sandbox is worth. -/
noncomputable def Try.pinned : Pinned := { name := "ytejcpjhepkhihaa", sum := "e6cd99c50d3550e274424e364a9589be37bba6e1a992aad53f001abb38d5a062", checked := Try.checked }
namespace Rows
def none {H : Type} : Left H := { results := [], args := [] }

/-- 'racetreelaw15.ConflictClash': WHATEVER THE INPUT: true; the input reads as it did. -/
def conflictClashSpec : ChangeSpec := { name := "conflictClash", fn := fun _ => fun
  | [d1, d2] => { results := [.lit (.bool true)], args := [d1, d2] }
  | _ => none }
def conflictClashRow : OpenClaim := { program := "ytejcpjhepkhihaa", sum := "e6cd99c50d3550e274424e364a9589be37bba6e1a992aad53f001abb38d5a062", func := "racetree/racetreelaw15.ConflictClash", spec := "conflictClash", apart := false }
def ConflictClashSaid : Prop := conflictClashRow.holds Try.pinned (OpenSpec.ofChange conflictClashSpec)

/-- ITS FALSE NEIGHBOUR: 'it returns false'. Refute it at one input. -/
def conflictClashWrong : ChangeSpec := { name := "conflictClash", fn := fun _ => fun
  | [d1, d2] => { results := [.lit (.bool false)], args := [d1, d2] }
  | _ => none }
def ConflictClashWrongFalsely : Prop := conflictClashRow.holds Try.pinned (OpenSpec.ofChange conflictClashWrong)

/-- 'racetreelaw12.EventRight': WHATEVER THE INPUT: true; the input reads as it did. -/
def eventRightSpec : ChangeSpec := { name := "eventRight", fn := fun _ => fun
  | [d] => { results := [.lit (.bool true)], args := [d] }
  | _ => none }
def eventRightRow : OpenClaim := { program := "ytejcpjhepkhihaa", sum := "e6cd99c50d3550e274424e364a9589be37bba6e1a992aad53f001abb38d5a062", func := "racetree/racetreelaw12.EventRight", spec := "eventRight", apart := false }
def EventRightSaid : Prop := eventRightRow.holds Try.pinned (OpenSpec.ofChange eventRightSpec)

/-- ITS FALSE NEIGHBOUR: 'it returns false'. Refute it at one input. -/
def eventRightWrong : ChangeSpec := { name := "eventRight", fn := fun _ => fun
  | [d] => { results := [.lit (.bool false)], args := [d] }
  | _ => none }
def EventRightWrongFalsely : Prop := eventRightRow.holds Try.pinned (OpenSpec.ofChange eventRightWrong)

/-- 'racetreelaw12.EventDepends': WHATEVER THE INPUT: true; the input reads as it did. -/
def eventDependsSpec : ChangeSpec := { name := "eventDepends", fn := fun _ => fun
  | [d1, d2] => { results := [.lit (.bool true)], args := [d1, d2] }
  | _ => none }
def eventDependsRow : OpenClaim := { program := "ytejcpjhepkhihaa", sum := "e6cd99c50d3550e274424e364a9589be37bba6e1a992aad53f001abb38d5a062", func := "racetree/racetreelaw12.EventDepends", spec := "eventDepends", unfollowed := true, recurses := true, apart := false }
def EventDependsSaid : Prop := eventDependsRow.holds Try.pinned (OpenSpec.ofChange eventDependsSpec)

/-- ITS FALSE NEIGHBOUR: 'it returns false'. Refute it at one input. -/
def eventDependsWrong : ChangeSpec := { name := "eventDepends", fn := fun _ => fun
  | [d1, d2] => { results := [.lit (.bool false)], args := [d1, d2] }
  | _ => none }
def EventDependsWrongFalsely : Prop := eventDependsRow.holds Try.pinned (OpenSpec.ofChange eventDependsWrong)

/-- 'racetreelaw12.EventCan': WHATEVER THE INPUT: true; the input reads as it did. -/
def eventCanSpec : ChangeSpec := { name := "eventCan", fn := fun _ => fun
  | [d1, d2, d3] => { results := [.lit (.bool true)], args := [d1, d2, d3] }
  | _ => none }
def eventCanRow : OpenClaim := { program := "ytejcpjhepkhihaa", sum := "e6cd99c50d3550e274424e364a9589be37bba6e1a992aad53f001abb38d5a062", func := "racetree/racetreelaw12.EventCan", spec := "eventCan", apart := false }
def EventCanSaid : Prop := eventCanRow.holds Try.pinned (OpenSpec.ofChange eventCanSpec)

/-- ITS FALSE NEIGHBOUR: 'it returns false'. Refute it at one input. -/
def eventCanWrong : ChangeSpec := { name := "eventCan", fn := fun _ => fun
  | [d1, d2, d3] => { results := [.lit (.bool false)], args := [d1, d2, d3] }
  | _ => none }
def EventCanWrongFalsely : Prop := eventCanRow.holds Try.pinned (OpenSpec.ofChange eventCanWrong)

/-- 'racetreelaw12.EventAdds': WHATEVER THE INPUT: true; the input reads as it did. -/
def eventAddsSpec : ChangeSpec := { name := "eventAdds", fn := fun _ => fun
  | [d] => { results := [.lit (.bool true)], args := [d] }
  | _ => none }
def eventAddsRow : OpenClaim := { program := "ytejcpjhepkhihaa", sum := "e6cd99c50d3550e274424e364a9589be37bba6e1a992aad53f001abb38d5a062", func := "racetree/racetreelaw12.EventAdds", spec := "eventAdds", apart := false }
def EventAddsSaid : Prop := eventAddsRow.holds Try.pinned (OpenSpec.ofChange eventAddsSpec)

/-- ITS FALSE NEIGHBOUR: 'it returns false'. Refute it at one input. -/
def eventAddsWrong : ChangeSpec := { name := "eventAdds", fn := fun _ => fun
  | [d] => { results := [.lit (.bool false)], args := [d] }
  | _ => none }
def EventAddsWrongFalsely : Prop := eventAddsRow.holds Try.pinned (OpenSpec.ofChange eventAddsWrong)

/-- 'racetreelaw12.EventAccess': WHATEVER THE INPUT: true; the input reads as it did. -/
def eventAccessSpec : ChangeSpec := { name := "eventAccess", fn := fun _ => fun
  | [d] => { results := [.lit (.bool true)], args := [d] }
  | _ => none }
def eventAccessRow : OpenClaim := { program := "ytejcpjhepkhihaa", sum := "e6cd99c50d3550e274424e364a9589be37bba6e1a992aad53f001abb38d5a062", func := "racetree/racetreelaw12.EventAccess", spec := "eventAccess", unfollowed := true, recurses := true, apart := false }
def EventAccessSaid : Prop := eventAccessRow.holds Try.pinned (OpenSpec.ofChange eventAccessSpec)

/-- ITS FALSE NEIGHBOUR: 'it returns false'. Refute it at one input. -/
def eventAccessWrong : ChangeSpec := { name := "eventAccess", fn := fun _ => fun
  | [d] => { results := [.lit (.bool false)], args := [d] }
  | _ => none }
def EventAccessWrongFalsely : Prop := eventAccessRow.holds Try.pinned (OpenSpec.ofChange eventAccessWrong)

/-- 'racetreelaw12.EventMust': WHATEVER THE INPUT: true; the input reads as it did. -/
def eventMustSpec : ChangeSpec := { name := "eventMust", fn := fun _ => fun
  | [d1, d2] => { results := [.lit (.bool true)], args := [d1, d2] }
  | _ => none }
def eventMustRow : OpenClaim := { program := "ytejcpjhepkhihaa", sum := "e6cd99c50d3550e274424e364a9589be37bba6e1a992aad53f001abb38d5a062", func := "racetree/racetreelaw12.EventMust", spec := "eventMust", unfollowed := true, recurses := true, apart := false }
def EventMustSaid : Prop := eventMustRow.holds Try.pinned (OpenSpec.ofChange eventMustSpec)

/-- ITS FALSE NEIGHBOUR: 'it returns false'. Refute it at one input. -/
def eventMustWrong : ChangeSpec := { name := "eventMust", fn := fun _ => fun
  | [d1, d2] => { results := [.lit (.bool false)], args := [d1, d2] }
  | _ => none }
def EventMustWrongFalsely : Prop := eventMustRow.holds Try.pinned (OpenSpec.ofChange eventMustWrong)

/-- 'racetreelaw12.EventTries': WHATEVER THE INPUT: true; the input reads as it did. -/
def eventTriesSpec : ChangeSpec := { name := "eventTries", fn := fun _ => fun
  | [d1, d2, d3] => { results := [.lit (.bool true)], args := [d1, d2, d3] }
  | _ => none }
def eventTriesRow : OpenClaim := { program := "ytejcpjhepkhihaa", sum := "e6cd99c50d3550e274424e364a9589be37bba6e1a992aad53f001abb38d5a062", func := "racetree/racetreelaw12.EventTries", spec := "eventTries", apart := false }
def EventTriesSaid : Prop := eventTriesRow.holds Try.pinned (OpenSpec.ofChange eventTriesSpec)

/-- ITS FALSE NEIGHBOUR: 'it returns false'. Refute it at one input. -/
def eventTriesWrong : ChangeSpec := { name := "eventTries", fn := fun _ => fun
  | [d1, d2, d3] => { results := [.lit (.bool false)], args := [d1, d2, d3] }
  | _ => none }
def EventTriesWrongFalsely : Prop := eventTriesRow.holds Try.pinned (OpenSpec.ofChange eventTriesWrong)

/-- 'racetreelaw12.EventOf': WHATEVER THE INPUT: true; the input reads as it did. -/
def eventOfSpec : ChangeSpec := { name := "eventOf", fn := fun _ => fun
  | [d] => { results := [.lit (.bool true)], args := [d] }
  | _ => none }
def eventOfRow : OpenClaim := { program := "ytejcpjhepkhihaa", sum := "e6cd99c50d3550e274424e364a9589be37bba6e1a992aad53f001abb38d5a062", func := "racetree/racetreelaw12.EventOf", spec := "eventOf", apart := false }
def EventOfSaid : Prop := eventOfRow.holds Try.pinned (OpenSpec.ofChange eventOfSpec)

/-- ITS FALSE NEIGHBOUR: 'it returns false'. Refute it at one input. -/
def eventOfWrong : ChangeSpec := { name := "eventOf", fn := fun _ => fun
  | [d] => { results := [.lit (.bool false)], args := [d] }
  | _ => none }
def EventOfWrongFalsely : Prop := eventOfRow.holds Try.pinned (OpenSpec.ofChange eventOfWrong)

/-- 'racetreelaw12.EventCopies': WHATEVER THE INPUT: true; the input reads as it did. -/
def eventCopiesSpec : ChangeSpec := { name := "eventCopies", fn := fun _ => fun
  | [d1, d2] => { results := [.lit (.bool true)], args := [d1, d2] }
  | _ => none }
def eventCopiesRow : OpenClaim := { program := "ytejcpjhepkhihaa", sum := "e6cd99c50d3550e274424e364a9589be37bba6e1a992aad53f001abb38d5a062", func := "racetree/racetreelaw12.EventCopies", spec := "eventCopies", apart := false }
def EventCopiesSaid : Prop := eventCopiesRow.holds Try.pinned (OpenSpec.ofChange eventCopiesSpec)

/-- ITS FALSE NEIGHBOUR: 'it returns false'. Refute it at one input. -/
def eventCopiesWrong : ChangeSpec := { name := "eventCopies", fn := fun _ => fun
  | [d1, d2] => { results := [.lit (.bool false)], args := [d1, d2] }
  | _ => none }
def EventCopiesWrongFalsely : Prop := eventCopiesRow.holds Try.pinned (OpenSpec.ofChange eventCopiesWrong)

/-- 'racetreelaw12.EventLeaves': WHATEVER THE INPUT: true; the input reads as it did. -/
def eventLeavesSpec : ChangeSpec := { name := "eventLeaves", fn := fun _ => fun
  | [d1, d2, d3] => { results := [.lit (.bool true)], args := [d1, d2, d3] }
  | _ => none }
def eventLeavesRow : OpenClaim := { program := "ytejcpjhepkhihaa", sum := "e6cd99c50d3550e274424e364a9589be37bba6e1a992aad53f001abb38d5a062", func := "racetree/racetreelaw12.EventLeaves", spec := "eventLeaves", unfollowed := true, recurses := true, apart := false }
def EventLeavesSaid : Prop := eventLeavesRow.holds Try.pinned (OpenSpec.ofChange eventLeavesSpec)

/-- ITS FALSE NEIGHBOUR: 'it returns false'. Refute it at one input. -/
def eventLeavesWrong : ChangeSpec := { name := "eventLeaves", fn := fun _ => fun
  | [d1, d2, d3] => { results := [.lit (.bool false)], args := [d1, d2, d3] }
  | _ => none }
def EventLeavesWrongFalsely : Prop := eventLeavesRow.holds Try.pinned (OpenSpec.ofChange eventLeavesWrong)

/-- 'racetreelaw12.EventExchanges': WHATEVER THE INPUT: true; the input reads as it did. -/
def eventExchangesSpec : ChangeSpec := { name := "eventExchanges", fn := fun _ => fun
  | [d1, d2] => { results := [.lit (.bool true)], args := [d1, d2] }
  | _ => none }
def eventExchangesRow : OpenClaim := { program := "ytejcpjhepkhihaa", sum := "e6cd99c50d3550e274424e364a9589be37bba6e1a992aad53f001abb38d5a062", func := "racetree/racetreelaw12.EventExchanges", spec := "eventExchanges", unfollowed := true, recurses := true, apart := false }
def EventExchangesSaid : Prop := eventExchangesRow.holds Try.pinned (OpenSpec.ofChange eventExchangesSpec)

/-- ITS FALSE NEIGHBOUR: 'it returns false'. Refute it at one input. -/
def eventExchangesWrong : ChangeSpec := { name := "eventExchanges", fn := fun _ => fun
  | [d1, d2] => { results := [.lit (.bool false)], args := [d1, d2] }
  | _ => none }
def EventExchangesWrongFalsely : Prop := eventExchangesRow.holds Try.pinned (OpenSpec.ofChange eventExchangesWrong)

/- THE SECOND FORM. 'bulk': how many values and letters a reading holds, each counted each time it is reached (what is shared counts as often as it is met; a slice's spare places count too). A statement '..UptoSaid' is the law's where the arguments, and the package variables that the reading takes, are together of bulk at most 1048576: NARROWER than '..Said'. Prove '..Said' where nothing that the law and all that it calls make is longer than what came in: it says more and counts as full. Else prove '..UptoSaid'. A law counts once. -/
mutual
def uptoBulk {H : Type} : DataW H → Nat
  | .lit (.string bytes) => bytes.length + 1
  | .lit _ => 1
  | .nil => 1
  | .ptr d => uptoBulk d + 1
  | .slice elems spare => uptoBulkAll elems + uptoBulkAll spare + 1
  | .agg parts => uptoBulkAll parts + 1
  | .iface _ d => uptoBulk d + 1
  | .map entries => uptoBulkEntries entries + 1
  | .held _ => 1
def uptoBulkAll {H : Type} : List (DataW H) → Nat
  | [] => 0
  | d :: r => uptoBulk d + uptoBulkAll r
def uptoBulkEntries {H : Type} : List (Lit × DataW H) → Nat
  | [] => 0
  | x :: r => uptoBulkEntry x + uptoBulkEntries r
def uptoBulkEntry {H : Type} : Lit × DataW H → Nat
  | (.string bytes, d) => bytes.length + uptoBulk d + 1
  | (_, d) => uptoBulk d + 1
 end
def uptoSmall : (H : Type) → List (DataW H) → Bool := fun _ ds => decide (uptoBulkAll ds ≤ 1048576)
def OpenSpec.upto (s : _root_.Go.ChangeSpec) : _root_.Go.OpenSpec := { _root_.Go.OpenSpec.ofChange s with cond := some uptoSmall }

/-- 'racetreelaw15.ConflictClash', WHERE WHAT IT READS IS OF BULK AT MOST 1048576: true; the input reads as it did. -/
def conflictClashUptoRow : OpenClaim := { program := "ytejcpjhepkhihaa", sum := "e6cd99c50d3550e274424e364a9589be37bba6e1a992aad53f001abb38d5a062", func := "racetree/racetreelaw15.ConflictClash", spec := "conflictClash", apart := false, narrowed := true }
def ConflictClashUptoSaid : Prop := conflictClashUptoRow.holds Try.pinned (OpenSpec.upto conflictClashSpec)

/-- 'racetreelaw12.EventRight', WHERE WHAT IT READS IS OF BULK AT MOST 1048576: true; the input reads as it did. -/
def eventRightUptoRow : OpenClaim := { program := "ytejcpjhepkhihaa", sum := "e6cd99c50d3550e274424e364a9589be37bba6e1a992aad53f001abb38d5a062", func := "racetree/racetreelaw12.EventRight", spec := "eventRight", apart := false, narrowed := true }
def EventRightUptoSaid : Prop := eventRightUptoRow.holds Try.pinned (OpenSpec.upto eventRightSpec)

/-- 'racetreelaw12.EventDepends', WHERE WHAT IT READS IS OF BULK AT MOST 1048576: true; the input reads as it did. -/
def eventDependsUptoRow : OpenClaim := { program := "ytejcpjhepkhihaa", sum := "e6cd99c50d3550e274424e364a9589be37bba6e1a992aad53f001abb38d5a062", func := "racetree/racetreelaw12.EventDepends", spec := "eventDepends", unfollowed := true, recurses := true, apart := false, narrowed := true }
def EventDependsUptoSaid : Prop := eventDependsUptoRow.holds Try.pinned (OpenSpec.upto eventDependsSpec)

/-- 'racetreelaw12.EventCan', WHERE WHAT IT READS IS OF BULK AT MOST 1048576: true; the input reads as it did. -/
def eventCanUptoRow : OpenClaim := { program := "ytejcpjhepkhihaa", sum := "e6cd99c50d3550e274424e364a9589be37bba6e1a992aad53f001abb38d5a062", func := "racetree/racetreelaw12.EventCan", spec := "eventCan", apart := false, narrowed := true }
def EventCanUptoSaid : Prop := eventCanUptoRow.holds Try.pinned (OpenSpec.upto eventCanSpec)

/-- 'racetreelaw12.EventAdds', WHERE WHAT IT READS IS OF BULK AT MOST 1048576: true; the input reads as it did. -/
def eventAddsUptoRow : OpenClaim := { program := "ytejcpjhepkhihaa", sum := "e6cd99c50d3550e274424e364a9589be37bba6e1a992aad53f001abb38d5a062", func := "racetree/racetreelaw12.EventAdds", spec := "eventAdds", apart := false, narrowed := true }
def EventAddsUptoSaid : Prop := eventAddsUptoRow.holds Try.pinned (OpenSpec.upto eventAddsSpec)

/-- 'racetreelaw12.EventAccess', WHERE WHAT IT READS IS OF BULK AT MOST 1048576: true; the input reads as it did. -/
def eventAccessUptoRow : OpenClaim := { program := "ytejcpjhepkhihaa", sum := "e6cd99c50d3550e274424e364a9589be37bba6e1a992aad53f001abb38d5a062", func := "racetree/racetreelaw12.EventAccess", spec := "eventAccess", unfollowed := true, recurses := true, apart := false, narrowed := true }
def EventAccessUptoSaid : Prop := eventAccessUptoRow.holds Try.pinned (OpenSpec.upto eventAccessSpec)

/-- 'racetreelaw12.EventMust', WHERE WHAT IT READS IS OF BULK AT MOST 1048576: true; the input reads as it did. -/
def eventMustUptoRow : OpenClaim := { program := "ytejcpjhepkhihaa", sum := "e6cd99c50d3550e274424e364a9589be37bba6e1a992aad53f001abb38d5a062", func := "racetree/racetreelaw12.EventMust", spec := "eventMust", unfollowed := true, recurses := true, apart := false, narrowed := true }
def EventMustUptoSaid : Prop := eventMustUptoRow.holds Try.pinned (OpenSpec.upto eventMustSpec)

/-- 'racetreelaw12.EventTries', WHERE WHAT IT READS IS OF BULK AT MOST 1048576: true; the input reads as it did. -/
def eventTriesUptoRow : OpenClaim := { program := "ytejcpjhepkhihaa", sum := "e6cd99c50d3550e274424e364a9589be37bba6e1a992aad53f001abb38d5a062", func := "racetree/racetreelaw12.EventTries", spec := "eventTries", apart := false, narrowed := true }
def EventTriesUptoSaid : Prop := eventTriesUptoRow.holds Try.pinned (OpenSpec.upto eventTriesSpec)

/-- 'racetreelaw12.EventOf', WHERE WHAT IT READS IS OF BULK AT MOST 1048576: true; the input reads as it did. -/
def eventOfUptoRow : OpenClaim := { program := "ytejcpjhepkhihaa", sum := "e6cd99c50d3550e274424e364a9589be37bba6e1a992aad53f001abb38d5a062", func := "racetree/racetreelaw12.EventOf", spec := "eventOf", apart := false, narrowed := true }
def EventOfUptoSaid : Prop := eventOfUptoRow.holds Try.pinned (OpenSpec.upto eventOfSpec)

/-- 'racetreelaw12.EventCopies', WHERE WHAT IT READS IS OF BULK AT MOST 1048576: true; the input reads as it did. -/
def eventCopiesUptoRow : OpenClaim := { program := "ytejcpjhepkhihaa", sum := "e6cd99c50d3550e274424e364a9589be37bba6e1a992aad53f001abb38d5a062", func := "racetree/racetreelaw12.EventCopies", spec := "eventCopies", apart := false, narrowed := true }
def EventCopiesUptoSaid : Prop := eventCopiesUptoRow.holds Try.pinned (OpenSpec.upto eventCopiesSpec)

/-- 'racetreelaw12.EventLeaves', WHERE WHAT IT READS IS OF BULK AT MOST 1048576: true; the input reads as it did. -/
def eventLeavesUptoRow : OpenClaim := { program := "ytejcpjhepkhihaa", sum := "e6cd99c50d3550e274424e364a9589be37bba6e1a992aad53f001abb38d5a062", func := "racetree/racetreelaw12.EventLeaves", spec := "eventLeaves", unfollowed := true, recurses := true, apart := false, narrowed := true }
def EventLeavesUptoSaid : Prop := eventLeavesUptoRow.holds Try.pinned (OpenSpec.upto eventLeavesSpec)

/-- 'racetreelaw12.EventExchanges', WHERE WHAT IT READS IS OF BULK AT MOST 1048576: true; the input reads as it did. -/
def eventExchangesUptoRow : OpenClaim := { program := "ytejcpjhepkhihaa", sum := "e6cd99c50d3550e274424e364a9589be37bba6e1a992aad53f001abb38d5a062", func := "racetree/racetreelaw12.EventExchanges", spec := "eventExchanges", unfollowed := true, recurses := true, apart := false, narrowed := true }
def EventExchangesUptoSaid : Prop := eventExchangesUptoRow.holds Try.pinned (OpenSpec.upto eventExchangesSpec)

end Rows
end Go.Proofs.Ytejcpjhepkhihaa
