/-
  No cell of these rows narrows 'for every input' (looked for: loops, veiled, ifaces, maps, wideKeys, modest, calm, conditions, laid).
  DERIVED. THE GIVEN ROWS OF THIS SEAT. 6 by the template 'for every input the law returns true; each argument reads behind the call as it read before'; 0 by the template 'total and deterministic' (their statements: YtngmcbliihohcaaTotals.lean).
  GIVEN WITH THE SEED: the statements are not yours to turn. If you find one false, say at which input.
  Laid BY PROGRAM, IN A SANDBOX (cutbox-rows.mjs): the forced cells as the released guide's own fill.sh prints them over the translation cac7697b8b0f4652… (all of the seat's roots in one cut). By AI agents, Wed Nov 11 2026. No macro, syntax, notation, axiom, sorry.
-/
import Derived.Test.YtngmcbliihohcaaChecked
import GoSem.Claim
import GoSem.ClaimJoined
import GoSem.ClaimMapViews
import Derived.JoinedTies
import Derived.KernelRfl
namespace Go.Proofs.Ytngmcbliihohcaa
/- THE CELL 'sum', in the pinned program and in every row, IS THE sha256 OF THE DUMP (.gsa) THAT YtngmcbliihohcaaProg.lean LOADS. Nothing in Lean hashes anything: it is a label: what it is worth is what the hold of that sum in a sandbox is worth. -/
noncomputable def Try.pinned : Pinned := { name := "ytngmcbliihohcaa", sum := "cac7697b8b0f465254b346a57f1723d9bba217ba0f0b533035db47b0323c593f", checked := Try.checked }
namespace Rows
def none {H : Type} : Left H := { results := [], args := [] }

/-- 'racetreelaw13.ClockNew': WHATEVER THE INPUT: true; the input reads as it did. -/
def clockNewSpec : ChangeSpec := { name := "clockNew", fn := fun _ => fun
  | [d1, d2] => { results := [.lit (.bool true)], args := [d1, d2] }
  | _ => none }
def clockNewRow : OpenClaim := { program := "ytngmcbliihohcaa", sum := "cac7697b8b0f465254b346a57f1723d9bba217ba0f0b533035db47b0323c593f", func := "racetree/racetreelaw13.ClockNew", spec := "clockNew", apart := false }
def ClockNewSaid : Prop := clockNewRow.holds Try.pinned (OpenSpec.ofChange clockNewSpec)

/-- ITS FALSE NEIGHBOUR: 'it returns false'. Refute it at one input. -/
def clockNewWrong : ChangeSpec := { name := "clockNew", fn := fun _ => fun
  | [d1, d2] => { results := [.lit (.bool false)], args := [d1, d2] }
  | _ => none }
def ClockNewWrongFalsely : Prop := clockNewRow.holds Try.pinned (OpenSpec.ofChange clockNewWrong)

/-- 'racetreelaw17.SleepOf': WHATEVER THE INPUT: true; the input reads as it did. -/
def sleepOfSpec : ChangeSpec := { name := "sleepOf", fn := fun _ => fun
  | [d] => { results := [.lit (.bool true)], args := [d] }
  | _ => none }
def sleepOfRow : OpenClaim := { program := "ytngmcbliihohcaa", sum := "cac7697b8b0f465254b346a57f1723d9bba217ba0f0b533035db47b0323c593f", func := "racetree/racetreelaw17.SleepOf", spec := "sleepOf", apart := false }
def SleepOfSaid : Prop := sleepOfRow.holds Try.pinned (OpenSpec.ofChange sleepOfSpec)

/-- ITS FALSE NEIGHBOUR: 'it returns false'. Refute it at one input. -/
def sleepOfWrong : ChangeSpec := { name := "sleepOf", fn := fun _ => fun
  | [d] => { results := [.lit (.bool false)], args := [d] }
  | _ => none }
def SleepOfWrongFalsely : Prop := sleepOfRow.holds Try.pinned (OpenSpec.ofChange sleepOfWrong)

/-- 'racetreelaw13.ClockLeast': WHATEVER THE INPUT: true; the input reads as it did. -/
def clockLeastSpec : ChangeSpec := { name := "clockLeast", fn := fun _ => fun
  | [d1, d2, d3] => { results := [.lit (.bool true)], args := [d1, d2, d3] }
  | _ => none }
def clockLeastRow : OpenClaim := { program := "ytngmcbliihohcaa", sum := "cac7697b8b0f465254b346a57f1723d9bba217ba0f0b533035db47b0323c593f", func := "racetree/racetreelaw13.ClockLeast", spec := "clockLeast", unfollowed := true, recurses := true, apart := false }
def ClockLeastSaid : Prop := clockLeastRow.holds Try.pinned (OpenSpec.ofChange clockLeastSpec)

/-- ITS FALSE NEIGHBOUR: 'it returns false'. Refute it at one input. -/
def clockLeastWrong : ChangeSpec := { name := "clockLeast", fn := fun _ => fun
  | [d1, d2, d3] => { results := [.lit (.bool false)], args := [d1, d2, d3] }
  | _ => none }
def ClockLeastWrongFalsely : Prop := clockLeastRow.holds Try.pinned (OpenSpec.ofChange clockLeastWrong)

/-- 'racetreelaw13.ClockOrder': WHATEVER THE INPUT: true; the input reads as it did. -/
def clockOrderSpec : ChangeSpec := { name := "clockOrder", fn := fun _ => fun
  | [d1, d2, d3] => { results := [.lit (.bool true)], args := [d1, d2, d3] }
  | _ => none }
def clockOrderRow : OpenClaim := { program := "ytngmcbliihohcaa", sum := "cac7697b8b0f465254b346a57f1723d9bba217ba0f0b533035db47b0323c593f", func := "racetree/racetreelaw13.ClockOrder", spec := "clockOrder", apart := false }
def ClockOrderSaid : Prop := clockOrderRow.holds Try.pinned (OpenSpec.ofChange clockOrderSpec)

/-- ITS FALSE NEIGHBOUR: 'it returns false'. Refute it at one input. -/
def clockOrderWrong : ChangeSpec := { name := "clockOrder", fn := fun _ => fun
  | [d1, d2, d3] => { results := [.lit (.bool false)], args := [d1, d2, d3] }
  | _ => none }
def ClockOrderWrongFalsely : Prop := clockOrderRow.holds Try.pinned (OpenSpec.ofChange clockOrderWrong)

/-- 'racetreelaw13.ClockScripts': WHATEVER THE INPUT: true; the input reads as it did. -/
def clockScriptsSpec : ChangeSpec := { name := "clockScripts", fn := fun _ => fun
  | [d1, d2, d3] => { results := [.lit (.bool true)], args := [d1, d2, d3] }
  | _ => none }
def clockScriptsRow : OpenClaim := { program := "ytngmcbliihohcaa", sum := "cac7697b8b0f465254b346a57f1723d9bba217ba0f0b533035db47b0323c593f", func := "racetree/racetreelaw13.ClockScripts", spec := "clockScripts", unfollowed := true, recurses := true, apart := false }
def ClockScriptsSaid : Prop := clockScriptsRow.holds Try.pinned (OpenSpec.ofChange clockScriptsSpec)

/-- ITS FALSE NEIGHBOUR: 'it returns false'. Refute it at one input. -/
def clockScriptsWrong : ChangeSpec := { name := "clockScripts", fn := fun _ => fun
  | [d1, d2, d3] => { results := [.lit (.bool false)], args := [d1, d2, d3] }
  | _ => none }
def ClockScriptsWrongFalsely : Prop := clockScriptsRow.holds Try.pinned (OpenSpec.ofChange clockScriptsWrong)

/-- 'racetreelaw19.SourceInitials': WHATEVER THE INPUT: true; the input reads as it did. -/
def sourceInitialsSpec : ChangeSpec := { name := "sourceInitials", fn := fun _ => fun
  | [d] => { results := [.lit (.bool true)], args := [d] }
  | _ => none }
def sourceInitialsRow : OpenClaim := { program := "ytngmcbliihohcaa", sum := "cac7697b8b0f465254b346a57f1723d9bba217ba0f0b533035db47b0323c593f", func := "racetree/racetreelaw19.SourceInitials", spec := "sourceInitials", unfollowed := true, recurses := true, apart := false }
def SourceInitialsSaid : Prop := sourceInitialsRow.holds Try.pinned (OpenSpec.ofChange sourceInitialsSpec)

/-- ITS FALSE NEIGHBOUR: 'it returns false'. Refute it at one input. -/
def sourceInitialsWrong : ChangeSpec := { name := "sourceInitials", fn := fun _ => fun
  | [d] => { results := [.lit (.bool false)], args := [d] }
  | _ => none }
def SourceInitialsWrongFalsely : Prop := sourceInitialsRow.holds Try.pinned (OpenSpec.ofChange sourceInitialsWrong)

/- THE SECOND FORM. 'bulk': how many values and letters a reading holds, each counted each time it is reached (what is shared counts as often as it is met; a slice's spare places count too). A statement '..UptoSaid' is the law's where the arguments, and the package variables that the reading takes, are together of bulk at most 1048576: NARROWER than '..Said'. Prove '..Said' where nothing that the law and all that it calls make is longer than what came in: it says more and counts as full. Else prove '..UptoSaid'. A law counts once. -/
mutual
def uptoBulk {H : Type} : DataW H → Nat
  | .lit (.string bytes) => bytes.length + 1
  | .lit _ => 1
  | .nil => 1
  | .ptr d => uptoBulk d + 1
  | .slice elems spare => uptoBulkAll elems + uptoBulkAll spare + 1
  | .agg parts => uptoBulkAll parts + 1
  | .iface _ d => uptoBulk d + 1
  | .map entries => uptoBulkEntries entries + 1
  | .held _ => 1
def uptoBulkAll {H : Type} : List (DataW H) → Nat
  | [] => 0
  | d :: r => uptoBulk d + uptoBulkAll r
def uptoBulkEntries {H : Type} : List (Lit × DataW H) → Nat
  | [] => 0
  | x :: r => uptoBulkEntry x + uptoBulkEntries r
def uptoBulkEntry {H : Type} : Lit × DataW H → Nat
  | (.string bytes, d) => bytes.length + uptoBulk d + 1
  | (_, d) => uptoBulk d + 1
 end
def uptoSmall : (H : Type) → List (DataW H) → Bool := fun _ ds => decide (uptoBulkAll ds ≤ 1048576)
def OpenSpec.upto (s : _root_.Go.ChangeSpec) : _root_.Go.OpenSpec := { _root_.Go.OpenSpec.ofChange s with cond := some uptoSmall }

/-- 'racetreelaw13.ClockNew', WHERE WHAT IT READS IS OF BULK AT MOST 1048576: true; the input reads as it did. -/
def clockNewUptoRow : OpenClaim := { program := "ytngmcbliihohcaa", sum := "cac7697b8b0f465254b346a57f1723d9bba217ba0f0b533035db47b0323c593f", func := "racetree/racetreelaw13.ClockNew", spec := "clockNew", apart := false, narrowed := true }
def ClockNewUptoSaid : Prop := clockNewUptoRow.holds Try.pinned (OpenSpec.upto clockNewSpec)

/-- 'racetreelaw17.SleepOf', WHERE WHAT IT READS IS OF BULK AT MOST 1048576: true; the input reads as it did. -/
def sleepOfUptoRow : OpenClaim := { program := "ytngmcbliihohcaa", sum := "cac7697b8b0f465254b346a57f1723d9bba217ba0f0b533035db47b0323c593f", func := "racetree/racetreelaw17.SleepOf", spec := "sleepOf", apart := false, narrowed := true }
def SleepOfUptoSaid : Prop := sleepOfUptoRow.holds Try.pinned (OpenSpec.upto sleepOfSpec)

/-- 'racetreelaw13.ClockLeast', WHERE WHAT IT READS IS OF BULK AT MOST 1048576: true; the input reads as it did. -/
def clockLeastUptoRow : OpenClaim := { program := "ytngmcbliihohcaa", sum := "cac7697b8b0f465254b346a57f1723d9bba217ba0f0b533035db47b0323c593f", func := "racetree/racetreelaw13.ClockLeast", spec := "clockLeast", unfollowed := true, recurses := true, apart := false, narrowed := true }
def ClockLeastUptoSaid : Prop := clockLeastUptoRow.holds Try.pinned (OpenSpec.upto clockLeastSpec)

/-- 'racetreelaw13.ClockOrder', WHERE WHAT IT READS IS OF BULK AT MOST 1048576: true; the input reads as it did. -/
def clockOrderUptoRow : OpenClaim := { program := "ytngmcbliihohcaa", sum := "cac7697b8b0f465254b346a57f1723d9bba217ba0f0b533035db47b0323c593f", func := "racetree/racetreelaw13.ClockOrder", spec := "clockOrder", apart := false, narrowed := true }
def ClockOrderUptoSaid : Prop := clockOrderUptoRow.holds Try.pinned (OpenSpec.upto clockOrderSpec)

/-- 'racetreelaw13.ClockScripts', WHERE WHAT IT READS IS OF BULK AT MOST 1048576: true; the input reads as it did. -/
def clockScriptsUptoRow : OpenClaim := { program := "ytngmcbliihohcaa", sum := "cac7697b8b0f465254b346a57f1723d9bba217ba0f0b533035db47b0323c593f", func := "racetree/racetreelaw13.ClockScripts", spec := "clockScripts", unfollowed := true, recurses := true, apart := false, narrowed := true }
def ClockScriptsUptoSaid : Prop := clockScriptsUptoRow.holds Try.pinned (OpenSpec.upto clockScriptsSpec)

/-- 'racetreelaw19.SourceInitials', WHERE WHAT IT READS IS OF BULK AT MOST 1048576: true; the input reads as it did. -/
def sourceInitialsUptoRow : OpenClaim := { program := "ytngmcbliihohcaa", sum := "cac7697b8b0f465254b346a57f1723d9bba217ba0f0b533035db47b0323c593f", func := "racetree/racetreelaw19.SourceInitials", spec := "sourceInitials", unfollowed := true, recurses := true, apart := false, narrowed := true }
def SourceInitialsUptoSaid : Prop := sourceInitialsUptoRow.holds Try.pinned (OpenSpec.upto sourceInitialsSpec)

end Rows
end Go.Proofs.Ytngmcbliihohcaa
