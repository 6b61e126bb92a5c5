/-
  No cell of these rows narrows 'for every input' (looked for: loops, veiled, ifaces, maps, wideKeys, modest, calm, conditions, laid).
  DERIVED. THE GIVEN ROWS OF THIS SEAT. 3 by the template 'for every input the law returns true; each argument reads behind the call as it read before'; 0 by the template 'total and deterministic' (their statements: YtadngicebbnnlaaGreatTotals.lean).
  GIVEN WITH THE SEED: the statements are not yours to turn. If you find one false, say at which input.
  Laid BY PROGRAM, IN A SANDBOX (cutbox-rows.mjs): the forced cells as the released guide's own fill.sh prints them over the translation 375303b25792f9e4… (all of the seat's roots in one cut). By AI agents, Wed Nov 11 2026. No macro, syntax, notation, axiom, sorry.
-/
import Derived.Test.YtadngicebbnnlaaGreatChecked
import GoSem.Claim
import GoSem.ClaimJoined
import GoSem.ClaimMapViews
import Derived.JoinedTies
import Derived.KernelRfl
namespace Go.Proofs.YtadngicebbnnlaaGreat
/- THE CELL 'sum', in the pinned program and in every row, IS THE sha256 OF THE DUMP (.gsa) THAT YtadngicebbnnlaaGreatProg.lean LOADS. Nothing in Lean hashes anything: it is a label: what it is worth is what the hold of that sum in a sandbox is worth. -/
noncomputable def Tryz.pinned : Pinned := { name := "ytadngicebbnnlaagreat", sum := "375303b25792f9e4c46c3d2c0c7d94bd96f676beca323a9bbbd4534e292f6579", checked := Tryz.checked }
namespace Rows
def none {H : Type} : Left H := { results := [], args := [] }

/-- 'racetreelaw15.ConflictFirst': WHATEVER THE INPUT: true; the input reads as it did. -/
def conflictFirstSpec : ChangeSpec := { name := "conflictFirst", fn := fun _ => fun
  | [d] => { results := [.lit (.bool true)], args := [d] }
  | _ => none }
def conflictFirstRow : OpenClaim := { program := "ytadngicebbnnlaagreat", sum := "375303b25792f9e4c46c3d2c0c7d94bd96f676beca323a9bbbd4534e292f6579", func := "racetree/racetreelaw15.ConflictFirst", spec := "conflictFirst", unfollowed := true, recurses := true, plainKeys := false, apart := false }
def ConflictFirstSaid : Prop := conflictFirstRow.holds Tryz.pinned (OpenSpec.ofChange conflictFirstSpec)

/-- ITS FALSE NEIGHBOUR: 'it returns false'. Refute it at one input. -/
def conflictFirstWrong : ChangeSpec := { name := "conflictFirst", fn := fun _ => fun
  | [d] => { results := [.lit (.bool false)], args := [d] }
  | _ => none }
def ConflictFirstWrongFalsely : Prop := conflictFirstRow.holds Tryz.pinned (OpenSpec.ofChange conflictFirstWrong)

/-- 'racetreelaw21.FindOf': WHATEVER THE INPUT: true; the input reads as it did. -/
def findOfSpec : ChangeSpec := { name := "findOf", fn := fun _ => fun
  | [d1, d2] => { results := [.lit (.bool true)], args := [d1, d2] }
  | _ => none }
def findOfRow : OpenClaim := { program := "ytadngicebbnnlaagreat", sum := "375303b25792f9e4c46c3d2c0c7d94bd96f676beca323a9bbbd4534e292f6579", func := "racetree/racetreelaw21.FindOf", spec := "findOf", unfollowed := true, recurses := true, plainKeys := false, apart := false }
def FindOfSaid : Prop := findOfRow.holds Tryz.pinned (OpenSpec.ofChange findOfSpec)

/-- ITS FALSE NEIGHBOUR: 'it returns false'. Refute it at one input. -/
def findOfWrong : ChangeSpec := { name := "findOf", fn := fun _ => fun
  | [d1, d2] => { results := [.lit (.bool false)], args := [d1, d2] }
  | _ => none }
def FindOfWrongFalsely : Prop := findOfRow.holds Tryz.pinned (OpenSpec.ofChange findOfWrong)

/-- 'racetreelaw21.FindStays': WHATEVER THE INPUT: true; the input reads as it did. -/
def findStaysSpec : ChangeSpec := { name := "findStays", fn := fun _ => fun
  | [d1, d2, d3] => { results := [.lit (.bool true)], args := [d1, d2, d3] }
  | _ => none }
def findStaysRow : OpenClaim := { program := "ytadngicebbnnlaagreat", sum := "375303b25792f9e4c46c3d2c0c7d94bd96f676beca323a9bbbd4534e292f6579", func := "racetree/racetreelaw21.FindStays", spec := "findStays", unfollowed := true, recurses := true, plainKeys := false, apart := false }
def FindStaysSaid : Prop := findStaysRow.holds Tryz.pinned (OpenSpec.ofChange findStaysSpec)

/-- ITS FALSE NEIGHBOUR: 'it returns false'. Refute it at one input. -/
def findStaysWrong : ChangeSpec := { name := "findStays", fn := fun _ => fun
  | [d1, d2, d3] => { results := [.lit (.bool false)], args := [d1, d2, d3] }
  | _ => none }
def FindStaysWrongFalsely : Prop := findStaysRow.holds Tryz.pinned (OpenSpec.ofChange findStaysWrong)

/- THE SECOND FORM. 'bulk': how many values and letters a reading holds, each counted each time it is reached (what is shared counts as often as it is met; a slice's spare places count too). A statement '..UptoSaid' is the law's where the arguments, and the package variables that the reading takes, are together of bulk at most 1048576: NARROWER than '..Said'. Prove '..Said' where nothing that the law and all that it calls make is longer than what came in: it says more and counts as full. Else prove '..UptoSaid'. A law counts once. -/
mutual
def uptoBulk {H : Type} : DataW H → Nat
  | .lit (.string bytes) => bytes.length + 1
  | .lit _ => 1
  | .nil => 1
  | .ptr d => uptoBulk d + 1
  | .slice elems spare => uptoBulkAll elems + uptoBulkAll spare + 1
  | .agg parts => uptoBulkAll parts + 1
  | .iface _ d => uptoBulk d + 1
  | .map entries => uptoBulkEntries entries + 1
  | .held _ => 1
def uptoBulkAll {H : Type} : List (DataW H) → Nat
  | [] => 0
  | d :: r => uptoBulk d + uptoBulkAll r
def uptoBulkEntries {H : Type} : List (Lit × DataW H) → Nat
  | [] => 0
  | x :: r => uptoBulkEntry x + uptoBulkEntries r
def uptoBulkEntry {H : Type} : Lit × DataW H → Nat
  | (.string bytes, d) => bytes.length + uptoBulk d + 1
  | (_, d) => uptoBulk d + 1
 end
def uptoSmall : (H : Type) → List (DataW H) → Bool := fun _ ds => decide (uptoBulkAll ds ≤ 1048576)
def OpenSpec.upto (s : _root_.Go.ChangeSpec) : _root_.Go.OpenSpec := { _root_.Go.OpenSpec.ofChange s with cond := some uptoSmall }

/-- 'racetreelaw15.ConflictFirst', WHERE WHAT IT READS IS OF BULK AT MOST 1048576: true; the input reads as it did. -/
def conflictFirstUptoRow : OpenClaim := { program := "ytadngicebbnnlaagreat", sum := "375303b25792f9e4c46c3d2c0c7d94bd96f676beca323a9bbbd4534e292f6579", func := "racetree/racetreelaw15.ConflictFirst", spec := "conflictFirst", unfollowed := true, recurses := true, plainKeys := false, apart := false, narrowed := true }
def ConflictFirstUptoSaid : Prop := conflictFirstUptoRow.holds Tryz.pinned (OpenSpec.upto conflictFirstSpec)

/-- 'racetreelaw21.FindOf', WHERE WHAT IT READS IS OF BULK AT MOST 1048576: true; the input reads as it did. -/
def findOfUptoRow : OpenClaim := { program := "ytadngicebbnnlaagreat", sum := "375303b25792f9e4c46c3d2c0c7d94bd96f676beca323a9bbbd4534e292f6579", func := "racetree/racetreelaw21.FindOf", spec := "findOf", unfollowed := true, recurses := true, plainKeys := false, apart := false, narrowed := true }
def FindOfUptoSaid : Prop := findOfUptoRow.holds Tryz.pinned (OpenSpec.upto findOfSpec)

/-- 'racetreelaw21.FindStays', WHERE WHAT IT READS IS OF BULK AT MOST 1048576: true; the input reads as it did. -/
def findStaysUptoRow : OpenClaim := { program := "ytadngicebbnnlaagreat", sum := "375303b25792f9e4c46c3d2c0c7d94bd96f676beca323a9bbbd4534e292f6579", func := "racetree/racetreelaw21.FindStays", spec := "findStays", unfollowed := true, recurses := true, plainKeys := false, apart := false, narrowed := true }
def FindStaysUptoSaid : Prop := findStaysUptoRow.holds Tryz.pinned (OpenSpec.upto findStaysSpec)

end Rows
end Go.Proofs.YtadngicebbnnlaaGreat
