/-
  No cell of these rows narrows 'for every input' (looked for: loops, veiled, ifaces, maps, wideKeys, modest, calm, conditions, laid).
  DERIVED. THE GIVEN ROWS OF THIS SEAT. 7 by the template 'for every input the law returns true; each argument reads behind the call as it read before'; 0 by the template 'total and deterministic' (their statements: YtadngicebbnnlaaTotals.lean).
  GIVEN WITH THE SEED: the statements are not yours to turn. If you find one false, say at which input.
  Laid BY PROGRAM, IN A SANDBOX (cutbox-rows.mjs): the forced cells as the released guide's own fill.sh prints them over the translation b7c0a40bd22bcc97… (all of the seat's roots in one cut). By AI agents, Wed Nov 11 2026. No macro, syntax, notation, axiom, sorry.
-/
import Derived.Test.YtadngicebbnnlaaChecked
import GoSem.Claim
import GoSem.ClaimJoined
import GoSem.ClaimMapViews
import Derived.JoinedTies
import Derived.KernelRfl
namespace Go.Proofs.Ytadngicebbnnlaa
/- THE CELL 'sum', in the pinned program and in every row, IS THE sha256 OF THE DUMP (.gsa) THAT YtadngicebbnnlaaProg.lean LOADS. Nothing in Lean hashes anything: it is a label: what it is worth is what the hold of that sum in a sandbox is worth. -/
noncomputable def Try.pinned : Pinned := { name := "ytadngicebbnnlaa", sum := "b7c0a40bd22bcc979b59ff7c1b426fa4746857005fb043b1f32782b5dd419963", checked := Try.checked }
namespace Rows
def none {H : Type} : Left H := { results := [], args := [] }

/-- 'racetreelaw15.ConflictRaces': WHATEVER THE INPUT: true; the input reads as it did. -/
def conflictRacesSpec : ChangeSpec := { name := "conflictRaces", fn := fun _ => fun
  | [d] => { results := [.lit (.bool true)], args := [d] }
  | _ => none }
def conflictRacesRow : OpenClaim := { program := "ytadngicebbnnlaa", sum := "b7c0a40bd22bcc979b59ff7c1b426fa4746857005fb043b1f32782b5dd419963", func := "racetree/racetreelaw15.ConflictRaces", spec := "conflictRaces", unfollowed := true, recurses := true, plainKeys := false, apart := false }
def ConflictRacesSaid : Prop := conflictRacesRow.holds Try.pinned (OpenSpec.ofChange conflictRacesSpec)

/-- ITS FALSE NEIGHBOUR: 'it returns false'. Refute it at one input. -/
def conflictRacesWrong : ChangeSpec := { name := "conflictRaces", fn := fun _ => fun
  | [d] => { results := [.lit (.bool false)], args := [d] }
  | _ => none }
def ConflictRacesWrongFalsely : Prop := conflictRacesRow.holds Try.pinned (OpenSpec.ofChange conflictRacesWrong)

/-- 'racetreelaw15.ConflictStands': WHATEVER THE INPUT: true; the input reads as it did. -/
def conflictStandsSpec : ChangeSpec := { name := "conflictStands", fn := fun _ => fun
  | [d1, d2, d3] => { results := [.lit (.bool true)], args := [d1, d2, d3] }
  | _ => none }
def conflictStandsRow : OpenClaim := { program := "ytadngicebbnnlaa", sum := "b7c0a40bd22bcc979b59ff7c1b426fa4746857005fb043b1f32782b5dd419963", func := "racetree/racetreelaw15.ConflictStands", spec := "conflictStands", unfollowed := true, recurses := true, plainKeys := false, apart := false }
def ConflictStandsSaid : Prop := conflictStandsRow.holds Try.pinned (OpenSpec.ofChange conflictStandsSpec)

/-- ITS FALSE NEIGHBOUR: 'it returns false'. Refute it at one input. -/
def conflictStandsWrong : ChangeSpec := { name := "conflictStands", fn := fun _ => fun
  | [d1, d2, d3] => { results := [.lit (.bool false)], args := [d1, d2, d3] }
  | _ => none }
def ConflictStandsWrongFalsely : Prop := conflictStandsRow.holds Try.pinned (OpenSpec.ofChange conflictStandsWrong)

/-- 'racetreelaw15.ConflictStays': WHATEVER THE INPUT: true; the input reads as it did. -/
def conflictStaysSpec : ChangeSpec := { name := "conflictStays", fn := fun _ => fun
  | [d1, d2] => { results := [.lit (.bool true)], args := [d1, d2] }
  | _ => none }
def conflictStaysRow : OpenClaim := { program := "ytadngicebbnnlaa", sum := "b7c0a40bd22bcc979b59ff7c1b426fa4746857005fb043b1f32782b5dd419963", func := "racetree/racetreelaw15.ConflictStays", spec := "conflictStays", unfollowed := true, recurses := true, plainKeys := false, apart := false }
def ConflictStaysSaid : Prop := conflictStaysRow.holds Try.pinned (OpenSpec.ofChange conflictStaysSpec)

/-- ITS FALSE NEIGHBOUR: 'it returns false'. Refute it at one input. -/
def conflictStaysWrong : ChangeSpec := { name := "conflictStays", fn := fun _ => fun
  | [d1, d2] => { results := [.lit (.bool false)], args := [d1, d2] }
  | _ => none }
def ConflictStaysWrongFalsely : Prop := conflictStaysRow.holds Try.pinned (OpenSpec.ofChange conflictStaysWrong)

/-- 'racetreelaw15.ConflictWatches': WHATEVER THE INPUT: true; the input reads as it did. -/
def conflictWatchesSpec : ChangeSpec := { name := "conflictWatches", fn := fun _ => fun
  | [d] => { results := [.lit (.bool true)], args := [d] }
  | _ => none }
def conflictWatchesRow : OpenClaim := { program := "ytadngicebbnnlaa", sum := "b7c0a40bd22bcc979b59ff7c1b426fa4746857005fb043b1f32782b5dd419963", func := "racetree/racetreelaw15.ConflictWatches", spec := "conflictWatches", unfollowed := true, recurses := true, plainKeys := false, apart := false }
def ConflictWatchesSaid : Prop := conflictWatchesRow.holds Try.pinned (OpenSpec.ofChange conflictWatchesSpec)

/-- ITS FALSE NEIGHBOUR: 'it returns false'. Refute it at one input. -/
def conflictWatchesWrong : ChangeSpec := { name := "conflictWatches", fn := fun _ => fun
  | [d] => { results := [.lit (.bool false)], args := [d] }
  | _ => none }
def ConflictWatchesWrongFalsely : Prop := conflictWatchesRow.holds Try.pinned (OpenSpec.ofChange conflictWatchesWrong)

/-- 'racetreelaw21.FindCompares': WHATEVER THE INPUT: true; the input reads as it did. -/
def findComparesSpec : ChangeSpec := { name := "findCompares", fn := fun _ => fun
  | [d1, d2] => { results := [.lit (.bool true)], args := [d1, d2] }
  | _ => none }
def findComparesRow : OpenClaim := { program := "ytadngicebbnnlaa", sum := "b7c0a40bd22bcc979b59ff7c1b426fa4746857005fb043b1f32782b5dd419963", func := "racetree/racetreelaw21.FindCompares", spec := "findCompares", unfollowed := true, recurses := true, plainKeys := false, apart := false }
def FindComparesSaid : Prop := findComparesRow.holds Try.pinned (OpenSpec.ofChange findComparesSpec)

/-- ITS FALSE NEIGHBOUR: 'it returns false'. Refute it at one input. -/
def findComparesWrong : ChangeSpec := { name := "findCompares", fn := fun _ => fun
  | [d1, d2] => { results := [.lit (.bool false)], args := [d1, d2] }
  | _ => none }
def FindComparesWrongFalsely : Prop := findComparesRow.holds Try.pinned (OpenSpec.ofChange findComparesWrong)

/-- 'racetreelaw21.FindMerges': WHATEVER THE INPUT: true; the input reads as it did. -/
def findMergesSpec : ChangeSpec := { name := "findMerges", fn := fun _ => fun
  | [d1, d2] => { results := [.lit (.bool true)], args := [d1, d2] }
  | _ => none }
def findMergesRow : OpenClaim := { program := "ytadngicebbnnlaa", sum := "b7c0a40bd22bcc979b59ff7c1b426fa4746857005fb043b1f32782b5dd419963", func := "racetree/racetreelaw21.FindMerges", spec := "findMerges", unfollowed := true, recurses := true, plainKeys := false, apart := false }
def FindMergesSaid : Prop := findMergesRow.holds Try.pinned (OpenSpec.ofChange findMergesSpec)

/-- ITS FALSE NEIGHBOUR: 'it returns false'. Refute it at one input. -/
def findMergesWrong : ChangeSpec := { name := "findMerges", fn := fun _ => fun
  | [d1, d2] => { results := [.lit (.bool false)], args := [d1, d2] }
  | _ => none }
def FindMergesWrongFalsely : Prop := findMergesRow.holds Try.pinned (OpenSpec.ofChange findMergesWrong)

/-- 'racetreelaw21.FindRises': WHATEVER THE INPUT: true; the input reads as it did. -/
def findRisesSpec : ChangeSpec := { name := "findRises", fn := fun _ => fun
  | [d1, d2] => { results := [.lit (.bool true)], args := [d1, d2] }
  | _ => none }
def findRisesRow : OpenClaim := { program := "ytadngicebbnnlaa", sum := "b7c0a40bd22bcc979b59ff7c1b426fa4746857005fb043b1f32782b5dd419963", func := "racetree/racetreelaw21.FindRises", spec := "findRises", unfollowed := true, recurses := true, plainKeys := false, apart := false }
def FindRisesSaid : Prop := findRisesRow.holds Try.pinned (OpenSpec.ofChange findRisesSpec)

/-- ITS FALSE NEIGHBOUR: 'it returns false'. Refute it at one input. -/
def findRisesWrong : ChangeSpec := { name := "findRises", fn := fun _ => fun
  | [d1, d2] => { results := [.lit (.bool false)], args := [d1, d2] }
  | _ => none }
def FindRisesWrongFalsely : Prop := findRisesRow.holds Try.pinned (OpenSpec.ofChange findRisesWrong)

/- THE SECOND FORM. 'bulk': how many values and letters a reading holds, each counted each time it is reached (what is shared counts as often as it is met; a slice's spare places count too). A statement '..UptoSaid' is the law's where the arguments, and the package variables that the reading takes, are together of bulk at most 1048576: NARROWER than '..Said'. Prove '..Said' where nothing that the law and all that it calls make is longer than what came in: it says more and counts as full. Else prove '..UptoSaid'. A law counts once. -/
mutual
def uptoBulk {H : Type} : DataW H → Nat
  | .lit (.string bytes) => bytes.length + 1
  | .lit _ => 1
  | .nil => 1
  | .ptr d => uptoBulk d + 1
  | .slice elems spare => uptoBulkAll elems + uptoBulkAll spare + 1
  | .agg parts => uptoBulkAll parts + 1
  | .iface _ d => uptoBulk d + 1
  | .map entries => uptoBulkEntries entries + 1
  | .held _ => 1
def uptoBulkAll {H : Type} : List (DataW H) → Nat
  | [] => 0
  | d :: r => uptoBulk d + uptoBulkAll r
def uptoBulkEntries {H : Type} : List (Lit × DataW H) → Nat
  | [] => 0
  | x :: r => uptoBulkEntry x + uptoBulkEntries r
def uptoBulkEntry {H : Type} : Lit × DataW H → Nat
  | (.string bytes, d) => bytes.length + uptoBulk d + 1
  | (_, d) => uptoBulk d + 1
 end
def uptoSmall : (H : Type) → List (DataW H) → Bool := fun _ ds => decide (uptoBulkAll ds ≤ 1048576)
def OpenSpec.upto (s : _root_.Go.ChangeSpec) : _root_.Go.OpenSpec := { _root_.Go.OpenSpec.ofChange s with cond := some uptoSmall }

/-- 'racetreelaw15.ConflictRaces', WHERE WHAT IT READS IS OF BULK AT MOST 1048576: true; the input reads as it did. -/
def conflictRacesUptoRow : OpenClaim := { program := "ytadngicebbnnlaa", sum := "b7c0a40bd22bcc979b59ff7c1b426fa4746857005fb043b1f32782b5dd419963", func := "racetree/racetreelaw15.ConflictRaces", spec := "conflictRaces", unfollowed := true, recurses := true, plainKeys := false, apart := false, narrowed := true }
def ConflictRacesUptoSaid : Prop := conflictRacesUptoRow.holds Try.pinned (OpenSpec.upto conflictRacesSpec)

/-- 'racetreelaw15.ConflictStands', WHERE WHAT IT READS IS OF BULK AT MOST 1048576: true; the input reads as it did. -/
def conflictStandsUptoRow : OpenClaim := { program := "ytadngicebbnnlaa", sum := "b7c0a40bd22bcc979b59ff7c1b426fa4746857005fb043b1f32782b5dd419963", func := "racetree/racetreelaw15.ConflictStands", spec := "conflictStands", unfollowed := true, recurses := true, plainKeys := false, apart := false, narrowed := true }
def ConflictStandsUptoSaid : Prop := conflictStandsUptoRow.holds Try.pinned (OpenSpec.upto conflictStandsSpec)

/-- 'racetreelaw15.ConflictStays', WHERE WHAT IT READS IS OF BULK AT MOST 1048576: true; the input reads as it did. -/
def conflictStaysUptoRow : OpenClaim := { program := "ytadngicebbnnlaa", sum := "b7c0a40bd22bcc979b59ff7c1b426fa4746857005fb043b1f32782b5dd419963", func := "racetree/racetreelaw15.ConflictStays", spec := "conflictStays", unfollowed := true, recurses := true, plainKeys := false, apart := false, narrowed := true }
def ConflictStaysUptoSaid : Prop := conflictStaysUptoRow.holds Try.pinned (OpenSpec.upto conflictStaysSpec)

/-- 'racetreelaw15.ConflictWatches', WHERE WHAT IT READS IS OF BULK AT MOST 1048576: true; the input reads as it did. -/
def conflictWatchesUptoRow : OpenClaim := { program := "ytadngicebbnnlaa", sum := "b7c0a40bd22bcc979b59ff7c1b426fa4746857005fb043b1f32782b5dd419963", func := "racetree/racetreelaw15.ConflictWatches", spec := "conflictWatches", unfollowed := true, recurses := true, plainKeys := false, apart := false, narrowed := true }
def ConflictWatchesUptoSaid : Prop := conflictWatchesUptoRow.holds Try.pinned (OpenSpec.upto conflictWatchesSpec)

/-- 'racetreelaw21.FindCompares', WHERE WHAT IT READS IS OF BULK AT MOST 1048576: true; the input reads as it did. -/
def findComparesUptoRow : OpenClaim := { program := "ytadngicebbnnlaa", sum := "b7c0a40bd22bcc979b59ff7c1b426fa4746857005fb043b1f32782b5dd419963", func := "racetree/racetreelaw21.FindCompares", spec := "findCompares", unfollowed := true, recurses := true, plainKeys := false, apart := false, narrowed := true }
def FindComparesUptoSaid : Prop := findComparesUptoRow.holds Try.pinned (OpenSpec.upto findComparesSpec)

/-- 'racetreelaw21.FindMerges', WHERE WHAT IT READS IS OF BULK AT MOST 1048576: true; the input reads as it did. -/
def findMergesUptoRow : OpenClaim := { program := "ytadngicebbnnlaa", sum := "b7c0a40bd22bcc979b59ff7c1b426fa4746857005fb043b1f32782b5dd419963", func := "racetree/racetreelaw21.FindMerges", spec := "findMerges", unfollowed := true, recurses := true, plainKeys := false, apart := false, narrowed := true }
def FindMergesUptoSaid : Prop := findMergesUptoRow.holds Try.pinned (OpenSpec.upto findMergesSpec)

/-- 'racetreelaw21.FindRises', WHERE WHAT IT READS IS OF BULK AT MOST 1048576: true; the input reads as it did. -/
def findRisesUptoRow : OpenClaim := { program := "ytadngicebbnnlaa", sum := "b7c0a40bd22bcc979b59ff7c1b426fa4746857005fb043b1f32782b5dd419963", func := "racetree/racetreelaw21.FindRises", spec := "findRises", unfollowed := true, recurses := true, plainKeys := false, apart := false, narrowed := true }
def FindRisesUptoSaid : Prop := findRisesUptoRow.holds Try.pinned (OpenSpec.upto findRisesSpec)

end Rows
end Go.Proofs.Ytadngicebbnnlaa
