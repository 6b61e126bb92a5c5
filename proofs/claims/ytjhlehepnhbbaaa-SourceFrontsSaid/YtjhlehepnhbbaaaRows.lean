/-
  No cell of these rows narrows 'for every input' (looked for: loops, veiled, ifaces, maps, wideKeys, modest, calm, conditions, laid).
  DERIVED. THE GIVEN ROWS OF THIS SEAT. 11 by the template 'for every input the law returns true; each argument reads behind the call as it read before'; 0 by the template 'total and deterministic' (their statements: YtjhlehepnhbbaaaTotals.lean).
  GIVEN WITH THE SEED: the statements are not yours to turn. If you find one false, say at which input.
  Laid BY PROGRAM, IN A SANDBOX (cutbox-rows.mjs): the forced cells as the released guide's own fill.sh prints them over the translation facf33e47b5ab9c7… (all of the seat's roots in one cut). By AI agents, Wed Nov 11 2026. No macro, syntax, notation, axiom, sorry.
-/
import Derived.Test.YtjhlehepnhbbaaaChecked
import GoSem.Claim
import GoSem.ClaimJoined
import GoSem.ClaimMapViews
import Derived.JoinedTies
import Derived.KernelRfl
namespace Go.Proofs.Ytjhlehepnhbbaaa
/- THE CELL 'sum', in the pinned program and in every row, IS THE sha256 OF THE DUMP (.gsa) THAT YtjhlehepnhbbaaaProg.lean LOADS. Nothing in Lean hashes anything: it is a label: what it is worth is what the hold of that sum in a sandbox is worth. -/
noncomputable def Try.pinned : Pinned := { name := "ytjhlehepnhbbaaa", sum := "facf33e47b5ab9c74e83c353a33ad1894001c2da8a00f853aea1f3a04eab8159", checked := Try.checked }
namespace Rows
def none {H : Type} : Left H := { results := [], args := [] }

/-- 'racetreelaw16.SwapSwaps': WHATEVER THE INPUT: true; the input reads as it did. -/
def swapSwapsSpec : ChangeSpec := { name := "swapSwaps", fn := fun _ => fun
  | [d1, d2] => { results := [.lit (.bool true)], args := [d1, d2] }
  | _ => none }
def swapSwapsRow : OpenClaim := { program := "ytjhlehepnhbbaaa", sum := "facf33e47b5ab9c74e83c353a33ad1894001c2da8a00f853aea1f3a04eab8159", func := "racetree/racetreelaw16.SwapSwaps", spec := "swapSwaps", unfollowed := true, recurses := true, apart := false }
def SwapSwapsSaid : Prop := swapSwapsRow.holds Try.pinned (OpenSpec.ofChange swapSwapsSpec)

/-- ITS FALSE NEIGHBOUR: 'it returns false'. Refute it at one input. -/
def swapSwapsWrong : ChangeSpec := { name := "swapSwaps", fn := fun _ => fun
  | [d1, d2] => { results := [.lit (.bool false)], args := [d1, d2] }
  | _ => none }
def SwapSwapsWrongFalsely : Prop := swapSwapsRow.holds Try.pinned (OpenSpec.ofChange swapSwapsWrong)

/-- 'racetreelaw16.SwapLeast': WHATEVER THE INPUT: true; the input reads as it did. -/
def swapLeastSpec : ChangeSpec := { name := "swapLeast", fn := fun _ => fun
  | [d1, d2] => { results := [.lit (.bool true)], args := [d1, d2] }
  | _ => none }
def swapLeastRow : OpenClaim := { program := "ytjhlehepnhbbaaa", sum := "facf33e47b5ab9c74e83c353a33ad1894001c2da8a00f853aea1f3a04eab8159", func := "racetree/racetreelaw16.SwapLeast", spec := "swapLeast", unfollowed := true, recurses := true, apart := false }
def SwapLeastSaid : Prop := swapLeastRow.holds Try.pinned (OpenSpec.ofChange swapLeastSpec)

/-- ITS FALSE NEIGHBOUR: 'it returns false'. Refute it at one input. -/
def swapLeastWrong : ChangeSpec := { name := "swapLeast", fn := fun _ => fun
  | [d1, d2] => { results := [.lit (.bool false)], args := [d1, d2] }
  | _ => none }
def SwapLeastWrongFalsely : Prop := swapLeastRow.holds Try.pinned (OpenSpec.ofChange swapLeastWrong)

/-- 'racetreelaw16.SwapSame': WHATEVER THE INPUT: true; the input reads as it did. -/
def swapSameSpec : ChangeSpec := { name := "swapSame", fn := fun _ => fun
  | [d1, d2] => { results := [.lit (.bool true)], args := [d1, d2] }
  | _ => none }
def swapSameRow : OpenClaim := { program := "ytjhlehepnhbbaaa", sum := "facf33e47b5ab9c74e83c353a33ad1894001c2da8a00f853aea1f3a04eab8159", func := "racetree/racetreelaw16.SwapSame", spec := "swapSame", unfollowed := true, recurses := true, apart := false }
def SwapSameSaid : Prop := swapSameRow.holds Try.pinned (OpenSpec.ofChange swapSameSpec)

/-- ITS FALSE NEIGHBOUR: 'it returns false'. Refute it at one input. -/
def swapSameWrong : ChangeSpec := { name := "swapSame", fn := fun _ => fun
  | [d1, d2] => { results := [.lit (.bool false)], args := [d1, d2] }
  | _ => none }
def SwapSameWrongFalsely : Prop := swapSameRow.holds Try.pinned (OpenSpec.ofChange swapSameWrong)

/-- 'racetreelaw16.SwapNormal': WHATEVER THE INPUT: true; the input reads as it did. -/
def swapNormalSpec : ChangeSpec := { name := "swapNormal", fn := fun _ => fun
  | [d] => { results := [.lit (.bool true)], args := [d] }
  | _ => none }
def swapNormalRow : OpenClaim := { program := "ytjhlehepnhbbaaa", sum := "facf33e47b5ab9c74e83c353a33ad1894001c2da8a00f853aea1f3a04eab8159", func := "racetree/racetreelaw16.SwapNormal", spec := "swapNormal", unfollowed := true, recurses := true, apart := false }
def SwapNormalSaid : Prop := swapNormalRow.holds Try.pinned (OpenSpec.ofChange swapNormalSpec)

/-- ITS FALSE NEIGHBOUR: 'it returns false'. Refute it at one input. -/
def swapNormalWrong : ChangeSpec := { name := "swapNormal", fn := fun _ => fun
  | [d] => { results := [.lit (.bool false)], args := [d] }
  | _ => none }
def SwapNormalWrongFalsely : Prop := swapNormalRow.holds Try.pinned (OpenSpec.ofChange swapNormalWrong)

/-- 'racetreelaw16.SwapKeeps': WHATEVER THE INPUT: true; the input reads as it did. -/
def swapKeepsSpec : ChangeSpec := { name := "swapKeeps", fn := fun _ => fun
  | [d1, d2, d3] => { results := [.lit (.bool true)], args := [d1, d2, d3] }
  | _ => none }
def swapKeepsRow : OpenClaim := { program := "ytjhlehepnhbbaaa", sum := "facf33e47b5ab9c74e83c353a33ad1894001c2da8a00f853aea1f3a04eab8159", func := "racetree/racetreelaw16.SwapKeeps", spec := "swapKeeps", unfollowed := true, recurses := true, apart := false }
def SwapKeepsSaid : Prop := swapKeepsRow.holds Try.pinned (OpenSpec.ofChange swapKeepsSpec)

/-- ITS FALSE NEIGHBOUR: 'it returns false'. Refute it at one input. -/
def swapKeepsWrong : ChangeSpec := { name := "swapKeeps", fn := fun _ => fun
  | [d1, d2, d3] => { results := [.lit (.bool false)], args := [d1, d2, d3] }
  | _ => none }
def SwapKeepsWrongFalsely : Prop := swapKeepsRow.holds Try.pinned (OpenSpec.ofChange swapKeepsWrong)

/-- 'racetreelaw16.SwapFloors': WHATEVER THE INPUT: true; the input reads as it did. -/
def swapFloorsSpec : ChangeSpec := { name := "swapFloors", fn := fun _ => fun
  | [d] => { results := [.lit (.bool true)], args := [d] }
  | _ => none }
def swapFloorsRow : OpenClaim := { program := "ytjhlehepnhbbaaa", sum := "facf33e47b5ab9c74e83c353a33ad1894001c2da8a00f853aea1f3a04eab8159", func := "racetree/racetreelaw16.SwapFloors", spec := "swapFloors", unfollowed := true, recurses := true, apart := false }
def SwapFloorsSaid : Prop := swapFloorsRow.holds Try.pinned (OpenSpec.ofChange swapFloorsSpec)

/-- ITS FALSE NEIGHBOUR: 'it returns false'. Refute it at one input. -/
def swapFloorsWrong : ChangeSpec := { name := "swapFloors", fn := fun _ => fun
  | [d] => { results := [.lit (.bool false)], args := [d] }
  | _ => none }
def SwapFloorsWrongFalsely : Prop := swapFloorsRow.holds Try.pinned (OpenSpec.ofChange swapFloorsWrong)

/-- 'racetreelaw16.SwapWays': WHATEVER THE INPUT: true; the input reads as it did. -/
def swapWaysSpec : ChangeSpec := { name := "swapWays", fn := fun _ => fun
  | [d1, d2] => { results := [.lit (.bool true)], args := [d1, d2] }
  | _ => none }
def swapWaysRow : OpenClaim := { program := "ytjhlehepnhbbaaa", sum := "facf33e47b5ab9c74e83c353a33ad1894001c2da8a00f853aea1f3a04eab8159", func := "racetree/racetreelaw16.SwapWays", spec := "swapWays", unfollowed := true, recurses := true, apart := false }
def SwapWaysSaid : Prop := swapWaysRow.holds Try.pinned (OpenSpec.ofChange swapWaysSpec)

/-- ITS FALSE NEIGHBOUR: 'it returns false'. Refute it at one input. -/
def swapWaysWrong : ChangeSpec := { name := "swapWays", fn := fun _ => fun
  | [d1, d2] => { results := [.lit (.bool false)], args := [d1, d2] }
  | _ => none }
def SwapWaysWrongFalsely : Prop := swapWaysRow.holds Try.pinned (OpenSpec.ofChange swapWaysWrong)

/-- 'racetreelaw19.SourceSuffix': WHATEVER THE INPUT: true; the input reads as it did. -/
def sourceSuffixSpec : ChangeSpec := { name := "sourceSuffix", fn := fun _ => fun
  | [d1, d2, d3] => { results := [.lit (.bool true)], args := [d1, d2, d3] }
  | _ => none }
def sourceSuffixRow : OpenClaim := { program := "ytjhlehepnhbbaaa", sum := "facf33e47b5ab9c74e83c353a33ad1894001c2da8a00f853aea1f3a04eab8159", func := "racetree/racetreelaw19.SourceSuffix", spec := "sourceSuffix", unfollowed := true, recurses := true, apart := false }
def SourceSuffixSaid : Prop := sourceSuffixRow.holds Try.pinned (OpenSpec.ofChange sourceSuffixSpec)

/-- ITS FALSE NEIGHBOUR: 'it returns false'. Refute it at one input. -/
def sourceSuffixWrong : ChangeSpec := { name := "sourceSuffix", fn := fun _ => fun
  | [d1, d2, d3] => { results := [.lit (.bool false)], args := [d1, d2, d3] }
  | _ => none }
def SourceSuffixWrongFalsely : Prop := sourceSuffixRow.holds Try.pinned (OpenSpec.ofChange sourceSuffixWrong)

/-- 'racetreelaw19.SourceNeeds': WHATEVER THE INPUT: true; the input reads as it did. -/
def sourceNeedsSpec : ChangeSpec := { name := "sourceNeeds", fn := fun _ => fun
  | [d] => { results := [.lit (.bool true)], args := [d] }
  | _ => none }
def sourceNeedsRow : OpenClaim := { program := "ytjhlehepnhbbaaa", sum := "facf33e47b5ab9c74e83c353a33ad1894001c2da8a00f853aea1f3a04eab8159", func := "racetree/racetreelaw19.SourceNeeds", spec := "sourceNeeds", unfollowed := true, recurses := true, apart := false }
def SourceNeedsSaid : Prop := sourceNeedsRow.holds Try.pinned (OpenSpec.ofChange sourceNeedsSpec)

/-- ITS FALSE NEIGHBOUR: 'it returns false'. Refute it at one input. -/
def sourceNeedsWrong : ChangeSpec := { name := "sourceNeeds", fn := fun _ => fun
  | [d] => { results := [.lit (.bool false)], args := [d] }
  | _ => none }
def SourceNeedsWrongFalsely : Prop := sourceNeedsRow.holds Try.pinned (OpenSpec.ofChange sourceNeedsWrong)

/-- 'racetreelaw19.SourceWaits': WHATEVER THE INPUT: true; the input reads as it did. -/
def sourceWaitsSpec : ChangeSpec := { name := "sourceWaits", fn := fun _ => fun
  | [d1, d2, d3] => { results := [.lit (.bool true)], args := [d1, d2, d3] }
  | _ => none }
def sourceWaitsRow : OpenClaim := { program := "ytjhlehepnhbbaaa", sum := "facf33e47b5ab9c74e83c353a33ad1894001c2da8a00f853aea1f3a04eab8159", func := "racetree/racetreelaw19.SourceWaits", spec := "sourceWaits", unfollowed := true, recurses := true, apart := false }
def SourceWaitsSaid : Prop := sourceWaitsRow.holds Try.pinned (OpenSpec.ofChange sourceWaitsSpec)

/-- ITS FALSE NEIGHBOUR: 'it returns false'. Refute it at one input. -/
def sourceWaitsWrong : ChangeSpec := { name := "sourceWaits", fn := fun _ => fun
  | [d1, d2, d3] => { results := [.lit (.bool false)], args := [d1, d2, d3] }
  | _ => none }
def SourceWaitsWrongFalsely : Prop := sourceWaitsRow.holds Try.pinned (OpenSpec.ofChange sourceWaitsWrong)

/-- 'racetreelaw19.SourceFronts': WHATEVER THE INPUT: true; the input reads as it did. -/
def sourceFrontsSpec : ChangeSpec := { name := "sourceFronts", fn := fun _ => fun
  | [d] => { results := [.lit (.bool true)], args := [d] }
  | _ => none }
def sourceFrontsRow : OpenClaim := { program := "ytjhlehepnhbbaaa", sum := "facf33e47b5ab9c74e83c353a33ad1894001c2da8a00f853aea1f3a04eab8159", func := "racetree/racetreelaw19.SourceFronts", spec := "sourceFronts", unfollowed := true, recurses := true, apart := false }
def SourceFrontsSaid : Prop := sourceFrontsRow.holds Try.pinned (OpenSpec.ofChange sourceFrontsSpec)

/-- ITS FALSE NEIGHBOUR: 'it returns false'. Refute it at one input. -/
def sourceFrontsWrong : ChangeSpec := { name := "sourceFronts", fn := fun _ => fun
  | [d] => { results := [.lit (.bool false)], args := [d] }
  | _ => none }
def SourceFrontsWrongFalsely : Prop := sourceFrontsRow.holds Try.pinned (OpenSpec.ofChange sourceFrontsWrong)

/- THE SECOND FORM. 'bulk': how many values and letters a reading holds, each counted each time it is reached (what is shared counts as often as it is met; a slice's spare places count too). A statement '..UptoSaid' is the law's where the arguments, and the package variables that the reading takes, are together of bulk at most 1048576: NARROWER than '..Said'. Prove '..Said' where nothing that the law and all that it calls make is longer than what came in: it says more and counts as full. Else prove '..UptoSaid'. A law counts once. -/
mutual
def uptoBulk {H : Type} : DataW H → Nat
  | .lit (.string bytes) => bytes.length + 1
  | .lit _ => 1
  | .nil => 1
  | .ptr d => uptoBulk d + 1
  | .slice elems spare => uptoBulkAll elems + uptoBulkAll spare + 1
  | .agg parts => uptoBulkAll parts + 1
  | .iface _ d => uptoBulk d + 1
  | .map entries => uptoBulkEntries entries + 1
  | .held _ => 1
def uptoBulkAll {H : Type} : List (DataW H) → Nat
  | [] => 0
  | d :: r => uptoBulk d + uptoBulkAll r
def uptoBulkEntries {H : Type} : List (Lit × DataW H) → Nat
  | [] => 0
  | x :: r => uptoBulkEntry x + uptoBulkEntries r
def uptoBulkEntry {H : Type} : Lit × DataW H → Nat
  | (.string bytes, d) => bytes.length + uptoBulk d + 1
  | (_, d) => uptoBulk d + 1
 end
def uptoSmall : (H : Type) → List (DataW H) → Bool := fun _ ds => decide (uptoBulkAll ds ≤ 1048576)
def OpenSpec.upto (s : _root_.Go.ChangeSpec) : _root_.Go.OpenSpec := { _root_.Go.OpenSpec.ofChange s with cond := some uptoSmall }

/-- 'racetreelaw16.SwapSwaps', WHERE WHAT IT READS IS OF BULK AT MOST 1048576: true; the input reads as it did. -/
def swapSwapsUptoRow : OpenClaim := { program := "ytjhlehepnhbbaaa", sum := "facf33e47b5ab9c74e83c353a33ad1894001c2da8a00f853aea1f3a04eab8159", func := "racetree/racetreelaw16.SwapSwaps", spec := "swapSwaps", unfollowed := true, recurses := true, apart := false, narrowed := true }
def SwapSwapsUptoSaid : Prop := swapSwapsUptoRow.holds Try.pinned (OpenSpec.upto swapSwapsSpec)

/-- 'racetreelaw16.SwapLeast', WHERE WHAT IT READS IS OF BULK AT MOST 1048576: true; the input reads as it did. -/
def swapLeastUptoRow : OpenClaim := { program := "ytjhlehepnhbbaaa", sum := "facf33e47b5ab9c74e83c353a33ad1894001c2da8a00f853aea1f3a04eab8159", func := "racetree/racetreelaw16.SwapLeast", spec := "swapLeast", unfollowed := true, recurses := true, apart := false, narrowed := true }
def SwapLeastUptoSaid : Prop := swapLeastUptoRow.holds Try.pinned (OpenSpec.upto swapLeastSpec)

/-- 'racetreelaw16.SwapSame', WHERE WHAT IT READS IS OF BULK AT MOST 1048576: true; the input reads as it did. -/
def swapSameUptoRow : OpenClaim := { program := "ytjhlehepnhbbaaa", sum := "facf33e47b5ab9c74e83c353a33ad1894001c2da8a00f853aea1f3a04eab8159", func := "racetree/racetreelaw16.SwapSame", spec := "swapSame", unfollowed := true, recurses := true, apart := false, narrowed := true }
def SwapSameUptoSaid : Prop := swapSameUptoRow.holds Try.pinned (OpenSpec.upto swapSameSpec)

/-- 'racetreelaw16.SwapNormal', WHERE WHAT IT READS IS OF BULK AT MOST 1048576: true; the input reads as it did. -/
def swapNormalUptoRow : OpenClaim := { program := "ytjhlehepnhbbaaa", sum := "facf33e47b5ab9c74e83c353a33ad1894001c2da8a00f853aea1f3a04eab8159", func := "racetree/racetreelaw16.SwapNormal", spec := "swapNormal", unfollowed := true, recurses := true, apart := false, narrowed := true }
def SwapNormalUptoSaid : Prop := swapNormalUptoRow.holds Try.pinned (OpenSpec.upto swapNormalSpec)

/-- 'racetreelaw16.SwapKeeps', WHERE WHAT IT READS IS OF BULK AT MOST 1048576: true; the input reads as it did. -/
def swapKeepsUptoRow : OpenClaim := { program := "ytjhlehepnhbbaaa", sum := "facf33e47b5ab9c74e83c353a33ad1894001c2da8a00f853aea1f3a04eab8159", func := "racetree/racetreelaw16.SwapKeeps", spec := "swapKeeps", unfollowed := true, recurses := true, apart := false, narrowed := true }
def SwapKeepsUptoSaid : Prop := swapKeepsUptoRow.holds Try.pinned (OpenSpec.upto swapKeepsSpec)

/-- 'racetreelaw16.SwapFloors', WHERE WHAT IT READS IS OF BULK AT MOST 1048576: true; the input reads as it did. -/
def swapFloorsUptoRow : OpenClaim := { program := "ytjhlehepnhbbaaa", sum := "facf33e47b5ab9c74e83c353a33ad1894001c2da8a00f853aea1f3a04eab8159", func := "racetree/racetreelaw16.SwapFloors", spec := "swapFloors", unfollowed := true, recurses := true, apart := false, narrowed := true }
def SwapFloorsUptoSaid : Prop := swapFloorsUptoRow.holds Try.pinned (OpenSpec.upto swapFloorsSpec)

/-- 'racetreelaw16.SwapWays', WHERE WHAT IT READS IS OF BULK AT MOST 1048576: true; the input reads as it did. -/
def swapWaysUptoRow : OpenClaim := { program := "ytjhlehepnhbbaaa", sum := "facf33e47b5ab9c74e83c353a33ad1894001c2da8a00f853aea1f3a04eab8159", func := "racetree/racetreelaw16.SwapWays", spec := "swapWays", unfollowed := true, recurses := true, apart := false, narrowed := true }
def SwapWaysUptoSaid : Prop := swapWaysUptoRow.holds Try.pinned (OpenSpec.upto swapWaysSpec)

/-- 'racetreelaw19.SourceSuffix', WHERE WHAT IT READS IS OF BULK AT MOST 1048576: true; the input reads as it did. -/
def sourceSuffixUptoRow : OpenClaim := { program := "ytjhlehepnhbbaaa", sum := "facf33e47b5ab9c74e83c353a33ad1894001c2da8a00f853aea1f3a04eab8159", func := "racetree/racetreelaw19.SourceSuffix", spec := "sourceSuffix", unfollowed := true, recurses := true, apart := false, narrowed := true }
def SourceSuffixUptoSaid : Prop := sourceSuffixUptoRow.holds Try.pinned (OpenSpec.upto sourceSuffixSpec)

/-- 'racetreelaw19.SourceNeeds', WHERE WHAT IT READS IS OF BULK AT MOST 1048576: true; the input reads as it did. -/
def sourceNeedsUptoRow : OpenClaim := { program := "ytjhlehepnhbbaaa", sum := "facf33e47b5ab9c74e83c353a33ad1894001c2da8a00f853aea1f3a04eab8159", func := "racetree/racetreelaw19.SourceNeeds", spec := "sourceNeeds", unfollowed := true, recurses := true, apart := false, narrowed := true }
def SourceNeedsUptoSaid : Prop := sourceNeedsUptoRow.holds Try.pinned (OpenSpec.upto sourceNeedsSpec)

/-- 'racetreelaw19.SourceWaits', WHERE WHAT IT READS IS OF BULK AT MOST 1048576: true; the input reads as it did. -/
def sourceWaitsUptoRow : OpenClaim := { program := "ytjhlehepnhbbaaa", sum := "facf33e47b5ab9c74e83c353a33ad1894001c2da8a00f853aea1f3a04eab8159", func := "racetree/racetreelaw19.SourceWaits", spec := "sourceWaits", unfollowed := true, recurses := true, apart := false, narrowed := true }
def SourceWaitsUptoSaid : Prop := sourceWaitsUptoRow.holds Try.pinned (OpenSpec.upto sourceWaitsSpec)

/-- 'racetreelaw19.SourceFronts', WHERE WHAT IT READS IS OF BULK AT MOST 1048576: true; the input reads as it did. -/
def sourceFrontsUptoRow : OpenClaim := { program := "ytjhlehepnhbbaaa", sum := "facf33e47b5ab9c74e83c353a33ad1894001c2da8a00f853aea1f3a04eab8159", func := "racetree/racetreelaw19.SourceFronts", spec := "sourceFronts", unfollowed := true, recurses := true, apart := false, narrowed := true }
def SourceFrontsUptoSaid : Prop := sourceFrontsUptoRow.holds Try.pinned (OpenSpec.upto sourceFrontsSpec)

end Rows
end Go.Proofs.Ytjhlehepnhbbaaa
