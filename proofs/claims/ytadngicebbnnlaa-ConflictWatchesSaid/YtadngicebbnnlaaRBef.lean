/-
  Before and Sync of the document's Order.
-/
import Derived.Test.YtadngicebbnnlaaKnow
import Derived.Test.YtadngicebbnnlaaROf
set_option linter.unusedSimpArgs false
set_option linter.unusedVariables false
namespace Go.Proofs.Ytadngicebbnnlaa
open Go.ChangeShapes Go.WideShapes Go.ChangeAt Go.RowKit Go.Deep

/-- The document's Order in memory: its struct lies in the block rb. -/
structure ROrdAt (w : World) (rb : Nat) (a0 : Option Addr) (n c : Nat) (v1 v2 : Value) (l : List Ev) : Prop where
  blk : w.heap[rb]? = some (.cells #[.slice a0 n c, v1, v2] 68 (0, 0))
  m1 : ∃ B, MatAt w B v1 n n (fun j i => hbB (rD l) i j)
  m2 : ∃ B, MatAt w B v2 n n (fun j i => hbB (rS l) i j)
  evs : IsEvs w a0 n c l
theorem ROrdAt.below {w w' : World} {rb : Nat} {a0 : Option Addr} {n c : Nat} {v1 v2 : Value} {l : List Ev} (h : ROrdAt w rb a0 n c v1 v2 l) (hb : Below w.heap.size w w') : ROrdAt w' rb a0 n c v1 v2 l :=
  ⟨(hb.block rb (Array.getElem?_eq_some_iff.1 h.blk).1).trans h.blk, h.m1.imp fun B hm => hm.below hb, h.m2.imp fun B hm => hm.below hb, h.evs.below hb⟩

end Go.Proofs.Ytadngicebbnnlaa
