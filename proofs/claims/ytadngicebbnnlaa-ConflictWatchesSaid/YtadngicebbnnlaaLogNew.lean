/-
  A new log.
-/
import Derived.Test.YtadngicebbnnlaaLog
set_option linter.unusedSimpArgs false
set_option linter.unusedVariables false
namespace Go.Proofs.Ytadngicebbnnlaa
open Go.ChangeShapes Go.WideShapes Go.ChangeAt Go.RowKit Go.Deep

def log0 : LogS := { l := [], st := fun i => if i = 0 then 2 else 1, la := fun _ => -1, ow := fun _ => -1 }
def cells0 : Array Value := #[.slice none 0 0, .slice none 0 0, .int .i64 2, .int .i64 (-1), .int .i64 1, .int .i64 (-1), .int .i64 1, .int .i64 (-1), .int .i64 1, .int .i64 (-1), .int .i64 1, .int .i64 (-1), .int .i64 1, .int .i64 (-1), .int .i64 1, .int .i64 (-1), .int .i64 1, .int .i64 (-1),
  .int .i64 (-1), .int .i64 (-1), .int .i64 (-1), .int .i64 (-1), .int .i64 (-1), .int .i64 (-1), .int .i64 (-1), .int .i64 (-1)]
theorem log_made (w : World) : LogAt (w.alloc (.cells cells0 132)) w.heap.size w.heap.size (.slice none 0 0) (.slice none 0 0) log0 := by
  refine ⟨Nat.le_refl _, ⟨cells0, (MapKept.heap_alloc w _).1, rfl, rfl, rfl, fun i hi => ?_⟩, World.ownsRow_nil _ _ _ _, World.ownsRow_nil _ _ _ _, fun _ => ⟨rfl, rfl⟩⟩
  obtain rfl | rfl | rfl | rfl | rfl | rfl | rfl | rfl : i = 0 ∨ i = 1 ∨ i = 2 ∨ i = 3 ∨ i = 4 ∨ i = 5 ∨ i = 6 ∨ i = 7 := by omega
  all_goals exact ⟨rfl, rfl, rfl⟩

set_option maxHeartbeats 4000000 in
theorem lnew_calls (w : World) : Calls Try.prog 50 #[] w fun e w' =>
    e = .returned (.pointer (some ⟨w.heap.size, 0, none⟩)) ∧ LogAt w' w.heap.size w.heap.size (.slice none 0 0) (.slice none 0 0) log0 ∧ Below w.heap.size w w' := by
  have hm := log_made w
  unfold cells0 at hm
  have Hm := Lib.hid hm
  clear hm
  go_enter Try.func50, Try.ntmps50
  go_wp2
  go_rounds 9
  go_outline
  go_rounds 9
  go_outline
  go_wp2
  go_ret
  exact ⟨rfl, Hm.out, by go_grown⟩
end Go.Proofs.Ytadngicebbnnlaa
