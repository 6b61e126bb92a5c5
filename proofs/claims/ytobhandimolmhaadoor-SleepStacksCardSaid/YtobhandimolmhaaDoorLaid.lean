/-
  The tables of math/bits as the row lays them; from there to the walks' facts.
-/
import Derived.Test.YtobhandimolmhaaDoorLaw
import Derived.Test.YtobhandimolmhaaDoorTie
import Derived.Test.YtobhandimolmhaaDoorCards
import Derived.Test.YtobhandimolmhaaDoorSets
import Derived.SevenTiedAt
import Derived.LaidMore
import Derived.Stop.Joined
import Derived.Lib.LaidTab
import Derived.Stop.LaidErr
set_option linter.unusedSimpArgs false
set_option linter.unusedVariables false
namespace Go.Proofs.YtobhandimolmhaaDoor
open Go.ChangeShapes Go.WideShapes Go.ChangeAt Go.RowKit Go.Deep

def laid2 : List (String × DataW Unit) := [("math/bits.deBruijn32tab", Rows.laid_math_bits_deBruijn32tab), ("math/bits.deBruijn64tab", Rows.laid_math_bits_deBruijn64tab)]
theorem gTab : Tryd.prog.globalNamed "math/bits.deBruijn64tab" = some 1 := by kernel_rfl
theorem tTab : (Tryd.prog.globals[1]?).map (·.type) = some 81 := by kernel_rfl
theorem door_met (os : Os) (args : Array Value) : laidMetH Tryd.prog laid2 ((World.doorLaid Tryd.prog 19 os).forCall (fun _ _ => 0) ⟨#[], args, []⟩).memory :=
  laidMetH_of_parts3 (fuel := 8) (laidMet_of_run' 8 (by kernel_rfl) (by kernel_rfl)) (by kernel_rfl) (by kernel_rfl)
theorem tab_of_laid {W : World} (h : laidMetH Tryd.prog laid2 W) : TabOk W := by
  rw [MakeChecks.laidMetH_plain _ _ _ (by kernel_rfl)] at h
  have h2 := laidMet.tail h
  have h3 : Lib.TabIs Tryd.prog W "math/bits.deBruijn64tab" .u8 tabZ := Lib.tabIs_of_head gTab tTab Tryd.underlying81 Tryd.underlying5 (by kernel_rfl) (by kernel_rfl) h2
  exact ⟨fun i hi => h3.cell gTab i hi⟩
theorem u64_nat {n : Int} (h : (Lit.int .u64 n).wf = true) : ∃ s : Nat, n = (s : Int) ∧ s < 18446744073709551616 := by
  have hM : IntKind.u64.max = 18446744073709551615 := rfl
  have hm : IntKind.u64.min = 0 := rfl
  simp [Lit.wf] at h
  obtain ⟨s, rfl⟩ := Int.eq_ofNat_of_zero_le (show 0 ≤ n by omega)
  exact ⟨s, rfl, by omega⟩
end Go.Proofs.YtobhandimolmhaaDoor
