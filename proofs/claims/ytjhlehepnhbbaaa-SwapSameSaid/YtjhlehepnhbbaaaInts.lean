/-
  A slice of ints that came in.
-/
import Derived.Test.YtjhlehepnhbbaaaData
set_option linter.unusedSimpArgs false
set_option linter.unusedVariables false
namespace Go.Proofs.Ytjhlehepnhbbaaa
open Go.ChangeShapes Go.WideShapes Go.ChangeAt Go.RowKit Go.Deep

theorem ints_of_cells {w : World} {a : Addr} {n c : Nat} {zs : List Int} (hl : n ≤ c) (hm : c ≤ maxLen) (hz : n ≤ zs.length) (hcell : ∀ i, i < zs.length → w.cell? (a.add i) = some (.int .i64 (zs.getD i 0)))
    (hw : ∀ z ∈ zs, (Lit.int .i64 z).wf = true) : IsInts w (some a) n c (zs.take n) := by
  refine ⟨⟨by simp; omega, fun hn => ?_⟩, by simp; omega, hl, hm, fun x hx => hw x (List.mem_of_mem_take hx)⟩
  obtain ⟨b, off, spot⟩ := a
  have h0 := hcell 0 (by omega)
  have hspot : spot = none := by simpa [Addr.add] using World.cell?_spot h0
  subst hspot
  refine ⟨b, off, rfl, fun j u hu => ?_⟩
  rw [List.getElem?_map, List.getElem?_take] at hu
  split at hu
  · cases hj : zs[j]? with
    | none => rw [hj] at hu; cases hu
    | some z =>
      rw [hj] at hu; cases hu
      have h1 := hcell j (List.getElem?_eq_some_iff.1 hj).1
      have hg : zs.getD j 0 = z := by simp [List.getD, hj]
      rw [hg] at h1
      unfold Addr.add at h1
      split at h1
      · rename_i h0; subst h0; exact h1
      · exact h1
  · cases hu

theorem open_is {H : Type} {enc : TypeId × Value → H} {w : World} {a0 : Option Addr} {n c : Nat} {d : DataW H} {p : List MemPlace} (h : DataW.Trod enc Try.prog w 0 (fun _ => true) true 29 (.slice a0 n c) d p) :
    ∃ l : List Int, IsInts w a0 n c l := by
  obtain ⟨fuel, hf⟩ := h
  rcases open_ints Try.underlying29 Try.underlying3 (by kernel_rfl) hf with ⟨hcs, _⟩ | ⟨x, l, cc, zs, hcs, _, hl, hm, hz, _, hcell, hwz⟩
  · simp [Value.cells] at hcs
    obtain ⟨rfl, rfl, rfl⟩ := hcs
    exact ⟨[], ⟨Reads.nil, rfl, Nat.le_refl _, Nat.zero_le _, fun e he => by cases he⟩⟩
  · simp [Value.cells] at hcs
    obtain ⟨rfl, rfl, rfl⟩ := hcs
    have hz' : zs.length = c := by simpa using hz
    exact ⟨_, ints_of_cells hl hm (by omega) hcell hwz⟩
end Go.Proofs.Ytjhlehepnhbbaaa
