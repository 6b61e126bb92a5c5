/-
  The reach of a slice of events that came in.
-/
import Derived.Test.YtejcpjhepkhihaaData
import Derived.SizedLaws
set_option linter.unusedSimpArgs false
set_option linter.unusedVariables false
namespace Go.Proofs.Ytejcpjhepkhihaa
open Go.ChangeShapes Go.WideShapes Go.ChangeAt Go.RowKit Go.Deep

theorem sized_len {H : Type} {P : Program} {enc : TypeId × Value → H} {w : World} {base : Nat} {held : Bool} {t e : TypeId} {a0 : Option Addr} {n c : Nat} {d : DataW H} {p : List MemPlace} {ts : List TypeId} {ds : List (DataW H)} {j : Nat}
    (ht : P.underlying t = some (.slice e)) (h : DataW.Trod enc P w base (fun _ => true) held t (.slice a0 n c) d p)
    (hsz : (DataW.weightsEach P ts ds).all (· ≤ reachBytes) = true) (htj : ts[j]? = some t) (hdj : ds[j]? = some d) : n * P.bytesOf e ≤ reachBytes := by
  obtain ⟨fuel, h'⟩ := h
  rcases open_slice ht h' with ⟨h0, _⟩ | ⟨a, len, cap, m, k, D, Pl, hcs, hb, hl, hm, hmm, hx, hi⟩
  · simp [Value.cells] at h0
    obtain ⟨_, rfl, _⟩ := h0
    simp
  · simp [Value.cells] at hcs
    obtain ⟨rfl, rfl, rfl⟩ := hcs
    simp only [Prod.mk.injEq] at hx
    rw [hx.1] at hdj
    have := sized_slice hsz htj hdj ht
    simp only [List.length_map, List.length_range] at this
    exact Nat.le_trans (Nat.mul_le_mul_right _ (Nat.le_add_right _ _)) this
theorem bytesEv : Try.prog.bytesOf 23 = 40 := by kernel_rfl
theorem sized_evs {H : Type} {enc : TypeId × Value → H} {w : World} {a0 : Option Addr} {n c : Nat} {d : DataW H} {p : List MemPlace} {ts : List TypeId} {ds : List (DataW H)} (j : Nat)
    (h : DataW.Trod enc Try.prog w 0 (fun _ => true) true 24 (.slice a0 n c) d p)
    (hsz : (DataW.weightsEach Try.prog ts ds).all (· ≤ reachBytes) = true) (htj : ts[j]? = some 24) (hdj : ds[j]? = some d) : n * 40 ≤ 140737488355328 - 4096 := by
  have := sized_len Try.underlying24 h hsz htj hdj
  rw [bytesEv] at this
  exact this
set_option maxRecDepth 100000 in
theorem open_act {H : Type} {enc : TypeId × Value → H} {w : World} {r : Reach} {b0 : Nat} {v : Value} {d : DataW H} {p : List MemPlace} (hv : Value.okWide Try.prog w r b0 30 v) (h : DataW.Trod enc Try.prog w 0 (fun _ => true) true 30 v d p) :
    ∃ e : Ac, v = .agg #[.int .i64 e.k, .int .i64 e.o] ∧ e.wf := by
  obtain ⟨zs, rfl, hl, hw⟩ := open_flat Try.underlying30 (by kernel_rfl) (by kernel_rfl) hv h
  match zs, hl with
  | [k, o], _ => exact ⟨⟨k, o⟩, rfl, hw k (by simp), hw o (by simp)⟩
theorem cap_of {n : Nat} (h : n * 40 ≤ 140737488355328 - 4096) : n * 40 ≤ 140737488355328 := by omega
theorem cap_of1 {n : Nat} (h : n * 40 ≤ 140737488355328 - 4096) : (n + 1) * 40 ≤ 140737488355328 := by omega
end Go.Proofs.Ytejcpjhepkhihaa
