/-
  The steps of a stack's script as they came in: eight cells each, with a slice of actions inside.
-/
import Derived.Test.YtobhandimolmhaaDoorStkP
import Derived.SizedLaws
set_option linter.unusedSimpArgs false
set_option linter.unusedVariables false
namespace Go.Proofs.YtobhandimolmhaaDoor
open Go.ChangeShapes Go.WideShapes Go.ChangeAt Go.RowKit Go.Deep

structure Sk where
  d : Int
  j : Int
  a : Option Addr
  n : Nat
  c : Nat
  l : List Ac
  e : Ev
def Sk.vals (s : Sk) : List Value := [.int .i64 s.d, .int .i64 s.j, .slice s.a s.n s.c, .int .i64 s.e.t, .int .i64 s.e.k, .int .i64 s.e.o, .int .i64 s.e.v, .int .i64 s.e.b]
def Sk.wf (s : Sk) : Prop := (Lit.int .i64 s.d).wf = true ∧ (Lit.int .i64 s.j).wf = true
structure IsSks (w : World) (a0 : Option Addr) (n c : Nat) (R : List Sk) : Prop where
  reads : Reads w a0 n 8 (R.flatMap Sk.vals)
  len : R.length = n
  le : n ≤ c
  cap : c ≤ maxLen
  wf : ∀ r ∈ R, r.wf
  acs : ∀ r ∈ R, IsAcs w r.a r.n r.c r.l
section
variable {w w' : World} {a0 : Option Addr} {n c : Nat} {R : List Sk}
theorem IsSks.below (h : IsSks w a0 n c R) (hb : Below w.heap.size w w') : IsSks w' a0 n c R :=
  ⟨h.reads.below hb, h.len, h.le, h.cap, h.wf, fun r hr => (h.acs r hr).below hb⟩
theorem IsSks.bd (h : IsSks w a0 n c R) : n ≤ 9223372036854775807 := by
  have := h.le; have := h.cap; unfold maxLen at *; omega
theorem IsSks.at (h : IsSks w a0 n c R) {i : Nat} (hi : i < n) :
    ∃ b off r, a0 = some ⟨b, off, none⟩ ∧ R[i]? = some r ∧ r.wf ∧ IsAcs w r.a r.n r.c r.l ∧ w.cell? ⟨b, off + i * 8, none⟩ = some (.int .i64 r.d) ∧ w.cell? ⟨b, off + i * 8 + 1, none⟩ = some (.int .i64 r.j) ∧
      w.cell? ⟨b, off + i * 8 + 2, none⟩ = some (.slice r.a r.n r.c) ∧ w.cell? ⟨b, off + i * 8 + 3, none⟩ = some (.int .i64 r.e.t) ∧ w.cell? ⟨b, off + i * 8 + 4, none⟩ = some (.int .i64 r.e.k) ∧
      w.cell? ⟨b, off + i * 8 + 5, none⟩ = some (.int .i64 r.e.o) ∧ w.cell? ⟨b, off + i * 8 + 6, none⟩ = some (.int .i64 r.e.v) ∧ w.cell? ⟨b, off + i * 8 + 7, none⟩ = some (.int .i64 r.e.b) := by
  obtain ⟨b, off, ha, hc⟩ := h.reads.2 (by omega)
  have hl : i < R.length := by rw [h.len]; exact hi
  have hx : R[i]? = some R[i] := List.getElem?_eq_getElem hl
  have g := fun j (hj : j < 8) => flat_get Sk.vals 8 (fun _ => rfl) R i j R[i] hx hj
  refine ⟨b, off, R[i], ha, hx, h.wf _ (List.getElem_mem hl), h.acs _ (List.getElem_mem hl), ?_, ?_, ?_, ?_, ?_, ?_, ?_, ?_⟩
  · exact hc _ _ (g 0 (by decide))
  all_goals rw [Nat.add_assoc]
  · exact hc _ _ (g 1 (by decide))
  · exact hc _ _ (g 2 (by decide))
  · exact hc _ _ (g 3 (by decide))
  · exact hc _ _ (g 4 (by decide))
  · exact hc _ _ (g 5 (by decide))
  · exact hc _ _ (g 6 (by decide))
  · exact hc _ _ (g 7 (by decide))
theorem IsSks.nil (w : World) : IsSks w none 0 0 [] := ⟨Reads.nil, rfl, Nat.le_refl _, Nat.zero_le _, (fun r hr => by cases hr), (fun r hr => by cases hr)⟩
end
section
variable {H : Type} {enc : TypeId × Value → H} {w : World}
set_option maxRecDepth 100000 in
theorem trod_sk {fuel : Nat} {cs : List Value} {x : DataW H × List MemPlace} (h : DataW.trod enc Tryd.prog w 0 (fun _ => true) true fuel 35 cs = some x) :
    ∃ r : Sk, cs = r.vals ∧ r.wf ∧ IsAcs w r.a r.n r.c r.l := by
  obtain ⟨xs, n, _, _, hlen, hxl, hg⟩ := DataW.trod_struct Tryd.underlying35 h
  have hC : Tryd.prog.cellsOf 35 = 8 := by kernel_rfl
  rw [hC] at hlen
  match cs, hlen with
  | [v0, v1, v2, v3, v4, v5, v6, v7], _ =>
    match xs, hxl with
    | [y0, y1, y2, y3], _ =>
      have g0 := hg 0 _ rfl
      have g1 := hg 1 _ rfl
      have g2 := hg 2 _ rfl
      have g3 := hg 3 _ rfl
      simp only [List.getElem?_cons_zero, List.getElem?_cons_succ] at g0 g1 g2 g3
      have hci : Tryd.prog.cellsOf 3 = 1 := by kernel_rfl
      have hcs : Tryd.prog.cellsOf 31 = 1 := by kernel_rfl
      have hce : Tryd.prog.cellsOf 33 = 5 := by kernel_rfl
      obtain ⟨z0, e0, _, w0⟩ := DataW.trod_int Tryd.underlying3 g0
      obtain ⟨z1, e1, _, w1⟩ := DataW.trod_int Tryd.underlying3 g1
      simp [hci] at e0 e1
      subst e0 e1
      have g2' : DataW.trod enc Tryd.prog w 0 (fun _ => true) true n 31 (([Value.int .i64 z0, .int .i64 z1, v2, v3, v4, v5, v6, v7].drop 2).take (Tryd.prog.cellsOf 31)) = some y2 := g2
      have g3' : DataW.trod enc Tryd.prog w 0 (fun _ => true) true n 33 (([Value.int .i64 z0, .int .i64 z1, v2, v3, v4, v5, v6, v7].drop 3).take (Tryd.prog.cellsOf 33)) = some y3 := g3
      rw [hcs] at g2'
      rw [hce] at g3'
      simp only [List.drop_succ_cons, List.drop_zero, List.take_succ_cons, List.take_zero] at g2' g3'
      obtain ⟨zs, hz, hzl, _, hzw⟩ := trod_flat Tryd.underlying33 (by kernel_rfl) (by kernel_rfl) g3'
      match zs, hzl with
      | [t, k, o, v, b], _ =>
        simp only [List.map_cons, List.map_nil, List.cons.injEq, and_true] at hz
        obtain ⟨rfl, rfl, rfl, rfl, rfl⟩ := hz
        have hv : ∃ a0 n0 c0, v2 = .slice a0 n0 c0 := by
          rcases open_slice Tryd.underlying31 g2' with ⟨h0, _⟩ | ⟨a, len, cap, m, k, D, Pl, hcs, _⟩
          · exact ⟨_, _, _, (by simpa using h0)⟩
          · exact ⟨_, _, _, (by simpa using hcs)⟩
        obtain ⟨a0, n0, c0, rfl⟩ := hv
        obtain ⟨l, hl⟩ := open_acs (d := y2.1) (p := y2.2) ⟨n, g2'⟩
        exact ⟨⟨z0, z1, a0, n0, c0, l, ⟨t, k, o, v, b⟩⟩, rfl, ⟨w0, w1⟩, hl⟩
set_option maxRecDepth 100000 in
theorem open_sks {a0 : Option Addr} {n c : Nat} {d : DataW H} {p : List MemPlace} (h : DataW.Trod enc Tryd.prog w 0 (fun _ => true) true 23 (.slice a0 n c) d p) :
    ∃ R : List Sk, IsSks w a0 n c R := by
  obtain ⟨fuel, h'⟩ := h
  rcases open_slice Tryd.underlying23 h' with ⟨h0, _⟩ | ⟨a, len, cap, m, k, D, Pl, hcs, hb, hl, hm, hmm, hx, hi⟩
  · simp [Value.cells] at h0
    obtain ⟨rfl, rfl, rfl⟩ := h0
    exact ⟨[], IsSks.nil w⟩
  · simp [Value.cells] at hcs
    obtain ⟨rfl, rfl, rfl⟩ := hcs
    have hC : Tryd.prog.cellsOf 35 = 8 := by kernel_rfl
    obtain ⟨R, h1, h2, h3⟩ := ofFlats Sk.vals 8 (by decide) (fun _ => rfl) (fun r => r.wf ∧ IsAcs w r.a r.n r.c r.l) (w := w) (a := a) (n := n) (fun i hin => by
      obtain ⟨cs', hc, ht'⟩ := hi i (by rw [hmm]; split <;> omega)
      rw [hC] at hc
      obtain ⟨r, rfl, hw, hs⟩ := trod_sk ht'
      obtain ⟨_, hcl, hat⟩ := World.cells?_some hc
      refine ⟨r, ⟨hw, hs⟩, fun j u hu => ?_⟩
      have hj : j < 8 := (List.getElem?_eq_some_iff.1 hu).1
      rw [← Go.Deep.add_add, hat j hj]
      exact hu)
    exact ⟨R, ⟨h3, h1, hl, hm, fun r hr => (h2 r hr).1, fun r hr => (h2 r hr).2⟩⟩
theorem bytesSk : Tryd.prog.bytesOf 35 = 80 := by kernel_rfl
theorem sized_sks {a0 : Option Addr} {n c : Nat} {d : DataW H} {p : List MemPlace} {ts : List TypeId} {ds : List (DataW H)} (j : Nat)
    (h : DataW.Trod enc Tryd.prog w 0 (fun _ => true) true 23 (.slice a0 n c) d p)
    (hsz : (DataW.weightsEach Tryd.prog ts ds).all (· ≤ reachBytes) = true) (htj : ts[j]? = some 23) (hdj : ds[j]? = some d) : n * 80 ≤ 140737488355328 - 4096 := by
  obtain ⟨fuel, h'⟩ := h
  have key : n * Tryd.prog.bytesOf 35 ≤ reachBytes := by
    rcases open_slice Tryd.underlying23 h' with ⟨h0, _⟩ | ⟨a, len, cap, m, k, D, Pl, hcs, hb, hl, hm, hmm, hx, hi⟩
    · simp [Value.cells] at h0
      obtain ⟨_, rfl, _⟩ := h0
      simp
    · simp [Value.cells] at hcs
      obtain ⟨rfl, rfl, rfl⟩ := hcs
      simp only [Prod.mk.injEq] at hx
      rw [hx.1] at hdj
      have := sized_slice hsz htj hdj Tryd.underlying23
      simp only [List.length_map, List.length_range] at this
      exact Nat.le_trans (Nat.mul_le_mul_right _ (Nat.le_add_right _ _)) this
  rw [bytesSk] at key
  exact key
end
end Go.Proofs.YtobhandimolmhaaDoor
