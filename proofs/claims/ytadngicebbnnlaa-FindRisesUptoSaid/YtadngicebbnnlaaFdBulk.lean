/-
  How much a list of findings holds: for the second forms.
-/
import Derived.Test.YtadngicebbnnlaaFindA
import Derived.JoinedCond
set_option linter.unusedSimpArgs false
set_option linter.unusedVariables false
namespace Go.Proofs.Ytadngicebbnnlaa
open Go.ChangeShapes Go.WideShapes Go.ChangeAt Go.RowKit Go.Deep

section
variable {H : Type}
theorem bulk_pos (d : DataW H) : 1 ≤ Rows.uptoBulk d := by
  cases d with
  | lit l => cases l <;> simp [Rows.uptoBulk]
  | _ => simp [Rows.uptoBulk]
theorem bulk_mem {d : DataW H} : ∀ {l : List (DataW H)}, d ∈ l → Rows.uptoBulk d ≤ Rows.uptoBulkAll l
  | e :: r, h => by
    simp only [Rows.uptoBulkAll]
    rcases List.mem_cons.1 h with rfl | h
    · omega
    · have := bulk_mem h; omega
theorem bulk_each {k : Nat} : ∀ {l : List (DataW H)}, (∀ d ∈ l, k ≤ Rows.uptoBulk d) → l.length * k ≤ Rows.uptoBulkAll l
  | [], _ => by simp
  | d :: r, h => by
    have h1 := h d (List.mem_cons_self ..)
    have h2 := bulk_each (l := r) (fun e he => h e (List.mem_cons_of_mem _ he))
    simp only [Rows.uptoBulkAll, List.length_cons, Nat.succ_mul]; omega
variable {enc : TypeId × Value → H} {w : World}
theorem trod_fd_bulk {fuel : Nat} {cs : List Value} {x : DataW H × List MemPlace} (h : DataW.trod enc Try.prog w 0 (fun _ => true) true fuel 56 cs = some x) :
    ∃ r : Fr, cs = r.vals ∧ r.wf ∧ SchAt w r ∧ r.n ≤ Rows.uptoBulk x.1 ∧ 6 ≤ Rows.uptoBulk x.1 := by
  obtain ⟨r, h1, h2, h3⟩ := trod_fd h
  refine ⟨r, h1, h2, h3, ?_⟩
  obtain ⟨xs, n, _, hx, hlen, hxl, hg⟩ := DataW.trod_struct Try.underlying56 h
  match xs, hxl with
  | [y0, y1, y2, y3, y4], _ =>
    subst h1
    have g4 := hg 4 _ rfl
    simp only [List.getElem?_cons_zero, List.getElem?_cons_succ] at g4
    have g4' : DataW.trod enc Try.prog w 0 (fun _ => true) true n 54 ((r.vals.drop 4).take (Try.prog.cellsOf 54)) = some y4 := g4
    have hcs : Try.prog.cellsOf 54 = 1 := by kernel_rfl
    rw [hcs] at g4'
    have g5 : DataW.trod enc Try.prog w 0 (fun _ => true) true n 54 [.slice r.a r.n r.c] = some y4 := g4'
    have hb : Rows.uptoBulk x.1 = Rows.uptoBulk y0.1 + (Rows.uptoBulk y1.1 + (Rows.uptoBulk y2.1 + (Rows.uptoBulk y3.1 + (Rows.uptoBulk y4.1 + 0)))) + 1 := by
      rw [hx]; rfl
    have p0 := bulk_pos y0.1
    have p1 := bulk_pos y1.1
    have p2 := bulk_pos y2.1
    have p3 := bulk_pos y3.1
    have p4 := bulk_pos y4.1
    have hn : r.n ≤ Rows.uptoBulk y4.1 := by
      rcases open_slice Try.underlying54 g5 with ⟨h0, _⟩ | ⟨a, len, cap, m, k, D, Pl, hcs, _, _, _, _, hx4, _⟩
      · simp at h0
        obtain ⟨_, h0, _⟩ := h0
        omega
      · simp at hcs
        obtain ⟨_, rfl, _⟩ := hcs
        rw [hx4]
        have := bulk_each (k := 1) (l := (List.range r.n).map D) (fun d _ => bulk_pos d)
        simp only [Rows.uptoBulk, List.length_map, List.length_range] at this ⊢
        omega
    omega
set_option maxRecDepth 100000 in
theorem open_fds_bulk {a0 : Option Addr} {n c : Nat} {d : DataW H} {p : List MemPlace} (h : DataW.Trod enc Try.prog w 0 (fun _ => true) true 59 (.slice a0 n c) d p) :
    ∃ R : List Fr, IsFds w a0 n c R ∧ n * 6 ≤ Rows.uptoBulk d ∧ ∀ r ∈ R, r.n ≤ Rows.uptoBulk d := by
  obtain ⟨fuel, h'⟩ := h
  rcases open_slice Try.underlying59 h' with ⟨h0, _⟩ | ⟨a, len, cap, m, k, D, Pl, hcs, hb, hl, hm, hmm, hx, hi⟩
  · simp [Value.cells] at h0
    obtain ⟨rfl, rfl, rfl⟩ := h0
    exact ⟨[], IsFds.nil w, by omega, fun r hr => by cases hr⟩
  · simp [Value.cells] at hcs
    obtain ⟨rfl, rfl, rfl⟩ := hcs
    simp only [Prod.mk.injEq] at hx
    have hC : Try.prog.cellsOf 56 = 5 := by kernel_rfl
    have hD : ∀ i, i < n → 6 ≤ Rows.uptoBulk (D i) := fun i hin => by
      obtain ⟨cs', _, ht'⟩ := hi i (by rw [hmm]; split <;> omega)
      obtain ⟨_, _, _, _, _, h6⟩ := trod_fd_bulk ht'
      exact h6
    have hall : Rows.uptoBulkAll ((List.range n).map D) ≤ Rows.uptoBulk d := by
      rw [hx.1]; simp only [Rows.uptoBulk]; omega
    have h6 := bulk_each (k := 6) (l := (List.range n).map D) (fun e he => by
      obtain ⟨i, hi', rfl⟩ := List.mem_map.1 he
      exact hD i (List.mem_range.1 hi'))
    rw [List.length_map, List.length_range] at h6
    obtain ⟨R, h1, h2, h3⟩ := ofFlats Fr.vals 5 (by decide) (fun _ => rfl) (fun r => (r.wf ∧ SchAt w r) ∧ r.n ≤ Rows.uptoBulk d) (w := w) (a := a) (n := n) (fun i hin => by
      obtain ⟨cs', hc, ht'⟩ := hi i (by rw [hmm]; split <;> omega)
      rw [hC] at hc
      obtain ⟨r, rfl, hw, hs, hb1, _⟩ := trod_fd_bulk ht'
      obtain ⟨_, hcl, hat⟩ := World.cells?_some hc
      have hbi := bulk_mem (d := D i) (l := (List.range n).map D) (List.mem_map.2 ⟨i, List.mem_range.2 hin, rfl⟩)
      simp only at hb1
      refine ⟨r, ⟨⟨hw, hs⟩, by omega⟩, fun j u hu => ?_⟩
      have hj : j < 5 := (List.getElem?_eq_some_iff.1 hu).1
      rw [← Go.Deep.add_add, hat j hj]
      exact hu)
    exact ⟨R, ⟨h3, h1, hl, hm, fun r hr => (h2 r hr).1.1, fun r hr => (h2 r hr).1.2⟩, by omega, fun r hr => (h2 r hr).2⟩
end
theorem sch_len {A B : List Fr} {a b : Nat} (hA : ∀ r ∈ A, r.n ≤ a) (hB : ∀ r ∈ B, r.n ≤ b) (h : a ≤ 2000000) (h' : b ≤ 2000000) : ∀ r ∈ A ++ B, r.n ≤ 2000000 := fun r hr => by
  rcases List.mem_append.1 hr with hr | hr
  · have := hA r hr; omega
  · have := hB r hr; omega
end Go.Proofs.Ytadngicebbnnlaa
