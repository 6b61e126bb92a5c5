/-
  Plain data of the statements: events, actions; arguments opened to them.
-/
import Derived.Test.YtobhandimolmhaaDoorLaw
import Derived.Test.YtobhandimolmhaaDoorReg
set_option linter.unusedSimpArgs false
set_option linter.unusedVariables false
namespace Go.Proofs.YtobhandimolmhaaDoor
open Go.ChangeShapes Go.WideShapes Go.ChangeAt Go.RowKit Go.Deep

/-- A number that fits in an int. -/
def Fit (z : Int) : Prop := (Lit.int .i64 z).wf = true
theorem Fit.lo {z : Int} (h : Fit z) : -9223372036854775808 ≤ z := by
  unfold Fit at h; simp [Lit.wf, IntKind.min, IntKind.max, IntKind.signed, IntKind.bits] at h; omega
theorem Fit.hi {z : Int} (h : Fit z) : z ≤ 9223372036854775807 := by
  unfold Fit at h; simp [Lit.wf, IntKind.min, IntKind.max, IntKind.signed, IntKind.bits] at h; omega
theorem Fit.of {z : Int} (h : -9223372036854775808 ≤ z) (h' : z ≤ 9223372036854775807) : Fit z := by
  unfold Fit; simp [Lit.wf, IntKind.min, IntKind.max, IntKind.signed, IntKind.bits]; omega

structure Ev where
  t : Int
  k : Int
  o : Int
  v : Int
  b : Int
def Ev.wf (e : Ev) : Prop := Fit e.t ∧ Fit e.k ∧ Fit e.o ∧ Fit e.v ∧ Fit e.b
def Ev.vals (e : Ev) : List Value := [.int .i64 e.t, .int .i64 e.k, .int .i64 e.o, .int .i64 e.v, .int .i64 e.b]
structure Ac where
  k : Int
  o : Int
def Ac.wf (e : Ac) : Prop := Fit e.k ∧ Fit e.o
def Ac.vals (e : Ac) : List Value := [.int .i64 e.k, .int .i64 e.o]

/-- A slice value that reads as a row of cells, k to an element. -/
def Reads (w : World) (a0 : Option Addr) (n k : Nat) (xs : List Value) : Prop :=
  xs.length = n * k ∧ (0 < n → ∃ b off, a0 = some ⟨b, off, none⟩ ∧ ∀ j u, xs[j]? = some u → w.cell? ⟨b, off + j, none⟩ = some u)

theorem Reads.nil {w : World} {a0 : Option Addr} {k : Nat} : Reads w a0 0 k [] := ⟨by simp, fun h => absurd h (by omega)⟩
theorem Reads.below {w w' : World} {a0 : Option Addr} {n k : Nat} {xs : List Value} (h : Reads w a0 n k xs) (hb : Below w.heap.size w w') : Reads w' a0 n k xs := by
  refine ⟨h.1, fun hn => ?_⟩
  obtain ⟨b, off, rfl, hc⟩ := h.2 hn
  refine ⟨b, off, rfl, fun j u hu => ?_⟩
  have h1 := hc j u hu
  have hlt : b < w.heap.size := by
    rcases Nat.lt_or_ge b w.heap.size with h | h
    · exact h
    · simp [World.cell?, Array.getElem?_eq_none h] at h1
  rw [hb.cell (p := ⟨b, off + j, none⟩) hlt]
  exact h1

def evCells (l : List Ev) : List Value := l.flatMap Ev.vals
def acCells (l : List Ac) : List Value := l.flatMap Ac.vals

theorem flat_get {α : Type} (f : α → List Value) (k : Nat) (hk : ∀ x, (f x).length = k) : ∀ (l : List α) (i j : Nat) (x : α), l[i]? = some x → j < k → (l.flatMap f)[i * k + j]? = (f x)[j]?
  | [], i, j, x, h, _ => by simp at h
  | y :: l, 0, j, x, h, hj => by
    simp at h; subst h
    simp only [List.flatMap_cons, Nat.zero_mul, Nat.zero_add]
    rw [List.getElem?_append_left (by rw [hk]; exact hj)]
  | y :: l, i + 1, j, x, h, hj => by
    simp only [List.flatMap_cons]
    rw [List.getElem?_append_right (by rw [hk, Nat.succ_mul]; omega), hk, show (i + 1) * k + j - k = i * k + j by rw [Nat.succ_mul]; omega]
    exact flat_get f k hk l i j x (by simpa using h) hj
theorem flat_len {α : Type} (f : α → List Value) (k : Nat) (hk : ∀ x, (f x).length = k) (l : List α) : (l.flatMap f).length = l.length * k := by
  induction l with
  | nil => simp
  | cons y l ih => simp only [List.flatMap_cons, List.length_append, hk, ih, List.length_cons, Nat.succ_mul]; omega
theorem flat_inv {α : Type} (f : α → List Value) (k : Nat) (hk : ∀ x, (f x).length = k) (hk0 : 0 < k) (l : List α) (j : Nat) (u : Value) (h : (l.flatMap f)[j]? = some u) :
    ∃ x, l[j / k]? = some x ∧ (f x)[j % k]? = some u := by
  have hj : j < l.length * k := by rw [← flat_len f k hk l]; exact (List.getElem?_eq_some_iff.1 h).1
  have hi : j / k < l.length := (Nat.div_lt_iff_lt_mul hk0).2 hj
  have hx : l[j / k]? = some (l[j / k]) := List.getElem?_eq_getElem hi
  refine ⟨_, hx, ?_⟩
  rw [← flat_get f k hk l (j / k) (j % k) _ hx (Nat.mod_lt _ hk0), Nat.mul_comm, Nat.div_add_mod]
  exact h

/-- A slice of events that came in. -/
structure IsEvs (w : World) (a0 : Option Addr) (n c : Nat) (l : List Ev) : Prop where
  reads : Reads w a0 n 5 (evCells l)
  len : l.length = n
  le : n ≤ c
  cap : c ≤ maxLen
  wf : ∀ e ∈ l, e.wf

theorem IsEvs.below {w w' : World} {a0 : Option Addr} {n c : Nat} {l : List Ev} (h : IsEvs w a0 n c l) (hb : Below w.heap.size w w') : IsEvs w' a0 n c l :=
  ⟨h.reads.below hb, h.len, h.le, h.cap, h.wf⟩

/-- Element i of it, cell by cell. -/
theorem IsEvs.at {w : World} {a0 : Option Addr} {n c : Nat} {l : List Ev} (h : IsEvs w a0 n c l) {i : Nat} (hi : i < n) :
    ∃ b off e, a0 = some ⟨b, off, none⟩ ∧ l[i]? = some e ∧ e.wf ∧ w.cell? ⟨b, off + i * 5, none⟩ = some (.int .i64 e.t) ∧ w.cell? ⟨b, off + i * 5 + 1, none⟩ = some (.int .i64 e.k) ∧
      w.cell? ⟨b, off + i * 5 + 2, none⟩ = some (.int .i64 e.o) ∧ w.cell? ⟨b, off + i * 5 + 3, none⟩ = some (.int .i64 e.v) ∧ w.cell? ⟨b, off + i * 5 + 4, none⟩ = some (.int .i64 e.b) := by
  obtain ⟨b, off, ha, hc⟩ := h.reads.2 (by omega)
  have hl : i < l.length := by rw [h.len]; exact hi
  have hx : l[i]? = some l[i] := List.getElem?_eq_getElem hl
  have g := fun j (hj : j < 5) => flat_get Ev.vals 5 (fun _ => rfl) l i j l[i] hx hj
  refine ⟨b, off, l[i], ha, hx, h.wf _ (List.getElem_mem hl), ?_, ?_, ?_, ?_, ?_⟩
  · exact hc _ _ (g 0 (by decide))
  all_goals rw [Nat.add_assoc]
  · exact hc _ _ (g 1 (by decide))
  · exact hc _ _ (g 2 (by decide))
  · exact hc _ _ (g 3 (by decide))
  · exact hc _ _ (g 4 (by decide))

/-- A slice of ints. -/
structure IsInts (w : World) (a0 : Option Addr) (n c : Nat) (l : List Int) : Prop where
  reads : Reads w a0 n 1 (l.map (Value.int .i64))
  len : l.length = n
  le : n ≤ c
  cap : c ≤ maxLen
  wf : ∀ e ∈ l, Fit e
theorem IsInts.below {w w' : World} {a0 : Option Addr} {n c : Nat} {l : List Int} (h : IsInts w a0 n c l) (hb : Below w.heap.size w w') : IsInts w' a0 n c l :=
  ⟨h.reads.below hb, h.len, h.le, h.cap, h.wf⟩
theorem IsInts.bd {w : World} {a0 : Option Addr} {n c : Nat} {l : List Int} (h : IsInts w a0 n c l) : n ≤ 9223372036854775807 := by
  have := h.le; have := h.cap; unfold maxLen at *; omega
theorem IsInts.at {w : World} {a0 : Option Addr} {n c : Nat} {l : List Int} (h : IsInts w a0 n c l) {i : Nat} (hi : i < n) :
    ∃ b off x, a0 = some ⟨b, off, none⟩ ∧ l[i]? = some x ∧ Fit x ∧ w.cell? ⟨b, off + i, none⟩ = some (.int .i64 x) := by
  obtain ⟨b, off, ha, hc⟩ := h.reads.2 (by omega)
  have hl : i < l.length := by rw [h.len]; exact hi
  have hx : l[i]? = some l[i] := List.getElem?_eq_getElem hl
  exact ⟨b, off, l[i], ha, hx, h.wf _ (List.getElem_mem hl), hc i _ (by rw [List.getElem?_map, hx]; rfl)⟩

theorem ofFlats {α : Type} (f : α → List Value) (k : Nat) (hk0 : 0 < k) (hk : ∀ x, (f x).length = k) (R : α → Prop) {w : World} {a : Addr} {n : Nat}
    (h : ∀ i, i < n → ∃ x, R x ∧ ∀ j u, (f x)[j]? = some u → w.cell? (a.add (i * k + j)) = some u) :
    ∃ l : List α, l.length = n ∧ (∀ x ∈ l, R x) ∧ Reads w (some a) n k (l.flatMap f) := by
  have hall : ∀ m, m ≤ n → ∃ l : List α, l.length = m ∧ (∀ x ∈ l, R x) ∧ ∀ i x, l[i]? = some x → ∀ j u, (f x)[j]? = some u → w.cell? (a.add (i * k + j)) = some u := by
    intro m
    induction m with
    | zero => intro _; exact ⟨[], rfl, (fun x hx => by cases hx), (fun i x hx => by simp at hx)⟩
    | succ m ih =>
      intro hm
      obtain ⟨l, hl, hR, hc⟩ := ih (by omega)
      obtain ⟨x, hx, hxc⟩ := h m (by omega)
      refine ⟨l ++ [x], by simp [hl], fun y hy => ?_, fun i y hy => ?_⟩
      · rcases List.mem_append.1 hy with hy | hy
        · exact hR y hy
        · simp at hy; subst hy; exact hx
      · rcases Nat.lt_or_ge i l.length with hi | hi
        · rw [List.getElem?_append_left hi] at hy; exact hc i y hy
        · rw [List.getElem?_append_right hi] at hy
          have : i - l.length = 0 := by
            have := (List.getElem?_eq_some_iff.1 hy).1; simp at this; omega
          rw [this] at hy; simp at hy; subst hy
          have : i = m := by omega
          subst this; exact hxc
  obtain ⟨l, hl, hR, hc⟩ := hall n (Nat.le_refl _)
  refine ⟨l, hl, hR, by rw [flat_len f k hk, hl], fun hn => ?_⟩
  have hcell : ∀ j u, (l.flatMap f)[j]? = some u → w.cell? (a.add j) = some u := by
    intro j u hu
    obtain ⟨x, hx, hxu⟩ := flat_inv f k hk hk0 l j u hu
    have := hc _ x hx _ _ hxu
    rwa [Nat.mul_comm, Nat.div_add_mod] at this
  obtain ⟨b, off, spot⟩ := a
  have h0 : ∃ u, (l.flatMap f)[0]? = some u := by
    refine ⟨_, List.getElem?_eq_getElem (by rw [flat_len f k hk, hl]; exact Nat.mul_pos hn hk0)⟩
  obtain ⟨u, hu⟩ := h0
  have h1 := hcell 0 u hu
  have hspot : spot = none := by simpa [Addr.add] using World.cell?_spot h1
  subst hspot
  refine ⟨b, off, rfl, fun j u hu => ?_⟩
  have := hcell j u hu
  unfold Addr.add at this
  split at this
  · rename_i hj; subst hj; exact this
  · exact this

section
variable {H : Type} {enc : TypeId × Value → H} {w : World}
set_option maxRecDepth 100000 in
theorem open_ev {r : Reach} {b0 : Nat} {v : Value} {d : DataW H} {p : List MemPlace} (hv : Value.okWide Tryd.prog w r b0 33 v) (h : DataW.Trod enc Tryd.prog w 0 (fun _ => true) true 33 v d p) :
    ∃ e : Ev, v = .agg #[.int .i64 e.t, .int .i64 e.k, .int .i64 e.o, .int .i64 e.v, .int .i64 e.b] ∧ e.wf := by
  obtain ⟨zs, rfl, hl, hw⟩ := open_flat Tryd.underlying33 (by kernel_rfl) (by kernel_rfl) hv h
  match zs, hl with
  | [t, k, o, v, b], _ => exact ⟨⟨t, k, o, v, b⟩, rfl, hw t (by simp), hw k (by simp), hw o (by simp), hw v (by simp), hw b (by simp)⟩
end
end Go.Proofs.YtobhandimolmhaaDoor
