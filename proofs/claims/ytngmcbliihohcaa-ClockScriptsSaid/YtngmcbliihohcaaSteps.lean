/-
  Scripts over two clocks: the plain data, and the two arrays that the law keeps.
-/
import Derived.Test.YtngmcbliihohcaaPlay
import Derived.Test.YtngmcbliihohcaaReg3
import Derived.Laws.Bits64b
set_option linter.unusedSimpArgs false
set_option linter.unusedVariables false
namespace Go.Proofs.Ytngmcbliihohcaa
open Go.ChangeShapes Go.WideShapes Go.ChangeAt Go.RowKit Go.Deep

structure St4 where
  d : Int
  h : Int
  a : Int
  b : Int
def St4.wf (e : St4) : Prop := Fit e.d ∧ Fit e.h ∧ Fit e.a ∧ Fit e.b
def St4.vals (e : St4) : List Value := [.int .i64 e.d, .int .i64 e.h, .int .i64 e.a, .int .i64 e.b]
def stCells (l : List St4) : List Value := l.flatMap St4.vals
/-- A slice of steps that came in. -/
structure IsSts (w : World) (a0 : Option Addr) (n c : Nat) (l : List St4) : Prop where
  reads : Reads w a0 n 4 (stCells l)
  len : l.length = n
  le : n ≤ c
  cap : c ≤ maxLen
  wf : ∀ e ∈ l, e.wf
theorem IsSts.below {w w' : World} {a0 : Option Addr} {n c : Nat} {l : List St4} (h : IsSts w a0 n c l) (hb : Below w.heap.size w w') : IsSts w' a0 n c l :=
  ⟨h.reads.below hb, h.len, h.le, h.cap, h.wf⟩
theorem IsSts.bd {w : World} {a0 : Option Addr} {n c : Nat} {l : List St4} (h : IsSts w a0 n c l) : n ≤ 9223372036854775807 := by
  have := h.le; have := h.cap; unfold maxLen at *; omega
theorem IsSts.at {w : World} {a0 : Option Addr} {n c : Nat} {l : List St4} (h : IsSts w a0 n c l) {i : Nat} (hi : i < n) :
    ∃ b off e, a0 = some ⟨b, off, none⟩ ∧ l[i]? = some e ∧ e.wf ∧ w.cell? ⟨b, off + i * 4, none⟩ = some (.int .i64 e.d) ∧ w.cell? ⟨b, off + i * 4 + 1, none⟩ = some (.int .i64 e.h) ∧
      w.cell? ⟨b, off + i * 4 + 2, none⟩ = some (.int .i64 e.a) ∧ w.cell? ⟨b, off + i * 4 + 3, none⟩ = some (.int .i64 e.b) := by
  obtain ⟨b, off, ha, hc⟩ := h.reads.2 (by omega)
  have hl : i < l.length := by rw [h.len]; exact hi
  have hx : l[i]? = some l[i] := List.getElem?_eq_getElem hl
  have g := fun j (hj : j < 4) => flat_get St4.vals 4 (fun _ => rfl) l i j l[i] hx hj
  refine ⟨b, off, l[i], ha, hx, h.wf _ (List.getElem_mem hl), ?_, ?_, ?_, ?_⟩
  · exact hc _ _ (g 0 (by decide))
  all_goals rw [Nat.add_assoc]
  · exact hc _ _ (g 1 (by decide))
  · exact hc _ _ (g 2 (by decide))
  · exact hc _ _ (g 3 (by decide))

section
variable {H : Type} {enc : TypeId × Value → H} {w : World}
set_option maxRecDepth 100000 in
theorem open_sts {a0 : Option Addr} {n c : Nat} {d : DataW H} {p : List MemPlace} (h : DataW.Trod enc Try.prog w 0 (fun _ => true) true 48 (.slice a0 n c) d p) :
    ∃ l : List St4, IsSts w a0 n c l := by
  rcases open_flats Try.underlying48 Try.underlying52 (by kernel_rfl) (by kernel_rfl) h with ⟨rfl, rfl, rfl⟩ | ⟨a, rfl, hl, hm, hi⟩
  · exact ⟨[], ⟨Reads.nil, rfl, Nat.le_refl _, Nat.zero_le _, fun e he => by cases he⟩⟩
  · obtain ⟨l, h1, h2, h3⟩ := ofFlats St4.vals 4 (by decide) (fun _ => rfl) St4.wf (w := w) (a := a) (n := n) (fun i hin => by
      obtain ⟨zs, hz, hc, hw⟩ := hi i hin
      match zs, hz with
      | [t, k, o, v], _ =>
        refine ⟨⟨t, k, o, v⟩, ⟨hw t (by simp), hw k (by simp), hw o (by simp), hw v (by simp)⟩, fun j u hu => ?_⟩
        have hj : (([t, k, o, v] : List Int).map (Value.int .i64))[j]? = some u := hu
        rw [List.getElem?_map] at hj
        cases hz : ([t, k, o, v] : List Int)[j]? with
        | none => rw [hz] at hj; cases hj
        | some z => rw [hz] at hj; cases hj; exact hc j z hz)
    exact ⟨l, ⟨h3, h1, hl, hm, h2⟩⟩
end

theorem bits01 (x : Int) : bits .and .i64 x 1 = 0 ∨ bits .and .i64 x 1 = 1 := by
  have e : bits .and .i64 x 1 = IntKind.i64.wrap (((BitVec.ofInt 64 x).toNat &&& 1 : Nat) : Int) := by
    show IntKind.i64.wrap ((BitVec.ofInt 64 x &&& BitVec.ofInt 64 1).toNat : Int) = _
    rw [BitVec.toNat_and]; rfl
  rw [e, Nat.and_one_is_mod]
  rcases Nat.mod_two_eq_zero_or_one (BitVec.ofInt 64 x).toNat with h | h <;> rw [h]
  · exact .inl (by decide)
  · exact .inr (by decide)

/-- The two arrays of the law: c (block bc) and l (block bl), seen from index i. -/
structure Sc (w : World) (B bc bl i j b0 b1 g0 g1 : Nat) (a0 a1 : Option Addr) (n0 k0 n1 k1 : Nat) (x y p q : List Int) : Prop where
  c0 : w.cell? ⟨bc, i, none⟩ = some (.pointer (some ⟨b0, 0, none⟩))
  c1 : w.cell? ⟨bc, j, none⟩ = some (.pointer (some ⟨b1, 0, none⟩))
  f0 : w.frozen? ⟨bc, i, none⟩ = false
  f1 : w.frozen? ⟨bc, j, none⟩ = false
  l0 : w.cell? ⟨bl, i, none⟩ = some (.slice a0 n0 k0)
  l1 : w.cell? ⟨bl, j, none⟩ = some (.slice a1 n1 k1)
  e0 : w.frozen? ⟨bl, i, none⟩ = false
  e1 : w.frozen? ⟨bl, j, none⟩ = false
  C0 : ClockAt w b0 g0 x
  C1 : ClockAt w b1 g1 y
  I0 : IsInts w a0 n0 k0 p
  I1 : IsInts w a1 n1 k1 q
  h0 : 1 ≤ n0
  h1 : 1 ≤ n1
  ij : i ≠ j
  nb : bc ≠ bl
  gg : g0 ≠ g1
  bg0 : b0 ≠ g1
  bg1 : b1 ≠ g0
  o0 : bc ≠ b0 ∧ bc ≠ g0 ∧ bl ≠ b0 ∧ bl ≠ g0
  o1 : bc ≠ b1 ∧ bc ≠ g1 ∧ bl ≠ b1 ∧ bl ≠ g1
  A0 : ∀ q o s, a0 = some ⟨q, o, s⟩ → q ≠ g0 ∧ q ≠ g1 ∧ q ≠ bc ∧ q ≠ bl
  A1 : ∀ q o s, a1 = some ⟨q, o, s⟩ → q ≠ g0 ∧ q ≠ g1 ∧ q ≠ bc ∧ q ≠ bl
  lo : B ≤ bc ∧ B ≤ bl ∧ B ≤ g0 ∧ B ≤ g1

section
variable {w w' : World} {B bc bl i j b0 b1 g0 g1 : Nat} {a0 a1 : Option Addr} {n0 k0 n1 k1 : Nat} {x y p q : List Int}

theorem Sc.swap (h : Sc w B bc bl i j b0 b1 g0 g1 a0 a1 n0 k0 n1 k1 x y p q) : Sc w B bc bl j i b1 b0 g1 g0 a1 a0 n1 k1 n0 k0 y x q p :=
  ⟨h.c1, h.c0, h.f1, h.f0, h.l1, h.l0, h.e1, h.e0, h.C1, h.C0, h.I1, h.I0, h.h1, h.h0, h.ij.symm, h.nb, h.gg.symm, h.bg1, h.bg0, h.o1, h.o0,
   fun q o s e => ⟨(h.A1 q o s e).2.1, (h.A1 q o s e).1, (h.A1 q o s e).2.2⟩, fun q o s e => ⟨(h.A0 q o s e).2.1, (h.A0 q o s e).1, (h.A0 q o s e).2.2⟩, ⟨h.lo.1, h.lo.2.1, h.lo.2.2.2, h.lo.2.2.1⟩⟩

theorem block_of_cell {p : Addr} {v : Value} (h : w.cell? p = some v) : p.block < w.heap.size := by
  rcases Nat.lt_or_ge p.block w.heap.size with h1 | h1
  · exact h1
  · simp [World.cell?, Array.getElem?_eq_none h1] at h
theorem frozen_below {p : Addr} (hb : Below w.heap.size w w') (h : p.block < w.heap.size) (hf : w.frozen? p = false) : w'.frozen? p = false := by
  rw [World.frozen?_of_block (hb.block p.block h)]; exact hf

theorem Sc.lt (h : Sc w B bc bl i j b0 b1 g0 g1 a0 a1 n0 k0 n1 k1 x y p q) : bc < w.heap.size ∧ bl < w.heap.size ∧ b0 < w.heap.size ∧ b1 < w.heap.size ∧ g0 < w.heap.size ∧ g1 < w.heap.size :=
  ⟨block_of_cell h.c0, block_of_cell h.l0, h.C0.lt.1, h.C1.lt.1, h.C0.lt.2, h.C1.lt.2⟩

theorem Sc.ltA (h : Sc w B bc bl i j b0 b1 g0 g1 a0 a1 n0 k0 n1 k1 x y p q) : ∀ q o s, a0 = some ⟨q, o, s⟩ → q < w.heap.size := by
  intro q' o s e
  obtain ⟨b, off, ha, hc⟩ := h.I0.reads.2 (by have := h.h0; omega)
  rw [e] at ha
  cases ha
  have hl : 0 < p.length := by rw [h.I0.len]; have := h.h0; omega
  exact block_of_cell (hc 0 _ (by rw [List.getElem?_map, List.getElem?_eq_getElem hl]; rfl))

theorem Sc.below (h : Sc w B bc bl i j b0 b1 g0 g1 a0 a1 n0 k0 n1 k1 x y p q) (hb : Below w.heap.size w w') : Sc w' B bc bl i j b0 b1 g0 g1 a0 a1 n0 k0 n1 k1 x y p q :=
  { h with c0 := keep hb h.c0, c1 := keep hb h.c1, l0 := keep hb h.l0, l1 := keep hb h.l1, f0 := frozen_below hb h.lt.1 h.f0, f1 := frozen_below hb h.lt.1 h.f1,
           e0 := frozen_below hb h.lt.2.1 h.e0, e1 := frozen_below hb h.lt.2.1 h.e1, C0 := h.C0.below hb, C1 := h.C1.below hb, I0 := h.I0.below hb, I1 := h.I1.below hb }

/-- A call that turned the clock at i. -/
theorem Sc.play {x' : List Int} (h : Sc w B bc bl i j b0 b1 g0 g1 a0 a1 n0 k0 n1 k1 x y p q) (hc : ClockAt w' b0 g0 x') (hm : w.grownBy w' (some g0)) : Sc w' B bc bl i j b0 b1 g0 g1 a0 a1 n0 k0 n1 k1 x' y p q := by
  have fz : ∀ p : Addr, p.block < w.heap.size → p.block ≠ g0 → w.frozen? p = false → w'.frozen? p = false := fun p h1 h2 h3 => by
    rw [World.frozen?_of_block (hm.block p.block h1 (by simpa using h2))]; exact h3
  exact { h with
    c0 := hm.cell h.c0 (by simpa using h.o0.2.1), c1 := hm.cell h.c1 (by simpa using h.o0.2.1), l0 := hm.cell h.l0 (by simpa using h.o0.2.2.2), l1 := hm.cell h.l1 (by simpa using h.o0.2.2.2)
    f0 := fz _ h.lt.1 h.o0.2.1 h.f0, f1 := fz _ h.lt.1 h.o0.2.1 h.f1, e0 := fz _ h.lt.2.1 h.o0.2.2.2 h.e0, e1 := fz _ h.lt.2.1 h.o0.2.2.2 h.e1
    C0 := hc, C1 := h.C1.mod hm h.bg1 h.gg.symm, I0 := h.I0.mod hm (fun q o s e => (h.A0 q o s e).1), I1 := h.I1.mod hm (fun q o s e => (h.A1 q o s e).1) }

/-- Store of a new clock at i. -/
theorem Sc.setC {b' g' N : Nat} {x' : List Int} (h : Sc w B bc bl i j b0 b1 g0 g1 a0 a1 n0 k0 n1 k1 x y p q) (hc : ClockAt w b' g' x') (h2 : bc < N ∧ bl < N ∧ b1 < N ∧ g1 < N) (hA0 : ∀ q o s, a0 = some ⟨q, o, s⟩ → q < N)
    (hA1 : ∀ q o s, a1 = some ⟨q, o, s⟩ → q < N) (hb : N ≤ b') (hg : N ≤ g') (hB : B ≤ N) :
    Sc (w.setCell ⟨bc, i, none⟩ (.pointer (some ⟨b', 0, none⟩))) B bc bl i j b' b1 g' g1 a0 a1 n0 k0 n1 k1 x' y p q := by
  have hm : w.grownBy (w.setCell ⟨bc, i, none⟩ (.pointer (some ⟨b', 0, none⟩))) (some bc) := mod_set (mod_refl w (some bc)) _ _
  have hij := h.ij
  have o1 := h.o1
  have nb := h.nb
  refine { h with
    c0 := World.cell?_setCell_same _ _ _ h.c0
    c1 := by rw [World.cell?_setCell_other _ _ _ _ (by intro e; exact hij (congrArg Addr.off e))]; exact h.c1
    l0 := hm.cell h.l0 (by simpa using nb.symm), l1 := hm.cell h.l1 (by simpa using nb.symm)
    f0 := by rw [World.frozen?_setCell]; exact h.f0
    f1 := by rw [World.frozen?_setCell]; exact h.f1
    e0 := by rw [World.frozen?_setCell]; exact h.e0
    e1 := by rw [World.frozen?_setCell]; exact h.e1
    C0 := hc.mod hm (by omega) (by omega), C1 := h.C1.mod hm (fun e => o1.1 e.symm) (fun e => o1.2.1 e.symm)
    I0 := h.I0.mod hm (fun q o s e => (h.A0 q o s e).2.2.1), I1 := h.I1.mod hm (fun q o s e => (h.A1 q o s e).2.2.1)
    gg := by omega, bg0 := by omega, bg1 := by omega, o0 := by omega
    A0 := fun q o s e => ⟨by have := hA0 q o s e; omega, (h.A0 q o s e).2⟩, A1 := fun q o s e => ⟨by have := hA1 q o s e; omega, (h.A1 q o s e).2⟩
    lo := ⟨h.lo.1, h.lo.2.1, by omega, h.lo.2.2.2⟩ }

/-- Store of a list at i. -/
theorem Sc.setL {a' : Option Addr} {n' k' : Nat} {p' : List Int} (h : Sc w B bc bl i j b0 b1 g0 g1 a0 a1 n0 k0 n1 k1 x y p q) (hI : IsInts w a' n' k' p') (hn : 1 ≤ n') (hA : ∀ q o s, a' = some ⟨q, o, s⟩ → q ≠ g0 ∧ q ≠ g1 ∧ q ≠ bc ∧ q ≠ bl) :
    Sc (w.setCell ⟨bl, i, none⟩ (.slice a' n' k')) B bc bl i j b0 b1 g0 g1 a' a1 n' k' n1 k1 x y p' q := by
  have hm : w.grownBy (w.setCell ⟨bl, i, none⟩ (.slice a' n' k')) (some bl) := mod_set (mod_refl w (some bl)) _ _
  have hij := h.ij
  have o1 := h.o1
  have o0 := h.o0
  have nb := h.nb
  exact { h with
    l0 := World.cell?_setCell_same _ _ _ h.l0
    l1 := by rw [World.cell?_setCell_other _ _ _ _ (by intro e; exact hij (congrArg Addr.off e))]; exact h.l1
    c0 := hm.cell h.c0 (by simpa using nb), c1 := hm.cell h.c1 (by simpa using nb)
    f0 := by rw [World.frozen?_setCell]; exact h.f0
    f1 := by rw [World.frozen?_setCell]; exact h.f1
    e0 := by rw [World.frozen?_setCell]; exact h.e0
    e1 := by rw [World.frozen?_setCell]; exact h.e1
    C0 := h.C0.mod hm (fun e => o0.2.2.1 e.symm) (fun e => o0.2.2.2 e.symm), C1 := h.C1.mod hm (fun e => o1.2.2.1 e.symm) (fun e => o1.2.2.2 e.symm)
    I0 := hI.mod hm (fun q o s e => (hA q o s e).2.2.2), I1 := h.I1.mod hm (fun q o s e => (h.A1 q o s e).2.2.2)
    h0 := hn, A0 := hA }
end

/-- An array of two in a block. -/
def Pair (w : World) (b : Nat) (u v : Value) (t : TypeId) : Prop := w.heap[b]? = some (.cells #[u, v] t (0, 0))
section
variable {w w' : World} {b : Nat} {u v u' : Value} {t : TypeId}
theorem Pair.facts (h : Pair w b u v t) : w.cell? ⟨b, 0, none⟩ = some u ∧ w.cell? ⟨b, 1, none⟩ = some v ∧ w.frozen? ⟨b, 0, none⟩ = false ∧ w.frozen? ⟨b, 1, none⟩ = false :=
  ⟨cell_of_block h, cell_of_block h, free_of_block h, free_of_block h⟩
theorem Pair.lt (h : Pair w b u v t) : b < w.heap.size := (Array.getElem?_eq_some_iff.1 h).1
theorem Pair.new (w : World) (u v : Value) (t : TypeId) : Pair (w.alloc (.cells #[u, v] t)) w.heap.size u v t := (MapKept.heap_alloc w _).1
theorem Pair.below (h : Pair w b u v t) (hb : Below w.heap.size w w') : Pair w' b u v t := by
  have hl := h.lt
  unfold Pair at *; rw [hb.block b hl]; exact h
theorem Pair.set0 (h : Pair w b u v t) : Pair (w.setCell ⟨b, 0, none⟩ u') b u' v t := by
  unfold Pair at *; simp [World.setCell, Array.getElem?_modify, h]
theorem Pair.set1 (h : Pair w b u v t) : Pair (w.setCell ⟨b, 1, none⟩ u') b u u' t := by
  unfold Pair at *; simp [World.setCell, Array.getElem?_modify, h]
theorem Pair.far {g o : Nat} (h : Pair w b u v t) (hg : b ≠ g) : Pair (w.setCell ⟨g, o, none⟩ u') b u v t := by
  unfold Pair at *; rw [Below.heap_setCell _ _ _ _ (by simpa using hg)]; exact h
end

theorem Sc.start {w : World} {B bc bl b0 b1 g0 g1 : Nat} {a0 a1 : Option Addr} {n0 k0 n1 k1 : Nat} {x y : List Int} {tc tl : TypeId}
    (hc : Pair w bc (.pointer (some ⟨b0, 0, none⟩)) (.pointer (some ⟨b1, 0, none⟩)) tc) (hl : Pair w bl (.slice a0 n0 k0) (.slice a1 n1 k1) tl) (C0 : ClockAt w b0 g0 x) (C1 : ClockAt w b1 g1 y)
    (I0 : IsInts w a0 n0 k0 x) (I1 : IsInts w a1 n1 k1 y) (hA : ∀ q o s, a0 = some ⟨q, o, s⟩ → q < B) (hA1 : ∀ q o s, a1 = some ⟨q, o, s⟩ → q < B)
    (r1 : B ≤ bc) (r2 : bc < b0) (r3 : bc < g0) (r4 : b0 < b1) (r5 : g0 < b1) (r6 : b0 < g1) (r7 : g0 < g1) (r8 : b1 < bl) (r9 : g1 < bl) :
    Sc w B bc bl 0 1 b0 b1 g0 g1 a0 a1 n0 k0 n1 k1 x y x y := by
  obtain ⟨c0, c1, f0, f1⟩ := hc.facts
  obtain ⟨l0, l1, e0, e1⟩ := hl.facts
  exact ⟨c0, c1, f0, f1, l0, l1, e0, e1, C0, C1, I0, I1, by have := C0.pos; have := I0.len; omega, by have := C1.pos; have := I1.len; omega, by decide, by omega, by omega, by omega, by omega, by omega, by omega,
    fun q o s e => by have := hA q o s e; omega, fun q o s e => by have := hA1 q o s e; omega, by omega⟩
theorem ints_lt {w : World} {a0 : Option Addr} {n k : Nat} {x : List Int} (h : IsInts w a0 n k x) (hn : 1 ≤ n) : ∀ q o s, a0 = some ⟨q, o, s⟩ → q < w.heap.size := by
  intro q' o s e
  obtain ⟨b, off, ha, hc⟩ := h.reads.2 (by omega)
  rw [e] at ha
  cases ha
  have hl : 0 < x.length := by rw [h.len]; omega
  exact block_of_cell (hc 0 _ (by rw [List.getElem?_map, List.getElem?_eq_getElem hl]; rfl))

def ScE (w : World) (B bc bl i j : Nat) : Prop := ∃ b0 b1 g0 g1 a0 a1 n0 k0 n1 k1 x y, Sc w B bc bl i j b0 b1 g0 g1 a0 a1 n0 k0 n1 k1 x y x y
theorem ScE.mk {w : World} {B bc bl i j b0 b1 g0 g1 : Nat} {a0 a1 : Option Addr} {n0 k0 n1 k1 : Nat} {x y : List Int} (h : Sc w B bc bl i j b0 b1 g0 g1 a0 a1 n0 k0 n1 k1 x y x y) : ScE w B bc bl i j :=
  ⟨_, _, _, _, _, _, _, _, _, _, _, _, h⟩
theorem ScE.swap {w : World} {B bc bl i j : Nat} (h : ScE w B bc bl i j) : ScE w B bc bl j i :=
  let ⟨_, _, _, _, _, _, _, _, _, _, _, _, h⟩ := h
  ⟨_, _, _, _, _, _, _, _, _, _, _, _, h.swap⟩
end Go.Proofs.Ytngmcbliihohcaa
