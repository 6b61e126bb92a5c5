/-
  From a walk to a row: what all laws of this seat share. A law's walk says: the call returns true and turns nothing that stood; here its row's step is made of it. Arguments are opened to plain data: numbers, structs of numbers, slices of such.
-/
import Derived.Test.YtobhandimolmhaaDoorRows
import Derived.WalkKit
import Derived.ProofKit
import Derived.OpenShut
import Derived.ShutString
import Derived.ChangeOld
import Derived.Below
import Derived.Deep.Slices
set_option linter.unusedSimpArgs false
set_option linter.unusedVariables false
namespace Go.Proofs.YtobhandimolmhaaDoor
open Go.ChangeShapes Go.WideShapes Go.ChangeAt Go.RowKit Go.Deep

theorem own : ownKnob Tryd.prog.godebug = none := by kernel_rfl
theorem laidOut : laidOutB Tryd.prog = true := by kernel_rfl
theorem mixed : Tryd.prog.follows .mixedOrders = true := by kernel_rfl

section
variable {H : Type} {enc : TypeId × Value → H} {P : Program} {w : World} {base : Nat} {spare : Nat → Bool} {held : Bool}

/-- The arguments read as they did. -/
theorem trodAll_back (hl : laidOutB P = true) {W W' : World} (hb : Below W.heap.size W W') : ∀ (ts : List TypeId) (vs : List Value) (ds : List (DataW H)) (ps : List MemPlace),
    ts.all (fun t => P.readableRec t && decide (t < P.types.size)) = true → DataW.TrodAll enc P W 0 (fun _ => true) true ts vs ds ps →
    DataW.TrodAll enc P W' 0 (fun b => decide (b < W.heap.size)) true ts vs ds ps
  | [], vs, ds, ps, _, h => by
    obtain ⟨rfl, rfl, rfl⟩ := trodAll_nil h
    exact trodAll_mk0
  | t :: ts, vs, ds, ps, hB, h => by
    obtain ⟨v, vs', d, ds', p, q, rfl, rfl, rfl, h0, r0⟩ := trodAll_cons h
    simp only [List.all_cons, Bool.and_eq_true, decide_eq_true_eq] at hB
    have lt0 : ∀ x ∈ p, x.block < W.heap.size := by obtain ⟨m, hm⟩ := h0; exact DataW.trod_lt m _ _ _ hm
    exact trodAll_cons_mk (Below.trod hl hB.1.1 hB.1.2 h0 hb lt0) (trodAll_back hl hb ts vs' ds' q hB.2 r0)

/-- A struct of numbers, one cell a field. -/
def flatB (P : Program) (fs : Array Field) : Bool :=
  (List.range fs.size).all fun j => match fs[j]? with
    | some f => f.offset == j && P.cellsOf f.type == 1 && (match P.underlying f.type with | some (.int .i64) => true | _ => false)
    | none => false

theorem trod_flat {t : TypeId} {fs : Array Field} {fuel : Nat} {cs : List Value} {x : DataW H × List MemPlace} (ht : P.underlying t = some (.struct fs)) (hf : flatB P fs = true) (hC : P.cellsOf t = fs.size)
    (h : DataW.trod enc P w base spare held fuel t cs = some x) :
    ∃ zs : List Int, cs = zs.map (Value.int .i64) ∧ zs.length = fs.size ∧ x.2 = [] ∧ ∀ z ∈ zs, (Lit.int .i64 z).wf = true := by
  obtain ⟨xs, n, _, rfl, hlen, hxl, hg⟩ := DataW.trod_struct ht h
  rw [hC] at hlen
  have key : ∀ j, j < fs.size → ∃ z : Int, cs[j]? = some (.int .i64 z) ∧ (Lit.int .i64 z).wf = true ∧ ∃ y, xs[j]? = some y ∧ y.2 = [] := by
    intro j hj
    have h1 := List.all_eq_true.1 hf j (List.mem_range.2 hj)
    have hfj : fs[j]? = some (fs[j]) := Array.getElem?_eq_getElem hj
    rw [hfj] at h1
    simp only [Bool.and_eq_true, beq_iff_eq] at h1
    obtain ⟨⟨ho, hc⟩, hu⟩ := h1
    have hu' : P.underlying fs[j].type = some (.int .i64) := by
      split at hu
      · assumption
      · cases hu
    have h2 := hg j fs[j] hfj
    have hxj : xs[j]? = some (xs[j]'(by omega)) := List.getElem?_eq_getElem (by omega)
    rw [ho, hc, hxj] at h2
    obtain ⟨z, hz, hy, hw⟩ := DataW.trod_int hu' h2
    have hcj : cs[j]? = some (cs[j]'(by omega)) := List.getElem?_eq_getElem (by omega)
    have hone : (cs.drop j).take 1 = [cs[j]'(by omega)] := by rw [List.drop_eq_getElem_cons (by omega)]; rfl
    rw [hone] at hz
    have : cs[j]'(by omega) = .int .i64 z := by simpa using hz
    refine ⟨z, by rw [hcj, this], hw, _, hxj, by rw [hy]⟩
  have hall : ∀ (k : Nat) (l : List Value), l.length = k → (∀ j, j < k → ∃ z : Int, l[j]? = some (.int .i64 z) ∧ (Lit.int .i64 z).wf = true) →
      ∃ zs : List Int, l = zs.map (Value.int .i64) ∧ zs.length = k ∧ ∀ z ∈ zs, (Lit.int .i64 z).wf = true := by
    intro k
    induction k with
    | zero => intro l hl _; exact ⟨[], by simpa using hl, rfl, fun z hz => by cases hz⟩
    | succ k ih =>
      intro l hl h
      cases l with
      | nil => simp at hl
      | cons v l =>
        obtain ⟨z, hz, hw⟩ := h 0 (by omega)
        obtain ⟨zs, rfl, hzl, hzw⟩ := ih l (by simpa using hl) (fun j hj => by simpa using h (j + 1) (by omega))
        have hv : v = .int .i64 z := by simpa using hz
        subst hv
        exact ⟨z :: zs, rfl, by simp [hzl], fun y hy => by
          cases hy with
          | head => exact hw
          | tail _ hm => exact hzw y hm⟩
  obtain ⟨zs, hcs, hzl, hzw⟩ := hall fs.size cs hlen (fun j hj => let ⟨z, h1, h2, _⟩ := key j hj; ⟨z, h1, h2⟩)
  refine ⟨zs, hcs, hzl, ?_, hzw⟩
  simp only [List.flatMap_eq_nil_iff]
  intro y hy
  obtain ⟨j, hj, rfl⟩ := List.getElem_of_mem hy
  obtain ⟨_, _, _, y', hy', h2⟩ := key j (by omega)
  rw [List.getElem?_eq_getElem hj] at hy'
  cases hy'
  exact h2

/-- A struct of numbers as an argument by value. -/
theorem open_flat {r : Reach} {b0 : Nat} {t : TypeId} {fs : Array Field} {v : Value} {d : DataW H} {p : List MemPlace} (ht : P.underlying t = some (.struct fs)) (hf : flatB P fs = true) (hC : P.cellsOf t = fs.size)
    (hv : Value.okWide P w r b0 t v) (h : DataW.Trod enc P w base spare held t v d p) :
    ∃ zs : List Int, v = .agg (zs.map (Value.int .i64)).toArray ∧ zs.length = fs.size ∧ ∀ z ∈ zs, (Lit.int .i64 z).wf = true := by
  obtain ⟨cs, rfl, hsz⟩ := okWide_struct ht hv
  obtain ⟨fuel, hf'⟩ := h
  obtain ⟨zs, h1, h2, _, h4⟩ := trod_flat ht hf hC hf'
  exact ⟨zs, by rw [← h1]; simp [Value.cells], h2, h4⟩

/-- A slice of structs of numbers as an argument. -/
theorem open_flats {t e : TypeId} {fs : Array Field} {a0 : Option Addr} {n c : Nat} {d : DataW H} {p : List MemPlace} (ht : P.underlying t = some (.slice e)) (he : P.underlying e = some (.struct fs)) (hf : flatB P fs = true) (hC : P.cellsOf e = fs.size)
    (h : DataW.Trod enc P w base spare held t (.slice a0 n c) d p) :
    (a0 = none ∧ n = 0 ∧ c = 0) ∨
    ∃ (a : Addr), a0 = some a ∧ n ≤ c ∧ c ≤ maxLen ∧ ∀ i, i < n → ∃ zs : List Int, zs.length = fs.size ∧ (∀ j z, zs[j]? = some z → w.cell? (a.add (i * fs.size + j)) = some (.int .i64 z)) ∧ ∀ z ∈ zs, (Lit.int .i64 z).wf = true := by
  obtain ⟨fuel, h'⟩ := h
  rcases open_slice ht h' with ⟨h0, _⟩ | ⟨a, len, cap, m, k, D, Pl, hcs, hb, hl, hm, hmm, hx, hi⟩
  · simp [Value.cells] at h0
    exact .inl h0
  · simp [Value.cells] at hcs
    obtain ⟨rfl, rfl, rfl⟩ := hcs
    refine .inr ⟨a, rfl, hl, hm, fun i hin => ?_⟩
    obtain ⟨cs', hc, ht'⟩ := hi i (by rw [hmm]; split <;> omega)
    rw [hC] at hc
    obtain ⟨zs, h1, h2, _, h4⟩ := trod_flat he hf hC ht'
    obtain ⟨_, hcl, hat⟩ := World.cells?_some hc
    refine ⟨zs, h2, fun j z hz => ?_, h4⟩
    have hj : j < fs.size := by rw [← h2]; exact (List.getElem?_eq_some_iff.1 hz).1
    rw [← Go.Deep.add_add, hat j hj, h1, List.getElem?_map, hz]
    rfl
end

/-- A row's step out of a law's walk. -/
theorem law_post {f : Func} {s : ChangeSpec} {apart fresh handsOn : Bool} {W W' : World} {args : Array Value} {H : Type} {enc : TypeId × Value → H} {ds gs : List (DataW H)} {before p : List MemPlace} {bt : TypeId}
    (hW : DataW.Whole enc Tryd.prog f.params.toList s.vars apart W args.toList ds gs before) (hA : DataW.TrodAll enc Tryd.prog W 0 (fun _ => true) true f.params.toList args.toList ds p)
    (hB : f.params.toList.all (fun t => Tryd.prog.readableRec t && decide (t < Tryd.prog.types.size)) = true)
    (hr : f.resultTypes = #[bt]) (hbt : Tryd.prog.underlying bt = some .bool) (hv : s.vars = [])
    (hs : s.fn H (ds ++ gs) = { results := [.lit (.bool true)], args := ds }) (hb : Below W.heap.size W W') :
    s.post enc Tryd.prog f apart fresh handsOn false W args (.bool true) W' := by
  have h1 : DataW.TrodAll enc Tryd.prog W' 0 (fun b => decide (b < W.heap.size)) true f.params.toList args.toList (s.fn H (ds ++ gs)).args p := by
    rw [hs]; exact trodAll_back laidOut hb _ _ _ _ hB hA
  refine ⟨ds, gs, before, [], p, [], hW, ?_, h1, ?_, hb.frame _, fun h => by cases h⟩
  · rw [hs, hr]; exact trodAll_mk1 (shut_bool hbt true)
  · rw [hs, hv]; rfl
end Go.Proofs.YtobhandimolmhaaDoor
