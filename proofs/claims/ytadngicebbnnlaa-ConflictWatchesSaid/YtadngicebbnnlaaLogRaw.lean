/-
  A log in the middle of Add: the events and what they are about by themselves; what each store makes of it; the specification of Add.
-/
import Derived.Test.YtadngicebbnnlaaLog
import Derived.Test.YtadngicebbnnlaaApp
set_option linter.unusedSimpArgs false
set_option linter.unusedVariables false
namespace Go.Proofs.Ytadngicebbnnlaa
open Go.ChangeShapes Go.WideShapes Go.ChangeAt Go.RowKit Go.Deep

/-- The blocks that a log's writers write. -/
def logR (b : Nat) (vl va : Value) (k : Nat) : Prop := k = b ∨ vl.ownBlock = some k ∨ va.ownBlock = some k

structure LogRaw (w : World) (B b : Nat) (vl va : Value) (l : List Ev) (ab : List Value) (st la ow : Nat → Int) : Prop where
  low : B ≤ b
  blk : ∃ cs, w.heap[b]? = some (.cells cs 132 (0, 0)) ∧ cs.size = 26 ∧ cs[0]? = some vl ∧ cs[1]? = some va ∧
    ∀ i, i < 8 → cs[2 + i * 2]? = some (.int .i64 (st i)) ∧ cs[2 + i * 2 + 1]? = some (.int .i64 (la i)) ∧ cs[18 + i]? = some (.int .i64 (ow i))
  ev : w.ownsRow B 38 5 vl l.length (evCells l)
  abo : w.ownsRow B 118 1 va ab.length ab

theorem LogAt.raw {w : World} {B b : Nat} {vl va : Value} {S : LogS} (h : LogAt w B b vl va S) : LogRaw w B b vl va S.l (S.l.map abVal) S.st S.la S.ow :=
  ⟨h.low, h.blk, h.ev, by rw [List.length_map]; exact h.ab⟩
theorem LogRaw.log {w : World} {B b : Nat} {vl va : Value} {S : LogS} (h : LogRaw w B b vl va S.l (S.l.map abVal) S.st S.la S.ow) (hn : S.l = [] → vl = .slice none 0 0 ∧ va = .slice none 0 0) : LogAt w B b vl va S :=
  ⟨h.low, h.blk, h.ev, by have := h.abo; rw [List.length_map] at this; exact this, hn⟩

section
variable {w w' : World} {B b : Nat} {vl va : Value} {l : List Ev} {ab : List Value} {st la ow : Nat → Int}

theorem LogRaw.lt (h : LogRaw w B b vl va l ab st la ow) : b < w.heap.size := by
  obtain ⟨cs, h1, _⟩ := h.blk; exact (Array.getElem?_eq_some_iff.1 h1).1
theorem LogRaw.cl (h : LogRaw w B b vl va l ab st la ow) : w.cell? ⟨b, 0, none⟩ = some vl := by
  obtain ⟨cs, h1, _, h2, _⟩ := h.blk; rw [show w.cell? ⟨b, 0, none⟩ = cs[0]? by simp [World.cell?, h1]]; exact h2
theorem LogRaw.ca (h : LogRaw w B b vl va l ab st la ow) : w.cell? ⟨b, 1, none⟩ = some va := by
  obtain ⟨cs, h1, _, _, h2, _⟩ := h.blk; rw [show w.cell? ⟨b, 1, none⟩ = cs[1]? by simp [World.cell?, h1]]; exact h2
theorem LogRaw.free (h : LogRaw w B b vl va l ab st la ow) (o : Nat) : w.frozen? ⟨b, o, none⟩ = false := by
  obtain ⟨cs, h1, _⟩ := h.blk; simp [World.frozen?, h1]
theorem LogRaw.any (h : LogRaw w B b vl va l ab st la ow) {o : Nat} (ho : o < 26) : ∃ u, w.cell? ⟨b, o, none⟩ = some u := by
  obtain ⟨cs, h1, h2, _⟩ := h.blk
  exact ⟨cs[o], by simp [World.cell?, h1, h2, ho]⟩
theorem LogRaw.frame (h : LogRaw w B b vl va l ab st la ow) (hb : w'.heap[b]? = w.heap[b]?) (hl : ∀ g, vl.ownBlock = some g → w'.heap[g]? = w.heap[g]?) (ha : ∀ g, va.ownBlock = some g → w'.heap[g]? = w.heap[g]?) : LogRaw w' B b vl va l ab st la ow := by
  obtain ⟨cs, h1, r⟩ := h.blk
  exact ⟨h.low, ⟨cs, by rw [hb]; exact h1, r⟩, ownsRow_at h.ev hl, ownsRow_at h.abo ha⟩
theorem LogRaw.below (h : LogRaw w B b vl va l ab st la ow) (hb : Below w.heap.size w w') : LogRaw w' B b vl va l ab st la ow :=
  h.frame (hb.block b h.lt) (fun g hg => hb.block g (h.ev.lt g hg).2) (fun g hg => hb.block g (h.abo.lt g hg).2)
theorem LogRaw.base (h : LogRaw w B b vl va l ab st la ow) : ∀ x, logR b vl va x → B ≤ x := by
  rintro x (rfl | hx | hx)
  · exact h.low
  · exact (h.ev.lt x hx).1
  · exact (h.abo.lt x hx).1
theorem LogRaw.rlt (h : LogRaw w B b vl va l ab st la ow) : ∀ x, logR b vl va x → x < w.heap.size := by
  rintro x (rfl | hx | hx)
  · exact h.lt
  · exact (h.ev.lt x hx).2
  · exact (h.abo.lt x hx).2

theorem own_obj {e : TypeId} {size : Nat} {v : Value} {n g : Nat} {xs : List Value} (h : w.ownsRow B e size v n xs) (hg : v.ownBlock = some g) : ∃ cur, w.heap[g]? = some (.cells cur e (0, 0)) := by
  rcases h.2 with ⟨rfl, _⟩ | ⟨g', cap, cur, rfl, hb, hgg, rest⟩
  · cases hg
  · cases hg; exact ⟨cur, hgg⟩
theorem own_slice {e : TypeId} {size : Nat} {v : Value} {n : Nat} {xs : List Value} (h : w.ownsRow B e size v n xs) (hn : 0 < n) : ∃ g cap, v = .slice (some ⟨g, 0, none⟩) n cap := by
  rcases h.2 with ⟨_, h0⟩ | ⟨g', cap, cur, rfl, _⟩
  · omega
  · exact ⟨_, _, rfl⟩
theorem own_ne {e e' : TypeId} {g g' : Nat} {cs cs' : Array Value} {f f' : Nat × Nat} (h : w.heap[g]? = some (.cells cs e f)) (h' : w.heap[g']? = some (.cells cs' e' f')) (hne : e ≠ e') : g ≠ g' := by
  rintro rfl
  rw [h] at h'
  cases h'
  exact hne rfl

theorem heap_set {b o : Nat} {cs : Array Value} {e : TypeId} {f : Nat × Nat} (h : w.heap[b]? = some (.cells cs e f)) (u : Value) : (w.setCell ⟨b, o, none⟩ u).heap[b]? = some (.cells (cs.setIfInBounds o u) e f) := by
  simp [World.setCell, Array.getElem?_modify, h]

theorem LogRaw.push_l (h : LogRaw w B b vl va l ab st la ow) (e : Ev) {vl' : Value} (ho : w'.ownsRow B 38 5 vl' (l.length + 1) (evCells l ++ e.vals)) (hg : w.grownBy w' vl.ownBlock)
    (hv : ∀ k, vl'.ownBlock = some k → vl.ownBlock = some k ∨ w.heap.size ≤ k) :
    LogRaw (w'.setCell ⟨b, 0, none⟩ vl') B b vl' va (l ++ [e]) ab st la ow ∧ Wrote (logR b vl va) w (w'.setCell ⟨b, 0, none⟩ vl') ∧ (∀ k, logR b vl' va k → logR b vl va k ∨ w.heap.size ≤ k) := by
  obtain ⟨cs, h1, hsz, h2, h3, h4⟩ := h.blk
  have hbl := h.lt
  have hne : ∀ g, vl.ownBlock = some g → b ≠ g := fun g hgg => by
    obtain ⟨cur, hc⟩ := own_obj h.ev hgg
    exact own_ne h1 hc (by decide)
  have hne2 : ∀ g g', vl.ownBlock = some g → va.ownBlock = some g' → g' ≠ g := fun g g' hgg hgg' => by
    obtain ⟨cur, hc⟩ := own_obj h.ev hgg
    obtain ⟨cur', hc'⟩ := own_obj h.abo hgg'
    exact own_ne hc' hc (by decide)
  have hbw : w'.heap[b]? = some (.cells cs 132 (0, 0)) := by rw [hg.block b hbl (fun e => hne b e.symm rfl)]; exact h1
  have hset := heap_set (o := 0) hbw vl'
  have oth : ∀ g, g ≠ b → (w'.setCell ⟨b, 0, none⟩ vl').heap[g]? = w'.heap[g]? := fun g hgb => Below.heap_setCell _ _ _ _ hgb
  refine ⟨⟨h.low, ⟨_, hset, by simpa using hsz, by simp [hsz], by simpa using h3, fun i hi => ?_⟩, ?_, ?_⟩, ?_, ?_⟩
  · have := h4 i hi
    rw [Array.getElem?_setIfInBounds_ne (by omega), Array.getElem?_setIfInBounds_ne (by omega), Array.getElem?_setIfInBounds_ne (by omega)]
    exact this
  · have := ownsRow_at (w' := w'.setCell ⟨b, 0, none⟩ vl') ho (fun g hgg => oth g (by
      obtain ⟨cur, hc⟩ := own_obj ho hgg
      exact (own_ne hbw hc (by decide)).symm))
    simpa [evCells, List.length_append] using this
  · refine ownsRow_at h.abo (fun g hgg => ?_)
    obtain ⟨cur, hc⟩ := own_obj h.abo hgg
    rw [oth g (own_ne h1 hc (by decide)).symm, hg.block g (h.abo.lt g hgg).2 (fun e => hne2 g g e.symm hgg rfl)]
  · exact (Wrote.of_grown hg (fun k hk => .inr (.inl hk))).trans (Wrote.setCell (R := logR b vl va) w' vl' (.inl rfl)) (fun x hx => .inl hx)
  · rintro k (rfl | hk | hk)
    · exact .inl (.inl rfl)
    · rcases hv k hk with h' | h'
      · exact .inl (.inr (.inl h'))
      · exact .inr h'
    · exact .inl (.inr (.inr hk))

theorem LogRaw.push_a (h : LogRaw w B b vl va l ab st la ow) (x : Value) {va' : Value} (ho : w'.ownsRow B 118 1 va' (ab.length + 1) (ab ++ [x])) (hg : w.grownBy w' va.ownBlock)
    (hv : ∀ k, va'.ownBlock = some k → va.ownBlock = some k ∨ w.heap.size ≤ k) :
    LogRaw (w'.setCell ⟨b, 1, none⟩ va') B b vl va' l (ab ++ [x]) st la ow ∧ Wrote (logR b vl va) w (w'.setCell ⟨b, 1, none⟩ va') ∧ (∀ k, logR b vl va' k → logR b vl va k ∨ w.heap.size ≤ k) := by
  obtain ⟨cs, h1, hsz, h2, h3, h4⟩ := h.blk
  have hbl := h.lt
  have hne : ∀ g, va.ownBlock = some g → b ≠ g := fun g hgg => by
    obtain ⟨cur, hc⟩ := own_obj h.abo hgg
    exact own_ne h1 hc (by decide)
  have hne2 : ∀ g g', va.ownBlock = some g → vl.ownBlock = some g' → g' ≠ g := fun g g' hgg hgg' => by
    obtain ⟨cur, hc⟩ := own_obj h.abo hgg
    obtain ⟨cur', hc'⟩ := own_obj h.ev hgg'
    exact own_ne hc' hc (by decide)
  have hbw : w'.heap[b]? = some (.cells cs 132 (0, 0)) := by rw [hg.block b hbl (fun e => hne b e.symm rfl)]; exact h1
  have hset := heap_set (o := 1) hbw va'
  have oth : ∀ g, g ≠ b → (w'.setCell ⟨b, 1, none⟩ va').heap[g]? = w'.heap[g]? := fun g hgb => Below.heap_setCell _ _ _ _ hgb
  refine ⟨⟨h.low, ⟨_, hset, by simpa using hsz, by simpa using h2, by simp [hsz], fun i hi => ?_⟩, ?_, ?_⟩, ?_, ?_⟩
  · have := h4 i hi
    rw [Array.getElem?_setIfInBounds_ne (by omega), Array.getElem?_setIfInBounds_ne (by omega), Array.getElem?_setIfInBounds_ne (by omega)]
    exact this
  · refine ownsRow_at h.ev (fun g hgg => ?_)
    obtain ⟨cur, hc⟩ := own_obj h.ev hgg
    rw [oth g (own_ne h1 hc (by decide)).symm, hg.block g (h.ev.lt g hgg).2 (fun e => hne2 g g e.symm hgg rfl)]
  · have := ownsRow_at (w' := w'.setCell ⟨b, 1, none⟩ va') ho (fun g hgg => oth g (by
      obtain ⟨cur, hc⟩ := own_obj ho hgg
      exact (own_ne hbw hc (by decide)).symm))
    simpa [List.length_append] using this
  · exact (Wrote.of_grown hg (fun k hk => .inr (.inr hk))).trans (Wrote.setCell (R := logR b vl va) w' va' (.inl rfl)) (fun x hx => .inl hx)
  · rintro k (rfl | hk | hk)
    · exact .inl (.inl rfl)
    · exact .inl (.inr (.inl hk))
    · rcases hv k hk with h' | h'
      · exact .inl (.inr (.inr h'))
      · exact .inr h'

theorem LogRaw.cl_grown (h : LogRaw w B b vl va l ab st la ow) (hg : w.grownBy w' vl.ownBlock) : w'.cell? ⟨b, 0, none⟩ = some vl ∧ w'.frozen? ⟨b, 0, none⟩ = false := by
  obtain ⟨cs, h1, _⟩ := h.blk
  have hbw : w'.heap[b]? = w.heap[b]? := hg.block b h.lt (fun e => by
    obtain ⟨cur, hc⟩ := own_obj h.ev e.symm
    exact own_ne h1 hc (by decide) rfl)
  exact ⟨(World.cell?_of_block (a := ⟨b, 0, none⟩) hbw).trans h.cl, (World.frozen?_of_block (a := ⟨b, 0, none⟩) hbw).trans (h.free 0)⟩
theorem LogRaw.ca_grown (h : LogRaw w B b vl va l ab st la ow) (hg : w.grownBy w' va.ownBlock) : w'.cell? ⟨b, 1, none⟩ = some va ∧ w'.frozen? ⟨b, 1, none⟩ = false := by
  obtain ⟨cs, h1, _⟩ := h.blk
  have hbw : w'.heap[b]? = w.heap[b]? := hg.block b h.lt (fun e => by
    obtain ⟨cur, hc⟩ := own_obj h.abo e.symm
    exact own_ne h1 hc (by decide) rfl)
  exact ⟨(World.cell?_of_block (a := ⟨b, 1, none⟩) hbw).trans h.ca, (World.frozen?_of_block (a := ⟨b, 1, none⟩) hbw).trans (h.free 1)⟩

/-- A store into the log's own cells, from 2 on. -/
theorem LogRaw.store (h : LogRaw w B b vl va l ab st la ow) {o : Nat} (ho : 2 ≤ o) (v : Int) {st' la' ow' : Nat → Int}
    (hn : ∀ i, i < 8 → (st' i = if 2 + i * 2 = o then v else st i) ∧ (la' i = if 2 + i * 2 + 1 = o then v else la i) ∧ (ow' i = if 18 + i = o then v else ow i)) :
    LogRaw (w.setCell ⟨b, o, none⟩ (.int .i64 v)) B b vl va l ab st' la' ow' ∧ Wrote (logR b vl va) w (w.setCell ⟨b, o, none⟩ (.int .i64 v)) := by
  obtain ⟨cs, h1, hsz, h2, h3, h4⟩ := h.blk
  have hset := heap_set (o := o) h1 (.int .i64 v)
  have oth : ∀ g, g ≠ b → (w.setCell ⟨b, o, none⟩ (.int .i64 v)).heap[g]? = w.heap[g]? := fun g hgb => Below.heap_setCell _ _ _ _ hgb
  have cell : ∀ (q : Nat) (x y : Int), q < 26 → cs[q]? = some (.int .i64 x) → (y = if q = o then v else x) → (cs.setIfInBounds o (.int .i64 v))[q]? = some (.int .i64 y) := by
    intro q x y hq hx hy
    by_cases hqo : o = q
    · subst hqo
      rw [hy, if_pos rfl]
      simp [hsz, hq]
    · rw [Array.getElem?_setIfInBounds_ne hqo, hy, if_neg (fun e => hqo e.symm)]
      exact hx
  refine ⟨⟨h.low, ⟨_, hset, by simpa using hsz, by rw [Array.getElem?_setIfInBounds_ne (by omega)]; exact h2, by rw [Array.getElem?_setIfInBounds_ne (by omega)]; exact h3, fun i hi => ?_⟩, ?_, ?_⟩, Wrote.setCell w _ (.inl rfl)⟩
  · obtain ⟨a1, a2, a3⟩ := h4 i hi
    obtain ⟨n1, n2, n3⟩ := hn i hi
    exact ⟨cell _ _ _ (by omega) a1 n1, cell _ _ _ (by omega) a2 n2, cell _ _ _ (by omega) a3 n3⟩
  · refine ownsRow_at h.ev (fun g hgg => oth g ?_)
    obtain ⟨cur, hc⟩ := own_obj h.ev hgg
    exact (own_ne h1 hc (by decide)).symm
  · refine ownsRow_at h.abo (fun g hgg => oth g ?_)
    obtain ⟨cur, hc⟩ := own_obj h.abo hgg
    exact (own_ne h1 hc (by decide)).symm
theorem LogRaw.setSt (h : LogRaw w B b vl va l ab st la ow) {j : Nat} (hj : j < 8) (v : Int) :
    LogRaw (w.setCell ⟨b, 2 + j * 2, none⟩ (.int .i64 v)) B b vl va l ab (upd st j v) la ow ∧ Wrote (logR b vl va) w (w.setCell ⟨b, 2 + j * 2, none⟩ (.int .i64 v)) :=
  h.store (by omega) v (fun i hi => ⟨by unfold upd; split <;> split <;> first | rfl | omega, (if_neg (by omega)).symm, (if_neg (by omega)).symm⟩)
theorem LogRaw.setLa (h : LogRaw w B b vl va l ab st la ow) {j : Nat} (hj : j < 8) (v : Int) :
    LogRaw (w.setCell ⟨b, 2 + j * 2 + 1, none⟩ (.int .i64 v)) B b vl va l ab st (upd la j v) ow ∧ Wrote (logR b vl va) w (w.setCell ⟨b, 2 + j * 2 + 1, none⟩ (.int .i64 v)) :=
  h.store (by omega) v (fun i hi => ⟨(if_neg (by omega)).symm, by unfold upd; split <;> split <;> first | rfl | omega, (if_neg (by omega)).symm⟩)
theorem LogRaw.setOw (h : LogRaw w B b vl va l ab st la ow) {j : Nat} (hj : j < 8) (v : Int) :
    LogRaw (w.setCell ⟨b, 18 + j, none⟩ (.int .i64 v)) B b vl va l ab st la (upd ow j v) ∧ Wrote (logR b vl va) w (w.setCell ⟨b, 18 + j, none⟩ (.int .i64 v)) :=
  h.store (by omega) v (fun i hi => ⟨(if_neg (by omega)).symm, (if_neg (by omega)).symm, by unfold upd; split <;> split <;> first | rfl | omega⟩)
end

/-! Add. -/
def okB (S : LogS) (e : Ev) : Bool := canB S e.t e.k e.o && (e.k == 8 || e.b == badB S e.t e.k e.o)
def turnS (S : LogS) (e : Ev) : LogS where
  l := S.l ++ [e]
  la := upd S.la e.t.toNat S.l.length
  st := if e.b != 0 then upd S.st e.t.toNat 4 else if e.k == 6 then upd S.st e.o.toNat 2 else if e.k == 9 then upd S.st e.t.toNat 3 else S.st
  ow := if e.b != 0 then S.ow else if e.k == 4 then upd S.ow e.o.toNat e.t else if e.k == 5 then upd S.ow e.o.toNat (-1) else S.ow
def rB (e : Ev) : Bool := rightB e.t e.k e.o e.v e.b
def addE (S : LogS) (e : Ev) : Int := if rB e then (if okB S e then 0 else 121) else 120
def addS (S : LogS) (e : Ev) : LogS := if rB e && okB S e then turnS S e else S
end Go.Proofs.Ytadngicebbnnlaa
