/-
  Rows of events: an element written, a row read as a slice.
-/
import Derived.Test.YthooddkoldfebaaExch2
set_option linter.unusedSimpArgs false
set_option linter.unusedVariables false
namespace Go.Proofs.Ythooddkoldfebaa
open Go.ChangeShapes Go.WideShapes Go.ChangeAt Go.RowKit Go.Deep

theorem own_set1 {w : World} {B g n cap : Nat} {e : TypeId} {size : Nat} {xs : List Value} (h : w.ownsRow B e size (.slice (some ⟨g, 0, none⟩) n cap) n xs) (j : Nat) (u : Value) :
    (w.setCell ⟨g, j, none⟩ u).ownsRow B e size (.slice (some ⟨g, 0, none⟩) n cap) n (xs.set j u) := by
  refine ⟨by rw [List.length_set]; exact h.1, ?_⟩
  rcases h.2 with ⟨h0, _⟩ | ⟨g', cap', cur, hv, hb, hg, hnc, hcm, hcs, ht⟩
  · cases h0
  · cases hv
    exact .inr ⟨g, cap, cur.setIfInBounds j u, rfl, hb, heap_set hg u, hnc, hcm, by simpa using hcs, by rw [Array.toList_setIfInBounds, List.take_set, ht]⟩
theorem evCells_set : ∀ (l : List Ev) (k : Nat) (e : Ev), k < l.length → evCells (l.set k e) = ((((((evCells l).set (k * 5) (.int .i64 e.t)).set (k * 5 + 1) (.int .i64 e.k)).set (k * 5 + 2) (.int .i64 e.o)).set (k * 5 + 3) (.int .i64 e.v)).set (k * 5 + 4) (.int .i64 e.b))
  | [], k, e, h => by simp at h
  | a :: r, 0, e, _ => rfl
  | a :: r, k + 1, e, h => by
    have ih := evCells_set r k e (by simpa using h)
    have e0 : (k + 1) * 5 = k * 5 + 5 := by omega
    rw [e0]
    have hc : evCells (a :: r) = .int .i64 a.t :: .int .i64 a.k :: .int .i64 a.o :: .int .i64 a.v :: .int .i64 a.b :: evCells r := rfl
    have hd : evCells ((a :: r).set (k + 1) e) = .int .i64 a.t :: .int .i64 a.k :: .int .i64 a.o :: .int .i64 a.v :: .int .i64 a.b :: evCells (r.set k e) := rfl
    rw [hc, hd, ih]
    rw [show k * 5 + 5 + 1 = k * 5 + 1 + 5 by omega, show k * 5 + 5 + 2 = k * 5 + 2 + 5 by omega, show k * 5 + 5 + 3 = k * 5 + 3 + 5 by omega, show k * 5 + 5 + 4 = k * 5 + 4 + 5 by omega]
    simp only [List.set_cons_succ]
theorem own_put {w : World} {B g n cap : Nat} {l : List Ev} (h : w.ownsRow B 33 5 (.slice (some ⟨g, 0, none⟩) n cap) n (evCells l)) {k : Nat} (hk : k < l.length) (e : Ev) :
    (((((w.setCell ⟨g, k * 5, none⟩ (.int .i64 e.t)).setCell ⟨g, k * 5 + 1, none⟩ (.int .i64 e.k)).setCell ⟨g, k * 5 + 2, none⟩ (.int .i64 e.o)).setCell ⟨g, k * 5 + 3, none⟩ (.int .i64 e.v)).setCell ⟨g, k * 5 + 4, none⟩ (.int .i64 e.b)).ownsRow B 33 5 (.slice (some ⟨g, 0, none⟩) n cap) n (evCells (l.set k e)) := by
  rw [evCells_set l k e hk]
  exact own_set1 (own_set1 (own_set1 (own_set1 (own_set1 h _ _) _ _) _ _) _ _) _ _
theorem wrote_put (w : World) (g o : Nat) (a b c d e : Value) : Wrote (fun q => q = g) w (((((w.setCell ⟨g, o, none⟩ a).setCell ⟨g, o + 1, none⟩ b).setCell ⟨g, o + 2, none⟩ c).setCell ⟨g, o + 3, none⟩ d).setCell ⟨g, o + 4, none⟩ e) := by
  have h := fun (z : World) (p : Nat) (u : Value) => Wrote.setCell (R := fun q => q = g) z (p := ⟨g, p, none⟩) u rfl
  exact ((((h w o a).trans (h _ (o + 1) b) (fun q hq => .inl hq)).trans (h _ (o + 2) c) (fun q hq => .inl hq)).trans (h _ (o + 3) d) (fun q hq => .inl hq)).trans (h _ (o + 4) e) (fun q hq => .inl hq)
theorem evs_of_own {w : World} {B g n cap : Nat} {l : List Ev} (h : w.ownsRow B 33 5 (.slice (some ⟨g, 0, none⟩) n cap) n (evCells l)) (hwf : ∀ e ∈ l, e.wf) : IsEvs w (some ⟨g, 0, none⟩) n cap l := by
  have hlen : l.length = n := by
    have h1 := h.1
    rw [evCells, flat_len Ev.vals 5 (fun _ => rfl)] at h1
    omega
  have hc := h.cells (g := g) rfl
  have hcm : n ≤ cap ∧ cap ≤ maxLen := by
    rcases h.2 with ⟨h0, _⟩ | ⟨g', cap', cur, hv, hb, hg, hnc, hcm, _⟩
    · cases h0
    · cases hv; exact ⟨hnc, hcm⟩
  refine ⟨⟨by rw [evCells, flat_len Ev.vals 5 (fun _ => rfl), hlen], fun _ => ⟨g, 0, rfl, fun j u hu => ?_⟩⟩, hlen, hcm.1, hcm.2, hwf⟩
  have := hc j u hu
  unfold Addr.add at this
  split at this
  · rename_i hj; subst hj; exact this
  · simpa using this
theorem wrote_swap (w : World) (g o p : Nat) (a b c d e a' b' c' d' e' : Value) : Wrote (fun q => q = g) w ((((((((((w.setCell ⟨g, o, none⟩ a).setCell ⟨g, o + 1, none⟩ b).setCell ⟨g, o + 2, none⟩ c).setCell ⟨g, o + 3, none⟩ d).setCell ⟨g, o + 4, none⟩ e).setCell ⟨g, p, none⟩ a').setCell ⟨g, p + 1, none⟩ b').setCell ⟨g, p + 2, none⟩ c').setCell ⟨g, p + 3, none⟩ d').setCell ⟨g, p + 4, none⟩ e').drew := by
  have h1 := wrote_put w g o a b c d e
  have h2 := wrote_put ((((((w.setCell ⟨g, o, none⟩ a).setCell ⟨g, o + 1, none⟩ b).setCell ⟨g, o + 2, none⟩ c).setCell ⟨g, o + 3, none⟩ d).setCell ⟨g, o + 4, none⟩ e)) g p a' b' c' d' e'
  have h3 := h1.trans h2 (fun q hq => .inl hq)
  exact h3.trans (Wrote.drew (R := fun q => q = g) _) (fun q hq => .inl hq)
theorem own_drew {w : World} {B : Nat} {e : TypeId} {size : Nat} {v : Value} {n : Nat} {xs : List Value} (h : w.ownsRow B e size v n xs) : w.drew.ownsRow B e size v n xs := h
theorem own_swap {w : World} {B g n cap : Nat} {l : List Ev} (h : w.ownsRow B 33 5 (.slice (some ⟨g, 0, none⟩) n cap) n (evCells l)) (k : Nat) (hk : k + 1 < l.length) (xt xk xo xv xb yt yk yo yv yb : Int) :
    ((((((((((w.setCell ⟨g, k * 5, none⟩ (.int .i64 yt)).setCell ⟨g, k * 5 + 1, none⟩ (.int .i64 yk)).setCell ⟨g, k * 5 + 2, none⟩ (.int .i64 yo)).setCell ⟨g, k * 5 + 3, none⟩ (.int .i64 yv)).setCell ⟨g, k * 5 + 4, none⟩ (.int .i64 yb)).setCell ⟨g, (k + 1) * 5, none⟩ (.int .i64 xt)).setCell ⟨g, (k + 1) * 5 + 1, none⟩ (.int .i64 xk)).setCell ⟨g, (k + 1) * 5 + 2, none⟩ (.int .i64 xo)).setCell ⟨g, (k + 1) * 5 + 3, none⟩ (.int .i64 xv)).setCell ⟨g, (k + 1) * 5 + 4, none⟩ (.int .i64 xb)).drew.ownsRow B 33 5 (.slice (some ⟨g, 0, none⟩) n cap) n (evCells (swapAt l k ⟨xt, xk, xo, xv, xb⟩ ⟨yt, yk, yo, yv, yb⟩)) := by
  have h1 := own_put h (k := k) (by omega) ⟨yt, yk, yo, yv, yb⟩
  have h2 := own_put h1 (k := k + 1) (by rw [List.length_set]; omega) ⟨xt, xk, xo, xv, xb⟩
  exact own_drew h2
end Go.Proofs.Ythooddkoldfebaa
