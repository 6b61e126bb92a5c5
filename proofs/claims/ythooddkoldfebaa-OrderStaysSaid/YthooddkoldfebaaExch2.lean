/-
  Two independent events beside one another exchanged: plain law, and the walk of EventExchanges.
-/
import Derived.Test.YthooddkoldfebaaPlain2
set_option linter.unusedSimpArgs false
set_option linter.unusedVariables false
namespace Go.Proofs.Ythooddkoldfebaa
open Go.ChangeShapes Go.WideShapes Go.ChangeAt Go.RowKit Go.Deep

theorem Like.refl (S : LogS) : Like S S := ⟨rfl, rfl⟩
theorem goOf_cons {S T : LogS} {e : Ev} {r : List Ev} {j p : Nat} (h : goOf S (e :: r) j = (T, 0, p)) : Go.Proofs.Ythooddkoldfebaa.addE S e = 0 ∧ goOf (Go.Proofs.Ythooddkoldfebaa.addS S e) r (j + 1) = (T, 0, p) := by
  unfold goOf at h
  by_cases hz : Go.Proofs.Ythooddkoldfebaa.addE S e = 0
  · rw [if_pos hz] at h; exact ⟨hz, h⟩
  · rw [if_neg hz] at h; simp only [Prod.mk.injEq] at h; exact absurd h.2.1 hz
theorem goOf_put {S : LogS} {e : Ev} {r : List Ev} {j : Nat} (hz : Go.Proofs.Ythooddkoldfebaa.addE S e = 0) : goOf S (e :: r) j = goOf (Go.Proofs.Ythooddkoldfebaa.addS S e) r (j + 1) := by
  rw [goOf, if_pos hz]
theorem goOf_like : ∀ (r : List Ev) {S T S' : LogS} {j p : Nat}, Like S T → goOf S r j = (S', 0, p) → ∃ T', goOf T r j = (T', 0, p) ∧ Like S' T'
  | [], S, T, S', j, p, hl, h => by
    unfold goOf at h ⊢
    simp only [Prod.mk.injEq] at h
    obtain ⟨rfl, _, rfl⟩ := h
    exact ⟨T, rfl, hl⟩
  | e :: r, S, T, S', j, p, hl, h => by
    obtain ⟨h1, h2⟩ := goOf_cons h
    have h3 : Go.Proofs.Ythooddkoldfebaa.addE T e = 0 := by rw [← hl.addE e]; exact h1
    rw [goOf_put h3]
    exact goOf_like r (hl.addS e) h2
theorem exch_two {S : LogS} {a b : Ev} (hi : Indep a b) (ha : Go.Proofs.Ythooddkoldfebaa.addE S a = 0) (hb : Go.Proofs.Ythooddkoldfebaa.addE (Go.Proofs.Ythooddkoldfebaa.addS S a) b = 0) :
    Go.Proofs.Ythooddkoldfebaa.addE S b = 0 ∧ Go.Proofs.Ythooddkoldfebaa.addE (Go.Proofs.Ythooddkoldfebaa.addS S b) a = 0 ∧ Like (Go.Proofs.Ythooddkoldfebaa.addS (Go.Proofs.Ythooddkoldfebaa.addS S a) b) (Go.Proofs.Ythooddkoldfebaa.addS (Go.Proofs.Ythooddkoldfebaa.addS S b) a) := by
  obtain ⟨ra, ka⟩ := addE_ok ha
  rw [addE_zero ha] at hb ⊢
  obtain ⟨rb, kb⟩ := addE_ok hb
  rw [okB_off ra ka hi rb] at kb
  have h1 := addE_of rb kb
  have h2 : Go.Proofs.Ythooddkoldfebaa.addE (turnS S b) a = 0 := addE_of ra (by rw [okB_off rb kb hi.symm ra]; exact ka)
  rw [addE_zero h1, addE_zero hb, addE_zero h2]
  exact ⟨h1, h2, turn_comm ra rb hi⟩
def swapAt (l : List Ev) (i : Nat) (a b : Ev) : List Ev := (l.set i b).set (i + 1) a
theorem exch : ∀ (i : Nat) (l : List Ev) {S T : LogS} {j : Nat} {a b : Ev}, goOf S l j = (T, 0, 0) → l[i]? = some a → l[i + 1]? = some b → Indep a b → ∃ T', goOf S (swapAt l i a b) j = (T', 0, 0) ∧ Like T T'
  | 0, [], _, _, _, _, _, _, h, _, _ => by simp at h
  | 0, [x], _, _, _, _, _, _, _, h, _ => by simp at h
  | 0, a :: b :: r, S, T, j, a', b', h, ha, hb, hi => by
    simp only [List.getElem?_cons_zero, List.getElem?_cons_succ, Option.some.injEq, Nat.zero_add] at ha hb
    subst ha hb
    obtain ⟨h1, h2⟩ := goOf_cons h
    obtain ⟨h3, h4⟩ := goOf_cons h2
    obtain ⟨k1, k2, k3⟩ := exch_two hi h1 h3
    have hs : swapAt (a :: b :: r) 0 a b = b :: a :: r := rfl
    rw [hs, goOf_put k1, goOf_put k2]
    exact goOf_like r k3 h4
  | i + 1, [], _, _, _, _, _, _, h, _, _ => by simp at h
  | i + 1, e :: r, S, T, j, a, b, h, ha, hb, hi => by
    simp only [List.getElem?_cons_succ] at ha hb
    obtain ⟨h1, h2⟩ := goOf_cons h
    obtain ⟨T', h3, h4⟩ := exch i r h2 ha hb hi
    have hs : swapAt (e :: r) (i + 1) a b = e :: swapAt r i a b := rfl
    rw [hs, goOf_put h1]
    exact ⟨T', h3, h4⟩
theorem exch_of {l : List Ev} {S : LogS} {i : Nat} {a b : Ev} (hR : ofS l = (S, 0, 0)) (ha : l[i]? = some a) (hb : l[i + 1]? = some b) (hd : dependsB a.t a.k a.o b.t b.k b.o = false) : ∃ T, ofS (swapAt l i a b) = (T, 0, 0) ∧ Like S T :=
  exch i l hR ha hb (Indep.of hd)
end Go.Proofs.Ythooddkoldfebaa
