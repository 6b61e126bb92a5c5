/-
  EventAdds: whatever is added, one by one.
-/
import Derived.Test.YtejcpjhepkhihaaOfLaw
set_option linter.unusedSimpArgs false
set_option linter.unusedVariables false
namespace Go.Proofs.Ytejcpjhepkhihaa
open Go.ChangeShapes Go.WideShapes Go.ChangeAt Go.RowKit Go.Deep

theorem state_ne {w : World} {B b bs : Nat} {vl va : Value} {S T : LogS} (h : LogAt w B b vl va S) (hT : StateAt w bs T) : ¬ logR b vl va bs := by
  obtain ⟨cs, h1, _⟩ := h.blk
  rintro (rfl | hx | hx)
  · exact own_ne h1 hT (by decide) rfl
  · obtain ⟨cur, hc⟩ := own_obj h.ev hx
    exact own_ne hc hT (by decide) rfl
  · obtain ⟨cur, hc⟩ := own_obj h.ab hx
    exact own_ne hc hT (by decide) rfl

/-- The loop's state: the log, the document's, what was taken. -/
structure AddsInv (w : World) (B b bs : Nat) (vl va v : Value) (S : LogS) : Prop where
  log : LogAt w B b vl va S
  st : StateAt w bs S
  good : Good S
  la : LaGood S
  wf : ∀ e ∈ S.l, e.wf
  own : w.ownsRow B 23 5 v S.l.length (evCells S.l)
  dis : ∀ g, v.ownBlock = some g → ¬ logR b vl va g
  bsB : B ≤ bs

/-- Behind both Adds. -/
structure AddsMid (w : World) (B b bs : Nat) (vl va v : Value) (S : LogS) (x : Ev) : Prop where
  log : LogAt w B b vl va (addS S x)
  st : StateAt w bs (addS S x)
  good : Good (addS S x)
  la : LaGood (addS S x)
  wf : ∀ e ∈ S.l, e.wf
  own : w.ownsRow B 23 5 v S.l.length (evCells S.l)
  dis : ∀ g, v.ownBlock = some g → ¬ logR b vl va g
  bsB : B ≤ bs

theorem own_state_ne {w : World} {B bs : Nat} {v : Value} {n : Nat} {xs : List Value} {T : LogS} (h : w.ownsRow B 23 5 v n xs) (hT : StateAt w bs T) : ∀ g, v.ownBlock = some g → ¬ (g = bs) := by
  rintro g hg rfl
  obtain ⟨cur, hc⟩ := own_obj h hg
  exact own_ne hc hT (by decide) rfl

theorem AddsInv.mid {w w2 w3 : World} {B b bs : Nat} {vl va v vl' va' : Value} {S : LogS} {x : Ev} (h : AddsInv w B b bs vl va v S)
    (hL : LogAt w2 B b vl' va' (addS S x)) (hW : Wrote (logR b vl va) w w2) (hsub : ∀ k, logR b vl' va' k → logR b vl va k ∨ w.heap.size ≤ k)
    (hT : StateAt w3 bs (addS S x)) (hM : w2.grownBy w3 (some bs)) : AddsMid w3 B b bs vl' va' v S x := by
  have hT2 : StateAt w2 bs S := h.st.wrote hW (state_ne h.log h.st)
  have hO2 := ownsRow_wrote h.own hW h.dis
  have hW3 : Wrote (fun q => q = bs) w2 w3 := Wrote.of_grown hM (fun k hk => by cases hk; rfl)
  have hL3 : LogAt w3 B b vl' va' (addS S x) := hL.wrote hW3 (fun q hq e => state_ne hL hT2 (e ▸ hq))
  refine ⟨hL3, hT, addS_good h.good x, addS_la h.la x, h.wf, ownsRow_wrote hO2 hW3 (own_state_ne hO2 hT2), fun g hg hq => ?_, h.bsB⟩
  rcases hsub g hq with hq | hq
  · exact h.dis g hg hq
  · have := (h.own.lt g hg).2
    omega
theorem AddsMid.no {w : World} {B b bs : Nat} {vl va v : Value} {S : LogS} {x : Ev} (h : AddsMid w B b bs vl va v S x) (hz : addE S x ≠ 0) : AddsInv w B b bs vl va v S := by
  have hs := addE_not hz
  have h1 := h.log
  have h2 := h.st
  have h3 := h.good
  have h4 := h.la
  rw [hs] at h1 h2 h3 h4
  exact ⟨h1, h2, h3, h4, h.wf, h.own, h.dis, h.bsB⟩
theorem AddsMid.below {w w' : World} {B b bs : Nat} {vl va v : Value} {S : LogS} {x : Ev} (h : AddsMid w B b bs vl va v S x) (hb : Below w.heap.size w w') : AddsMid w' B b bs vl va v S x :=
  ⟨h.log.below hb, h.st.below hb, h.good, h.la, h.wf, ownsRow_at h.own (fun g hg => hb.block g (h.own.lt g hg).2), h.dis, h.bsB⟩
theorem AddsInv.below {w w' : World} {B b bs : Nat} {vl va v : Value} {S : LogS} (h : AddsInv w B b bs vl va v S) (hb : Below w.heap.size w w') : AddsInv w' B b bs vl va v S :=
  ⟨h.log.below hb, h.st.below hb, h.good, h.la, h.wf, ownsRow_at h.own (fun g hg => hb.block g (h.own.lt g hg).2), h.dis, h.bsB⟩
theorem AddsMid.yes {w w' : World} {B b bs : Nat} {vl va v v' : Value} {S : LogS} {x : Ev} (h : AddsMid w B b bs vl va v S x) (hz : addE S x = 0) (hx : x.wf)
    (ho : w'.ownsRow B 23 5 v' (S.l.length + 1) (evCells S.l ++ x.vals)) (hg : w.grownBy w' v.ownBlock) (hv : ∀ k, v'.ownBlock = some k → v.ownBlock = some k ∨ w.heap.size ≤ k) : AddsInv w' B b bs vl va v' (addS S x) := by
  have hW : Wrote (fun q => v.ownBlock = some q) w w' := Wrote.of_grown hg (fun k hk => hk)
  have hl : (addS S x).l = S.l ++ [x] := by rw [addE_zero hz]; rfl
  refine ⟨h.log.wrote hW (fun q hq e => h.dis q e hq), h.st.wrote hW (fun e => own_state_ne h.own h.st bs e rfl), h.good, h.la, ?_, ?_, fun g hg' hq => ?_, h.bsB⟩
  · intro e he
    rw [hl] at he
    rcases List.mem_append.1 he with he | he
    · exact h.wf e he
    · simp at he; subst he; exact hx
  · rw [hl]
    simpa [evCells, List.length_append] using ho
  · rcases hv g hg' with hv | hv
    · exact h.dis g hv hq
    · have := h.log.rlt g hq
      omega
end Go.Proofs.Ytejcpjhepkhihaa
