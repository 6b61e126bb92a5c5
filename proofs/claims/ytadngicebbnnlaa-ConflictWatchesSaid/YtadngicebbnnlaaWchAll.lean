/-
  ConflictWatches: the plain law, the watch in memory, the walks.
-/
import Derived.Test.YtadngicebbnnlaaConf
import Derived.Test.YtadngicebbnnlaaKnow
import Derived.Test.YtadngicebbnnlaaRac3
import Derived.Test.YtadngicebbnnlaaPart
import Derived.BigRegion
import Derived.Great.BuildSlice
set_option linter.unusedSimpArgs false
set_option linter.unusedVariables false
namespace Go.Proofs.Ytadngicebbnnlaa
open Go Go.RowKit

def rG (g : Nat → Ev) (i j : Nat) : Bool := stpE (g i) (g j)
def tG (g : Nat → Ev) (i : Nat) : Int := (g i).t
theorem rG_same {g : Nat → Ev} {i j : Nat} (h : tG g i = tG g j) : rG g i j = true := by
  unfold tG at h; unfold rG stpE stepB; rw [h]; simp
/-- x knows just the places of P and what happens before them. -/
structure Kn (g : Nat → Ev) (n : Nat) (x : Nat → Int) (P : Nat → Prop) : Prop where
  kn : ∀ i, i < n → ((numT (tG g) i : Int) ≤ x (tG g i).toNat ↔ ∃ k, k < n ∧ P k ∧ (i = k ∨ HB (rG g) i k))
  lo : ∀ t, 0 ≤ x t
  hi : ∀ t : Nat, x t ≤ (cntI (tG g) (t : Int) n : Int)
theorem cntI_agree {th th' : Nat → Int} {t : Int} : ∀ {n : Nat}, (∀ i, i < n → th i = th' i) → cntI th t n = cntI th' t n
  | 0, _ => by simp [cntI]
  | n + 1, h => by rw [cntI_succ, cntI_succ, cntI_agree (fun i hi => h i (by omega)), h n (by omega)]
theorem HB.agree {g g' : Nat → Ev} {n i k : Nat} (h : ∀ i, i < n → g i = g' i) (hk : k < n) (hb : HB (rG g) i k) : HB (rG g') i k :=
  hb.mono fun a b hab hbk hr => by unfold rG at *; rw [← h a (by omega), ← h b (by omega)]; exact hr
theorem Kn.agree {g g' : Nat → Ev} {n : Nat} {x : Nat → Int} {P : Nat → Prop} (h : Kn g n x P) (ha : ∀ i, i < n → g i = g' i) : Kn g' n x P := by
  have ht : ∀ i, i < n → tG g i = tG g' i := fun i hi => by unfold tG; rw [ha i hi]
  refine ⟨fun i hi => ?_, h.lo, fun t => by rw [← cntI_agree ht]; exact h.hi t⟩
  have e1 : numT (tG g') i = numT (tG g) i := by
    rw [numT_is, numT_is, ← ht i hi, cntI_agree (fun j hj => ht j (by omega))]
  rw [e1, ← ht i hi, h.kn i hi]
  constructor
  · rintro ⟨k, hk, hp, hh⟩
    exact ⟨k, hk, hp, hh.imp id (fun q => q.agree ha hk)⟩
  · rintro ⟨k, hk, hp, hh⟩
    exact ⟨k, hk, hp, hh.imp id (fun q => q.agree (fun i hi => (ha i hi).symm) hk)⟩
theorem Kn.up {g : Nat → Ev} {n : Nat} {x : Nat → Int} {P P' : Nat → Prop} (h : Kn g n x P) (h0 : 0 ≤ tG g n) (hp : ∀ k, k < n → (P k ↔ P' k)) (hn : ¬ P' n) : Kn g (n + 1) x P' := by
  refine ⟨fun i hi => ?_, h.lo, fun t => Int.le_trans (h.hi t) (by have := cntI_mono (tG g) (t : Int) (show n ≤ n + 1 by omega); omega)⟩
  by_cases hin : i < n
  · rw [h.kn i hin]
    constructor
    · rintro ⟨k, hk, hpk, hh⟩
      exact ⟨k, by omega, (hp k hk).1 hpk, hh⟩
    · rintro ⟨k, hk, hpk, hh⟩
      by_cases hkn : k = n
      · subst hkn; exact absurd hpk hn
      · exact ⟨k, by omega, (hp k (by omega)).2 hpk, hh⟩
  · have : i = n := by omega
    subst this
    constructor
    · intro hle
      have h1 := h.hi (tG g i).toNat
      rw [Int.toNat_of_nonneg h0] at h1
      rw [numT_is] at hle
      omega
    · rintro ⟨k, hk, hpk, rfl | hh⟩
      · exact absurd hpk hn
      · have := hh.lt; omega
def joinW (x y : Nat → Int) : Nat → Int := fun t => max (x t) (y t)
theorem Kn.join {g : Nat → Ev} {n : Nat} {x y : Nat → Int} {P Q : Nat → Prop} (h : Kn g n x P) (h' : Kn g n y Q) : Kn g n (joinW x y) (fun k => P k ∨ Q k) := by
  refine ⟨fun i hi => ?_, fun t => by have := h.lo t; unfold joinW; omega, fun t => by have := h.hi t; have := h'.hi t; unfold joinW; omega⟩
  unfold joinW
  rw [le_max_or, h.kn i hi, h'.kn i hi]
  constructor
  · rintro (⟨k, hk, hp, hh⟩ | ⟨k, hk, hp, hh⟩)
    · exact ⟨k, hk, .inl hp, hh⟩
    · exact ⟨k, hk, .inr hp, hh⟩
  · rintro ⟨k, hk, hp | hp, hh⟩
    · exact .inl ⟨k, hk, hp, hh⟩
    · exact .inr ⟨k, hk, hp, hh⟩
theorem Kn.iff {g : Nat → Ev} {n : Nat} {x : Nat → Int} {P Q : Nat → Prop} (h : Kn g n x P) (hp : ∀ k, k < n → (P k ↔ Q k)) : Kn g n x Q :=
  ⟨fun i hi => (h.kn i hi).trans ⟨fun ⟨k, hk, q, hh⟩ => ⟨k, hk, (hp k hk).1 q, hh⟩, fun ⟨k, hk, q, hh⟩ => ⟨k, hk, (hp k hk).2 q, hh⟩⟩, h.lo, h.hi⟩
theorem Kn.swap {g : Nat → Ev} {n : Nat} {x : Nat → Int} {P Q : Nat → Prop} (h : Kn g n x P) (hp : ∀ k, k < n → P k → ∃ k', k' < n ∧ Q k' ∧ (k = k' ∨ HB (rG g) k k')) (hq : ∀ k, k < n → Q k → P k) : Kn g n x Q := by
  refine ⟨fun i hi => (h.kn i hi).trans ⟨?_, fun ⟨k, hk, q, hh⟩ => ⟨k, hk, hq k hk q, hh⟩⟩, h.lo, h.hi⟩
  rintro ⟨k, hk, p, hh⟩
  obtain ⟨k', hk', q, h2⟩ := hp k hk p
  refine ⟨k', hk', q, ?_⟩
  rcases hh with rfl | hh
  · exact h2
  · rcases h2 with rfl | h2
    · exact .inr hh
    · exact .inr (hh.trans h2)
theorem last_own (th : Nat → Int) (t : Int) : ∀ n, 0 < cntI th t n → ∃ i, i < n ∧ th i = t ∧ numT th i = cntI th t n
  | 0, h => by simp [cntI] at h
  | n + 1, h => by
    rw [cntI_succ] at h ⊢
    by_cases he : th n = t
    · refine ⟨n, by omega, he, ?_⟩
      rw [numT_is, he]; simp
    · have hb : (th n == t) = false := by simpa using he
      rw [hb] at h ⊢
      simp only [Bool.toNat_false, Nat.add_zero] at h ⊢
      obtain ⟨i, hi, h1, h2⟩ := last_own th t n h
      exact ⟨i, by omega, h1, h2⟩
theorem Kn.own {g : Nat → Ev} {n : Nat} {x : Nat → Int} {P : Nat → Prop} (h : Kn g n x P) (h0 : 0 ≤ tG g n) (h9 : ∀ i, i < n → 0 ≤ tG g i) (hp : ∀ k, k < n → (P k ↔ rG g k n = true)) :
    x (tG g n).toNat + 1 = (numT (tG g) n : Int) ∧ Kn g (n + 1) (upd x (tG g n).toNat (x (tG g n).toNat + 1)) (fun k => k = n) := by
  have ha : x (tG g n).toNat = (cntI (tG g) (tG g n) n : Int) := by
    have h1 := h.hi (tG g n).toNat
    rw [Int.toNat_of_nonneg h0] at h1
    have h2 := h.lo (tG g n).toNat
    by_cases hc : 0 < cntI (tG g) (tG g n) n
    · obtain ⟨i, hi, he, hn⟩ := last_own (tG g) (tG g n) n hc
      have h3 := (h.kn i hi).2 ⟨i, hi, (hp i hi).2 (rG_same he), .inl rfl⟩
      rw [hn, he] at h3
      omega
    · omega
  have hb : x (tG g n).toNat + 1 = (numT (tG g) n : Int) := by rw [ha, numT_is]; omega
  refine ⟨hb, fun i hi => ?_, fun t => ?_, fun t => ?_⟩
  · unfold upd
    by_cases hin : i < n
    · by_cases he : (tG g i).toNat = (tG g n).toNat
      · rw [if_pos he, hb]
        have hti : tG g i = tG g n := by have := h9 i hin; omega
        constructor
        · intro _; exact ⟨n, by omega, rfl, .inr (.one hin (rG_same hti))⟩
        · intro _; have := numT_lt hin hti; omega
      · rw [if_neg he, h.kn i hin]
        constructor
        · rintro ⟨k, hk, hpk, hh⟩
          have hr := (hp k hk).1 hpk
          refine ⟨n, by omega, rfl, .inr ?_⟩
          rcases hh with rfl | hh
          · exact .one hin hr
          · exact .more hh hk hr
        · rintro ⟨k, hk, rfl, hh⟩
          rcases hh with rfl | hh
          · omega
          · obtain ⟨k, hk, hr, hh⟩ := HB.iff.1 hh
            exact ⟨k, hk, (hp k hk).2 hr, hh⟩
    · have : i = n := by omega
      subst this
      rw [if_pos rfl, hb]
      exact ⟨fun _ => ⟨i, by omega, rfl, .inl rfl⟩, fun _ => Int.le_refl _⟩
  · unfold upd
    split
    · have := h.lo (tG g n).toNat; omega
    · exact h.lo t
  · have hm := cntI_mono (tG g) (t : Int) (show n ≤ n + 1 by omega)
    unfold upd
    split
    · rename_i he
      rw [hb, numT_is, he, Int.toNat_of_nonneg h0, cntI_succ]
      simp
    · have := h.hi t; omega
theorem Kn.set {g : Nat → Ev} {n : Nat} {x : Nat → Int} {P : Nat → Prop} (h : Kn g (n + 1) x (fun k => k = n)) (hn : P n) (hp : ∀ k, k < n → P k → HB (rG g) k n) : Kn g (n + 1) x P := by
  refine ⟨fun i hi => (h.kn i hi).trans ⟨?_, ?_⟩, h.lo, h.hi⟩
  · rintro ⟨k, hk, rfl, hh⟩
    exact ⟨k, hk, hn, hh⟩
  · rintro ⟨k, hk, q, hh⟩
    refine ⟨n, by omega, rfl, ?_⟩
    by_cases hkn : k = n
    · rw [hkn] at hh; exact hh
    · have h2 := hp k (by omega) q
      rcases hh with rfl | hh
      · exact .inr h2
      · exact .inr (hh.trans h2)

/-- The last place that does so, by its number; nought: there is none. -/
def Last (g : Nat → Ev) (n : Nat) (x : Int) (Q : Nat → Prop) : Prop :=
  (x = 0 ∧ ∀ k, k < n → ¬ Q k) ∨ ∃ k, k < n ∧ Q k ∧ x = (numT (tG g) k : Int) ∧ ∀ k', k' < n → Q k' → k' ≤ k
theorem Last.up {g : Nat → Ev} {n : Nat} {x : Int} {Q : Nat → Prop} (h : Last g n x Q) (hn : ¬ Q n) : Last g (n + 1) x Q := by
  rcases h with ⟨h0, h1⟩ | ⟨k, hk, hq, hx, hl⟩
  · refine .inl ⟨h0, fun k hk => ?_⟩
    by_cases e : k = n
    · rw [e]; exact hn
    · exact h1 k (by omega)
  · refine .inr ⟨k, by omega, hq, hx, fun k' hk' q => ?_⟩
    by_cases e : k' = n
    · rw [e] at q; exact absurd q hn
    · exact hl k' (by omega) q
theorem Last.new {g : Nat → Ev} {n : Nat} {Q : Nat → Prop} (hn : Q n) : Last g (n + 1) (numT (tG g) n : Int) Q :=
  .inr ⟨n, by omega, hn, rfl, fun k' hk' _ => by omega⟩
theorem Last.agree {g g' : Nat → Ev} {n : Nat} {x : Int} {Q Q' : Nat → Prop} (h : Last g n x Q) (ha : ∀ i, i < n → g i = g' i) (hq : ∀ k, k < n → (Q k ↔ Q' k)) : Last g' n x Q' := by
  rcases h with ⟨h0, h1⟩ | ⟨k, hk, q, hx, hl⟩
  · exact .inl ⟨h0, fun k hk q => h1 k hk ((hq k hk).2 q)⟩
  · refine .inr ⟨k, hk, (hq k hk).1 q, ?_, fun k' hk' q => hl k' hk' ((hq k' hk').2 q)⟩
    have ht : ∀ i, i < n → tG g i = tG g' i := fun i hi => by unfold tG; rw [ha i hi]
    rw [hx, numT_is, numT_is, ← ht k hk, cntI_agree (fun j hj => ht j (by omega))]

/-- A watch. -/
structure Wch where
  th : Nat → Nat → Int
  mu : Nat → Nat → Int
  aw : Nat → Nat → Int
  rd : Nat → Nat → Int
  wr : Nat → Nat → Int
  cnt : Int
def wch0 : Wch := ⟨fun _ _ => 0, fun _ _ => 0, fun _ _ => 0, fun _ _ => 0, fun _ _ => 0, 0⟩
def wJ (W : Wch) (e : Ev) : Nat → Int :=
  if e.b = 0 then (if e.k = 4 then joinW (W.th e.t.toNat) (W.mu e.o.toNat) else if e.k = 3 then joinW (W.th e.t.toNat) (W.aw e.o.toNat) else if e.k = 7 then joinW (W.th e.t.toNat) (W.th e.o.toNat) else W.th e.t.toNat) else W.th e.t.toNat
def wC (W : Wch) (e : Ev) : Nat → Int := upd (wJ W e) e.t.toNat (wJ W e e.t.toNat + 1)
def unkW (x c : Nat → Int) (but : Nat) : Bool := (List.range 8).any fun t => t != but && decide (c t < x t)
def wRc (W : Wch) (e : Ev) : Bool :=
  if e.k = 1 then unkW (W.wr e.o.toNat) (wC W e) e.t.toNat else if e.k = 2 then unkW (W.wr e.o.toNat) (wC W e) e.t.toNat || unkW (W.rd e.o.toNat) (wC W e) e.t.toNat else false
def wTurn (W : Wch) (e : Ev) : Wch where
  th := fun a => if a = e.t.toNat then wC W e else if e.b = 0 ∧ e.k = 6 ∧ a = e.o.toNat then joinW (W.th a) (wC W e) else W.th a
  mu := fun a => if e.b = 0 ∧ e.k = 5 ∧ a = e.o.toNat then wC W e else W.mu a
  aw := fun a => if e.b = 0 ∧ e.k = 3 ∧ a = e.o.toNat then wC W e else W.aw a
  rd := fun o => if e.k = 1 ∧ o = e.o.toNat then upd (W.rd o) e.t.toNat (wC W e e.t.toNat) else W.rd o
  wr := fun o => if e.k = 2 ∧ o = e.o.toNat then upd (W.wr o) e.t.toNat (wC W e e.t.toNat) else W.wr o
  cnt := W.cnt + if wRc W e then 1 else 0

def PT (g : Nat → Ev) (a : Nat) (k : Nat) : Prop := tG g k = (a : Int) ∨ ((g k).k = 6 ∧ (g k).b = 0 ∧ (g k).o = (a : Int))
def PK (g : Nat → Ev) (q : Int) (a : Nat) (k : Nat) : Prop := (g k).k = q ∧ (g k).b = 0 ∧ (g k).o = (a : Int)
def PL (g : Nat → Ev) (q : Int) (o t : Nat) (k : Nat) : Prop := (g k).k = q ∧ (g k).o = (o : Int) ∧ tG g k = (t : Int)
structure WInv (g : Nat → Ev) (n : Nat) (W : Wch) (S : LogS) : Prop where
  right : ∀ k, k < n → rB (g k) = true
  th : ∀ a, a < 8 → Kn g n (W.th a) (PT g a)
  mu : ∀ a, a < 8 → Kn g n (W.mu a) (PK g 5 a)
  aw : ∀ a, a < 8 → Kn g n (W.aw a) (PK g 3 a)
  ow : ∀ a, a < 8 → 0 ≤ S.ow a → ∀ k, k < n → PK g 5 a k → ∃ j, j < n ∧ tG g j = S.ow a ∧ HB (rG g) k j
  en : ∀ a, a < 8 → S.st a = 3 → ∃ k', k' < n ∧ (g k').k = 9 ∧ (g k').b = 0 ∧ tG g k' = (a : Int) ∧ ∀ k, k < n → PT g a k → k = k' ∨ HB (rG g) k k'
  rd : ∀ o t, o < 8 → t < 8 → Last g n (W.rd o t) (PL g 1 o t)
  wr : ∀ o t, o < 8 → t < 8 → Last g n (W.wr o t) (PL g 2 o t)
theorem PT.agree {g g' : Nat → Ev} {k : Nat} (h : g k = g' k) (a : Nat) : PT g a k ↔ PT g' a k := by unfold PT tG; rw [h]
theorem PK.agree {g g' : Nat → Ev} {k : Nat} (h : g k = g' k) (q : Int) (a : Nat) : PK g q a k ↔ PK g' q a k := by unfold PK; rw [h]
theorem PL.agree {g g' : Nat → Ev} {k : Nat} (h : g k = g' k) (q : Int) (o t : Nat) : PL g q o t k ↔ PL g' q o t k := by unfold PL tG; rw [h]
theorem WInv.agree {g g' : Nat → Ev} {n : Nat} {W : Wch} {S : LogS} (h : WInv g n W S) (ha : ∀ i, i < n → g i = g' i) : WInv g' n W S := by
  refine ⟨fun k hk => by rw [← ha k hk]; exact h.right k hk, fun a h8 => ((h.th a h8).agree ha).iff fun k hk => PT.agree (ha k hk) a, fun a h8 => ((h.mu a h8).agree ha).iff fun k hk => PK.agree (ha k hk) _ a,
    fun a h8 => ((h.aw a h8).agree ha).iff fun k hk => PK.agree (ha k hk) _ a, fun a h8 h0 k hk hp => ?_, fun a h8 h3 => ?_, fun o t ho ht => (h.rd o t ho ht).agree ha fun k hk => PL.agree (ha k hk) _ o t, fun o t ho ht => (h.wr o t ho ht).agree ha fun k hk => PL.agree (ha k hk) _ o t⟩
  · obtain ⟨j, hj, h1, h2⟩ := h.ow a h8 h0 k hk ((PK.agree (ha k hk) _ a).2 hp)
    exact ⟨j, hj, by unfold tG at *; rw [← ha j hj]; exact h1, h2.agree ha hj⟩
  · obtain ⟨k', hk', h1, h2, h4, h5⟩ := h.en a h8 h3
    refine ⟨k', hk', by rw [← ha k' hk']; exact h1, by rw [← ha k' hk']; exact h2, by unfold tG at *; rw [← ha k' hk']; exact h4, fun k hk hp => ?_⟩
    exact (h5 k hk ((PT.agree (ha k hk) a).2 hp)).imp id fun q => q.agree ha hk'
theorem WInv.zero (g : Nat → Ev) : WInv g 0 wch0 log0 := by
  have hk : ∀ P, Kn g 0 (fun _ => 0) P := fun P => ⟨fun i hi => by omega, fun _ => Int.le_refl _, fun t => by simp [cntI]⟩
  exact ⟨fun k hk => by omega, fun a _ => hk _, fun a _ => hk _, fun a _ => hk _, fun a _ _ k hk => by omega, fun a _ h3 => by simp only [log0] at h3; split at h3 <;> omega,
    fun o t _ _ => .inl ⟨rfl, fun k hk => by omega⟩, fun o t _ _ => .inl ⟨rfl, fun k hk => by omega⟩⟩
end Go.Proofs.Ytadngicebbnnlaa

namespace Go.Proofs.Ytadngicebbnnlaa
open Go Go.RowKit

theorem rG_iff {g : Nat → Ev} {n k : Nat} {e : Ev} (he : g n = e) : rG g k n = true ↔ (tG g k = e.t ∨ ((g k).b = 0 ∧ (((g k).k = 5 ∧ e.k = 4 ∧ (g k).o = e.o) ∨ ((g k).k = 3 ∧ e.k = 3 ∧ (g k).o = e.o) ∨ ((g k).k = 6 ∧ (g k).o = e.t) ∨ ((g k).k = 9 ∧ e.k = 7 ∧ e.b = 0 ∧ e.o = tG g k)))) := by
  unfold rG stpE stepB tG
  rw [he]
  generalize g k = x
  obtain ⟨t, q, o, v, b⟩ := x
  simp only
  by_cases h1 : t = e.t
  · simp [h1]
  by_cases hb : b = 0
  · by_cases h5 : q = 5
    · simp [h1, hb, h5]
    by_cases h3 : q = 3
    · simp [h1, hb, h3]
    by_cases h6 : q = 6
    · simp [h1, hb, h6]
    by_cases h9 : q = 9
    · simp [h1, hb, h9]
    · simp [h1, hb, h5, h3, h6, h9]
  · simp [h1, hb]

theorem rB_ob {e : Ev} (h : rB e = true) (hk : e.k = 1 ∨ e.k = 2) : 0 ≤ e.o ∧ e.o < 8 := by
  refine inB_iff.1 ?_
  unfold rB rightB bodyB at h
  cases ho : inB e.o
  · rcases hk with hk | hk <;> simp [ho, hk] at h
  · rfl
section
variable {g : Nat → Ev} {n : Nat} {W : Wch} {S : LogS} {e : Ev}
theorem WInv.th0 (h : WInv g n W S) {i : Nat} (hi : i < n) : 0 ≤ tG g i ∧ tG g i < 8 := right_th (h.right i hi)
theorem wJ_kn (h : WInv g n W S) (he : g n = e) (hr : rB e = true) (hk : okB S e = true) : Kn g n (wJ W e) (fun k => rG g k n = true) := by
  have ht := right_th hr
  have htn : (e.t.toNat : Int) = e.t := Int.toNat_of_nonneg ht.1
  have hT := h.th e.t.toNat (by omega)
  unfold wJ
  by_cases hb : e.b = 0
  · rw [if_pos hb]
    have hob : (e.k = 4 ∨ e.k = 3 ∨ e.k = 7) → 0 ≤ e.o ∧ e.o < 8 := fun hq => by
      refine inB_iff.1 ?_
      unfold rB rightB bodyB at hr
      cases ho : inB e.o
      · rcases hq with hq | hq | hq <;> simp [ho, hq] at hr
      · rfl
    by_cases h4 : e.k = 4
    · rw [if_pos h4]
      obtain ⟨o0, o8⟩ := hob (.inl h4)
      have hon : (e.o.toNat : Int) = e.o := Int.toNat_of_nonneg o0
      refine (hT.join (h.mu e.o.toNat (by omega))).iff fun k _ => ?_
      rw [rG_iff he]
      unfold PT PK
      rw [htn, hon]
      constructor
      · rintro ((h1 | ⟨h1, h2, h3⟩) | ⟨h1, h2, h3⟩)
        · exact .inl h1
        · exact .inr ⟨h2, .inr (.inr (.inl ⟨h1, h3⟩))⟩
        · exact .inr ⟨h2, .inl ⟨h1, h4, h3⟩⟩
      · rintro (h1 | ⟨h2, ⟨h1, _, h3⟩ | ⟨h1, hx, h3⟩ | ⟨h1, h3⟩ | ⟨h1, hx, _⟩⟩)
        · exact .inl (.inl h1)
        · exact .inr ⟨h1, h2, h3⟩
        · omega
        · exact .inl (.inr ⟨h1, h2, h3⟩)
        · omega
    rw [if_neg h4]
    by_cases h3' : e.k = 3
    · rw [if_pos h3']
      obtain ⟨o0, o8⟩ := hob (.inr (.inl h3'))
      have hon : (e.o.toNat : Int) = e.o := Int.toNat_of_nonneg o0
      refine (hT.join (h.aw e.o.toNat (by omega))).iff fun k _ => ?_
      rw [rG_iff he]
      unfold PT PK
      rw [htn, hon]
      constructor
      · rintro ((h1 | ⟨h1, h2, h3⟩) | ⟨h1, h2, h3⟩)
        · exact .inl h1
        · exact .inr ⟨h2, .inr (.inr (.inl ⟨h1, h3⟩))⟩
        · exact .inr ⟨h2, .inr (.inl ⟨h1, h3', h3⟩)⟩
      · rintro (h1 | ⟨h2, ⟨h1, hx, h3⟩ | ⟨h1, _, h3⟩ | ⟨h1, h3⟩ | ⟨h1, hx, _⟩⟩)
        · exact .inl (.inl h1)
        · omega
        · exact .inr ⟨h1, h2, h3⟩
        · exact .inl (.inr ⟨h1, h2, h3⟩)
        · omega
    rw [if_neg h3']
    by_cases h7 : e.k = 7
    · rw [if_pos h7]
      obtain ⟨o0, o8⟩ := hob (.inr (.inr h7))
      have hon : (e.o.toNat : Int) = e.o := Int.toNat_of_nonneg o0
      have hst : S.st e.o.toNat = 3 := by
        unfold okB canB badB waitB at hk
        rw [h7, hb] at hk
        by_cases s1 : S.st e.o.toNat = 1
        · simp [s1] at hk
        · simp [s1] at hk
          exact hk.2
      obtain ⟨k', hk', e1, e2, e3, e4⟩ := h.en e.o.toNat (by omega) hst
      rw [hon] at e3
      have hE : Kn g n (W.th e.o.toNat) (fun k => (g k).k = 9 ∧ (g k).b = 0 ∧ e.o = tG g k) := (h.th e.o.toNat (by omega)).swap
        (fun k hk hp => ⟨k', hk', ⟨e1, e2, e3.symm⟩, e4 k hk hp⟩) (fun k hk hq => .inl (by rw [hon]; exact hq.2.2.symm))
      refine (hT.join hE).iff fun k _ => ?_
      rw [rG_iff he]
      unfold PT
      rw [htn]
      constructor
      · rintro ((h1 | ⟨h1, h2, h3⟩) | ⟨h1, h2, h3⟩)
        · exact .inl h1
        · exact .inr ⟨h2, .inr (.inr (.inl ⟨h1, h3⟩))⟩
        · exact .inr ⟨h2, .inr (.inr (.inr ⟨h1, h7, hb, h3⟩))⟩
      · rintro (h1 | ⟨h2, ⟨h1, hx, h3⟩ | ⟨h1, hx, h3⟩ | ⟨h1, h3⟩ | ⟨h1, _, _, h3⟩⟩)
        · exact .inl (.inl h1)
        · omega
        · omega
        · exact .inl (.inr ⟨h1, h2, h3⟩)
        · exact .inr ⟨h1, h2, h3⟩
    rw [if_neg h7]
    refine hT.iff fun k _ => ?_
    rw [rG_iff he]
    unfold PT
    rw [htn]
    constructor
    · rintro (h1 | ⟨h1, h2, h3⟩)
      · exact .inl h1
      · exact .inr ⟨h2, .inr (.inr (.inl ⟨h1, h3⟩))⟩
    · rintro (h1 | ⟨h2, ⟨h1, hx, h3⟩ | ⟨h1, hx, h3⟩ | ⟨h1, h3⟩ | ⟨h1, hx, _, h3⟩⟩)
      · exact .inl h1
      · omega
      · omega
      · exact .inr ⟨h1, h2, h3⟩
      · omega
  · rw [if_neg hb]
    have hk43 : e.k ≠ 4 ∧ e.k ≠ 3 := by
      unfold rB rightB bodyB at hr
      constructor
      · intro hq; simp [hq, hb] at hr
      · intro hq; simp [hq, hb] at hr
    refine hT.iff fun k _ => ?_
    rw [rG_iff he]
    unfold PT
    rw [htn]
    constructor
    · rintro (h1 | ⟨h1, h2, h3⟩)
      · exact .inl h1
      · exact .inr ⟨h2, .inr (.inr (.inl ⟨h1, h3⟩))⟩
    · rintro (h1 | ⟨h2, ⟨h1, hx, h3⟩ | ⟨h1, hx, h3⟩ | ⟨h1, h3⟩ | ⟨h1, hx, hy, h3⟩⟩)
      · exact .inl h1
      · exact absurd hx hk43.1
      · exact absurd hx hk43.2
      · exact .inr ⟨h1, h2, h3⟩
      · exact absurd hy hb
/-- The thread's own clock behind the event. -/
theorem wC_kn (h : WInv g n W S) (he : g n = e) (hr : rB e = true) (hk : okB S e = true) : wC W e e.t.toNat = (numT (tG g) n : Int) ∧ Kn g (n + 1) (wC W e) (fun k => k = n) := by
  have ht := right_th hr
  have hte : tG g n = e.t := by unfold tG; rw [he]
  have := (wJ_kn h he hr hk).own (by rw [hte]; exact ht.1) (fun i hi => (h.th0 hi).1) (fun k _ => Iff.rfl)
  rw [hte] at this
  refine ⟨?_, this.2⟩
  unfold wC upd
  rw [if_pos rfl]
  exact this.1
theorem unk_iff {c x : Nat → Int} {q : Int} {o : Nat} (h : WInv g n W S) (he : g n = e) (ht : 0 ≤ e.t) (hc : Kn g (n + 1) c (fun k => k = n)) (hx : ∀ t, t < 8 → Last g n (x t) (PL g q o t)) :
    unkW x c e.t.toNat = true ↔ ∃ k, k < n ∧ ((g k).k = q ∧ (g k).o = (o : Int) ∧ tG g k ≠ e.t) ∧ ¬ HB (rG g) k n := by
  unfold unkW
  rw [List.any_eq_true]
  constructor
  · rintro ⟨t, htm, hq⟩
    simp only [Bool.and_eq_true, bne_iff_ne, ne_eq, decide_eq_true_eq] at hq
    have ht8 := List.mem_range.1 htm
    rcases hx t ht8 with ⟨h0, _⟩ | ⟨k, hk, ⟨h1, h2, h3⟩, hv, _⟩
    · have := hc.lo t; omega
    · refine ⟨k, hk, ⟨h1, h2, by omega⟩, fun hb => ?_⟩
      have := (hc.kn k (by omega)).2 ⟨n, by omega, rfl, .inr hb⟩
      rw [h3, Int.toNat_natCast] at this
      omega
  · rintro ⟨k, hk, ⟨h1, h2, h3⟩, hnb⟩
    have htk := h.th0 hk
    have hto : ((tG g k).toNat : Int) = tG g k := Int.toNat_of_nonneg htk.1
    refine ⟨(tG g k).toNat, List.mem_range.2 (by omega), ?_⟩
    simp only [Bool.and_eq_true, bne_iff_ne, ne_eq, decide_eq_true_eq]
    refine ⟨by omega, ?_⟩
    rcases hx (tG g k).toNat (by omega) with ⟨_, hn⟩ | ⟨k2, hk2, ⟨g1, g2, g3⟩, hv, hl⟩
    · exact absurd ⟨h1, h2, hto.symm⟩ (hn k hk)
    · have hle := hl k hk ⟨h1, h2, hto.symm⟩
      rw [hv]
      refine Int.not_le.1 fun hle2 => hnb ?_
      have e2 : tG g k2 = tG g k := by rw [g3, hto]
      rw [← e2] at hle2
      obtain ⟨j, _, rfl, hh⟩ := (hc.kn k2 (by omega)).1 hle2
      rcases hh with rfl | hh
      · omega
      · by_cases e3 : k = k2
        · rw [e3]; exact hh
        · exact (HB.one (show k < k2 by omega) (rG_same e2.symm)).trans hh
theorem wRc_iff (h : WInv g n W S) (he : g n = e) (hr : rB e = true) (hk : okB S e = true) : wRc W e = true ↔ ∃ k, k < n ∧ clE (g k) e = true ∧ ¬ HB (rG g) k n := by
  have ht := right_th hr
  have hc := (wC_kn h he hr hk).2
  unfold wRc
  have hcl : ∀ k, clE (g k) e = true ↔ (((g k).k = 1 ∨ (g k).k = 2) ∧ (e.k = 1 ∨ e.k = 2) ∧ ((g k).k = 2 ∨ e.k = 2) ∧ (g k).o = e.o ∧ tG g k ≠ e.t) := fun k => by
    unfold clE clashB plainB tG
    simp only [Bool.and_eq_true, Bool.or_eq_true, beq_iff_eq, bne_iff_ne, ne_eq]
    constructor
    · rintro ⟨⟨⟨⟨h1, h2⟩, h3⟩, h4⟩, h5⟩; exact ⟨h1, h2, h3, h4, h5⟩
    · rintro ⟨h1, h2, h3, h4, h5⟩; exact ⟨⟨⟨⟨h1, h2⟩, h3⟩, h4⟩, h5⟩
  by_cases h1 : e.k = 1
  · rw [if_pos h1]
    obtain ⟨o0, o8⟩ := rB_ob hr (.inl h1)
    have hon : (e.o.toNat : Int) = e.o := Int.toNat_of_nonneg o0
    rw [unk_iff h he ht.1 hc (fun t ht => h.wr e.o.toNat t (by omega) ht), hon]
    constructor
    · rintro ⟨k, hk, ⟨a, b, c⟩, d⟩
      exact ⟨k, hk, (hcl k).2 ⟨.inr a, .inl h1, .inl a, b, c⟩, d⟩
    · rintro ⟨k, hk, q, d⟩
      obtain ⟨_, _, q3, q4, q5⟩ := (hcl k).1 q
      exact ⟨k, hk, ⟨by omega, q4, q5⟩, d⟩
  rw [if_neg h1]
  by_cases h2 : e.k = 2
  · rw [if_pos h2]
    obtain ⟨o0, o8⟩ := rB_ob hr (.inr h2)
    have hon : (e.o.toNat : Int) = e.o := Int.toNat_of_nonneg o0
    rw [Bool.or_eq_true, unk_iff h he ht.1 hc (fun t ht => h.wr e.o.toNat t (by omega) ht), unk_iff h he ht.1 hc (fun t ht => h.rd e.o.toNat t (by omega) ht), hon]
    constructor
    · rintro (⟨k, hk, ⟨a, b, c⟩, d⟩ | ⟨k, hk, ⟨a, b, c⟩, d⟩)
      · exact ⟨k, hk, (hcl k).2 ⟨.inr a, .inr h2, .inl a, b, c⟩, d⟩
      · exact ⟨k, hk, (hcl k).2 ⟨.inl a, .inr h2, .inr h2, b, c⟩, d⟩
    · rintro ⟨k, hk, q, d⟩
      obtain ⟨q1, _, q3, q4, q5⟩ := (hcl k).1 q
      rcases q1 with q1 | q1
      · exact .inr ⟨k, hk, ⟨q1, q4, q5⟩, d⟩
      · exact .inl ⟨k, hk, ⟨q1, q4, q5⟩, d⟩
  · rw [if_neg h2]
    constructor
    · intro h; cases h
    · rintro ⟨k, hk, q, d⟩
      obtain ⟨_, q2, _⟩ := (hcl k).1 q
      omega
end
end Go.Proofs.Ytadngicebbnnlaa

namespace Go.Proofs.Ytadngicebbnnlaa
open Go Go.RowKit

theorem upd_at {f : Nat → Int} {i : Nat} {v : Int} : upd f i v i = v := by unfold upd; rw [if_pos rfl]
theorem upd_off {f : Nat → Int} {i j : Nat} {v : Int} (h : j ≠ i) : upd f i v j = f j := by unfold upd; rw [if_neg h]
section
variable {g : Nat → Ev} {n : Nat} {W : Wch} {S : LogS} {e : Ev}
theorem WInv.step (h : WInv g n W S) (he : g n = e) (hr : rB e = true) (hk : okB S e = true) : WInv g (n + 1) (wTurn W e) (turnS S e) := by
  have ht := right_th hr
  have htn : (e.t.toNat : Int) = e.t := Int.toNat_of_nonneg ht.1
  have hte : tG g n = e.t := by unfold tG; rw [he]
  have h0 : 0 ≤ tG g n := by rw [hte]; exact ht.1
  obtain ⟨hnum, hc⟩ := wC_kn h he hr hk
  have hrun := okB_run hk
  have hob : e.k ≠ 8 → 0 ≤ e.o ∧ e.o < 8 := fun hq => by
    refine inB_iff.1 ?_
    unfold rB rightB bodyB at hr
    cases ho : inB e.o
    · by_cases a1 : e.k = 1
      · simp [ho, a1] at hr
      by_cases a2 : e.k = 2
      · simp [ho, a2] at hr
      by_cases a3 : e.k = 3
      · simp [ho, a3] at hr
      by_cases a4 : e.k = 4
      · simp [ho, a4] at hr
      by_cases a5 : e.k = 5
      · simp [ho, a5] at hr
      by_cases a6 : e.k = 6
      · simp [ho, a6] at hr
      by_cases a7 : e.k = 7
      · simp [ho, a7] at hr
      by_cases a9 : e.k = 9
      · simp [a9] at hr
        rw [hr.2.1.1] at ho
        exact absurd hr.1 (by rw [ho]; simp)
      · simp [a1, a2, a3, a4, a5, a6, a7, a9, hq] at hr
    · rfl
  have hpt : ∀ a : Nat, PT g a n ↔ (e.t = (a : Int) ∨ (e.k = 6 ∧ e.b = 0 ∧ e.o = (a : Int))) := fun a => by unfold PT; rw [hte, he]
  have hpk : ∀ (q : Int) (a : Nat), PK g q a n ↔ (e.k = q ∧ e.b = 0 ∧ e.o = (a : Int)) := fun q a => by unfold PK; rw [he]
  have hpl : ∀ (q : Int) (o t : Nat), PL g q o t n ↔ (e.k = q ∧ e.o = (o : Int) ∧ e.t = (t : Int)) := fun q o t => by unfold PL; rw [he, hte]
  have htk : ∀ k, k < n → PT g e.t.toNat k → HB (rG g) k n := fun k hk hp => by
    refine .one hk ((rG_iff he).2 ?_)
    unfold PT at hp
    rw [htn] at hp
    rcases hp with h1 | ⟨h1, h2, h3⟩
    · exact .inl h1
    · exact .inr ⟨h2, .inr (.inr (.inl ⟨h1, h3⟩))⟩
  refine ⟨fun k hk => ?_, fun a ha => ?_, fun a ha => ?_, fun a ha => ?_, fun a ha => ?_, fun a ha => ?_, fun o t ho ht8 => ?_, fun o t ho ht8 => ?_⟩
  · by_cases hkn : k = n
    · rw [hkn, he]; exact hr
    · exact h.right k (by omega)
  · simp only [wTurn]
    by_cases hat : a = e.t.toNat
    · rw [if_pos hat]
      subst hat
      exact hc.set ((hpt _).2 (.inl htn.symm)) htk
    · rw [if_neg hat]
      by_cases hs : e.b = 0 ∧ e.k = 6 ∧ a = e.o.toNat
      · rw [if_pos hs]
        obtain ⟨hb, h6, hao⟩ := hs
        have ho := hob (by omega)
        have hU : Kn g (n + 1) (W.th a) (fun k => k < n ∧ PT g a k) := (h.th a ha).up h0 (fun k hk => ⟨fun q => ⟨hk, q⟩, fun q => q.2⟩) (fun q => by omega)
        refine (hU.join hc).iff fun k hk => ?_
        constructor
        · rintro (q | rfl)
          · exact q.2
          · exact (hpt a).2 (.inr ⟨h6, hb, by omega⟩)
        · intro q
          by_cases hkn : k = n
          · exact .inr hkn
          · exact .inl ⟨by omega, q⟩
      · rw [if_neg hs]
        refine (h.th a ha).up h0 (fun _ _ => Iff.rfl) (fun q => ?_)
        rcases (hpt a).1 q with q | ⟨q1, q2, q3⟩
        · omega
        · exact hs ⟨q2, q1, by omega⟩
  · simp only [wTurn]
    by_cases hs : e.b = 0 ∧ e.k = 5 ∧ a = e.o.toNat
    · rw [if_pos hs]
      obtain ⟨hb, h5, hao⟩ := hs
      have ho := hob (by omega)
      have how : S.ow a = e.t := by
        unfold okB badB at hk
        rw [h5, hb, ← hao] at hk
        by_cases s1 : S.ow a = e.t
        · exact s1
        · simp [s1] at hk
      refine hc.set ((hpk 5 a).2 ⟨h5, hb, by omega⟩) fun k hk hp => ?_
      obtain ⟨j, hj, h1, h2⟩ := h.ow a ha (by rw [how]; exact ht.1) k hk hp
      exact .more h2 hj (rG_same (by rw [h1, how, hte]))
    · rw [if_neg hs]
      refine (h.mu a ha).up h0 (fun _ _ => Iff.rfl) (fun q => ?_)
      obtain ⟨q1, q2, q3⟩ := (hpk 5 a).1 q
      exact hs ⟨q2, q1, by omega⟩
  · simp only [wTurn]
    by_cases hs : e.b = 0 ∧ e.k = 3 ∧ a = e.o.toNat
    · rw [if_pos hs]
      obtain ⟨hb, h3, hao⟩ := hs
      have ho := hob (by omega)
      refine hc.set ((hpk 3 a).2 ⟨h3, hb, by omega⟩) fun k hk hp => ?_
      unfold PK at hp
      exact .one hk ((rG_iff he).2 (.inr ⟨hp.2.1, .inr (.inl ⟨hp.1, h3, by omega⟩)⟩))
    · rw [if_neg hs]
      refine (h.aw a ha).up h0 (fun _ _ => Iff.rfl) (fun q => ?_)
      obtain ⟨q1, q2, q3⟩ := (hpk 3 a).1 q
      exact hs ⟨q2, q1, by omega⟩
  · -- who owns the mutex
    have old : S.ow a = (turnS S e).ow a → (¬ PK g 5 a n) → 0 ≤ (turnS S e).ow a → ∀ k, k < n + 1 → PK g 5 a k → ∃ j, j < n + 1 ∧ tG g j = (turnS S e).ow a ∧ HB (rG g) k j := fun e1 hn hpos k hk hp => by
      by_cases hkn : k = n
      · rw [hkn] at hp; exact absurd hp hn
      · obtain ⟨j, hj, h1, h2⟩ := h.ow a ha (by rw [e1]; exact hpos) k (by omega) hp
        exact ⟨j, by omega, by rw [h1, e1], h2⟩
    by_cases hb : e.b = 0
    case neg =>
      exact old (by simp only [turnS]; rw [if_pos (by simpa using hb)]) (fun q => hb ((hpk 5 a).1 q).2.1)
    have hbb : (e.b != 0) = false := by rw [hb]; rfl
    by_cases h4 : e.k = 4
    · have ho := hob (by omega)
      by_cases hao : a = e.o.toNat
      · have e1 : (turnS S e).ow a = e.t := by simp only [turnS, hbb, h4]; simp [hao, upd_at]
        intro _ k hk hp
        by_cases hkn : k = n
        · rw [hkn] at hp; have := ((hpk 5 a).1 hp).1; omega
        · refine ⟨n, by omega, by rw [hte, e1], .one (by omega) ((rG_iff he).2 (.inr ?_))⟩
          unfold PK at hp
          exact ⟨hp.2.1, .inl ⟨hp.1, h4, by omega⟩⟩
      · refine old ?_ (fun q => by have := ((hpk 5 a).1 q).1; omega)
        simp only [turnS, hbb, h4]; simp [upd_off hao]
    by_cases h5 : e.k = 5
    · have ho := hob (by omega)
      by_cases hao : a = e.o.toNat
      · have e1 : (turnS S e).ow a = -1 := by simp only [turnS, hbb, h5]; simp [hao, upd_at]
        intro h9
        rw [e1] at h9
        omega
      · refine old ?_ (fun q => by have := ((hpk 5 a).1 q).2.2; omega)
        simp only [turnS, hbb, h5]; simp [upd_off hao]
    · refine old ?_ (fun q => h5 ((hpk 5 a).1 q).1)
      simp only [turnS, hbb]; simp [h4, h5]
  · -- who has ended
    have old : (turnS S e).st a = S.st a → (¬ PT g a n) → (turnS S e).st a = 3 → ∃ k', k' < n + 1 ∧ (g k').k = 9 ∧ (g k').b = 0 ∧ tG g k' = (a : Int) ∧ ∀ k, k < n + 1 → PT g a k → k = k' ∨ HB (rG g) k k' := fun e1 hn h3 => by
      obtain ⟨k', hk', a1, a2, a3, a4⟩ := h.en a ha (by rw [← e1]; exact h3)
      refine ⟨k', by omega, a1, a2, a3, fun k hk hp => ?_⟩
      by_cases hkn : k = n
      · rw [hkn] at hp; exact absurd hp hn
      · exact a4 k (by omega) hp
    by_cases hb : e.b = 0
    case neg =>
      have hbb : (e.b != 0) = true := by simpa using hb
      by_cases hat : a = e.t.toNat
      · intro h3
        simp only [turnS, hbb, if_true] at h3
        rw [hat, upd_at] at h3
        omega
      · refine old ?_ (fun q => ?_)
        · simp only [turnS, hbb, if_true]; rw [upd_off hat]
        · rcases (hpt a).1 q with q | ⟨_, q, _⟩
          · omega
          · exact hb q
    have hbb : (e.b != 0) = false := by rw [hb]; rfl
    by_cases h6 : e.k = 6
    · have ho := hob (by omega)
      by_cases hao : a = e.o.toNat
      · intro h3
        simp only [turnS, hbb, h6] at h3
        simp [hao, upd_at] at h3
      · have e1 : (turnS S e).st a = S.st a := by simp only [turnS, hbb, h6]; simp [upd_off hao]
        intro h3
        refine old e1 (fun q => ?_) h3
        rcases (hpt a).1 q with q | ⟨_, _, q⟩
        · rw [e1] at h3
          have : a = e.t.toNat := by omega
          rw [this, hrun] at h3
          omega
        · omega
    by_cases h9 : e.k = 9
    · by_cases hat : a = e.t.toNat
      · intro _
        refine ⟨n, by omega, by rw [he]; exact h9, by rw [he]; exact hb, by rw [hte]; omega, fun k hk hp => ?_⟩
        by_cases hkn : k = n
        · exact .inl hkn
        · rw [hat] at hp; exact .inr (htk k (by omega) hp)
      · refine old ?_ (fun q => ?_)
        · simp only [turnS, hbb, h9]; simp [upd_off hat]
        · rcases (hpt a).1 q with q | ⟨q, _, _⟩ <;> omega
    · have e1 : (turnS S e).st a = S.st a := by simp only [turnS, hbb]; simp [h6, h9]
      intro h3
      refine old e1 (fun q => ?_) h3
      rcases (hpt a).1 q with q | ⟨q, _, _⟩
      · rw [e1] at h3
        have : a = e.t.toNat := by omega
        rw [this, hrun] at h3
        omega
      · exact h6 q
  · simp only [wTurn]
    by_cases hs : e.k = 1 ∧ o = e.o.toNat
    · rw [if_pos hs]
      have hoo := hob (by omega)
      by_cases htt : t = e.t.toNat
      · subst htt
        rw [upd_at, hnum]
        exact Last.new ((hpl 1 o _).2 ⟨hs.1, by omega, htn.symm⟩)
      · rw [upd_off htt]
        refine (h.rd o t ho ht8).up (fun q => ?_)
        have := ((hpl 1 o t).1 q).2.2; omega
    · rw [if_neg hs]
      refine (h.rd o t ho ht8).up (fun q => ?_)
      obtain ⟨q1, q2, q3⟩ := (hpl 1 o t).1 q
      exact hs ⟨q1, by omega⟩
  · simp only [wTurn]
    by_cases hs : e.k = 2 ∧ o = e.o.toNat
    · rw [if_pos hs]
      have hoo := hob (by omega)
      by_cases htt : t = e.t.toNat
      · subst htt
        rw [upd_at, hnum]
        exact Last.new ((hpl 2 o _).2 ⟨hs.1, by omega, htn.symm⟩)
      · rw [upd_off htt]
        refine (h.wr o t ho ht8).up (fun q => ?_)
        have := ((hpl 2 o t).1 q).2.2; omega
    · rw [if_neg hs]
      refine (h.wr o t ho ht8).up (fun q => ?_)
      obtain ⟨q1, q2, q3⟩ := (hpl 2 o t).1 q
      exact hs ⟨q1, by omega⟩
end

/-! Over the events that were taken. -/
def gL (l : List Ev) : Nat → Ev := fun i => l.getD i ev00
theorem gL_agree (l : List Ev) (e : Ev) : ∀ i, i < l.length → gL l i = gL (l ++ [e]) i := fun i hi => by
  unfold gL; simp [List.getD, List.getElem?_append_left hi]
theorem gL_last (l : List Ev) (e : Ev) : gL (l ++ [e]) l.length = e := by unfold gL; simp [List.getD]
theorem WInv.snoc {l : List Ev} {W : Wch} {S : LogS} {e : Ev} (h : WInv (gL l) l.length W S) (hr : rB e = true) (hk : okB S e = true) :
    WInv (gL (l ++ [e])) (l ++ [e]).length (wTurn W e) (turnS S e) ∧ (wRc W e = true ↔ ∃ k, k < l.length ∧ raceC (l ++ [e]) k l.length = true) := by
  have h2 := h.agree (gL_agree l e)
  refine ⟨by rw [List.length_append]; exact h2.step (gL_last l e) hr hk, ?_⟩
  rw [wRc_iff h2 (gL_last l e) hr hk]
  constructor
  · rintro ⟨k, hk, h1, h3⟩
    refine ⟨k, hk, ?_⟩
    unfold raceC
    rw [show (l ++ [e]).getD l.length ev00 = e from gL_last l e, Bool.and_eq_true]
    refine ⟨h1, ?_⟩
    rw [Bool.not_eq_true', ← Bool.not_eq_true, hbB_iff]
    exact h3
  · rintro ⟨k, hk, h1⟩
    unfold raceC at h1
    rw [show (l ++ [e]).getD l.length ev00 = e from gL_last l e, Bool.and_eq_true, Bool.not_eq_true', ← Bool.not_eq_true, hbB_iff] at h1
    exact ⟨k, hk, h1.1, h1.2⟩
theorem seconds_iff {l : List Ev} {e : Ev} : ((docC (l ++ [e]) (l ++ [e]).length).any fun p => p.2 == l.length) = true ↔ ∃ k, k < l.length ∧ raceC (l ++ [e]) k l.length = true := by
  rw [List.any_eq_true]
  constructor
  · rintro ⟨p, hp, hq⟩
    obtain ⟨_, h2, h3⟩ := docC_mem.1 hp
    have hq : p.2 = l.length := by simpa using hq
    rw [hq] at h2 h3
    exact ⟨p.1, h2, h3⟩
  · rintro ⟨k, hk, h⟩
    exact ⟨(k, l.length), docC_mem.2 ⟨by simp, hk, h⟩, by simp⟩
end Go.Proofs.Ytadngicebbnnlaa

namespace Go.Proofs.Ytadngicebbnnlaa
open Go.ChangeShapes Go.WideShapes Go.ChangeAt Go.RowKit Go.Deep

theorem lt8W {j : Nat} (h : j < 8) : j = 0 ∨ j = 1 ∨ j = 2 ∨ j = 3 ∨ j = 4 ∨ j = 5 ∨ j = 6 ∨ j = 7 := by omega
set_option maxRecDepth 20000 in
theorem idx8 (x : Nat → Int) {j : Nat} (hj : j < 8) : ∀ W, (Instr.index 89 (.agg #[.int .i64 (x 0), .int .i64 (x 1), .int .i64 (x 2), .int .i64 (x 3), .int .i64 (x 4), .int .i64 (x 5), .int .i64 (x 6), .int .i64 (x 7)]) (.int .i64 (j : Int))).run Try.prog W = .ok (.int .i64 (x j)) W := fun W => by
  rcases lt8W hj with rfl | rfl | rfl | rfl | rfl | rfl | rfl | rfl
  all_goals first | rfl | (go_simp; done)
theorem get8 (x : Nat → Int) {j : Nat} (hj : j < 8) : (#[.int .i64 (x 0), .int .i64 (x 1), .int .i64 (x 2), .int .i64 (x 3), .int .i64 (x 4), .int .i64 (x 5), .int .i64 (x 6), .int .i64 (x 7)] : Array Value)[j]? = some (.int .i64 (x j)) := by
  rcases lt8W hj with rfl | rfl | rfl | rfl | rfl | rfl | rfl | rfl <;> rfl
def unkN (x c : Nat → Int) (but j : Nat) : Bool := (List.range j).any fun t => t != but && decide (c t < x t)
theorem unkN_succ (x c : Nat → Int) (but j : Nat) : unkN x c but (j + 1) = (unkN x c but j || (j != but && decide (c j < x j))) := by
  unfold unkN; rw [List.range_succ, List.any_append]; simp
theorem unkN_mono {x c : Nat → Int} {but : Nat} : ∀ {j k : Nat}, j ≤ k → unkN x c but j = true → unkN x c but k = true := by
  intro j k h
  induction h with
  | refl => exact id
  | step _ ih => intro h; rw [unkN_succ, ih h]; rfl

theorem heap_twoW (w : World) (A B : Array Value) (t : TypeId) : ((w.alloc (.cells A t)).alloc (.cells B t)).heap[w.heap.size + 1]? = some (.cells B t (0, 0)) ∧ Below w.heap.size w ((w.alloc (.cells A t)).alloc (.cells B t)) := by
  have h1 : Below w.heap.size w (w.alloc (.cells A t)) := (Below.refl _ w).alloc (Nat.le_refl _) _
  have h2 := (MapKept.heap_alloc (w.alloc (.cells A t)) (.cells B t)).1
  have hs : (w.alloc (.cells A t)).heap.size = w.heap.size + 1 := by simp
  rw [hs] at h2
  exact ⟨h2, h1.alloc h1.size _⟩
set_option maxRecDepth 20000 in
set_option maxHeartbeats 8000000 in
theorem unknown_calls (x y : Nat → Int) (but : Nat) (hb8 : but < 8) (w : World) :
    Calls Try.prog 76 #[.agg #[.int .i64 (x 0), .int .i64 (x 1), .int .i64 (x 2), .int .i64 (x 3), .int .i64 (x 4), .int .i64 (x 5), .int .i64 (x 6), .int .i64 (x 7)], .agg #[.int .i64 (y 0), .int .i64 (y 1), .int .i64 (y 2), .int .i64 (y 3), .int .i64 (y 4), .int .i64 (y 5), .int .i64 (y 6), .int .i64 (y 7)], .int .i64 (but : Int)] w fun e w' => e = .returned (.bool (unkW x y but)) ∧ Below w.heap.size w w' := by
  have Hu : Hid (unkW x y but = unkN x y but 8) := rfl
  obtain ⟨r, hr⟩ : ∃ r, r = unkW x y but := ⟨_, rfl⟩
  rw [← hr]
  have Hr : Hid (r = unkN x y but 8) := hr
  clear hr Hu
  go_enter Try.func76, Try.ntmps76
  go_wp2_with fail
  have hT := heap_twoW w #[.int .i64 (x 0), .int .i64 (x 1), .int .i64 (x 2), .int .i64 (x 3), .int .i64 (x 4), .int .i64 (x 5), .int .i64 (x 6), .int .i64 (x 7)] #[.int .i64 (y 0), .int .i64 (y 1), .int .i64 (y 2), .int .i64 (y 3), .int .i64 (y 4), .int .i64 (y 5), .int .i64 (y 6), .int .i64 (y 7)] 89
  revert hT
  generalize (w.alloc (.cells #[.int .i64 (x 0), .int .i64 (x 1), .int .i64 (x 2), .int .i64 (x 3), .int .i64 (x 4), .int .i64 (x 5), .int .i64 (x 6), .int .i64 (x 7)] 89)).alloc (.cells #[.int .i64 (y 0), .int .i64 (y 1), .int .i64 (y 2), .int .i64 (y 3), .int .i64 (y 4), .int .i64 (y 5), .int .i64 (y 6), .int .i64 (y 7)] 89) = w1
  intro hT
  have HB := Lib.hid hT.2
  have HA := Lib.hid hT.1
  clear hT
  go_loopw [10] (fun v wr => ∃ j : Nat, j ≤ 8 ∧ v = .int .i64 j ∧ Hid (unkN x y but j = false ∧ Below w1.heap.size w1 wr)) (fun v _ => 8 - (intOf v).toNat)
  case atStart => exact ⟨0, Nat.zero_le _, by go_num, rfl, Below.refl ..⟩
  case round =>
    obtain ⟨j, hj, rfl, HQ⟩ := hrel
    by_cases hj8 : j < 8
    · have hidx := idx8 x hj8
      have cc : w1.cell? ⟨w.heap.size + 1, j, none⟩ = some (.int .i64 (y j)) := by rw [cell_of_block HA.out]; exact get8 y hj8
      have cc := keep HQ.out.2 cc
      have Hs := Lib.hid (unkN_succ x y but j)
      by_cases hjb : j = but
      · have hne : ((j : Int) != (but : Int)) = false := by simp [hjb]
        have HN : Hid (unkN x y but (j + 1) = false ∧ Below w1.heap.size w1 wr) := ⟨by rw [Hs.out, HQ.out.1, hjb]; simp, HQ.out.2⟩
        clear hjb Hs HQ
        go_wp2
        go_roundw
        case rel => exact ⟨j + 1, hj8, by go_num, HN.out⟩
        case measure => exact measC hj8
      · have hne : ((j : Int) != (but : Int)) = true := by simp; omega
        by_cases hlt : y j < x j
        · have hd : decide (y j < x j) = true := decide_eq_true hlt
          have Hv : Hid (r = true) := by
            rw [Hid, Hr.out]
            refine unkN_mono (show j + 1 ≤ 8 from hj8) ?_
            rw [Hs.out, hd]
            simp [hjb]
          have HB2 := Lib.hid (HB.out.trans (HQ.out.2.mono HB.out.size))
          clear hjb hlt Hs HQ
          go_wp2
          go_ret
          exact ⟨by rw [Hv.out]; rfl, HB2.out⟩
        · have hd : decide (y j < x j) = false := decide_eq_false hlt
          have HN : Hid (unkN x y but (j + 1) = false ∧ Below w1.heap.size w1 wr) := ⟨by rw [Hs.out, HQ.out.1, hd]; simp, HQ.out.2⟩
          clear hjb hlt Hs HQ
          go_wp2
          go_roundw
          case rel => exact ⟨j + 1, hj8, by go_num, HN.out⟩
          case measure => exact measC hj8
    · have hj8 : j = 8 := Nat.le_antisymm hj (Nat.le_of_not_lt hj8)
      subst hj8
      have HB2 := Lib.hid (HB.out.trans (HQ.out.2.mono HB.out.size))
      have Hv : Hid (r = false) := by rw [Hid, Hr.out]; exact HQ.out.1
      clear HQ
      go_wp2
      go_ret
      exact ⟨by rw [Hv.out]; rfl, HB2.out⟩

/-- Eight cells of a row are written. -/
structure Same8 (A A' : Array Value) (off : Nat) (z : Nat → Int) : Prop where
  size : A'.size = A.size
  new : ∀ i, i < 8 → A'[off + i]? = some (.int .i64 (z i))
  old : ∀ k, (k < off ∨ off + 8 ≤ k) → A'[k]? = A[k]?
/-- What join writes, j places taken. -/
def JoinAt (w wr : World) (b off j : Nat) (T : TypeId) (A : Array Value) (x y : Nat → Int) : Prop :=
  ∃ A', wr.heap[b]? = some (.cells A' T (0, 0)) ∧ Same8 A A' off (fun i => if i < j then max (x i) (y i) else x i) ∧ Wrote (fun q => q = b) w wr

set_option maxRecDepth 20000 in
set_option maxHeartbeats 8000000 in
theorem wjoin_calls {w : World} {b off : Nat} {T : TypeId} {A : Array Value} (x y : Nat → Int) (hA : w.heap[b]? = some (.cells A T (0, 0))) (ho : off + 8 ≤ A.size) (hx : ∀ i, i < 8 → A[off + i]? = some (.int .i64 (x i))) :
    Calls Try.prog 52 #[.pointer (some ⟨b, off, none⟩), .agg #[.int .i64 (y 0), .int .i64 (y 1), .int .i64 (y 2), .int .i64 (y 3), .int .i64 (y 4), .int .i64 (y 5), .int .i64 (y 6), .int .i64 (y 7)]] w fun e w' => e = .returned (.tuple #[]) ∧ ∃ A', w'.heap[b]? = some (.cells A' T (0, 0)) ∧ Same8 A A' off (fun i => max (x i) (y i)) ∧ Wrote (fun q => q = b) w w' := by
  have hbl : b < w.heap.size := (Array.getElem?_eq_some_iff.1 hA).1
  have HA := Lib.hid (And.intro hA (And.intro ho hx))
  clear hA ho hx
  go_enter Try.func52, Try.ntmps52
  go_wp2_with fail
  have hb1 : Below w.heap.size w (w.alloc (.cells #[.int .i64 (y 0), .int .i64 (y 1), .int .i64 (y 2), .int .i64 (y 3), .int .i64 (y 4), .int .i64 (y 5), .int .i64 (y 6), .int .i64 (y 7)] 89)) := (Below.refl _ w).alloc (Nat.le_refl _) _
  revert hb1
  generalize w.alloc (.cells #[.int .i64 (y 0), .int .i64 (y 1), .int .i64 (y 2), .int .i64 (y 3), .int .i64 (y 4), .int .i64 (y 5), .int .i64 (y 6), .int .i64 (y 7)] 89) = w1
  intro hb1
  have H1 : Hid (JoinAt w w1 b off 0 T A x y) := by
    refine ⟨A, (hb1.block b hbl).trans HA.out.1, ⟨rfl, fun i hi => ?_, fun _ _ => rfl⟩, Wrote.of_below hb1⟩
    rw [HA.out.2.2 i hi]; simp
  clear hb1
  go_loopw [7] (fun v wr => ∃ j : Nat, j ≤ 8 ∧ v = .int .i64 j ∧ Hid (JoinAt w wr b off j T A x y)) (fun v _ => 8 - (intOf v).toNat)
  case atStart => exact ⟨0, Nat.zero_le _, by go_num, H1.out⟩
  case round =>
    clear H1
    obtain ⟨j, hj, rfl, HQ⟩ := hrel
    by_cases hj8 : j < 8
    · obtain ⟨A', hA', hS, hW⟩ := HQ.out
      have hidx := idx8 y hj8
      have cc : wr.cell? ⟨b, off + j, none⟩ = some (.int .i64 (x j)) := by rw [cell_of_block hA', hS.new j hj8]; simp
      have fc : wr.frozen? ⟨b, off + j, none⟩ = false := free_of_block hA'
      have hsz : off + j < A'.size := by rw [hS.size]; have := HA.out.2.1; omega
      have HP := Lib.hid (And.intro hA' (And.intro hS (And.intro hW hsz)))
      clear hA' hS hW HQ hsz
      go_wp2_with fail
      refine wp_ext_draw 11 mixed (by kernel_rfl) ?_
      simp only [List.take_succ_cons, List.take_zero, List.drop_succ_cons, List.drop_zero]
      repeat ((first | ((apply TextRun.go rfl rfl rfl); (focus (intro w1 hS K hK; have hc := bcell hS; have hs := blt hS; have cc := keep hS cc; go_wp2_with (fail); first | done | exact hS | exact hS.trans (hb.mono hS.size)))) | (refine TextRun.skip rfl ?_) | ((refine TextRun.wantedT rfl rfl rfl ?_); (apply Exists.intro); (apply And.intro); (focus (intro w1 hS K hK; have hc := bcell hS; have hs := blt hS; have cc := keep hS cc; go_wp2_with (fail); first | done | exact hS | exact hS.trans (hb.mono hS.size))))); (simp only [Act.put, List.setIfInBounds_toArray, List.set_cons_zero, List.set_cons_succ]))
      refine TextRun.done ?_
      intro y1 hb
      have HN : Hid (JoinAt w (y1.setCell ⟨b, off + j, none⟩ (.int .i64 (max (x j) (y j)))) b off (j + 1) T A x y) := by
        obtain ⟨hA', hS, hW, hsz⟩ := HP.out
        have hbl2 : b < wr.heap.size := (Array.getElem?_eq_some_iff.1 hA').1
        have h2 : y1.heap[b]? = some (.cells A' T (0, 0)) := (hb.block b hbl2).trans hA'
        refine ⟨_, heap_set h2 _, ⟨by simp [hS.size], fun i hi => ?_, fun k hk => ?_⟩, ?_⟩
        · by_cases hij : i = j
          · subst hij
            rw [if_pos (by omega)]
            simp [hsz]
          · rw [Array.getElem?_setIfInBounds_ne (by omega), hS.new i hi]
            by_cases hl : i < j
            · rw [if_pos hl, if_pos (by omega)]
            · rw [if_neg hl, if_neg (by omega)]
        · rw [Array.getElem?_setIfInBounds_ne (by omega)]; exact hS.old k hk
        · exact (hW.trans (Wrote.of_below (R := fun q => q = b) hb) (fun q hq => .inl hq)).trans (Wrote.setCell (R := fun q => q = b) y1 (p := ⟨b, off + j, none⟩) _ rfl) (fun q hq => .inl hq)
      have fc : y1.frozen? ⟨b, off + j, none⟩ = false := (hb.frozen (p := ⟨b, off + j, none⟩) (Array.getElem?_eq_some_iff.1 HP.out.1).1).trans fc
      have cc := keep hb cc
      clear hb HP
      go_wp2
      go_roundw
      case rel => exact ⟨j + 1, hj8, by go_num, HN.out⟩
      case measure => exact measC hj8
    · have hj8 : j = 8 := Nat.le_antisymm hj (Nat.le_of_not_lt hj8)
      subst hj8
      obtain ⟨A', hA', hS, hW⟩ := HQ.out
      have Hq : Hid (∃ A', wr.heap[b]? = some (.cells A' T (0, 0)) ∧ Same8 A A' off (fun i => max (x i) (y i)) ∧ Wrote (fun q => q = b) w wr) :=
        ⟨A', hA', ⟨hS.size, fun i hi => by rw [hS.new i hi, if_pos hi], hS.old⟩, hW⟩
      clear hA' hS hW HQ
      go_wp2
      go_end0
      exact ⟨rfl, Hq.out⟩
end Go.Proofs.Ytadngicebbnnlaa

namespace Go.Proofs.Ytadngicebbnnlaa
open Go.ChangeShapes Go.WideShapes Go.ChangeAt Go.RowKit Go.Deep

structure WCells (A : Array Value) (p : Value) (W : Wch) : Prop where
  size : A.size = 322
  log : A[0]? = some p
  th : ∀ a i, a < 8 → i < 8 → A[1 + a * 8 + i]? = some (.int .i64 (W.th a i))
  mu : ∀ a i, a < 8 → i < 8 → A[65 + a * 8 + i]? = some (.int .i64 (W.mu a i))
  aw : ∀ a i, a < 8 → i < 8 → A[129 + a * 8 + i]? = some (.int .i64 (W.aw a i))
  rd : ∀ a i, a < 8 → i < 8 → A[193 + a * 16 + i]? = some (.int .i64 (W.rd a i))
  wr : ∀ a i, a < 8 → i < 8 → A[193 + a * 16 + 8 + i]? = some (.int .i64 (W.wr a i))
  cnt : A[321]? = some (.int .i64 W.cnt)
def WatchAt (w : World) (b : Nat) (p : Value) (W : Wch) : Prop := ∃ A, w.heap[b]? = some (.cells A 95 (0, 0)) ∧ WCells A p W
/-- The same values, where one looks. -/
structure WSame (W W' : Wch) : Prop where
  th : ∀ a i, a < 8 → i < 8 → W.th a i = W'.th a i
  mu : ∀ a i, a < 8 → i < 8 → W.mu a i = W'.mu a i
  aw : ∀ a i, a < 8 → i < 8 → W.aw a i = W'.aw a i
  rd : ∀ a i, a < 8 → i < 8 → W.rd a i = W'.rd a i
  wr : ∀ a i, a < 8 → i < 8 → W.wr a i = W'.wr a i
  cnt : W.cnt = W'.cnt
section
variable {A A' : Array Value} {p : Value} {W W' : Wch} {y : Nat → Int}
theorem WCells.same (h : WCells A p W) (hs : WSame W W') : WCells A p W' :=
  ⟨h.size, h.log, fun a i ha hi => by rw [← hs.th a i ha hi]; exact h.th a i ha hi, fun a i ha hi => by rw [← hs.mu a i ha hi]; exact h.mu a i ha hi, fun a i ha hi => by rw [← hs.aw a i ha hi]; exact h.aw a i ha hi,
    fun a i ha hi => by rw [← hs.rd a i ha hi]; exact h.rd a i ha hi, fun a i ha hi => by rw [← hs.wr a i ha hi]; exact h.wr a i ha hi, by rw [← hs.cnt]; exact h.cnt⟩
def setTh (W : Wch) (a : Nat) (y : Nat → Int) : Wch := { W with th := fun b => if b = a then y else W.th b }
def setMu (W : Wch) (a : Nat) (y : Nat → Int) : Wch := { W with mu := fun b => if b = a then y else W.mu b }
def setAw (W : Wch) (a : Nat) (y : Nat → Int) : Wch := { W with aw := fun b => if b = a then y else W.aw b }
def setRd (W : Wch) (a : Nat) (y : Nat → Int) : Wch := { W with rd := fun b => if b = a then y else W.rd b }
def setWr (W : Wch) (a : Nat) (y : Nat → Int) : Wch := { W with wr := fun b => if b = a then y else W.wr b }
theorem WCells.setTh (h : WCells A p W) {a : Nat} (ha : a < 8) (hS : Same8 A A' (1 + a * 8) y) : WCells A' p (setTh W a y) := by
  have hsz := h.size
  refine ⟨by rw [hS.size]; exact h.size, by rw [hS.old _ (by omega)]; exact h.log, fun b i hb hi => ?_, fun b i hb hi => by rw [hS.old _ (by omega)]; exact h.mu b i hb hi, fun b i hb hi => by rw [hS.old _ (by omega)]; exact h.aw b i hb hi,
    fun b i hb hi => by rw [hS.old _ (by omega)]; exact h.rd b i hb hi, fun b i hb hi => by rw [hS.old _ (by omega)]; exact h.wr b i hb hi, by rw [hS.old _ (by omega)]; exact h.cnt⟩
  simp only [Go.Proofs.Ytadngicebbnnlaa.setTh]
  by_cases e : b = a
  · rw [if_pos e, e]; exact hS.new i hi
  · rw [if_neg e, hS.old _ (by omega)]; exact h.th b i hb hi
theorem WCells.setMu (h : WCells A p W) {a : Nat} (ha : a < 8) (hS : Same8 A A' (65 + a * 8) y) : WCells A' p (setMu W a y) := by
  have hsz := h.size
  refine ⟨by rw [hS.size]; exact h.size, by rw [hS.old _ (by omega)]; exact h.log, fun b i hb hi => by rw [hS.old _ (by omega)]; exact h.th b i hb hi, fun b i hb hi => ?_, fun b i hb hi => by rw [hS.old _ (by omega)]; exact h.aw b i hb hi,
    fun b i hb hi => by rw [hS.old _ (by omega)]; exact h.rd b i hb hi, fun b i hb hi => by rw [hS.old _ (by omega)]; exact h.wr b i hb hi, by rw [hS.old _ (by omega)]; exact h.cnt⟩
  simp only [Go.Proofs.Ytadngicebbnnlaa.setMu]
  by_cases e : b = a
  · rw [if_pos e, e]; exact hS.new i hi
  · rw [if_neg e, hS.old _ (by omega)]; exact h.mu b i hb hi
theorem WCells.setAw (h : WCells A p W) {a : Nat} (ha : a < 8) (hS : Same8 A A' (129 + a * 8) y) : WCells A' p (setAw W a y) := by
  have hsz := h.size
  refine ⟨by rw [hS.size]; exact h.size, by rw [hS.old _ (by omega)]; exact h.log, fun b i hb hi => by rw [hS.old _ (by omega)]; exact h.th b i hb hi, fun b i hb hi => by rw [hS.old _ (by omega)]; exact h.mu b i hb hi, fun b i hb hi => ?_,
    fun b i hb hi => by rw [hS.old _ (by omega)]; exact h.rd b i hb hi, fun b i hb hi => by rw [hS.old _ (by omega)]; exact h.wr b i hb hi, by rw [hS.old _ (by omega)]; exact h.cnt⟩
  simp only [Go.Proofs.Ytadngicebbnnlaa.setAw]
  by_cases e : b = a
  · rw [if_pos e, e]; exact hS.new i hi
  · rw [if_neg e, hS.old _ (by omega)]; exact h.aw b i hb hi
theorem WCells.setRd (h : WCells A p W) {a : Nat} (ha : a < 8) (hS : Same8 A A' (193 + a * 16) y) : WCells A' p (setRd W a y) := by
  have hsz := h.size
  refine ⟨by rw [hS.size]; exact h.size, by rw [hS.old _ (by omega)]; exact h.log, fun b i hb hi => by rw [hS.old _ (by omega)]; exact h.th b i hb hi, fun b i hb hi => by rw [hS.old _ (by omega)]; exact h.mu b i hb hi, fun b i hb hi => by rw [hS.old _ (by omega)]; exact h.aw b i hb hi,
    fun b i hb hi => ?_, fun b i hb hi => by rw [hS.old _ (by omega)]; exact h.wr b i hb hi, by rw [hS.old _ (by omega)]; exact h.cnt⟩
  simp only [Go.Proofs.Ytadngicebbnnlaa.setRd]
  by_cases e : b = a
  · rw [if_pos e, e]; exact hS.new i hi
  · rw [if_neg e, hS.old _ (by omega)]; exact h.rd b i hb hi
theorem WCells.setWr (h : WCells A p W) {a : Nat} (ha : a < 8) (hS : Same8 A A' (193 + a * 16 + 8) y) : WCells A' p (setWr W a y) := by
  have hsz := h.size
  refine ⟨by rw [hS.size]; exact h.size, by rw [hS.old _ (by omega)]; exact h.log, fun b i hb hi => by rw [hS.old _ (by omega)]; exact h.th b i hb hi, fun b i hb hi => by rw [hS.old _ (by omega)]; exact h.mu b i hb hi, fun b i hb hi => by rw [hS.old _ (by omega)]; exact h.aw b i hb hi,
    fun b i hb hi => by rw [hS.old _ (by omega)]; exact h.rd b i hb hi, fun b i hb hi => ?_, by rw [hS.old _ (by omega)]; exact h.cnt⟩
  simp only [Go.Proofs.Ytadngicebbnnlaa.setWr]
  by_cases e : b = a
  · rw [if_pos e, e]; exact hS.new i hi
  · rw [if_neg e, hS.old _ (by omega)]; exact h.wr b i hb hi
theorem WCells.setCnt (h : WCells A p W) (v : Int) : WCells (A.setIfInBounds 321 (.int .i64 v)) p { W with cnt := v } := by
  have hsz := h.size
  refine ⟨by simp [hsz], by rw [Array.getElem?_setIfInBounds_ne (by omega)]; exact h.log, fun b i hb hi => ?_, fun b i hb hi => ?_, fun b i hb hi => ?_, fun b i hb hi => ?_, fun b i hb hi => ?_, by simp [hsz]⟩
  · rw [Array.getElem?_setIfInBounds_ne (by omega)]; exact h.th b i hb hi
  · rw [Array.getElem?_setIfInBounds_ne (by omega)]; exact h.mu b i hb hi
  · rw [Array.getElem?_setIfInBounds_ne (by omega)]; exact h.aw b i hb hi
  · rw [Array.getElem?_setIfInBounds_ne (by omega)]; exact h.rd b i hb hi
  · rw [Array.getElem?_setIfInBounds_ne (by omega)]; exact h.wr b i hb hi
/-- One cell of eight. -/
theorem same8_one {off t : Nat} {x : Nat → Int} (v : Int) (ho : off + 8 ≤ A.size) (ht : t < 8) (hx : ∀ i, i < 8 → A[off + i]? = some (.int .i64 (x i))) : Same8 A (A.setIfInBounds (off + t) (.int .i64 v)) off (upd x t v) := by
  refine ⟨by simp, fun i hi => ?_, fun k hk => Array.getElem?_setIfInBounds_ne (by omega)⟩
  unfold upd
  by_cases e : i = t
  · subst e; rw [if_pos rfl]; simp [show off + i < A.size by omega]
  · rw [if_neg e, Array.getElem?_setIfInBounds_ne (by omega)]; exact hx i hi
theorem patch_get (o : Nat) : ∀ (vs : List Value) (i : Nat) (cur : Array Value) (k : Nat), o + i + vs.length ≤ cur.size → (patch o vs i cur)[k]? = if o + i ≤ k ∧ k < o + i + vs.length then vs[k - (o + i)]? else cur[k]?
  | [], i, cur, k, _ => by rw [if_neg (by simp)]; rfl
  | v :: vs, i, cur, k, h => by
    rw [List.length_cons] at h
    rw [patch, patch_get o vs (i + 1) (cur.setIfInBounds (o + i) v) k (by simp; omega), List.length_cons]
    by_cases hk : k = o + i
    · subst hk
      rw [if_neg (by omega), if_pos (by omega)]
      simp [show o + i < cur.size by omega]
    · rw [Array.getElem?_setIfInBounds_ne (by omega)]
      by_cases h2 : o + (i + 1) ≤ k ∧ k < o + (i + 1) + vs.length
      · rw [if_pos h2, if_pos (by omega), show k - (o + i) = (k - (o + (i + 1))) + 1 by omega, List.getElem?_cons_succ]
      · rw [if_neg h2, if_neg (by omega)]
/-- Eight cells at once. -/
theorem same8_all {off : Nat} (ho : off + 8 ≤ A.size) : Same8 A (patch off [.int .i64 (y 0), .int .i64 (y 1), .int .i64 (y 2), .int .i64 (y 3), .int .i64 (y 4), .int .i64 (y 5), .int .i64 (y 6), .int .i64 (y 7)] 0 A) off y := by
  refine ⟨patch_size .., fun i hi => ?_, fun k hk => ?_⟩
  · rw [patch_get _ _ _ _ _ (by simpa using ho), if_pos (by simp; omega), show off + i - (off + 0) = i by omega]
    rcases lt8W hi with rfl | rfl | rfl | rfl | rfl | rfl | rfl | rfl <;> rfl
  · rw [patch_get _ _ _ _ _ (by simpa using ho), if_neg (by simp; omega)]
end
theorem WatchAt.lt {w : World} {b : Nat} {p : Value} {W : Wch} (h : WatchAt w b p W) : b < w.heap.size := by obtain ⟨A, h1, _⟩ := h; exact (Array.getElem?_eq_some_iff.1 h1).1
theorem WatchAt.below {w w' : World} {b : Nat} {p : Value} {W : Wch} (h : WatchAt w b p W) (hb : Below w.heap.size w w') : WatchAt w' b p W := by
  have hl := h.lt
  obtain ⟨A, h1, h2⟩ := h
  exact ⟨A, (hb.block b hl).trans h1, h2⟩
theorem WatchAt.wrote {R : Nat → Prop} {w w' : World} {b : Nat} {p : Value} {W : Wch} (h : WatchAt w b p W) (hw : Wrote R w w') (hn : ¬ R b) : WatchAt w' b p W := by
  have hl := h.lt
  obtain ⟨A, h1, h2⟩ := h
  exact ⟨A, (hw.block b hl hn).trans h1, h2⟩
theorem WatchAt.same {w : World} {b : Nat} {p : Value} {W W' : Wch} (h : WatchAt w b p W) (hs : WSame W W') : WatchAt w b p W' := by
  obtain ⟨A, h1, h2⟩ := h; exact ⟨A, h1, h2.same hs⟩
theorem WatchAt.free {w : World} {b : Nat} {p : Value} {W : Wch} (h : WatchAt w b p W) (o : Nat) : w.frozen? ⟨b, o, none⟩ = false := by
  obtain ⟨A, h1, _⟩ := h; exact free_of_block h1
theorem watch_ne {w : World} {B b bw : Nat} {vl va p : Value} {S : LogS} {W : Wch} (h : LogAt w B b vl va S) (hT : WatchAt w bw p W) : ¬ logR b vl va bw := by
  obtain ⟨cs, h1, _⟩ := h.blk
  obtain ⟨A, hT, _⟩ := hT
  rintro (rfl | hx | hx)
  · exact own_ne h1 hT (by decide) rfl
  · obtain ⟨cur, hc⟩ := own_obj h.ev hx
    exact own_ne hc hT (by decide) rfl
  · obtain ⟨cur, hc⟩ := own_obj h.ab hx
    exact own_ne hc hT (by decide) rfl
end Go.Proofs.Ytadngicebbnnlaa

namespace Go.Proofs.Ytadngicebbnnlaa
open Go.ChangeShapes Go.WideShapes Go.ChangeAt Go.RowKit Go.Deep

theorem unkW_upd (x c : Nat → Int) (t : Nat) (v : Int) : unkW (upd x t v) c t = unkW x c t := by
  unfold unkW
  congr 1
  funext j
  by_cases e : j = t
  · simp [e]
  · unfold upd; rw [if_neg e]
theorem eight {w : World} {b off : Nat} {x : Nat → Int} (h : ∀ i, i < 8 → w.cell? ⟨b, off + i, none⟩ = some (.int .i64 (x i))) :
    w.cell? ⟨b, off, none⟩ = some (.int .i64 (x 0)) ∧ w.cell? ⟨b, off + 1, none⟩ = some (.int .i64 (x 1)) ∧ w.cell? ⟨b, off + 2, none⟩ = some (.int .i64 (x 2)) ∧ w.cell? ⟨b, off + 3, none⟩ = some (.int .i64 (x 3)) ∧ w.cell? ⟨b, off + 4, none⟩ = some (.int .i64 (x 4)) ∧ w.cell? ⟨b, off + 5, none⟩ = some (.int .i64 (x 5)) ∧ w.cell? ⟨b, off + 6, none⟩ = some (.int .i64 (x 6)) ∧ w.cell? ⟨b, off + 7, none⟩ = some (.int .i64 (x 7)) :=
  ⟨h 0 (by decide), h 1 (by decide), h 2 (by decide), h 3 (by decide), h 4 (by decide), h 5 (by decide), h 6 (by decide), h 7 (by decide)⟩
def rcW (W : Wch) (k : Int) (o t : Nat) (y : Nat → Int) : Bool := if k = 1 then unkW (W.wr o) y t else if k = 2 then unkW (W.wr o) y t || unkW (W.rd o) y t else false
def rcT (W : Wch) (k : Int) (o t : Nat) (y : Nat → Int) : Wch := if k = 1 then setRd W o (upd (W.rd o) t (y t)) else if k = 2 then setWr W o (upd (W.wr o) t (y t)) else W

structure CBox (w : World) (g : Nat) (y : Nat → Int) : Prop where
  at8 : ∀ i, i < 8 → w.cell? ⟨g, i, none⟩ = some (.int .i64 (y i))
theorem CBox.below {w w' : World} {g : Nat} {y : Nat → Int} (h : CBox w g y) (hb : Below w.heap.size w w') : CBox w' g y := ⟨fun i hi => keep hb (h.at8 i hi)⟩
theorem keepB {w w' : World} {b : Nat} {p : Addr} {v : Value} (h : Wrote (fun q => q = b) w w') (hne : p.block ≠ b) (hc : w.cell? p = some v) : w'.cell? p = some v := by
  rw [h.cell (World.block_lt_of_cell? w _ hc) hne]; exact hc
theorem CBox.wrote {w w' : World} {b g : Nat} {y : Nat → Int} (h : CBox w g y) (hw : Wrote (fun q => q = b) w w') (hne : g ≠ b) : CBox w' g y := ⟨fun i hi => keepB hw hne (h.at8 i hi)⟩
theorem CBox.all {w : World} {g : Nat} {y : Nat → Int} (h : CBox w g y) :
    w.cell? ⟨g, 0, none⟩ = some (.int .i64 (y 0)) ∧ w.cell? ⟨g, 1, none⟩ = some (.int .i64 (y 1)) ∧ w.cell? ⟨g, 2, none⟩ = some (.int .i64 (y 2)) ∧ w.cell? ⟨g, 3, none⟩ = some (.int .i64 (y 3)) ∧ w.cell? ⟨g, 4, none⟩ = some (.int .i64 (y 4)) ∧ w.cell? ⟨g, 5, none⟩ = some (.int .i64 (y 5)) ∧ w.cell? ⟨g, 6, none⟩ = some (.int .i64 (y 6)) ∧ w.cell? ⟨g, 7, none⟩ = some (.int .i64 (y 7)) :=
  ⟨h.at8 0 (by decide), h.at8 1 (by decide), h.at8 2 (by decide), h.at8 3 (by decide), h.at8 4 (by decide), h.at8 5 (by decide), h.at8 6 (by decide), h.at8 7 (by decide)⟩
theorem EvBox.off {w w' : World} {b g : Nat} {t k o v x : Int} (h : EvBox w g t k o v x) (hw : Wrote (fun q => q = b) w w') (hne : g ≠ b) : EvBox w' g t k o v x := by
  obtain ⟨a0, a1, a2, a3, a4⟩ := h.all
  exact ⟨keepB hw hne a0, keepB hw hne a1, keepB hw hne a2, keepB hw hne a3, keepB hw hne a4⟩
theorem heap_twoT (w : World) (A B : Array Value) (t u : TypeId) : ((w.alloc (.cells A t)).alloc (.cells B u)).heap[w.heap.size]? = some (.cells A t (0, 0)) ∧ ((w.alloc (.cells A t)).alloc (.cells B u)).heap[w.heap.size + 1]? = some (.cells B u (0, 0)) ∧ Below w.heap.size w ((w.alloc (.cells A t)).alloc (.cells B u)) := by
  have h1 : Below w.heap.size w (w.alloc (.cells A t)) := (Below.refl _ w).alloc (Nat.le_refl _) _
  have hA := (MapKept.heap_alloc w (.cells A t)).1
  have h2 := MapKept.heap_alloc (w.alloc (.cells A t)) (.cells B u)
  have hs : (w.alloc (.cells A t)).heap.size = w.heap.size + 1 := by simp
  rw [hs] at h2
  have h3 : Below (w.alloc (.cells A t)).heap.size (w.alloc (.cells A t)) ((w.alloc (.cells A t)).alloc (.cells B u)) := (Below.refl _ _).alloc (Nat.le_refl _) _
  exact ⟨(h3.block _ (by rw [hs]; omega)).trans hA, h2.1, h1.alloc h1.size _⟩
set_option maxRecDepth 20000 in
set_option maxHeartbeats 16000000 in
theorem raced_calls {w : World} {b : Nat} {p : Value} {W : Wch} (h : WatchAt w b p W) (et eo : Nat) (ek ev eb : Int) (ht : et < 8) (ho : plainB ek = true → eo < 8) (y : Nat → Int) :
    Calls Try.prog 53 #[.pointer (some ⟨b, 0, none⟩), .agg #[.int .i64 (et : Int), .int .i64 ek, .int .i64 (eo : Int), .int .i64 ev, .int .i64 eb], .agg #[.int .i64 (y 0), .int .i64 (y 1), .int .i64 (y 2), .int .i64 (y 3), .int .i64 (y 4), .int .i64 (y 5), .int .i64 (y 6), .int .i64 (y 7)]] w fun x w' => x = .returned (.bool (rcW W ek eo et y)) ∧ WatchAt w' b p (rcT W ek eo et y) ∧ Wrote (fun q => q = b) w w' := by
  have HW := Lib.hid h
  clear h
  go_enter Try.func53, Try.ntmps53
  go_wp2_with fail
  have hT := heap_twoT w #[.int .i64 (et : Int), .int .i64 ek, .int .i64 (eo : Int), .int .i64 ev, .int .i64 eb] #[.int .i64 (y 0), .int .i64 (y 1), .int .i64 (y 2), .int .i64 (y 3), .int .i64 (y 4), .int .i64 (y 5), .int .i64 (y 6), .int .i64 (y 7)] 38 89
  revert hT
  generalize (w.alloc (.cells #[.int .i64 (et : Int), .int .i64 ek, .int .i64 (eo : Int), .int .i64 ev, .int .i64 eb] 38)).alloc (.cells #[.int .i64 (y 0), .int .i64 (y 1), .int .i64 (y 2), .int .i64 (y 3), .int .i64 (y 4), .int .i64 (y 5), .int .i64 (y 6), .int .i64 (y 7)] 89) = y0
  intro hT
  have HE0 : Hid (EvBox y0 w.heap.size (et : Int) ek (eo : Int) ev eb) := ⟨cell_of_block hT.1, cell_of_block hT.1, cell_of_block hT.1, cell_of_block hT.1, cell_of_block hT.1⟩
  have HC0 : Hid (CBox y0 (w.heap.size + 1) y) := ⟨fun i hi => by rw [cell_of_block hT.2.1]; exact get8 y hi⟩
  have HW0 := Lib.hid (HW.out.below hT.2.2)
  have HB0 := Lib.hid hT.2.2
  have hbl : b < w.heap.size := HW.out.lt
  have Hbl := Lib.hid hbl
  clear hT hbl
  refine (plain_calls ek _).mono ?_
  rintro e w' ⟨rfl, rfl⟩
  obtain ⟨e0, e1, e2, e3, e4⟩ := HE0.out.all
  cases hp : plainB ek
  case false =>
    have hk : ek ≠ 1 ∧ ek ≠ 2 := by unfold plainB at hp; simpa using hp
    have Hq : Hid (rcW W ek eo et y = false ∧ WatchAt y0 b p (rcT W ek eo et y) ∧ Wrote (fun q => q = b) w y0) := by
      unfold rcW rcT
      rw [if_neg hk.1, if_neg hk.2, if_neg hk.1, if_neg hk.2]
      exact ⟨rfl, HW0.out, Wrote.of_below HB0.out⟩
    clear hk hp
    go_wp2
    go_ret
    exact ⟨by rw [Hq.out.1]; rfl, Hq.out.2⟩
  have heo := ho hp
  have hk : ek = 1 ∨ ek = 2 := by unfold plainB at hp; simpa using hp
  clear ho hp
  rcases hk with rfl | rfl
  · go_wp2_with fail
    refine wp_ext_draw 7 mixed (by kernel_rfl) ?_
    simp only [List.take_succ_cons, List.take_zero, List.drop_succ_cons, List.drop_zero]
    repeat ((first | ((apply TextRun.go rfl rfl rfl); (focus (intro w1 hS K hK; have hc := bcell hS; have hs := blt hS; have e0 := keep hS e0; have e1 := keep hS e1; have e2 := keep hS e2; go_wp2_with (fail); first | done | exact hS | exact hS.trans (hb.mono hS.size)))) | (refine TextRun.skip rfl ?_) | ((refine TextRun.wantedT rfl rfl rfl ?_); (apply Exists.intro); (apply And.intro); (focus (intro w1 hS K hK; have hc := bcell hS; have hs := blt hS; have e0 := keep hS e0; have e1 := keep hS e1; have e2 := keep hS e2; go_wp2_with (fail); first | done | exact hS | exact hS.trans (hb.mono hS.size))))); (simp only [Act.put, List.setIfInBounds_toArray, List.set_cons_zero, List.set_cons_succ]))
    refine TextRun.done ?_
    intro y1 hb
    have HE1 := Lib.hid (HE0.out.below hb)
    have HC1 := Lib.hid (HC0.out.below hb)
    have HW1 := Lib.hid (HW0.out.below hb)
    have HB1 := Lib.hid (HB0.out.trans (hb.mono HB0.out.size))
    clear hb HE0 HC0 HW0 HB0 e0 e1 e2 e3 e4
    obtain ⟨e0, e1, e2, e3, e4⟩ := HE1.out.all
    have dt := HC1.out.at8 et ht
    obtain ⟨A, hA, hWC⟩ := HW1.out
    have cc : y1.cell? ⟨b, 193 + eo * 16 + et, none⟩ = some (.int .i64 (W.rd eo et)) := by rw [cell_of_block hA]; exact hWC.rd eo et heo ht
    have fc : y1.frozen? ⟨b, 193 + eo * 16 + et, none⟩ = false := free_of_block hA
    have HA := Lib.hid (And.intro hA hWC)
    clear hA hWC
    go_wp2_with fail
    refine wp_ext_draw 10 mixed (by kernel_rfl) ?_
    simp only [List.take_succ_cons, List.take_zero, List.drop_succ_cons, List.drop_zero]
    repeat ((first | ((apply TextRun.go rfl rfl rfl); (focus (intro w1 hS K hK; have hc := bcell hS; have hs := blt hS; have e0 := keep hS e0; have e1 := keep hS e1; have e2 := keep hS e2; have dt := keep hS dt; have cc := keep hS cc; go_wp2_with (fail); first | done | exact hS | exact hS.trans (hb.mono hS.size)))) | (refine TextRun.skip rfl ?_) | ((refine TextRun.wantedT rfl rfl rfl ?_); (apply Exists.intro); (apply And.intro); (focus (intro w1 hS K hK; have hc := bcell hS; have hs := blt hS; have e0 := keep hS e0; have e1 := keep hS e1; have e2 := keep hS e2; have dt := keep hS dt; have cc := keep hS cc; go_wp2_with (fail); first | done | exact hS | exact hS.trans (hb.mono hS.size))))); (simp only [Act.put, List.setIfInBounds_toArray, List.set_cons_zero, List.set_cons_succ]))
    refine TextRun.done ?_
    intro y2 hb
    have HE2 := Lib.hid (HE1.out.below hb)
    have HC2 := Lib.hid (HC1.out.below hb)
    have HB2 := Lib.hid (HB1.out.trans (hb.mono HB1.out.size))
    have fc : y2.frozen? ⟨b, 193 + eo * 16 + et, none⟩ = false := (hb.frozen (p := ⟨b, 193 + eo * 16 + et, none⟩) (Array.getElem?_eq_some_iff.1 HA.out.1).1).trans fc
    have cc := keep hb cc
    have HW3 : Hid (WatchAt (y2.setCell ⟨b, 193 + eo * 16 + et, none⟩ (.int .i64 (y et))) b p (setRd W eo (upd (W.rd eo) et (y et))) ∧ Wrote (fun q => q = b) y2 (y2.setCell ⟨b, 193 + eo * 16 + et, none⟩ (.int .i64 (y et)))) := by
      have hA2 := (hb.block b (Array.getElem?_eq_some_iff.1 HA.out.1).1).trans HA.out.1
      have hsz := HA.out.2.size
      exact ⟨⟨_, heap_set hA2 _, HA.out.2.setRd heo (same8_one _ (by omega) ht (fun i hi => HA.out.2.rd eo i heo hi))⟩, Wrote.setCell (R := fun q => q = b) y2 (p := ⟨b, 193 + eo * 16 + et, none⟩) _ rfl⟩
    have hg1 : w.heap.size ≠ b := by have := Hbl.out; omega
    have hg2 : w.heap.size + 1 ≠ b := by have := Hbl.out; omega
    have HG := Lib.hid (And.intro hg1 hg2)
    clear hb HE1 HC1 HW1 HB1 e0 e1 e2 e3 e4 dt HA hg1 hg2
    obtain ⟨e0, e1, e2, e3, e4⟩ := HE2.out.all
    have dt := HC2.out.at8 et ht
    go_wp2_with fail
    revert HW3
    generalize y2.setCell ⟨b, 193 + eo * 16 + et, none⟩ (.int .i64 (y et)) = y3
    intro HW3
    have HE3 := Lib.hid (HE2.out.off HW3.out.2 HG.out.1)
    have HC3 := Lib.hid (HC2.out.wrote HW3.out.2 HG.out.2)
    clear HE2 HC2 e0 e1 e2 e3 e4 dt fc cc
    obtain ⟨e0, e1, e2, e3, e4⟩ := HE3.out.all
    obtain ⟨d0, d1, d2, d3, d4, d5, d6, d7⟩ := HC3.out.all
    obtain ⟨A, hA, hWC⟩ := HW3.out.1
    obtain ⟨f0, f1, f2, f3, f4, f5, f6, f7⟩ := eight (w := y3) (b := b) (off := 193 + eo * 16 + 8) (x := (setRd W eo (upd (W.rd eo) et (y et))).wr eo) (fun i hi => by rw [cell_of_block hA]; exact hWC.wr eo i heo hi)
    have Hq : Hid (∀ z, Below y3.heap.size y3 z → unkW ((setRd W eo (upd (W.rd eo) et (y et))).wr eo) y et = rcW W 1 eo et y ∧ WatchAt z b p (rcT W 1 eo et y) ∧ Wrote (fun q => q = b) w z) := fun z hb =>
      ⟨rfl, HW3.out.1.below hb, ((Wrote.of_below (R := fun q => q = b) HB2.out).trans HW3.out.2 (fun q hq => .inl hq)).trans (Wrote.of_below hb) (fun q hq => .inl hq)⟩
    clear hA hWC
    go_wp2_with fail
    refine wp_ext_draw 9 mixed (by kernel_rfl) ?_
    simp only [List.take_succ_cons, List.take_zero, List.drop_succ_cons, List.drop_zero]
    repeat ((first | ((apply TextRun.go rfl rfl rfl); (focus (intro w1 hS K hK; have hc := bcell hS; have hs := blt hS; have e0 := keep hS e0; have e1 := keep hS e1; have e2 := keep hS e2; have d0 := keep hS d0; have d1 := keep hS d1; have d2 := keep hS d2; have d3 := keep hS d3; have d4 := keep hS d4; have d5 := keep hS d5; have d6 := keep hS d6; have d7 := keep hS d7; have f0 := keep hS f0; have f1 := keep hS f1; have f2 := keep hS f2; have f3 := keep hS f3; have f4 := keep hS f4; have f5 := keep hS f5; have f6 := keep hS f6; have f7 := keep hS f7; go_wp2_with ((with_reducible refine (unknown_calls _ _ et ht _).mono ?_); rintro x' w' ⟨rfl, hb⟩); first | done | exact hS | exact hS.trans (hb.mono hS.size)))) | (refine TextRun.skip rfl ?_) | ((refine TextRun.wantedT rfl rfl rfl ?_); (apply Exists.intro); (apply And.intro); (focus (intro w1 hS K hK; have hc := bcell hS; have hs := blt hS; have e0 := keep hS e0; have e1 := keep hS e1; have e2 := keep hS e2; have d0 := keep hS d0; have d1 := keep hS d1; have d2 := keep hS d2; have d3 := keep hS d3; have d4 := keep hS d4; have d5 := keep hS d5; have d6 := keep hS d6; have d7 := keep hS d7; have f0 := keep hS f0; have f1 := keep hS f1; have f2 := keep hS f2; have f3 := keep hS f3; have f4 := keep hS f4; have f5 := keep hS f5; have f6 := keep hS f6; have f7 := keep hS f7; go_wp2_with ((with_reducible refine (unknown_calls _ _ et ht _).mono ?_); rintro x' w' ⟨rfl, hb⟩); first | done | exact hS | exact hS.trans (hb.mono hS.size))))); (simp only [Act.put, List.setIfInBounds_toArray, List.set_cons_zero, List.set_cons_succ]))
    refine TextRun.done ?_
    intro y4 hb
    have Hz := Lib.hid (Hq.out _ hb)
    clear hb Hq e0 e1 e2 e3 e4 d0 d1 d2 d3 d4 d5 d6 d7 f0 f1 f2 f3 f4 f5 f6 f7 HE3 HC3 HW3
    go_wp2
    go_ret
    exact ⟨by rw [← Hz.out.1]; rfl, Hz.out.2⟩
  · go_wp2_with fail
    refine wp_ext_draw 7 mixed (by kernel_rfl) ?_
    simp only [List.take_succ_cons, List.take_zero, List.drop_succ_cons, List.drop_zero]
    repeat ((first | ((apply TextRun.go rfl rfl rfl); (focus (intro w1 hS K hK; have hc := bcell hS; have hs := blt hS; have e0 := keep hS e0; have e1 := keep hS e1; have e2 := keep hS e2; go_wp2_with (fail); first | done | exact hS | exact hS.trans (hb.mono hS.size)))) | (refine TextRun.skip rfl ?_) | ((refine TextRun.wantedT rfl rfl rfl ?_); (apply Exists.intro); (apply And.intro); (focus (intro w1 hS K hK; have hc := bcell hS; have hs := blt hS; have e0 := keep hS e0; have e1 := keep hS e1; have e2 := keep hS e2; go_wp2_with (fail); first | done | exact hS | exact hS.trans (hb.mono hS.size))))); (simp only [Act.put, List.setIfInBounds_toArray, List.set_cons_zero, List.set_cons_succ]))
    refine TextRun.done ?_
    intro y1 hb
    have HE1 := Lib.hid (HE0.out.below hb)
    have HC1 := Lib.hid (HC0.out.below hb)
    have HW1 := Lib.hid (HW0.out.below hb)
    have HB1 := Lib.hid (HB0.out.trans (hb.mono HB0.out.size))
    clear hb HE0 HC0 HW0 HB0 e0 e1 e2 e3 e4
    obtain ⟨e0, e1, e2, e3, e4⟩ := HE1.out.all
    have dt := HC1.out.at8 et ht
    obtain ⟨A, hA, hWC⟩ := HW1.out
    have cc : y1.cell? ⟨b, 193 + eo * 16 + 8 + et, none⟩ = some (.int .i64 (W.wr eo et)) := by rw [cell_of_block hA]; exact hWC.wr eo et heo ht
    have fc : y1.frozen? ⟨b, 193 + eo * 16 + 8 + et, none⟩ = false := free_of_block hA
    have HA := Lib.hid (And.intro hA hWC)
    clear hA hWC
    go_wp2_with fail
    refine wp_ext_draw 10 mixed (by kernel_rfl) ?_
    simp only [List.take_succ_cons, List.take_zero, List.drop_succ_cons, List.drop_zero]
    repeat ((first | ((apply TextRun.go rfl rfl rfl); (focus (intro w1 hS K hK; have hc := bcell hS; have hs := blt hS; have e0 := keep hS e0; have e1 := keep hS e1; have e2 := keep hS e2; have dt := keep hS dt; have cc := keep hS cc; go_wp2_with (fail); first | done | exact hS | exact hS.trans (hb.mono hS.size)))) | (refine TextRun.skip rfl ?_) | ((refine TextRun.wantedT rfl rfl rfl ?_); (apply Exists.intro); (apply And.intro); (focus (intro w1 hS K hK; have hc := bcell hS; have hs := blt hS; have e0 := keep hS e0; have e1 := keep hS e1; have e2 := keep hS e2; have dt := keep hS dt; have cc := keep hS cc; go_wp2_with (fail); first | done | exact hS | exact hS.trans (hb.mono hS.size))))); (simp only [Act.put, List.setIfInBounds_toArray, List.set_cons_zero, List.set_cons_succ]))
    refine TextRun.done ?_
    intro y2 hb
    have HE2 := Lib.hid (HE1.out.below hb)
    have HC2 := Lib.hid (HC1.out.below hb)
    have HB2 := Lib.hid (HB1.out.trans (hb.mono HB1.out.size))
    have fc : y2.frozen? ⟨b, 193 + eo * 16 + 8 + et, none⟩ = false := (hb.frozen (p := ⟨b, 193 + eo * 16 + 8 + et, none⟩) (Array.getElem?_eq_some_iff.1 HA.out.1).1).trans fc
    have cc := keep hb cc
    have HW3 : Hid (WatchAt (y2.setCell ⟨b, 193 + eo * 16 + 8 + et, none⟩ (.int .i64 (y et))) b p (setWr W eo (upd (W.wr eo) et (y et))) ∧ Wrote (fun q => q = b) y2 (y2.setCell ⟨b, 193 + eo * 16 + 8 + et, none⟩ (.int .i64 (y et)))) := by
      have hA2 := (hb.block b (Array.getElem?_eq_some_iff.1 HA.out.1).1).trans HA.out.1
      have hsz := HA.out.2.size
      exact ⟨⟨_, heap_set hA2 _, HA.out.2.setWr heo (same8_one _ (by omega) ht (fun i hi => HA.out.2.wr eo i heo hi))⟩, Wrote.setCell (R := fun q => q = b) y2 (p := ⟨b, 193 + eo * 16 + 8 + et, none⟩) _ rfl⟩
    have hg1 : w.heap.size ≠ b := by have := Hbl.out; omega
    have hg2 : w.heap.size + 1 ≠ b := by have := Hbl.out; omega
    have HG := Lib.hid (And.intro hg1 hg2)
    clear hb HE1 HC1 HW1 HB1 e0 e1 e2 e3 e4 dt HA hg1 hg2
    obtain ⟨e0, e1, e2, e3, e4⟩ := HE2.out.all
    have dt := HC2.out.at8 et ht
    go_wp2_with fail
    revert HW3
    generalize y2.setCell ⟨b, 193 + eo * 16 + 8 + et, none⟩ (.int .i64 (y et)) = y3
    intro HW3
    have HE3 := Lib.hid (HE2.out.off HW3.out.2 HG.out.1)
    have HC3 := Lib.hid (HC2.out.wrote HW3.out.2 HG.out.2)
    clear HE2 HC2 e0 e1 e2 e3 e4 dt fc cc
    obtain ⟨e0, e1, e2, e3, e4⟩ := HE3.out.all
    obtain ⟨d0, d1, d2, d3, d4, d5, d6, d7⟩ := HC3.out.all
    obtain ⟨A, hA, hWC⟩ := HW3.out.1
    obtain ⟨f0, f1, f2, f3, f4, f5, f6, f7⟩ := eight (w := y3) (b := b) (off := 193 + eo * 16 + 8) (x := (setWr W eo (upd (W.wr eo) et (y et))).wr eo) (fun i hi => by rw [cell_of_block hA]; exact hWC.wr eo i heo hi)
    obtain ⟨h0, h1, h2, h3, h4, h5, h6, h7⟩ := eight (w := y3) (b := b) (off := 193 + eo * 16) (x := W.rd eo) (fun i hi => by rw [cell_of_block hA]; exact hWC.rd eo i heo hi)
    have Hq : Hid (∀ z, Below y3.heap.size y3 z → (unkW ((setWr W eo (upd (W.wr eo) et (y et))).wr eo) y et || unkW (W.rd eo) y et) = rcW W 2 eo et y ∧ WatchAt z b p (rcT W 2 eo et y) ∧ Wrote (fun q => q = b) w z) := fun z hb =>
      ⟨by unfold rcW setWr; simp [unkW_upd], HW3.out.1.below hb, ((Wrote.of_below (R := fun q => q = b) HB2.out).trans HW3.out.2 (fun q hq => .inl hq)).trans (Wrote.of_below hb) (fun q hq => .inl hq)⟩
    have Hc1 := Lib.hid (fun W' => unknown_calls ((setWr W eo (upd (W.wr eo) et (y et))).wr eo) y et ht W')
    have Hc2 := Lib.hid (fun W' => unknown_calls (W.rd eo) y et ht W')
    clear hA hWC
    revert Hq Hc1 Hc2
    generalize unkW ((setWr W eo (upd (W.wr eo) et (y et))).wr eo) y et = u1
    generalize unkW (W.rd eo) y et = u2
    intro Hq Hc1 Hc2
    cases u1
    all_goals
      go_wp2_with fail
      refine wp_ext_draw 19 mixed (by kernel_rfl) ?_
      simp only [List.take_succ_cons, List.take_zero, List.drop_succ_cons, List.drop_zero]
      repeat ((first | ((apply TextRun.go rfl rfl rfl); (focus (intro w1 hS K hK; have hc := bcell hS; have hs := blt hS; have e0 := keep hS e0; have e1 := keep hS e1; have e2 := keep hS e2; have d0 := keep hS d0; have d1 := keep hS d1; have d2 := keep hS d2; have d3 := keep hS d3; have d4 := keep hS d4; have d5 := keep hS d5; have d6 := keep hS d6; have d7 := keep hS d7; have f0 := keep hS f0; have f1 := keep hS f1; have f2 := keep hS f2; have f3 := keep hS f3; have f4 := keep hS f4; have f5 := keep hS f5; have f6 := keep hS f6; have f7 := keep hS f7; have h0 := keep hS h0; have h1 := keep hS h1; have h2 := keep hS h2; have h3 := keep hS h3; have h4 := keep hS h4; have h5 := keep hS h5; have h6 := keep hS h6; have h7 := keep hS h7; go_wp2_with (first | ((with_reducible refine (Hc1.out _).mono ?_); rintro x' w' ⟨rfl, hb⟩) | ((with_reducible refine (Hc2.out _).mono ?_); rintro x' w' ⟨rfl, hb⟩)); first | done | exact hS | exact hS.trans (hb.mono hS.size)))) | (refine TextRun.skip rfl ?_) | ((refine TextRun.wantedT rfl rfl rfl ?_); (apply Exists.intro); (apply And.intro); (focus (intro w1 hS K hK; have hc := bcell hS; have hs := blt hS; have e0 := keep hS e0; have e1 := keep hS e1; have e2 := keep hS e2; have d0 := keep hS d0; have d1 := keep hS d1; have d2 := keep hS d2; have d3 := keep hS d3; have d4 := keep hS d4; have d5 := keep hS d5; have d6 := keep hS d6; have d7 := keep hS d7; have f0 := keep hS f0; have f1 := keep hS f1; have f2 := keep hS f2; have f3 := keep hS f3; have f4 := keep hS f4; have f5 := keep hS f5; have f6 := keep hS f6; have f7 := keep hS f7; have h0 := keep hS h0; have h1 := keep hS h1; have h2 := keep hS h2; have h3 := keep hS h3; have h4 := keep hS h4; have h5 := keep hS h5; have h6 := keep hS h6; have h7 := keep hS h7; go_wp2_with (first | ((with_reducible refine (Hc1.out _).mono ?_); rintro x' w' ⟨rfl, hb⟩) | ((with_reducible refine (Hc2.out _).mono ?_); rintro x' w' ⟨rfl, hb⟩)); first | done | exact hS | exact hS.trans (hb.mono hS.size))))); (simp only [Act.put, List.setIfInBounds_toArray, List.set_cons_zero, List.set_cons_succ]))
      refine TextRun.done ?_
      intro y4 hb
      have Hz := Lib.hid (Hq.out _ hb)
      clear hb Hq e0 e1 e2 e3 e4 d0 d1 d2 d3 d4 d5 d6 d7 f0 f1 f2 f3 f4 f5 f6 f7 h0 h1 h2 h3 h4 h5 h6 h7 HE3 HC3 HW3 Hc1 Hc2
      go_wp2
      go_ret
      exact ⟨by rw [← Hz.out.1]; rfl, Hz.out.2⟩
end Go.Proofs.Ytadngicebbnnlaa

namespace Go.Proofs.Ytadngicebbnnlaa
open Go.ChangeShapes Go.WideShapes Go.ChangeAt Go.RowKit Go.Deep

set_option maxRecDepth 20000 in
set_option maxHeartbeats 8000000 in
theorem take_calls {w : World} {B lb b : Nat} {vl va : Value} {S : LogS} (h : LogAt w B lb vl va S) (hc : w.cell? ⟨b, 0, none⟩ = some (.pointer (some ⟨lb, 0, none⟩))) (x : Ev) (hcap : (S.l.length + 1) * 40 ≤ 140737488355328) :
    Calls Try.prog 51 #[.pointer (some ⟨b, 0, none⟩), .agg #[.int .i64 x.t, .int .i64 x.k, .int .i64 x.o, .int .i64 x.v, .int .i64 x.b]] w (AddPost B lb vl va S x w) := by
  have HL := Lib.hid h
  clear h
  go_enter Try.func51, Try.ntmps51
  go_wp2_with fail
  have hN := one_newC w #[.int .i64 x.t, .int .i64 x.k, .int .i64 x.o, .int .i64 x.v, .int .i64 x.b] 38
  have HL1 := Lib.hid (HL.out.below hN.2)
  have cp := keep hN.2 hc
  have HB1 := Lib.hid hN.2
  have hA := hN.1
  clear hN hc
  revert hA HL1 cp HB1
  generalize w.alloc (.cells #[.int .i64 x.t, .int .i64 x.k, .int .i64 x.o, .int .i64 x.v, .int .i64 x.b] 38) = y0
  intro HL1 cp HB1 hA
  have HE0 : Hid (EvBox y0 w.heap.size x.t x.k x.o x.v x.b) := ⟨cell_of_block hA, cell_of_block hA, cell_of_block hA, cell_of_block hA, cell_of_block hA⟩
  clear hA
  obtain ⟨e0, e1, e2, e3, e4⟩ := HE0.out.all
  refine wp_ext_draw 5 mixed (by kernel_rfl) ?_
  simp only [List.take_succ_cons, List.take_zero, List.drop_succ_cons, List.drop_zero]
  repeat ((first | ((apply TextRun.go rfl rfl rfl); (focus (intro w1 hS K hK; have hc := bcell hS; have hs := blt hS; have e0 := keep hS e0; have e1 := keep hS e1; have e2 := keep hS e2; have e3 := keep hS e3; have e4 := keep hS e4; have cp := keep hS cp; go_wp2_with (fail); first | done | exact hS | exact hS.trans (hb.mono hS.size)))) | (refine TextRun.skip rfl ?_) | ((refine TextRun.wantedT rfl rfl rfl ?_); (apply Exists.intro); (apply And.intro); (focus (intro w1 hS K hK; have hc := bcell hS; have hs := blt hS; have e0 := keep hS e0; have e1 := keep hS e1; have e2 := keep hS e2; have e3 := keep hS e3; have e4 := keep hS e4; have cp := keep hS cp; go_wp2_with (fail); first | done | exact hS | exact hS.trans (hb.mono hS.size))))); (simp only [Act.put, List.setIfInBounds_toArray, List.set_cons_zero, List.set_cons_succ]))
  refine TextRun.done ?_
  intro y1 hb
  have HL2 := Lib.hid (HL1.out.below hb)
  have HB2 := Lib.hid (HB1.out.trans (hb.mono HB1.out.size))
  clear hb HE0 HL1 HB1 e0 e1 e2 e3 e4 cp
  go_wp2_with fail
  refine (add_calls HL2.out x hcap).mono ?_
  rintro e y2 ⟨vl', va', rfl, hL, hW, hsub⟩
  have Hq : Hid (AddPost B lb vl va S x w (.returned (.int .i64 (addE S x))) y2) :=
    ⟨vl', va', rfl, hL, (Wrote.of_below (R := logR lb vl va) HB2.out).trans hW (fun q hq => .inl hq), fun k hk => (hsub k hk).imp id (fun h2 => Nat.le_trans HB2.out.size h2)⟩
  clear hL hW hsub
  generalize addE S x = z at *
  go_wp2
  go_ret
  exact Hq.out

/-- Behind the take, all along. -/
structure WSt (w y : World) (b g : Nat) (x : Ev) (p : Value) (W : Wch) (B lb : Nat) (vl va vl' va' : Value) (S : LogS) : Prop where
  ev : EvBox y g x.t x.k x.o x.v x.b
  wa : WatchAt y b p W
  lo : LogAt y B lb vl' va' S
  wr : Wrote (fun q => q = b ∨ logR lb vl va q) w y
  gb : g ≠ b
section
variable {w y y' : World} {b g : Nat} {x : Ev} {p : Value} {W W' : Wch} {B lb : Nat} {vl va vl' va' : Value} {S : LogS}
theorem WSt.below (h : WSt w y b g x p W B lb vl va vl' va' S) (hb : Below y.heap.size y y') : WSt w y' b g x p W B lb vl va vl' va' S :=
  ⟨h.ev.below hb, h.wa.below hb, h.lo.below hb, h.wr.trans (Wrote.of_below (R := fun q => q = b) hb) (fun q hq => .inl (.inl hq)), h.gb⟩
theorem WSt.step (h : WSt w y b g x p W B lb vl va vl' va' S) (hw : Wrote (fun q => q = b) y y') (hW : WatchAt y' b p W') : WSt w y' b g x p W' B lb vl va vl' va' S :=
  ⟨h.ev.off hw h.gb, hW, h.lo.wrote hw (fun q hq e => watch_ne h.lo h.wa (e ▸ hq)), h.wr.trans hw (fun q hq => .inl (.inl hq)), h.gb⟩
theorem WSt.same (h : WSt w y b g x p W B lb vl va vl' va' S) (hs : WSame W W') : WSt w y b g x p W' B lb vl va vl' va' S := ⟨h.ev, h.wa.same hs, h.lo, h.wr, h.gb⟩
end
end Go.Proofs.Ytadngicebbnnlaa

namespace Go.Proofs.Ytadngicebbnnlaa
open Go.ChangeShapes Go.WideShapes Go.ChangeAt Go.RowKit Go.Deep

theorem cntSize : (Try.prog.info? 89).map (·.size) = some 8 := by kernel_rfl
theorem setTh_at (W : Wch) (a : Nat) (y : Nat → Int) (i : Nat) : (setTh W a y).th a i = y i := by simp [setTh]
theorem setTh_twice (W : Wch) (a : Nat) (y z : Nat → Int) : setTh (setTh W a y) a z = setTh W a z := by
  unfold setTh
  congr 1
  funext b
  simp only
  split <;> rfl
theorem setTh_self (W : Wch) (a : Nat) : WSame W (setTh W a (W.th a)) :=
  ⟨fun b i _ _ => by simp only [setTh]; split <;> simp_all, fun _ _ _ _ => rfl, fun _ _ _ _ => rfl, fun _ _ _ _ => rfl, fun _ _ _ _ => rfl, rfl⟩
theorem rcT_cntv (W : Wch) (et : Nat) (C : Nat → Int) (K : Int) (eo : Nat) : (rcT (setTh W et C) K eo et C).cnt = W.cnt := by
  unfold rcT; split
  · rfl
  · split <;> rfl
theorem rcT_th (W : Wch) (et : Nat) (C : Nat → Int) (K : Int) (eo : Nat) : (rcT (setTh W et C) K eo et C).th = (setTh W et C).th := by
  unfold rcT; split
  · rfl
  · split <;> rfl
theorem rcT_cnt (W : Wch) (et : Nat) (C : Nat → Int) (K : Int) (eo : Nat) : WSame (rcT (setTh W et C) K eo et C) { rcT (setTh W et C) K eo et C with cnt := W.cnt + (if false = true then 1 else 0) } :=
  ⟨fun _ _ _ _ => rfl, fun _ _ _ _ => rfl, fun _ _ _ _ => rfl, fun _ _ _ _ => rfl, fun _ _ _ _ => rfl, by simp [rcT_cntv]⟩
theorem w5_th (W : Wch) (et : Nat) (C : Nat → Int) (K : Int) (eo : Nat) (z : Int) (i : Nat) : ({ rcT (setTh W et C) K eo et C with cnt := z } : Wch).th et i = C i := by
  simp only [rcT_th]; exact setTh_at W et C i
theorem w5_th2 (W : Wch) (et : Nat) (C : Nat → Int) (K : Int) (eo : Nat) (z : Int) (a i : Nat) : ({ rcT (setTh W et C) K eo et C with cnt := z } : Wch).th a i = (setTh W et C).th a i := by
  simp only [rcT_th]
section
variable {W : Wch} {et eo : Nat} {K xv V : Int} {C : Nat → Int} {r : Bool}
theorem rc_is (hC : wC W ⟨(et : Int), K, (eo : Int), xv, V⟩ = C) : wRc W ⟨(et : Int), K, (eo : Int), xv, V⟩ = rcW (setTh W et C) K eo et C := by
  unfold wRc rcW
  rw [hC]
  rfl
theorem fin_rd (hC : wC W ⟨(et : Int), K, (eo : Int), xv, V⟩ = C) (z : Int) : (∀ a i, ({ rcT (setTh W et C) K eo et C with cnt := z } : Wch).rd a i = (wTurn W ⟨(et : Int), K, (eo : Int), xv, V⟩).rd a i) ∧ (∀ a i, ({ rcT (setTh W et C) K eo et C with cnt := z } : Wch).wr a i = (wTurn W ⟨(et : Int), K, (eo : Int), xv, V⟩).wr a i) := by
  unfold rcT wTurn
  simp only [hC, Int.toNat_natCast]
  by_cases h1 : K = 1
  · simp only [h1, if_true, true_and]
    refine ⟨fun a i => ?_, fun a i => ?_⟩
    · simp only [setRd, setTh]; split <;> simp_all
    · simp [setRd, setTh]
  · by_cases h2 : K = 2
    · simp only [h2]
      refine ⟨fun a i => ?_, fun a i => ?_⟩
      · simp [setWr, setTh]
      · simp only [setWr, setTh]; split <;> simp_all
    · simp [h1, h2, setTh]
theorem fin_no (hC : wC W ⟨(et : Int), K, (eo : Int), xv, V⟩ = C) (hr : wRc W ⟨(et : Int), K, (eo : Int), xv, V⟩ = r) (hk : V ≠ 0 ∨ (K ≠ 5 ∧ K ≠ 3 ∧ K ≠ 6)) :
    WSame { rcT (setTh W et C) K eo et C with cnt := W.cnt + (if r = true then 1 else 0) } (wTurn W ⟨(et : Int), K, (eo : Int), xv, V⟩) := by
  have h9 := fin_rd hC (W.cnt + (if r = true then 1 else 0))
  refine ⟨fun a i _ _ => ?_, fun a i _ _ => ?_, fun a i _ _ => ?_, fun a i _ _ => h9.1 a i, fun a i _ _ => h9.2 a i, ?_⟩
  · rw [w5_th2]
    simp only [wTurn, setTh, hC, Int.toNat_natCast]
    split
    · rfl
    · rw [if_neg (fun q => by rcases hk with hk | hk; exact hk q.1; exact hk.2.2 q.2.1)]
  · simp only [wTurn]
    rw [if_neg (fun q => by rcases hk with hk | hk; exact hk q.1; exact hk.1 q.2.1)]
    unfold rcT; split
    · rfl
    · split <;> rfl
  · simp only [wTurn]
    rw [if_neg (fun q => by rcases hk with hk | hk; exact hk q.1; exact hk.2.1 q.2.1)]
    unfold rcT; split
    · rfl
    · split <;> rfl
  · simp only [wTurn, hr]
theorem fin_mu (hC : wC W ⟨(et : Int), 5, (eo : Int), xv, 0⟩ = C) (hr : wRc W ⟨(et : Int), 5, (eo : Int), xv, 0⟩ = r) :
    WSame (setMu { rcT (setTh W et C) 5 eo et C with cnt := W.cnt + (if r = true then 1 else 0) } eo C) (wTurn W ⟨(et : Int), 5, (eo : Int), xv, 0⟩) := by
  refine ⟨fun a i _ _ => ?_, fun a i _ _ => ?_, fun a i _ _ => ?_, fun a i _ _ => ?_, fun a i _ _ => ?_, ?_⟩
  all_goals simp [setMu, rcT, setTh, wTurn, hC, hr]
theorem fin_aw (hC : wC W ⟨(et : Int), 3, (eo : Int), xv, 0⟩ = C) (hr : wRc W ⟨(et : Int), 3, (eo : Int), xv, 0⟩ = r) :
    WSame (setAw { rcT (setTh W et C) 3 eo et C with cnt := W.cnt + (if r = true then 1 else 0) } eo C) (wTurn W ⟨(et : Int), 3, (eo : Int), xv, 0⟩) := by
  refine ⟨fun a i _ _ => ?_, fun a i _ _ => ?_, fun a i _ _ => ?_, fun a i _ _ => ?_, fun a i _ _ => ?_, ?_⟩
  all_goals simp [setAw, rcT, setTh, wTurn, hC, hr]
theorem fin_th (hC : wC W ⟨(et : Int), 6, (eo : Int), xv, 0⟩ = C) (hr : wRc W ⟨(et : Int), 6, (eo : Int), xv, 0⟩ = r) :
    WSame (setTh { rcT (setTh W et C) 6 eo et C with cnt := W.cnt + (if r = true then 1 else 0) } eo (fun i => max ((setTh W et C).th eo i) (C i))) (wTurn W ⟨(et : Int), 6, (eo : Int), xv, 0⟩) := by
  refine ⟨fun a i _ _ => ?_, fun a i _ _ => ?_, fun a i _ _ => ?_, fun a i _ _ => ?_, fun a i _ _ => ?_, ?_⟩
  · simp only [setTh, rcT, wTurn, hC, Int.toNat_natCast, joinW]
    by_cases h1 : a = eo <;> by_cases h2 : a = et <;> simp_all [joinW]
  all_goals simp [rcT, setTh, wTurn, hC, hr]
end
def WAddPost (b : Nat) (p : Value) (W : Wch) (B lb : Nat) (vl va : Value) (S : LogS) (x : Ev) (w : World) (e : Ending) (w' : World) : Prop :=
  ∃ vl' va', LogAt w' B lb vl' va' (addS S x) ∧ Wrote (fun q => q = b ∨ logR lb vl va q) w w' ∧ (∀ k, logR lb vl' va' k → logR lb vl va k ∨ w.heap.size ≤ k) ∧
    ((addE S x ≠ 0 ∧ e = .returned (.tuple #[.bool false, .int .i64 (addE S x)]) ∧ WatchAt w' b p W) ∨ (addE S x = 0 ∧ e = .returned (.tuple #[.bool (wRc W x), .int .i64 0]) ∧ WatchAt w' b p (wTurn W x)))

set_option maxRecDepth 20000 in
set_option maxHeartbeats 16000000 in
theorem wadd_bad {w : World} {B lb b : Nat} {vl va p : Value} {S : LogS} {W : Wch} (h : LogAt w B lb vl va S) (hp : p = .pointer (some ⟨lb, 0, none⟩)) (hW : WatchAt w b p W) (et eo : Nat) (hte : et < 8) (heo : eo < 8) (xv : Int) (xk : Int) (xb : Int) (hbad : xb ≠ 0) (hcap : (S.l.length + 1) * 40 ≤ 140737488355328)
    (hz : addE S ⟨(et : Int), xk, (eo : Int), xv, xb⟩ = 0) (hbd : 0 ≤ wJ W ⟨(et : Int), xk, (eo : Int), xv, xb⟩ et ∧ wJ W ⟨(et : Int), xk, (eo : Int), xv, xb⟩ et ≤ 1000) (hct : 0 ≤ W.cnt ∧ W.cnt ≤ 1000) :
    Calls Try.prog 22 #[.pointer (some ⟨b, 0, none⟩), .agg #[.int .i64 (et : Int), .int .i64 xk, .int .i64 (eo : Int), .int .i64 xv, .int .i64 xb]] w (WAddPost b p W B lb vl va S ⟨(et : Int), xk, (eo : Int), xv, xb⟩ w) := by
  have Hbad := Lib.hid hbad
  clear hbad
  have HL := Lib.hid h
  have HW := Lib.hid hW
  have Hp := Lib.hid hp
  clear h hW hp
  have Hz := Lib.hid hz
  obtain ⟨J, hJ⟩ : ∃ J, J = wJ W (⟨(et : Int), xk, (eo : Int), xv, xb⟩ : Ev) := ⟨_, rfl⟩
  have HJ : Hid (J = W.th et) := by rw [Hid, hJ]; unfold wJ; simp [joinW, Hbad.out]
  have hb0 : 0 ≤ J et ∧ J et ≤ 1000 := by rw [hJ]; exact hbd
  have hwr : RowKit.wrap64 (J et + 1) = J et + 1 := wrap64_fit (by omega) (by omega)
  have hwc : RowKit.wrap64 (W.cnt + 1) = W.cnt + 1 := wrap64_fit (by omega) (by omega)
  obtain ⟨C, hC⟩ : ∃ C, C = upd J et (J et + 1) := ⟨_, rfl⟩
  have HCj := Lib.hid hC
  have HC : Hid (wC W (⟨(et : Int), xk, (eo : Int), xv, xb⟩ : Ev) = C) := by rw [Hid, hC, hJ]; rfl
  obtain ⟨r, hr⟩ : ∃ r, r = rcW (setTh W et C) xk eo et C := ⟨_, rfl⟩
  have HR : Hid (rcW (setTh W et C) xk eo et C = r) := hr.symm
  have HR9 : Hid (wRc W (⟨(et : Int), xk, (eo : Int), xv, xb⟩ : Ev) = r) := by rw [Hid, hr]; exact rc_is HC.out
  have Hrr := HR9
  clear hz hJ hC hr hb0 hbd hct
  go_enter Try.func22, Try.ntmps22
  go_wp2_with fail
  have hN := one_newC w #[.int .i64 (et : Int), .int .i64 xk, .int .i64 (eo : Int), .int .i64 xv, .int .i64 xb] 38
  revert hN
  generalize w.alloc (.cells #[.int .i64 (et : Int), .int .i64 xk, .int .i64 (eo : Int), .int .i64 xv, .int .i64 xb] 38) = y0
  intro hN
  have HE0 : Hid (EvBox y0 w.heap.size (et : Int) xk (eo : Int) xv xb) := ⟨cell_of_block hN.1, cell_of_block hN.1, cell_of_block hN.1, cell_of_block hN.1, cell_of_block hN.1⟩
  have HB0 := Lib.hid hN.2
  clear hN
  obtain ⟨e0, e1, e2, e3, e4⟩ := HE0.out.all
  refine wp_ext_draw 4 mixed (by kernel_rfl) ?_
  simp only [List.take_succ_cons, List.take_zero, List.drop_succ_cons, List.drop_zero]
  repeat ((first | ((apply TextRun.go rfl rfl rfl); (focus (intro w1 hS K hK; have hc := bcell hS; have hs := blt hS; have e0 := keep hS e0; have e1 := keep hS e1; have e2 := keep hS e2; have e3 := keep hS e3; have e4 := keep hS e4; go_wp2_with (fail); first | done | exact hS | exact hS.trans (hb.mono hS.size)))) | (refine TextRun.skip rfl ?_) | ((refine TextRun.wantedT rfl rfl rfl ?_); (apply Exists.intro); (apply And.intro); (focus (intro w1 hS K hK; have hc := bcell hS; have hs := blt hS; have e0 := keep hS e0; have e1 := keep hS e1; have e2 := keep hS e2; have e3 := keep hS e3; have e4 := keep hS e4; go_wp2_with (fail); first | done | exact hS | exact hS.trans (hb.mono hS.size))))); (simp only [Act.put, List.setIfInBounds_toArray, List.set_cons_zero, List.set_cons_succ]))
  refine TextRun.done ?_
  intro y1 hb
  have HB1 := Lib.hid (HB0.out.trans (hb.mono HB0.out.size))
  have HE1 := Lib.hid (HE0.out.below hb)
  clear hb HB0 HE0 e0 e1 e2 e3 e4
  have Htk := Lib.hid (take_calls (b := b) (HL.out.below HB1.out) (by obtain ⟨A, hA, hWC⟩ := HW.out.below HB1.out; rw [cell_of_block hA, hWC.log, Hp.out]) ⟨(et : Int), xk, (eo : Int), xv, xb⟩ hcap)
  go_wp2_with fail
  refine Htk.out.mono ?_
  rintro e y2 ⟨vl', va', rfl, hL2, hW2, hsub⟩
  rw [Hz.out]
  have HS0 : Hid (WSt w y2 b w.heap.size ⟨(et : Int), xk, (eo : Int), xv, xb⟩ p W B lb vl va vl' va' (addS S ⟨(et : Int), xk, (eo : Int), xv, xb⟩)) := by
    refine ⟨HE1.out.wrote hW2 (fun hq => by have := HL.out.rlt _ hq; omega), (HW.out.below HB1.out).wrote hW2 (watch_ne (HL.out.below HB1.out) (HW.out.below HB1.out)), hL2, ?_, fun e => by have := HW.out.lt; omega⟩
    exact (Wrote.of_below (R := fun q => q = b ∨ logR lb vl va q) HB1.out).trans hW2 (fun q hq => .inl (.inr hq))
  have Hsub : Hid (∀ k, logR lb vl' va' k → logR lb vl va k ∨ w.heap.size ≤ k) := fun k hk => (hsub k hk).imp id (fun h2 => Nat.le_trans HB1.out.size h2)
  clear hL2 hW2 hsub Htk HE1 HB1
  obtain ⟨e0, e1, e2, e3, e4⟩ := HS0.out.ev.all
  have hf1 : (xb == 0) = false := by simpa using Hbad.out
  have hf2 : (xb != 0) = true := by simpa using Hbad.out
  go_wp2_with fail
  refine wp_ext_draw 7 mixed (by kernel_rfl) ?_
  simp only [List.take_succ_cons, List.take_zero, List.drop_succ_cons, List.drop_zero]
  repeat ((first | ((apply TextRun.go rfl rfl rfl); (focus (intro w1 hS K hK; have hc := bcell hS; have hs := blt hS; have e0 := keep hS e0; have e1 := keep hS e1; have e2 := keep hS e2; have e3 := keep hS e3; have e4 := keep hS e4; go_wp2_with (fail); first | done | exact hS | exact hS.trans (hb.mono hS.size)))) | (refine TextRun.skip rfl ?_) | ((refine TextRun.wantedT rfl rfl rfl ?_); (apply Exists.intro); (apply And.intro); (focus (intro w1 hS K hK; have hc := bcell hS; have hs := blt hS; have e0 := keep hS e0; have e1 := keep hS e1; have e2 := keep hS e2; have e3 := keep hS e3; have e4 := keep hS e4; go_wp2_with (fail); first | done | exact hS | exact hS.trans (hb.mono hS.size))))); (simp only [Act.put, List.setIfInBounds_toArray, List.set_cons_zero, List.set_cons_succ]))
  refine TextRun.done ?_
  intro y3 hb
  have HS := Lib.hid (HS0.out.below hb)
  clear hb HS0 e0 e1 e2 e3 e4
  obtain ⟨e0, e1, e2, e3, e4⟩ := HS.out.ev.all
  have HT : Hid (WSt w y3 b w.heap.size ⟨(et : Int), xk, (eo : Int), xv, xb⟩ p (setTh W et J) B lb vl va vl' va' (addS S ⟨(et : Int), xk, (eo : Int), xv, xb⟩)) := by
    rw [Hid, HJ.out]
    exact HS.out.same (setTh_self W et)
  clear HS
  obtain ⟨A, hA, hWC⟩ := HT.out.wa
  have cc : y3.cell? ⟨b, 1 + et * 8 + et, none⟩ = some (.int .i64 (J et)) := by
    rw [cell_of_block hA]
    have := hWC.th et et hte hte
    rwa [setTh_at] at this
  have fc : y3.frozen? ⟨b, 1 + et * 8 + et, none⟩ = false := free_of_block hA
  have HA := Lib.hid (And.intro hA hWC)
  clear hA hWC
  go_wp2_with fail
  refine wp_ext_draw 9 mixed (by kernel_rfl) ?_
  simp only [List.take_succ_cons, List.take_zero, List.drop_succ_cons, List.drop_zero]
  repeat ((first | ((apply TextRun.go rfl rfl rfl); (focus (intro w1 hS K hK; have hc := bcell hS; have hs := blt hS; have e0 := keep hS e0; have e1 := keep hS e1; have e2 := keep hS e2; have cc := keep hS cc; go_wp2_with (fail); first | done | exact hS | exact hS.trans (hb.mono hS.size)))) | (refine TextRun.skip rfl ?_) | ((refine TextRun.wantedT rfl rfl rfl ?_); (apply Exists.intro); (apply And.intro); (focus (intro w1 hS K hK; have hc := bcell hS; have hs := blt hS; have e0 := keep hS e0; have e1 := keep hS e1; have e2 := keep hS e2; have cc := keep hS cc; go_wp2_with (fail); first | done | exact hS | exact hS.trans (hb.mono hS.size))))); (simp only [Act.put, List.setIfInBounds_toArray, List.set_cons_zero, List.set_cons_succ]))
  refine TextRun.done ?_
  intro y6 hb
  have fc : y6.frozen? ⟨b, 1 + et * 8 + et, none⟩ = false := (hb.frozen (p := ⟨b, 1 + et * 8 + et, none⟩) (Array.getElem?_eq_some_iff.1 HA.out.1).1).trans fc
  have cc := keep hb cc
  have HT2 : Hid (WSt w (y6.setCell ⟨b, 1 + et * 8 + et, none⟩ (.int .i64 (J et + 1))) b w.heap.size ⟨(et : Int), xk, (eo : Int), xv, xb⟩ p (setTh W et C) B lb vl va vl' va' (addS S ⟨(et : Int), xk, (eo : Int), xv, xb⟩)) := by
    have hA2 := (hb.block b (Array.getElem?_eq_some_iff.1 HA.out.1).1).trans HA.out.1
    have hsz := HA.out.2.size
    have h8 := same8_one (A := A) (off := 1 + et * 8) (t := et) (x := J) (J et + 1) (by omega) hte (fun i hi => by have := HA.out.2.th et i hte hi; rwa [setTh_at] at this)
    have h9 := HA.out.2.setTh hte h8
    rw [setTh_twice] at h9
    rw [Hid, HCj.out]
    exact (HT.out.below hb).step (Wrote.setCell (R := fun q => q = b) y6 (p := ⟨b, 1 + et * 8 + et, none⟩) _ rfl) ⟨_, heap_set hA2 _, h9⟩
  clear hb HA HT e0 e1 e2 e3 e4
  obtain ⟨e0, e1, e2, e3, e4⟩ : y6.cell? ⟨w.heap.size, 0, none⟩ = y6.cell? ⟨w.heap.size, 0, none⟩ ∧ True ∧ True ∧ True ∧ True := ⟨rfl, trivial, trivial, trivial, trivial⟩
  clear e0 e1 e2 e3 e4
  go_wp2_with fail
  revert HT2
  generalize y6.setCell ⟨b, 1 + et * 8 + et, none⟩ (.int .i64 (J et + 1)) = y7
  intro HT2
  clear fc cc
  obtain ⟨e0, e1, e2, e3, e4⟩ := HT2.out.ev.all
  obtain ⟨A, hA, hWC⟩ := HT2.out.wa
  obtain ⟨f0, f1, f2, f3, f4, f5, f6, f7⟩ := eight (w := y7) (b := b) (off := 1 + et * 8) (x := C) (fun i hi => by rw [cell_of_block hA]; have := hWC.th et i hte hi; rwa [setTh_at] at this)
  clear hA hWC
  refine wp_ext_draw 5 mixed (by kernel_rfl) ?_
  simp only [List.take_succ_cons, List.take_zero, List.drop_succ_cons, List.drop_zero]
  repeat ((first | ((apply TextRun.go rfl rfl rfl); (focus (intro w1 hS K hK; have hc := bcell hS; have hs := blt hS; have e0 := keep hS e0; have e1 := keep hS e1; have e2 := keep hS e2; have e3 := keep hS e3; have e4 := keep hS e4; have f0 := keep hS f0; have f1 := keep hS f1; have f2 := keep hS f2; have f3 := keep hS f3; have f4 := keep hS f4; have f5 := keep hS f5; have f6 := keep hS f6; have f7 := keep hS f7; go_wp2_with (fail); first | done | exact hS | exact hS.trans (hb.mono hS.size)))) | (refine TextRun.skip rfl ?_) | ((refine TextRun.wantedT rfl rfl rfl ?_); (apply Exists.intro); (apply And.intro); (focus (intro w1 hS K hK; have hc := bcell hS; have hs := blt hS; have e0 := keep hS e0; have e1 := keep hS e1; have e2 := keep hS e2; have e3 := keep hS e3; have e4 := keep hS e4; have f0 := keep hS f0; have f1 := keep hS f1; have f2 := keep hS f2; have f3 := keep hS f3; have f4 := keep hS f4; have f5 := keep hS f5; have f6 := keep hS f6; have f7 := keep hS f7; go_wp2_with (fail); first | done | exact hS | exact hS.trans (hb.mono hS.size))))); (simp only [Act.put, List.setIfInBounds_toArray, List.set_cons_zero, List.set_cons_succ]))
  refine TextRun.done ?_
  intro y8 hb
  have HS3 := Lib.hid (HT2.out.below hb)
  clear hb HT2 e0 e1 e2 e3 e4 f0 f1 f2 f3 f4 f5 f6 f7
  go_wp2_with fail
  refine (raced_calls HS3.out.wa et eo xk xv xb hte (fun _ => heo) C).mono ?_
  rintro e y9 ⟨rfl, hW4, hw4⟩
  have HS4 := Lib.hid (HS3.out.step hw4 hW4)
  clear hW4 hw4 HS3
  rw [HR.out]
  cases r
  case false =>
    have HS5 : Hid (WSt w y9 b w.heap.size ⟨(et : Int), xk, (eo : Int), xv, xb⟩ p { rcT (setTh W et C) xk eo et C with cnt := W.cnt + (if false = true then 1 else 0) } B lb vl va vl' va' (addS S ⟨(et : Int), xk, (eo : Int), xv, xb⟩)) := HS4.out.same (rcT_cnt W et C xk eo)
    clear HS4
    have Hq : Hid (WAddPost b p W B lb vl va S ⟨(et : Int), xk, (eo : Int), xv, xb⟩ w (.returned (.tuple #[.bool false, .int .i64 0])) y9) :=
      ⟨vl', va', HS5.out.lo, HS5.out.wr, Hsub.out, .inr ⟨Hz.out, by rw [Hrr.out], HS5.out.wa.same (fin_no HC.out HR9.out (.inl Hbad.out))⟩⟩
    obtain ⟨e0, e1, e2, e3, e4⟩ := HS5.out.ev.all
    clear HS5
    go_wp2
    go_returns
    exact Hq.out
  case true =>
    obtain ⟨A, hA, hWC⟩ := HS4.out.wa
    have cc : y9.cell? ⟨b, 321, none⟩ = some (.int .i64 W.cnt) := by rw [cell_of_block hA, hWC.cnt, rcT_cntv]
    have fc : y9.frozen? ⟨b, 321, none⟩ = false := free_of_block hA
    have HS5 : Hid (WSt w (y9.setCell ⟨b, 321, none⟩ (.int .i64 (W.cnt + 1))) b w.heap.size ⟨(et : Int), xk, (eo : Int), xv, xb⟩ p { rcT (setTh W et C) xk eo et C with cnt := W.cnt + (if true = true then 1 else 0) } B lb vl va vl' va' (addS S ⟨(et : Int), xk, (eo : Int), xv, xb⟩)) :=
      HS4.out.step (Wrote.setCell (R := fun q => q = b) y9 (p := ⟨b, 321, none⟩) _ rfl) ⟨_, heap_set hA _, hWC.setCnt (W.cnt + 1)⟩
    clear hA hWC HS4
    go_upto_region 17 with (fail)
    revert HS5
    generalize y9.setCell ⟨b, 321, none⟩ (.int .i64 (W.cnt + 1)) = ya
    intro HS5
    clear cc fc
    have Hq : Hid (WAddPost b p W B lb vl va S ⟨(et : Int), xk, (eo : Int), xv, xb⟩ w (.returned (.tuple #[.bool true, .int .i64 0])) ya) :=
      ⟨vl', va', HS5.out.lo, HS5.out.wr, Hsub.out, .inr ⟨Hz.out, by rw [Hrr.out], HS5.out.wa.same (fin_no HC.out HR9.out (.inl Hbad.out))⟩⟩
    obtain ⟨e0, e1, e2, e3, e4⟩ := HS5.out.ev.all
    clear HS5
    go_wp2
    go_returns
    exact Hq.out
set_option maxRecDepth 20000 in
set_option maxHeartbeats 16000000 in
theorem wadd_k4 {w : World} {B lb b : Nat} {vl va p : Value} {S : LogS} {W : Wch} (h : LogAt w B lb vl va S) (hp : p = .pointer (some ⟨lb, 0, none⟩)) (hW : WatchAt w b p W) (et eo : Nat) (hte : et < 8) (heo : eo < 8) (xv : Int) (hcap : (S.l.length + 1) * 40 ≤ 140737488355328)
    (hz : addE S ⟨(et : Int), 4, (eo : Int), xv, 0⟩ = 0) (hbd : 0 ≤ wJ W ⟨(et : Int), 4, (eo : Int), xv, 0⟩ et ∧ wJ W ⟨(et : Int), 4, (eo : Int), xv, 0⟩ et ≤ 1000) (hct : 0 ≤ W.cnt ∧ W.cnt ≤ 1000) :
    Calls Try.prog 22 #[.pointer (some ⟨b, 0, none⟩), .agg #[.int .i64 (et : Int), .int .i64 4, .int .i64 (eo : Int), .int .i64 xv, .int .i64 0]] w (WAddPost b p W B lb vl va S ⟨(et : Int), 4, (eo : Int), xv, 0⟩ w) := by
  have HL := Lib.hid h
  have HW := Lib.hid hW
  have Hp := Lib.hid hp
  clear h hW hp
  have Hz := Lib.hid hz
  obtain ⟨J, hJ⟩ : ∃ J, J = wJ W (⟨(et : Int), 4, (eo : Int), xv, 0⟩ : Ev) := ⟨_, rfl⟩
  have HJ : Hid (J = fun i => max (W.th et i) (W.mu eo i)) := by rw [Hid, hJ]; unfold wJ; simp [joinW]; try rfl
  have hb0 : 0 ≤ J et ∧ J et ≤ 1000 := by rw [hJ]; exact hbd
  have hwr : RowKit.wrap64 (J et + 1) = J et + 1 := wrap64_fit (by omega) (by omega)
  have hwc : RowKit.wrap64 (W.cnt + 1) = W.cnt + 1 := wrap64_fit (by omega) (by omega)
  obtain ⟨C, hC⟩ : ∃ C, C = upd J et (J et + 1) := ⟨_, rfl⟩
  have HCj := Lib.hid hC
  have HC : Hid (wC W (⟨(et : Int), 4, (eo : Int), xv, 0⟩ : Ev) = C) := by rw [Hid, hC, hJ]; rfl
  obtain ⟨r, hr⟩ : ∃ r, r = rcW (setTh W et C) 4 eo et C := ⟨_, rfl⟩
  have HR : Hid (rcW (setTh W et C) 4 eo et C = r) := hr.symm
  have HR9 : Hid (wRc W (⟨(et : Int), 4, (eo : Int), xv, 0⟩ : Ev) = r) := by rw [Hid, hr]; exact rc_is HC.out
  have Hrr := HR9
  clear hz hJ hC hr hb0 hbd hct
  go_enter Try.func22, Try.ntmps22
  go_wp2_with fail
  have hN := one_newC w #[.int .i64 (et : Int), .int .i64 4, .int .i64 (eo : Int), .int .i64 xv, .int .i64 0] 38
  revert hN
  generalize w.alloc (.cells #[.int .i64 (et : Int), .int .i64 4, .int .i64 (eo : Int), .int .i64 xv, .int .i64 0] 38) = y0
  intro hN
  have HE0 : Hid (EvBox y0 w.heap.size (et : Int) 4 (eo : Int) xv 0) := ⟨cell_of_block hN.1, cell_of_block hN.1, cell_of_block hN.1, cell_of_block hN.1, cell_of_block hN.1⟩
  have HB0 := Lib.hid hN.2
  clear hN
  obtain ⟨e0, e1, e2, e3, e4⟩ := HE0.out.all
  refine wp_ext_draw 4 mixed (by kernel_rfl) ?_
  simp only [List.take_succ_cons, List.take_zero, List.drop_succ_cons, List.drop_zero]
  repeat ((first | ((apply TextRun.go rfl rfl rfl); (focus (intro w1 hS K hK; have hc := bcell hS; have hs := blt hS; have e0 := keep hS e0; have e1 := keep hS e1; have e2 := keep hS e2; have e3 := keep hS e3; have e4 := keep hS e4; go_wp2_with (fail); first | done | exact hS | exact hS.trans (hb.mono hS.size)))) | (refine TextRun.skip rfl ?_) | ((refine TextRun.wantedT rfl rfl rfl ?_); (apply Exists.intro); (apply And.intro); (focus (intro w1 hS K hK; have hc := bcell hS; have hs := blt hS; have e0 := keep hS e0; have e1 := keep hS e1; have e2 := keep hS e2; have e3 := keep hS e3; have e4 := keep hS e4; go_wp2_with (fail); first | done | exact hS | exact hS.trans (hb.mono hS.size))))); (simp only [Act.put, List.setIfInBounds_toArray, List.set_cons_zero, List.set_cons_succ]))
  refine TextRun.done ?_
  intro y1 hb
  have HB1 := Lib.hid (HB0.out.trans (hb.mono HB0.out.size))
  have HE1 := Lib.hid (HE0.out.below hb)
  clear hb HB0 HE0 e0 e1 e2 e3 e4
  have Htk := Lib.hid (take_calls (b := b) (HL.out.below HB1.out) (by obtain ⟨A, hA, hWC⟩ := HW.out.below HB1.out; rw [cell_of_block hA, hWC.log, Hp.out]) ⟨(et : Int), 4, (eo : Int), xv, 0⟩ hcap)
  go_wp2_with fail
  refine Htk.out.mono ?_
  rintro e y2 ⟨vl', va', rfl, hL2, hW2, hsub⟩
  rw [Hz.out]
  have HS0 : Hid (WSt w y2 b w.heap.size ⟨(et : Int), 4, (eo : Int), xv, 0⟩ p W B lb vl va vl' va' (addS S ⟨(et : Int), 4, (eo : Int), xv, 0⟩)) := by
    refine ⟨HE1.out.wrote hW2 (fun hq => by have := HL.out.rlt _ hq; omega), (HW.out.below HB1.out).wrote hW2 (watch_ne (HL.out.below HB1.out) (HW.out.below HB1.out)), hL2, ?_, fun e => by have := HW.out.lt; omega⟩
    exact (Wrote.of_below (R := fun q => q = b ∨ logR lb vl va q) HB1.out).trans hW2 (fun q hq => .inl (.inr hq))
  have Hsub : Hid (∀ k, logR lb vl' va' k → logR lb vl va k ∨ w.heap.size ≤ k) := fun k hk => (hsub k hk).imp id (fun h2 => Nat.le_trans HB1.out.size h2)
  clear hL2 hW2 hsub Htk HE1 HB1
  obtain ⟨e0, e1, e2, e3, e4⟩ := HS0.out.ev.all
  go_wp2_with fail
  refine wp_ext_draw 7 mixed (by kernel_rfl) ?_
  simp only [List.take_succ_cons, List.take_zero, List.drop_succ_cons, List.drop_zero]
  repeat ((first | ((apply TextRun.go rfl rfl rfl); (focus (intro w1 hS K hK; have hc := bcell hS; have hs := blt hS; have e0 := keep hS e0; have e1 := keep hS e1; have e2 := keep hS e2; have e3 := keep hS e3; have e4 := keep hS e4; go_wp2_with (fail); first | done | exact hS | exact hS.trans (hb.mono hS.size)))) | (refine TextRun.skip rfl ?_) | ((refine TextRun.wantedT rfl rfl rfl ?_); (apply Exists.intro); (apply And.intro); (focus (intro w1 hS K hK; have hc := bcell hS; have hs := blt hS; have e0 := keep hS e0; have e1 := keep hS e1; have e2 := keep hS e2; have e3 := keep hS e3; have e4 := keep hS e4; go_wp2_with (fail); first | done | exact hS | exact hS.trans (hb.mono hS.size))))); (simp only [Act.put, List.setIfInBounds_toArray, List.set_cons_zero, List.set_cons_succ]))
  refine TextRun.done ?_
  intro y3 hb
  have HS := Lib.hid (HS0.out.below hb)
  clear hb HS0 e0 e1 e2 e3 e4
  obtain ⟨e0, e1, e2, e3, e4⟩ := HS.out.ev.all
  obtain ⟨A, hA, hWC⟩ := HS.out.wa
  obtain ⟨f0, f1, f2, f3, f4, f5, f6, f7⟩ := eight (w := y3) (b := b) (off := 65 + eo * 8) (x := W.mu eo) (fun i hi => by rw [cell_of_block hA]; exact hWC.mu eo i heo hi)
  clear hA hWC
  go_wp2_with fail
  refine wp_ext_draw 8 mixed (by kernel_rfl) ?_
  simp only [List.take_succ_cons, List.take_zero, List.drop_succ_cons, List.drop_zero]
  repeat ((first | ((apply TextRun.go rfl rfl rfl); (focus (intro w1 hS K hK; have hc := bcell hS; have hs := blt hS; have e0 := keep hS e0; have e1 := keep hS e1; have e2 := keep hS e2; have e3 := keep hS e3; have e4 := keep hS e4; have f0 := keep hS f0; have f1 := keep hS f1; have f2 := keep hS f2; have f3 := keep hS f3; have f4 := keep hS f4; have f5 := keep hS f5; have f6 := keep hS f6; have f7 := keep hS f7; go_wp2_with (fail); first | done | exact hS | exact hS.trans (hb.mono hS.size)))) | (refine TextRun.skip rfl ?_) | ((refine TextRun.wantedT rfl rfl rfl ?_); (apply Exists.intro); (apply And.intro); (focus (intro w1 hS K hK; have hc := bcell hS; have hs := blt hS; have e0 := keep hS e0; have e1 := keep hS e1; have e2 := keep hS e2; have e3 := keep hS e3; have e4 := keep hS e4; have f0 := keep hS f0; have f1 := keep hS f1; have f2 := keep hS f2; have f3 := keep hS f3; have f4 := keep hS f4; have f5 := keep hS f5; have f6 := keep hS f6; have f7 := keep hS f7; go_wp2_with (fail); first | done | exact hS | exact hS.trans (hb.mono hS.size))))); (simp only [Act.put, List.setIfInBounds_toArray, List.set_cons_zero, List.set_cons_succ]))
  refine TextRun.done ?_
  intro y4 hb
  have HSa := Lib.hid (HS.out.below hb)
  clear hb HS e0 e1 e2 e3 e4 f0 f1 f2 f3 f4 f5 f6 f7
  obtain ⟨A, hA, hWC⟩ := HSa.out.wa
  have Hj := Lib.hid (wjoin_calls (w := y4) (b := b) (off := 1 + et * 8) (A := A) (W.th et) (W.mu eo) hA (by have := hWC.size; omega) (fun i hi => hWC.th et i hte hi))
  have HWC := Lib.hid hWC
  clear hA hWC
  go_wp2_with fail
  refine Hj.out.mono ?_
  rintro e y5 ⟨rfl, A', hA', hS8, hw⟩
  have HT : Hid (WSt w y5 b w.heap.size ⟨(et : Int), 4, (eo : Int), xv, 0⟩ p (setTh W et J) B lb vl va vl' va' (addS S ⟨(et : Int), 4, (eo : Int), xv, 0⟩)) := by
    rw [Hid, HJ.out]
    exact HSa.out.step hw ⟨A', hA', HWC.out.setTh hte hS8⟩
  clear hA' hS8 hw Hj HWC HSa
  obtain ⟨e0, e1, e2, e3, e4⟩ := HT.out.ev.all
  obtain ⟨A, hA, hWC⟩ := HT.out.wa
  have cc : y5.cell? ⟨b, 1 + et * 8 + et, none⟩ = some (.int .i64 (J et)) := by
    rw [cell_of_block hA]
    have := hWC.th et et hte hte
    rwa [setTh_at] at this
  have fc : y5.frozen? ⟨b, 1 + et * 8 + et, none⟩ = false := free_of_block hA
  have HA := Lib.hid (And.intro hA hWC)
  clear hA hWC
  go_wp2_with fail
  refine wp_ext_draw 9 mixed (by kernel_rfl) ?_
  simp only [List.take_succ_cons, List.take_zero, List.drop_succ_cons, List.drop_zero]
  repeat ((first | ((apply TextRun.go rfl rfl rfl); (focus (intro w1 hS K hK; have hc := bcell hS; have hs := blt hS; have e0 := keep hS e0; have e1 := keep hS e1; have e2 := keep hS e2; have cc := keep hS cc; go_wp2_with (fail); first | done | exact hS | exact hS.trans (hb.mono hS.size)))) | (refine TextRun.skip rfl ?_) | ((refine TextRun.wantedT rfl rfl rfl ?_); (apply Exists.intro); (apply And.intro); (focus (intro w1 hS K hK; have hc := bcell hS; have hs := blt hS; have e0 := keep hS e0; have e1 := keep hS e1; have e2 := keep hS e2; have cc := keep hS cc; go_wp2_with (fail); first | done | exact hS | exact hS.trans (hb.mono hS.size))))); (simp only [Act.put, List.setIfInBounds_toArray, List.set_cons_zero, List.set_cons_succ]))
  refine TextRun.done ?_
  intro y6 hb
  have fc : y6.frozen? ⟨b, 1 + et * 8 + et, none⟩ = false := (hb.frozen (p := ⟨b, 1 + et * 8 + et, none⟩) (Array.getElem?_eq_some_iff.1 HA.out.1).1).trans fc
  have cc := keep hb cc
  have HT2 : Hid (WSt w (y6.setCell ⟨b, 1 + et * 8 + et, none⟩ (.int .i64 (J et + 1))) b w.heap.size ⟨(et : Int), 4, (eo : Int), xv, 0⟩ p (setTh W et C) B lb vl va vl' va' (addS S ⟨(et : Int), 4, (eo : Int), xv, 0⟩)) := by
    have hA2 := (hb.block b (Array.getElem?_eq_some_iff.1 HA.out.1).1).trans HA.out.1
    have hsz := HA.out.2.size
    have h8 := same8_one (A := A) (off := 1 + et * 8) (t := et) (x := J) (J et + 1) (by omega) hte (fun i hi => by have := HA.out.2.th et i hte hi; rwa [setTh_at] at this)
    have h9 := HA.out.2.setTh hte h8
    rw [setTh_twice] at h9
    rw [Hid, HCj.out]
    exact (HT.out.below hb).step (Wrote.setCell (R := fun q => q = b) y6 (p := ⟨b, 1 + et * 8 + et, none⟩) _ rfl) ⟨_, heap_set hA2 _, h9⟩
  clear hb HA HT e0 e1 e2 e3 e4
  obtain ⟨e0, e1, e2, e3, e4⟩ : y6.cell? ⟨w.heap.size, 0, none⟩ = y6.cell? ⟨w.heap.size, 0, none⟩ ∧ True ∧ True ∧ True ∧ True := ⟨rfl, trivial, trivial, trivial, trivial⟩
  clear e0 e1 e2 e3 e4
  go_wp2_with fail
  revert HT2
  generalize y6.setCell ⟨b, 1 + et * 8 + et, none⟩ (.int .i64 (J et + 1)) = y7
  intro HT2
  clear fc cc
  obtain ⟨e0, e1, e2, e3, e4⟩ := HT2.out.ev.all
  obtain ⟨A, hA, hWC⟩ := HT2.out.wa
  obtain ⟨f0, f1, f2, f3, f4, f5, f6, f7⟩ := eight (w := y7) (b := b) (off := 1 + et * 8) (x := C) (fun i hi => by rw [cell_of_block hA]; have := hWC.th et i hte hi; rwa [setTh_at] at this)
  clear hA hWC
  refine wp_ext_draw 5 mixed (by kernel_rfl) ?_
  simp only [List.take_succ_cons, List.take_zero, List.drop_succ_cons, List.drop_zero]
  repeat ((first | ((apply TextRun.go rfl rfl rfl); (focus (intro w1 hS K hK; have hc := bcell hS; have hs := blt hS; have e0 := keep hS e0; have e1 := keep hS e1; have e2 := keep hS e2; have e3 := keep hS e3; have e4 := keep hS e4; have f0 := keep hS f0; have f1 := keep hS f1; have f2 := keep hS f2; have f3 := keep hS f3; have f4 := keep hS f4; have f5 := keep hS f5; have f6 := keep hS f6; have f7 := keep hS f7; go_wp2_with (fail); first | done | exact hS | exact hS.trans (hb.mono hS.size)))) | (refine TextRun.skip rfl ?_) | ((refine TextRun.wantedT rfl rfl rfl ?_); (apply Exists.intro); (apply And.intro); (focus (intro w1 hS K hK; have hc := bcell hS; have hs := blt hS; have e0 := keep hS e0; have e1 := keep hS e1; have e2 := keep hS e2; have e3 := keep hS e3; have e4 := keep hS e4; have f0 := keep hS f0; have f1 := keep hS f1; have f2 := keep hS f2; have f3 := keep hS f3; have f4 := keep hS f4; have f5 := keep hS f5; have f6 := keep hS f6; have f7 := keep hS f7; go_wp2_with (fail); first | done | exact hS | exact hS.trans (hb.mono hS.size))))); (simp only [Act.put, List.setIfInBounds_toArray, List.set_cons_zero, List.set_cons_succ]))
  refine TextRun.done ?_
  intro y8 hb
  have HS3 := Lib.hid (HT2.out.below hb)
  clear hb HT2 e0 e1 e2 e3 e4 f0 f1 f2 f3 f4 f5 f6 f7
  go_wp2_with fail
  refine (raced_calls HS3.out.wa et eo 4 xv 0 hte (fun _ => heo) C).mono ?_
  rintro e y9 ⟨rfl, hW4, hw4⟩
  have HS4 := Lib.hid (HS3.out.step hw4 hW4)
  clear hW4 hw4 HS3
  rw [HR.out]
  cases r
  case false =>
    have HS5 : Hid (WSt w y9 b w.heap.size ⟨(et : Int), 4, (eo : Int), xv, 0⟩ p { rcT (setTh W et C) 4 eo et C with cnt := W.cnt + (if false = true then 1 else 0) } B lb vl va vl' va' (addS S ⟨(et : Int), 4, (eo : Int), xv, 0⟩)) := HS4.out.same (rcT_cnt W et C 4 eo)
    clear HS4
    have Hq : Hid (WAddPost b p W B lb vl va S ⟨(et : Int), 4, (eo : Int), xv, 0⟩ w (.returned (.tuple #[.bool false, .int .i64 0])) y9) :=
      ⟨vl', va', HS5.out.lo, HS5.out.wr, Hsub.out, .inr ⟨Hz.out, by rw [Hrr.out], HS5.out.wa.same (fin_no HC.out HR9.out (.inr (by decide)))⟩⟩
    obtain ⟨e0, e1, e2, e3, e4⟩ := HS5.out.ev.all
    clear HS5
    go_wp2
    go_returns
    exact Hq.out
  case true =>
    obtain ⟨A, hA, hWC⟩ := HS4.out.wa
    have cc : y9.cell? ⟨b, 321, none⟩ = some (.int .i64 W.cnt) := by rw [cell_of_block hA, hWC.cnt, rcT_cntv]
    have fc : y9.frozen? ⟨b, 321, none⟩ = false := free_of_block hA
    have HS5 : Hid (WSt w (y9.setCell ⟨b, 321, none⟩ (.int .i64 (W.cnt + 1))) b w.heap.size ⟨(et : Int), 4, (eo : Int), xv, 0⟩ p { rcT (setTh W et C) 4 eo et C with cnt := W.cnt + (if true = true then 1 else 0) } B lb vl va vl' va' (addS S ⟨(et : Int), 4, (eo : Int), xv, 0⟩)) :=
      HS4.out.step (Wrote.setCell (R := fun q => q = b) y9 (p := ⟨b, 321, none⟩) _ rfl) ⟨_, heap_set hA _, hWC.setCnt (W.cnt + 1)⟩
    clear hA hWC HS4
    go_upto_region 17 with (fail)
    revert HS5
    generalize y9.setCell ⟨b, 321, none⟩ (.int .i64 (W.cnt + 1)) = ya
    intro HS5
    clear cc fc
    have Hq : Hid (WAddPost b p W B lb vl va S ⟨(et : Int), 4, (eo : Int), xv, 0⟩ w (.returned (.tuple #[.bool true, .int .i64 0])) ya) :=
      ⟨vl', va', HS5.out.lo, HS5.out.wr, Hsub.out, .inr ⟨Hz.out, by rw [Hrr.out], HS5.out.wa.same (fin_no HC.out HR9.out (.inr (by decide)))⟩⟩
    obtain ⟨e0, e1, e2, e3, e4⟩ := HS5.out.ev.all
    clear HS5
    go_wp2
    go_returns
    exact Hq.out
set_option maxRecDepth 20000 in
set_option maxHeartbeats 16000000 in
theorem wadd_k3 {w : World} {B lb b : Nat} {vl va p : Value} {S : LogS} {W : Wch} (h : LogAt w B lb vl va S) (hp : p = .pointer (some ⟨lb, 0, none⟩)) (hW : WatchAt w b p W) (et eo : Nat) (hte : et < 8) (heo : eo < 8) (xv : Int) (hcap : (S.l.length + 1) * 40 ≤ 140737488355328)
    (hz : addE S ⟨(et : Int), 3, (eo : Int), xv, 0⟩ = 0) (hbd : 0 ≤ wJ W ⟨(et : Int), 3, (eo : Int), xv, 0⟩ et ∧ wJ W ⟨(et : Int), 3, (eo : Int), xv, 0⟩ et ≤ 1000) (hct : 0 ≤ W.cnt ∧ W.cnt ≤ 1000) :
    Calls Try.prog 22 #[.pointer (some ⟨b, 0, none⟩), .agg #[.int .i64 (et : Int), .int .i64 3, .int .i64 (eo : Int), .int .i64 xv, .int .i64 0]] w (WAddPost b p W B lb vl va S ⟨(et : Int), 3, (eo : Int), xv, 0⟩ w) := by
  have HL := Lib.hid h
  have HW := Lib.hid hW
  have Hp := Lib.hid hp
  clear h hW hp
  have Hz := Lib.hid hz
  obtain ⟨J, hJ⟩ : ∃ J, J = wJ W (⟨(et : Int), 3, (eo : Int), xv, 0⟩ : Ev) := ⟨_, rfl⟩
  have HJ : Hid (J = fun i => max (W.th et i) (W.aw eo i)) := by rw [Hid, hJ]; unfold wJ; simp [joinW]; try rfl
  have hb0 : 0 ≤ J et ∧ J et ≤ 1000 := by rw [hJ]; exact hbd
  have hwr : RowKit.wrap64 (J et + 1) = J et + 1 := wrap64_fit (by omega) (by omega)
  have hwc : RowKit.wrap64 (W.cnt + 1) = W.cnt + 1 := wrap64_fit (by omega) (by omega)
  obtain ⟨C, hC⟩ : ∃ C, C = upd J et (J et + 1) := ⟨_, rfl⟩
  have HCj := Lib.hid hC
  have HC : Hid (wC W (⟨(et : Int), 3, (eo : Int), xv, 0⟩ : Ev) = C) := by rw [Hid, hC, hJ]; rfl
  obtain ⟨r, hr⟩ : ∃ r, r = rcW (setTh W et C) 3 eo et C := ⟨_, rfl⟩
  have HR : Hid (rcW (setTh W et C) 3 eo et C = r) := hr.symm
  have HR9 : Hid (wRc W (⟨(et : Int), 3, (eo : Int), xv, 0⟩ : Ev) = r) := by rw [Hid, hr]; exact rc_is HC.out
  have Hrr := HR9
  clear hz hJ hC hr hb0 hbd hct
  go_enter Try.func22, Try.ntmps22
  go_wp2_with fail
  have hN := one_newC w #[.int .i64 (et : Int), .int .i64 3, .int .i64 (eo : Int), .int .i64 xv, .int .i64 0] 38
  revert hN
  generalize w.alloc (.cells #[.int .i64 (et : Int), .int .i64 3, .int .i64 (eo : Int), .int .i64 xv, .int .i64 0] 38) = y0
  intro hN
  have HE0 : Hid (EvBox y0 w.heap.size (et : Int) 3 (eo : Int) xv 0) := ⟨cell_of_block hN.1, cell_of_block hN.1, cell_of_block hN.1, cell_of_block hN.1, cell_of_block hN.1⟩
  have HB0 := Lib.hid hN.2
  clear hN
  obtain ⟨e0, e1, e2, e3, e4⟩ := HE0.out.all
  refine wp_ext_draw 4 mixed (by kernel_rfl) ?_
  simp only [List.take_succ_cons, List.take_zero, List.drop_succ_cons, List.drop_zero]
  repeat ((first | ((apply TextRun.go rfl rfl rfl); (focus (intro w1 hS K hK; have hc := bcell hS; have hs := blt hS; have e0 := keep hS e0; have e1 := keep hS e1; have e2 := keep hS e2; have e3 := keep hS e3; have e4 := keep hS e4; go_wp2_with (fail); first | done | exact hS | exact hS.trans (hb.mono hS.size)))) | (refine TextRun.skip rfl ?_) | ((refine TextRun.wantedT rfl rfl rfl ?_); (apply Exists.intro); (apply And.intro); (focus (intro w1 hS K hK; have hc := bcell hS; have hs := blt hS; have e0 := keep hS e0; have e1 := keep hS e1; have e2 := keep hS e2; have e3 := keep hS e3; have e4 := keep hS e4; go_wp2_with (fail); first | done | exact hS | exact hS.trans (hb.mono hS.size))))); (simp only [Act.put, List.setIfInBounds_toArray, List.set_cons_zero, List.set_cons_succ]))
  refine TextRun.done ?_
  intro y1 hb
  have HB1 := Lib.hid (HB0.out.trans (hb.mono HB0.out.size))
  have HE1 := Lib.hid (HE0.out.below hb)
  clear hb HB0 HE0 e0 e1 e2 e3 e4
  have Htk := Lib.hid (take_calls (b := b) (HL.out.below HB1.out) (by obtain ⟨A, hA, hWC⟩ := HW.out.below HB1.out; rw [cell_of_block hA, hWC.log, Hp.out]) ⟨(et : Int), 3, (eo : Int), xv, 0⟩ hcap)
  go_wp2_with fail
  refine Htk.out.mono ?_
  rintro e y2 ⟨vl', va', rfl, hL2, hW2, hsub⟩
  rw [Hz.out]
  have HS0 : Hid (WSt w y2 b w.heap.size ⟨(et : Int), 3, (eo : Int), xv, 0⟩ p W B lb vl va vl' va' (addS S ⟨(et : Int), 3, (eo : Int), xv, 0⟩)) := by
    refine ⟨HE1.out.wrote hW2 (fun hq => by have := HL.out.rlt _ hq; omega), (HW.out.below HB1.out).wrote hW2 (watch_ne (HL.out.below HB1.out) (HW.out.below HB1.out)), hL2, ?_, fun e => by have := HW.out.lt; omega⟩
    exact (Wrote.of_below (R := fun q => q = b ∨ logR lb vl va q) HB1.out).trans hW2 (fun q hq => .inl (.inr hq))
  have Hsub : Hid (∀ k, logR lb vl' va' k → logR lb vl va k ∨ w.heap.size ≤ k) := fun k hk => (hsub k hk).imp id (fun h2 => Nat.le_trans HB1.out.size h2)
  clear hL2 hW2 hsub Htk HE1 HB1
  obtain ⟨e0, e1, e2, e3, e4⟩ := HS0.out.ev.all
  go_wp2_with fail
  refine wp_ext_draw 7 mixed (by kernel_rfl) ?_
  simp only [List.take_succ_cons, List.take_zero, List.drop_succ_cons, List.drop_zero]
  repeat ((first | ((apply TextRun.go rfl rfl rfl); (focus (intro w1 hS K hK; have hc := bcell hS; have hs := blt hS; have e0 := keep hS e0; have e1 := keep hS e1; have e2 := keep hS e2; have e3 := keep hS e3; have e4 := keep hS e4; go_wp2_with (fail); first | done | exact hS | exact hS.trans (hb.mono hS.size)))) | (refine TextRun.skip rfl ?_) | ((refine TextRun.wantedT rfl rfl rfl ?_); (apply Exists.intro); (apply And.intro); (focus (intro w1 hS K hK; have hc := bcell hS; have hs := blt hS; have e0 := keep hS e0; have e1 := keep hS e1; have e2 := keep hS e2; have e3 := keep hS e3; have e4 := keep hS e4; go_wp2_with (fail); first | done | exact hS | exact hS.trans (hb.mono hS.size))))); (simp only [Act.put, List.setIfInBounds_toArray, List.set_cons_zero, List.set_cons_succ]))
  refine TextRun.done ?_
  intro y3 hb
  have HS := Lib.hid (HS0.out.below hb)
  clear hb HS0 e0 e1 e2 e3 e4
  obtain ⟨e0, e1, e2, e3, e4⟩ := HS.out.ev.all
  obtain ⟨A, hA, hWC⟩ := HS.out.wa
  obtain ⟨f0, f1, f2, f3, f4, f5, f6, f7⟩ := eight (w := y3) (b := b) (off := 129 + eo * 8) (x := W.aw eo) (fun i hi => by rw [cell_of_block hA]; exact hWC.aw eo i heo hi)
  clear hA hWC
  go_wp2_with fail
  refine wp_ext_draw 8 mixed (by kernel_rfl) ?_
  simp only [List.take_succ_cons, List.take_zero, List.drop_succ_cons, List.drop_zero]
  repeat ((first | ((apply TextRun.go rfl rfl rfl); (focus (intro w1 hS K hK; have hc := bcell hS; have hs := blt hS; have e0 := keep hS e0; have e1 := keep hS e1; have e2 := keep hS e2; have e3 := keep hS e3; have e4 := keep hS e4; have f0 := keep hS f0; have f1 := keep hS f1; have f2 := keep hS f2; have f3 := keep hS f3; have f4 := keep hS f4; have f5 := keep hS f5; have f6 := keep hS f6; have f7 := keep hS f7; go_wp2_with (fail); first | done | exact hS | exact hS.trans (hb.mono hS.size)))) | (refine TextRun.skip rfl ?_) | ((refine TextRun.wantedT rfl rfl rfl ?_); (apply Exists.intro); (apply And.intro); (focus (intro w1 hS K hK; have hc := bcell hS; have hs := blt hS; have e0 := keep hS e0; have e1 := keep hS e1; have e2 := keep hS e2; have e3 := keep hS e3; have e4 := keep hS e4; have f0 := keep hS f0; have f1 := keep hS f1; have f2 := keep hS f2; have f3 := keep hS f3; have f4 := keep hS f4; have f5 := keep hS f5; have f6 := keep hS f6; have f7 := keep hS f7; go_wp2_with (fail); first | done | exact hS | exact hS.trans (hb.mono hS.size))))); (simp only [Act.put, List.setIfInBounds_toArray, List.set_cons_zero, List.set_cons_succ]))
  refine TextRun.done ?_
  intro y4 hb
  have HSa := Lib.hid (HS.out.below hb)
  clear hb HS e0 e1 e2 e3 e4 f0 f1 f2 f3 f4 f5 f6 f7
  obtain ⟨A, hA, hWC⟩ := HSa.out.wa
  have Hj := Lib.hid (wjoin_calls (w := y4) (b := b) (off := 1 + et * 8) (A := A) (W.th et) (W.aw eo) hA (by have := hWC.size; omega) (fun i hi => hWC.th et i hte hi))
  have HWC := Lib.hid hWC
  clear hA hWC
  go_wp2_with fail
  refine Hj.out.mono ?_
  rintro e y5 ⟨rfl, A', hA', hS8, hw⟩
  have HT : Hid (WSt w y5 b w.heap.size ⟨(et : Int), 3, (eo : Int), xv, 0⟩ p (setTh W et J) B lb vl va vl' va' (addS S ⟨(et : Int), 3, (eo : Int), xv, 0⟩)) := by
    rw [Hid, HJ.out]
    exact HSa.out.step hw ⟨A', hA', HWC.out.setTh hte hS8⟩
  clear hA' hS8 hw Hj HWC HSa
  obtain ⟨e0, e1, e2, e3, e4⟩ := HT.out.ev.all
  obtain ⟨A, hA, hWC⟩ := HT.out.wa
  have cc : y5.cell? ⟨b, 1 + et * 8 + et, none⟩ = some (.int .i64 (J et)) := by
    rw [cell_of_block hA]
    have := hWC.th et et hte hte
    rwa [setTh_at] at this
  have fc : y5.frozen? ⟨b, 1 + et * 8 + et, none⟩ = false := free_of_block hA
  have HA := Lib.hid (And.intro hA hWC)
  clear hA hWC
  go_wp2_with fail
  refine wp_ext_draw 9 mixed (by kernel_rfl) ?_
  simp only [List.take_succ_cons, List.take_zero, List.drop_succ_cons, List.drop_zero]
  repeat ((first | ((apply TextRun.go rfl rfl rfl); (focus (intro w1 hS K hK; have hc := bcell hS; have hs := blt hS; have e0 := keep hS e0; have e1 := keep hS e1; have e2 := keep hS e2; have cc := keep hS cc; go_wp2_with (fail); first | done | exact hS | exact hS.trans (hb.mono hS.size)))) | (refine TextRun.skip rfl ?_) | ((refine TextRun.wantedT rfl rfl rfl ?_); (apply Exists.intro); (apply And.intro); (focus (intro w1 hS K hK; have hc := bcell hS; have hs := blt hS; have e0 := keep hS e0; have e1 := keep hS e1; have e2 := keep hS e2; have cc := keep hS cc; go_wp2_with (fail); first | done | exact hS | exact hS.trans (hb.mono hS.size))))); (simp only [Act.put, List.setIfInBounds_toArray, List.set_cons_zero, List.set_cons_succ]))
  refine TextRun.done ?_
  intro y6 hb
  have fc : y6.frozen? ⟨b, 1 + et * 8 + et, none⟩ = false := (hb.frozen (p := ⟨b, 1 + et * 8 + et, none⟩) (Array.getElem?_eq_some_iff.1 HA.out.1).1).trans fc
  have cc := keep hb cc
  have HT2 : Hid (WSt w (y6.setCell ⟨b, 1 + et * 8 + et, none⟩ (.int .i64 (J et + 1))) b w.heap.size ⟨(et : Int), 3, (eo : Int), xv, 0⟩ p (setTh W et C) B lb vl va vl' va' (addS S ⟨(et : Int), 3, (eo : Int), xv, 0⟩)) := by
    have hA2 := (hb.block b (Array.getElem?_eq_some_iff.1 HA.out.1).1).trans HA.out.1
    have hsz := HA.out.2.size
    have h8 := same8_one (A := A) (off := 1 + et * 8) (t := et) (x := J) (J et + 1) (by omega) hte (fun i hi => by have := HA.out.2.th et i hte hi; rwa [setTh_at] at this)
    have h9 := HA.out.2.setTh hte h8
    rw [setTh_twice] at h9
    rw [Hid, HCj.out]
    exact (HT.out.below hb).step (Wrote.setCell (R := fun q => q = b) y6 (p := ⟨b, 1 + et * 8 + et, none⟩) _ rfl) ⟨_, heap_set hA2 _, h9⟩
  clear hb HA HT e0 e1 e2 e3 e4
  obtain ⟨e0, e1, e2, e3, e4⟩ : y6.cell? ⟨w.heap.size, 0, none⟩ = y6.cell? ⟨w.heap.size, 0, none⟩ ∧ True ∧ True ∧ True ∧ True := ⟨rfl, trivial, trivial, trivial, trivial⟩
  clear e0 e1 e2 e3 e4
  go_wp2_with fail
  revert HT2
  generalize y6.setCell ⟨b, 1 + et * 8 + et, none⟩ (.int .i64 (J et + 1)) = y7
  intro HT2
  clear fc cc
  obtain ⟨e0, e1, e2, e3, e4⟩ := HT2.out.ev.all
  obtain ⟨A, hA, hWC⟩ := HT2.out.wa
  obtain ⟨f0, f1, f2, f3, f4, f5, f6, f7⟩ := eight (w := y7) (b := b) (off := 1 + et * 8) (x := C) (fun i hi => by rw [cell_of_block hA]; have := hWC.th et i hte hi; rwa [setTh_at] at this)
  clear hA hWC
  refine wp_ext_draw 5 mixed (by kernel_rfl) ?_
  simp only [List.take_succ_cons, List.take_zero, List.drop_succ_cons, List.drop_zero]
  repeat ((first | ((apply TextRun.go rfl rfl rfl); (focus (intro w1 hS K hK; have hc := bcell hS; have hs := blt hS; have e0 := keep hS e0; have e1 := keep hS e1; have e2 := keep hS e2; have e3 := keep hS e3; have e4 := keep hS e4; have f0 := keep hS f0; have f1 := keep hS f1; have f2 := keep hS f2; have f3 := keep hS f3; have f4 := keep hS f4; have f5 := keep hS f5; have f6 := keep hS f6; have f7 := keep hS f7; go_wp2_with (fail); first | done | exact hS | exact hS.trans (hb.mono hS.size)))) | (refine TextRun.skip rfl ?_) | ((refine TextRun.wantedT rfl rfl rfl ?_); (apply Exists.intro); (apply And.intro); (focus (intro w1 hS K hK; have hc := bcell hS; have hs := blt hS; have e0 := keep hS e0; have e1 := keep hS e1; have e2 := keep hS e2; have e3 := keep hS e3; have e4 := keep hS e4; have f0 := keep hS f0; have f1 := keep hS f1; have f2 := keep hS f2; have f3 := keep hS f3; have f4 := keep hS f4; have f5 := keep hS f5; have f6 := keep hS f6; have f7 := keep hS f7; go_wp2_with (fail); first | done | exact hS | exact hS.trans (hb.mono hS.size))))); (simp only [Act.put, List.setIfInBounds_toArray, List.set_cons_zero, List.set_cons_succ]))
  refine TextRun.done ?_
  intro y8 hb
  have HS3 := Lib.hid (HT2.out.below hb)
  clear hb HT2 e0 e1 e2 e3 e4 f0 f1 f2 f3 f4 f5 f6 f7
  go_wp2_with fail
  refine (raced_calls HS3.out.wa et eo 3 xv 0 hte (fun _ => heo) C).mono ?_
  rintro e y9 ⟨rfl, hW4, hw4⟩
  have HS4 := Lib.hid (HS3.out.step hw4 hW4)
  clear hW4 hw4 HS3
  rw [HR.out]
  cases r
  case false =>
    have HS5 : Hid (WSt w y9 b w.heap.size ⟨(et : Int), 3, (eo : Int), xv, 0⟩ p { rcT (setTh W et C) 3 eo et C with cnt := W.cnt + (if false = true then 1 else 0) } B lb vl va vl' va' (addS S ⟨(et : Int), 3, (eo : Int), xv, 0⟩)) := HS4.out.same (rcT_cnt W et C 3 eo)
    clear HS4
    obtain ⟨e0, e1, e2, e3, e4⟩ := HS5.out.ev.all
    obtain ⟨A, hA, hWC⟩ := HS5.out.wa
    obtain ⟨f0, f1, f2, f3, f4, f5, f6, f7⟩ := eight (w := y9) (b := b) (off := 1 + et * 8) (x := C) (fun i hi => by rw [cell_of_block hA]; have := hWC.th et i hte hi; rwa [w5_th] at this)
    clear hA hWC
    go_wp2_with fail
    refine wp_ext_draw 9 mixed (by kernel_rfl) ?_
    simp only [List.take_succ_cons, List.take_zero, List.drop_succ_cons, List.drop_zero]
    repeat ((first | ((apply TextRun.go rfl rfl rfl); (focus (intro w1 hS K hK; have hc := bcell hS; have hs := blt hS; have e0 := keep hS e0; have e1 := keep hS e1; have e2 := keep hS e2; have f0 := keep hS f0; have f1 := keep hS f1; have f2 := keep hS f2; have f3 := keep hS f3; have f4 := keep hS f4; have f5 := keep hS f5; have f6 := keep hS f6; have f7 := keep hS f7; go_wp2_with (fail); first | done | exact hS | exact hS.trans (hb.mono hS.size)))) | (refine TextRun.skip rfl ?_) | ((refine TextRun.wantedT rfl rfl rfl ?_); (apply Exists.intro); (apply And.intro); (focus (intro w1 hS K hK; have hc := bcell hS; have hs := blt hS; have e0 := keep hS e0; have e1 := keep hS e1; have e2 := keep hS e2; have f0 := keep hS f0; have f1 := keep hS f1; have f2 := keep hS f2; have f3 := keep hS f3; have f4 := keep hS f4; have f5 := keep hS f5; have f6 := keep hS f6; have f7 := keep hS f7; go_wp2_with (fail); first | done | exact hS | exact hS.trans (hb.mono hS.size))))); (simp only [Act.put, List.setIfInBounds_toArray, List.set_cons_zero, List.set_cons_succ]))
    refine TextRun.done ?_
    intro yb hb
    have HS6 := Lib.hid (HS5.out.below hb)
    clear hb HS5 e0 e1 e2 e3 e4 f0 f1 f2 f3 f4 f5 f6 f7
    obtain ⟨A, hA, hWC⟩ := HS6.out.wa
    have hsz := hWC.size
    refine wpList_store_part rfl 89 (.tmp 111) (.tmp 108) rfl b (129 + eo * 8) #[.int .i64 (C 0), .int .i64 (C 1), .int .i64 (C 2), .int .i64 (C 3), .int .i64 (C 4), .int .i64 (C 5), .int .i64 (C 6), .int .i64 (C 7)] rfl rfl 95 A _ hA cntSize (by simp; omega) (by simp [Value.oneCell']) rfl ?_
    have HS7 : Hid (WSt w (yb.setRow b (patch (129 + eo * 8) #[.int .i64 (C 0), .int .i64 (C 1), .int .i64 (C 2), .int .i64 (C 3), .int .i64 (C 4), .int .i64 (C 5), .int .i64 (C 6), .int .i64 (C 7)].toList 0 A)) b w.heap.size ⟨(et : Int), 3, (eo : Int), xv, 0⟩ p (setAw { rcT (setTh W et C) 3 eo et C with cnt := W.cnt + (if false = true then 1 else 0) } eo C) B lb vl va vl' va' (addS S ⟨(et : Int), 3, (eo : Int), xv, 0⟩)) :=
      HS6.out.step (Wrote.of_grown (setRow_wrote _ _ _) (fun k hk => (Option.some.inj hk).symm)) ⟨_, setRow_heap _ _ _ _ _ _ hA, hWC.setAw heo (same8_all (by omega))⟩
    clear hA hWC hsz HS6
    revert HS7
    generalize yb.setRow b (patch (129 + eo * 8) #[.int .i64 (C 0), .int .i64 (C 1), .int .i64 (C 2), .int .i64 (C 3), .int .i64 (C 4), .int .i64 (C 5), .int .i64 (C 6), .int .i64 (C 7)].toList 0 A) = yc
    intro HS7
    have Hq : Hid (WAddPost b p W B lb vl va S ⟨(et : Int), 3, (eo : Int), xv, 0⟩ w (.returned (.tuple #[.bool false, .int .i64 0])) yc) :=
      ⟨vl', va', HS7.out.lo, HS7.out.wr, Hsub.out, .inr ⟨Hz.out, by rw [Hrr.out], HS7.out.wa.same (fin_aw HC.out HR9.out)⟩⟩
    obtain ⟨e0, e1, e2, e3, e4⟩ := HS7.out.ev.all
    clear HS7
    go_wp2
    go_returns
    exact Hq.out
  case true =>
    obtain ⟨A, hA, hWC⟩ := HS4.out.wa
    have cc : y9.cell? ⟨b, 321, none⟩ = some (.int .i64 W.cnt) := by rw [cell_of_block hA, hWC.cnt, rcT_cntv]
    have fc : y9.frozen? ⟨b, 321, none⟩ = false := free_of_block hA
    have HS5 : Hid (WSt w (y9.setCell ⟨b, 321, none⟩ (.int .i64 (W.cnt + 1))) b w.heap.size ⟨(et : Int), 3, (eo : Int), xv, 0⟩ p { rcT (setTh W et C) 3 eo et C with cnt := W.cnt + (if true = true then 1 else 0) } B lb vl va vl' va' (addS S ⟨(et : Int), 3, (eo : Int), xv, 0⟩)) :=
      HS4.out.step (Wrote.setCell (R := fun q => q = b) y9 (p := ⟨b, 321, none⟩) _ rfl) ⟨_, heap_set hA _, hWC.setCnt (W.cnt + 1)⟩
    clear hA hWC HS4
    go_upto_region 17 with (fail)
    revert HS5
    generalize y9.setCell ⟨b, 321, none⟩ (.int .i64 (W.cnt + 1)) = ya
    intro HS5
    clear cc fc
    obtain ⟨e0, e1, e2, e3, e4⟩ := HS5.out.ev.all
    obtain ⟨A, hA, hWC⟩ := HS5.out.wa
    obtain ⟨f0, f1, f2, f3, f4, f5, f6, f7⟩ := eight (w := ya) (b := b) (off := 1 + et * 8) (x := C) (fun i hi => by rw [cell_of_block hA]; have := hWC.th et i hte hi; rwa [w5_th] at this)
    clear hA hWC
    go_wp2_with fail
    refine wp_ext_draw 9 mixed (by kernel_rfl) ?_
    simp only [List.take_succ_cons, List.take_zero, List.drop_succ_cons, List.drop_zero]
    repeat ((first | ((apply TextRun.go rfl rfl rfl); (focus (intro w1 hS K hK; have hc := bcell hS; have hs := blt hS; have e0 := keep hS e0; have e1 := keep hS e1; have e2 := keep hS e2; have f0 := keep hS f0; have f1 := keep hS f1; have f2 := keep hS f2; have f3 := keep hS f3; have f4 := keep hS f4; have f5 := keep hS f5; have f6 := keep hS f6; have f7 := keep hS f7; go_wp2_with (fail); first | done | exact hS | exact hS.trans (hb.mono hS.size)))) | (refine TextRun.skip rfl ?_) | ((refine TextRun.wantedT rfl rfl rfl ?_); (apply Exists.intro); (apply And.intro); (focus (intro w1 hS K hK; have hc := bcell hS; have hs := blt hS; have e0 := keep hS e0; have e1 := keep hS e1; have e2 := keep hS e2; have f0 := keep hS f0; have f1 := keep hS f1; have f2 := keep hS f2; have f3 := keep hS f3; have f4 := keep hS f4; have f5 := keep hS f5; have f6 := keep hS f6; have f7 := keep hS f7; go_wp2_with (fail); first | done | exact hS | exact hS.trans (hb.mono hS.size))))); (simp only [Act.put, List.setIfInBounds_toArray, List.set_cons_zero, List.set_cons_succ]))
    refine TextRun.done ?_
    intro yb hb
    have HS6 := Lib.hid (HS5.out.below hb)
    clear hb HS5 e0 e1 e2 e3 e4 f0 f1 f2 f3 f4 f5 f6 f7
    obtain ⟨A, hA, hWC⟩ := HS6.out.wa
    have hsz := hWC.size
    refine wpList_store_part rfl 89 (.tmp 111) (.tmp 108) rfl b (129 + eo * 8) #[.int .i64 (C 0), .int .i64 (C 1), .int .i64 (C 2), .int .i64 (C 3), .int .i64 (C 4), .int .i64 (C 5), .int .i64 (C 6), .int .i64 (C 7)] rfl rfl 95 A _ hA cntSize (by simp; omega) (by simp [Value.oneCell']) rfl ?_
    have HS7 : Hid (WSt w (yb.setRow b (patch (129 + eo * 8) #[.int .i64 (C 0), .int .i64 (C 1), .int .i64 (C 2), .int .i64 (C 3), .int .i64 (C 4), .int .i64 (C 5), .int .i64 (C 6), .int .i64 (C 7)].toList 0 A)) b w.heap.size ⟨(et : Int), 3, (eo : Int), xv, 0⟩ p (setAw { rcT (setTh W et C) 3 eo et C with cnt := W.cnt + (if true = true then 1 else 0) } eo C) B lb vl va vl' va' (addS S ⟨(et : Int), 3, (eo : Int), xv, 0⟩)) :=
      HS6.out.step (Wrote.of_grown (setRow_wrote _ _ _) (fun k hk => (Option.some.inj hk).symm)) ⟨_, setRow_heap _ _ _ _ _ _ hA, hWC.setAw heo (same8_all (by omega))⟩
    clear hA hWC hsz HS6
    revert HS7
    generalize yb.setRow b (patch (129 + eo * 8) #[.int .i64 (C 0), .int .i64 (C 1), .int .i64 (C 2), .int .i64 (C 3), .int .i64 (C 4), .int .i64 (C 5), .int .i64 (C 6), .int .i64 (C 7)].toList 0 A) = yc
    intro HS7
    have Hq : Hid (WAddPost b p W B lb vl va S ⟨(et : Int), 3, (eo : Int), xv, 0⟩ w (.returned (.tuple #[.bool true, .int .i64 0])) yc) :=
      ⟨vl', va', HS7.out.lo, HS7.out.wr, Hsub.out, .inr ⟨Hz.out, by rw [Hrr.out], HS7.out.wa.same (fin_aw HC.out HR9.out)⟩⟩
    obtain ⟨e0, e1, e2, e3, e4⟩ := HS7.out.ev.all
    clear HS7
    go_wp2
    go_returns
    exact Hq.out
set_option maxRecDepth 20000 in
set_option maxHeartbeats 16000000 in
theorem wadd_k7 {w : World} {B lb b : Nat} {vl va p : Value} {S : LogS} {W : Wch} (h : LogAt w B lb vl va S) (hp : p = .pointer (some ⟨lb, 0, none⟩)) (hW : WatchAt w b p W) (et eo : Nat) (hte : et < 8) (heo : eo < 8) (xv : Int) (hcap : (S.l.length + 1) * 40 ≤ 140737488355328)
    (hz : addE S ⟨(et : Int), 7, (eo : Int), xv, 0⟩ = 0) (hbd : 0 ≤ wJ W ⟨(et : Int), 7, (eo : Int), xv, 0⟩ et ∧ wJ W ⟨(et : Int), 7, (eo : Int), xv, 0⟩ et ≤ 1000) (hct : 0 ≤ W.cnt ∧ W.cnt ≤ 1000) :
    Calls Try.prog 22 #[.pointer (some ⟨b, 0, none⟩), .agg #[.int .i64 (et : Int), .int .i64 7, .int .i64 (eo : Int), .int .i64 xv, .int .i64 0]] w (WAddPost b p W B lb vl va S ⟨(et : Int), 7, (eo : Int), xv, 0⟩ w) := by
  have HL := Lib.hid h
  have HW := Lib.hid hW
  have Hp := Lib.hid hp
  clear h hW hp
  have Hz := Lib.hid hz
  obtain ⟨J, hJ⟩ : ∃ J, J = wJ W (⟨(et : Int), 7, (eo : Int), xv, 0⟩ : Ev) := ⟨_, rfl⟩
  have HJ : Hid (J = fun i => max (W.th et i) (W.th eo i)) := by rw [Hid, hJ]; unfold wJ; simp [joinW]; try rfl
  have hb0 : 0 ≤ J et ∧ J et ≤ 1000 := by rw [hJ]; exact hbd
  have hwr : RowKit.wrap64 (J et + 1) = J et + 1 := wrap64_fit (by omega) (by omega)
  have hwc : RowKit.wrap64 (W.cnt + 1) = W.cnt + 1 := wrap64_fit (by omega) (by omega)
  obtain ⟨C, hC⟩ : ∃ C, C = upd J et (J et + 1) := ⟨_, rfl⟩
  have HCj := Lib.hid hC
  have HC : Hid (wC W (⟨(et : Int), 7, (eo : Int), xv, 0⟩ : Ev) = C) := by rw [Hid, hC, hJ]; rfl
  obtain ⟨r, hr⟩ : ∃ r, r = rcW (setTh W et C) 7 eo et C := ⟨_, rfl⟩
  have HR : Hid (rcW (setTh W et C) 7 eo et C = r) := hr.symm
  have HR9 : Hid (wRc W (⟨(et : Int), 7, (eo : Int), xv, 0⟩ : Ev) = r) := by rw [Hid, hr]; exact rc_is HC.out
  have Hrr := HR9
  clear hz hJ hC hr hb0 hbd hct
  go_enter Try.func22, Try.ntmps22
  go_wp2_with fail
  have hN := one_newC w #[.int .i64 (et : Int), .int .i64 7, .int .i64 (eo : Int), .int .i64 xv, .int .i64 0] 38
  revert hN
  generalize w.alloc (.cells #[.int .i64 (et : Int), .int .i64 7, .int .i64 (eo : Int), .int .i64 xv, .int .i64 0] 38) = y0
  intro hN
  have HE0 : Hid (EvBox y0 w.heap.size (et : Int) 7 (eo : Int) xv 0) := ⟨cell_of_block hN.1, cell_of_block hN.1, cell_of_block hN.1, cell_of_block hN.1, cell_of_block hN.1⟩
  have HB0 := Lib.hid hN.2
  clear hN
  obtain ⟨e0, e1, e2, e3, e4⟩ := HE0.out.all
  refine wp_ext_draw 4 mixed (by kernel_rfl) ?_
  simp only [List.take_succ_cons, List.take_zero, List.drop_succ_cons, List.drop_zero]
  repeat ((first | ((apply TextRun.go rfl rfl rfl); (focus (intro w1 hS K hK; have hc := bcell hS; have hs := blt hS; have e0 := keep hS e0; have e1 := keep hS e1; have e2 := keep hS e2; have e3 := keep hS e3; have e4 := keep hS e4; go_wp2_with (fail); first | done | exact hS | exact hS.trans (hb.mono hS.size)))) | (refine TextRun.skip rfl ?_) | ((refine TextRun.wantedT rfl rfl rfl ?_); (apply Exists.intro); (apply And.intro); (focus (intro w1 hS K hK; have hc := bcell hS; have hs := blt hS; have e0 := keep hS e0; have e1 := keep hS e1; have e2 := keep hS e2; have e3 := keep hS e3; have e4 := keep hS e4; go_wp2_with (fail); first | done | exact hS | exact hS.trans (hb.mono hS.size))))); (simp only [Act.put, List.setIfInBounds_toArray, List.set_cons_zero, List.set_cons_succ]))
  refine TextRun.done ?_
  intro y1 hb
  have HB1 := Lib.hid (HB0.out.trans (hb.mono HB0.out.size))
  have HE1 := Lib.hid (HE0.out.below hb)
  clear hb HB0 HE0 e0 e1 e2 e3 e4
  have Htk := Lib.hid (take_calls (b := b) (HL.out.below HB1.out) (by obtain ⟨A, hA, hWC⟩ := HW.out.below HB1.out; rw [cell_of_block hA, hWC.log, Hp.out]) ⟨(et : Int), 7, (eo : Int), xv, 0⟩ hcap)
  go_wp2_with fail
  refine Htk.out.mono ?_
  rintro e y2 ⟨vl', va', rfl, hL2, hW2, hsub⟩
  rw [Hz.out]
  have HS0 : Hid (WSt w y2 b w.heap.size ⟨(et : Int), 7, (eo : Int), xv, 0⟩ p W B lb vl va vl' va' (addS S ⟨(et : Int), 7, (eo : Int), xv, 0⟩)) := by
    refine ⟨HE1.out.wrote hW2 (fun hq => by have := HL.out.rlt _ hq; omega), (HW.out.below HB1.out).wrote hW2 (watch_ne (HL.out.below HB1.out) (HW.out.below HB1.out)), hL2, ?_, fun e => by have := HW.out.lt; omega⟩
    exact (Wrote.of_below (R := fun q => q = b ∨ logR lb vl va q) HB1.out).trans hW2 (fun q hq => .inl (.inr hq))
  have Hsub : Hid (∀ k, logR lb vl' va' k → logR lb vl va k ∨ w.heap.size ≤ k) := fun k hk => (hsub k hk).imp id (fun h2 => Nat.le_trans HB1.out.size h2)
  clear hL2 hW2 hsub Htk HE1 HB1
  obtain ⟨e0, e1, e2, e3, e4⟩ := HS0.out.ev.all
  go_wp2_with fail
  refine wp_ext_draw 7 mixed (by kernel_rfl) ?_
  simp only [List.take_succ_cons, List.take_zero, List.drop_succ_cons, List.drop_zero]
  repeat ((first | ((apply TextRun.go rfl rfl rfl); (focus (intro w1 hS K hK; have hc := bcell hS; have hs := blt hS; have e0 := keep hS e0; have e1 := keep hS e1; have e2 := keep hS e2; have e3 := keep hS e3; have e4 := keep hS e4; go_wp2_with (fail); first | done | exact hS | exact hS.trans (hb.mono hS.size)))) | (refine TextRun.skip rfl ?_) | ((refine TextRun.wantedT rfl rfl rfl ?_); (apply Exists.intro); (apply And.intro); (focus (intro w1 hS K hK; have hc := bcell hS; have hs := blt hS; have e0 := keep hS e0; have e1 := keep hS e1; have e2 := keep hS e2; have e3 := keep hS e3; have e4 := keep hS e4; go_wp2_with (fail); first | done | exact hS | exact hS.trans (hb.mono hS.size))))); (simp only [Act.put, List.setIfInBounds_toArray, List.set_cons_zero, List.set_cons_succ]))
  refine TextRun.done ?_
  intro y3 hb
  have HS := Lib.hid (HS0.out.below hb)
  clear hb HS0 e0 e1 e2 e3 e4
  obtain ⟨e0, e1, e2, e3, e4⟩ := HS.out.ev.all
  obtain ⟨A, hA, hWC⟩ := HS.out.wa
  obtain ⟨f0, f1, f2, f3, f4, f5, f6, f7⟩ := eight (w := y3) (b := b) (off := 1 + eo * 8) (x := W.th eo) (fun i hi => by rw [cell_of_block hA]; exact hWC.th eo i heo hi)
  clear hA hWC
  go_wp2_with fail
  refine wp_ext_draw 8 mixed (by kernel_rfl) ?_
  simp only [List.take_succ_cons, List.take_zero, List.drop_succ_cons, List.drop_zero]
  repeat ((first | ((apply TextRun.go rfl rfl rfl); (focus (intro w1 hS K hK; have hc := bcell hS; have hs := blt hS; have e0 := keep hS e0; have e1 := keep hS e1; have e2 := keep hS e2; have e3 := keep hS e3; have e4 := keep hS e4; have f0 := keep hS f0; have f1 := keep hS f1; have f2 := keep hS f2; have f3 := keep hS f3; have f4 := keep hS f4; have f5 := keep hS f5; have f6 := keep hS f6; have f7 := keep hS f7; go_wp2_with (fail); first | done | exact hS | exact hS.trans (hb.mono hS.size)))) | (refine TextRun.skip rfl ?_) | ((refine TextRun.wantedT rfl rfl rfl ?_); (apply Exists.intro); (apply And.intro); (focus (intro w1 hS K hK; have hc := bcell hS; have hs := blt hS; have e0 := keep hS e0; have e1 := keep hS e1; have e2 := keep hS e2; have e3 := keep hS e3; have e4 := keep hS e4; have f0 := keep hS f0; have f1 := keep hS f1; have f2 := keep hS f2; have f3 := keep hS f3; have f4 := keep hS f4; have f5 := keep hS f5; have f6 := keep hS f6; have f7 := keep hS f7; go_wp2_with (fail); first | done | exact hS | exact hS.trans (hb.mono hS.size))))); (simp only [Act.put, List.setIfInBounds_toArray, List.set_cons_zero, List.set_cons_succ]))
  refine TextRun.done ?_
  intro y4 hb
  have HSa := Lib.hid (HS.out.below hb)
  clear hb HS e0 e1 e2 e3 e4 f0 f1 f2 f3 f4 f5 f6 f7
  obtain ⟨A, hA, hWC⟩ := HSa.out.wa
  have Hj := Lib.hid (wjoin_calls (w := y4) (b := b) (off := 1 + et * 8) (A := A) (W.th et) (W.th eo) hA (by have := hWC.size; omega) (fun i hi => hWC.th et i hte hi))
  have HWC := Lib.hid hWC
  clear hA hWC
  go_wp2_with fail
  refine Hj.out.mono ?_
  rintro e y5 ⟨rfl, A', hA', hS8, hw⟩
  have HT : Hid (WSt w y5 b w.heap.size ⟨(et : Int), 7, (eo : Int), xv, 0⟩ p (setTh W et J) B lb vl va vl' va' (addS S ⟨(et : Int), 7, (eo : Int), xv, 0⟩)) := by
    rw [Hid, HJ.out]
    exact HSa.out.step hw ⟨A', hA', HWC.out.setTh hte hS8⟩
  clear hA' hS8 hw Hj HWC HSa
  obtain ⟨e0, e1, e2, e3, e4⟩ := HT.out.ev.all
  obtain ⟨A, hA, hWC⟩ := HT.out.wa
  have cc : y5.cell? ⟨b, 1 + et * 8 + et, none⟩ = some (.int .i64 (J et)) := by
    rw [cell_of_block hA]
    have := hWC.th et et hte hte
    rwa [setTh_at] at this
  have fc : y5.frozen? ⟨b, 1 + et * 8 + et, none⟩ = false := free_of_block hA
  have HA := Lib.hid (And.intro hA hWC)
  clear hA hWC
  go_wp2_with fail
  refine wp_ext_draw 9 mixed (by kernel_rfl) ?_
  simp only [List.take_succ_cons, List.take_zero, List.drop_succ_cons, List.drop_zero]
  repeat ((first | ((apply TextRun.go rfl rfl rfl); (focus (intro w1 hS K hK; have hc := bcell hS; have hs := blt hS; have e0 := keep hS e0; have e1 := keep hS e1; have e2 := keep hS e2; have cc := keep hS cc; go_wp2_with (fail); first | done | exact hS | exact hS.trans (hb.mono hS.size)))) | (refine TextRun.skip rfl ?_) | ((refine TextRun.wantedT rfl rfl rfl ?_); (apply Exists.intro); (apply And.intro); (focus (intro w1 hS K hK; have hc := bcell hS; have hs := blt hS; have e0 := keep hS e0; have e1 := keep hS e1; have e2 := keep hS e2; have cc := keep hS cc; go_wp2_with (fail); first | done | exact hS | exact hS.trans (hb.mono hS.size))))); (simp only [Act.put, List.setIfInBounds_toArray, List.set_cons_zero, List.set_cons_succ]))
  refine TextRun.done ?_
  intro y6 hb
  have fc : y6.frozen? ⟨b, 1 + et * 8 + et, none⟩ = false := (hb.frozen (p := ⟨b, 1 + et * 8 + et, none⟩) (Array.getElem?_eq_some_iff.1 HA.out.1).1).trans fc
  have cc := keep hb cc
  have HT2 : Hid (WSt w (y6.setCell ⟨b, 1 + et * 8 + et, none⟩ (.int .i64 (J et + 1))) b w.heap.size ⟨(et : Int), 7, (eo : Int), xv, 0⟩ p (setTh W et C) B lb vl va vl' va' (addS S ⟨(et : Int), 7, (eo : Int), xv, 0⟩)) := by
    have hA2 := (hb.block b (Array.getElem?_eq_some_iff.1 HA.out.1).1).trans HA.out.1
    have hsz := HA.out.2.size
    have h8 := same8_one (A := A) (off := 1 + et * 8) (t := et) (x := J) (J et + 1) (by omega) hte (fun i hi => by have := HA.out.2.th et i hte hi; rwa [setTh_at] at this)
    have h9 := HA.out.2.setTh hte h8
    rw [setTh_twice] at h9
    rw [Hid, HCj.out]
    exact (HT.out.below hb).step (Wrote.setCell (R := fun q => q = b) y6 (p := ⟨b, 1 + et * 8 + et, none⟩) _ rfl) ⟨_, heap_set hA2 _, h9⟩
  clear hb HA HT e0 e1 e2 e3 e4
  obtain ⟨e0, e1, e2, e3, e4⟩ : y6.cell? ⟨w.heap.size, 0, none⟩ = y6.cell? ⟨w.heap.size, 0, none⟩ ∧ True ∧ True ∧ True ∧ True := ⟨rfl, trivial, trivial, trivial, trivial⟩
  clear e0 e1 e2 e3 e4
  go_wp2_with fail
  revert HT2
  generalize y6.setCell ⟨b, 1 + et * 8 + et, none⟩ (.int .i64 (J et + 1)) = y7
  intro HT2
  clear fc cc
  obtain ⟨e0, e1, e2, e3, e4⟩ := HT2.out.ev.all
  obtain ⟨A, hA, hWC⟩ := HT2.out.wa
  obtain ⟨f0, f1, f2, f3, f4, f5, f6, f7⟩ := eight (w := y7) (b := b) (off := 1 + et * 8) (x := C) (fun i hi => by rw [cell_of_block hA]; have := hWC.th et i hte hi; rwa [setTh_at] at this)
  clear hA hWC
  refine wp_ext_draw 5 mixed (by kernel_rfl) ?_
  simp only [List.take_succ_cons, List.take_zero, List.drop_succ_cons, List.drop_zero]
  repeat ((first | ((apply TextRun.go rfl rfl rfl); (focus (intro w1 hS K hK; have hc := bcell hS; have hs := blt hS; have e0 := keep hS e0; have e1 := keep hS e1; have e2 := keep hS e2; have e3 := keep hS e3; have e4 := keep hS e4; have f0 := keep hS f0; have f1 := keep hS f1; have f2 := keep hS f2; have f3 := keep hS f3; have f4 := keep hS f4; have f5 := keep hS f5; have f6 := keep hS f6; have f7 := keep hS f7; go_wp2_with (fail); first | done | exact hS | exact hS.trans (hb.mono hS.size)))) | (refine TextRun.skip rfl ?_) | ((refine TextRun.wantedT rfl rfl rfl ?_); (apply Exists.intro); (apply And.intro); (focus (intro w1 hS K hK; have hc := bcell hS; have hs := blt hS; have e0 := keep hS e0; have e1 := keep hS e1; have e2 := keep hS e2; have e3 := keep hS e3; have e4 := keep hS e4; have f0 := keep hS f0; have f1 := keep hS f1; have f2 := keep hS f2; have f3 := keep hS f3; have f4 := keep hS f4; have f5 := keep hS f5; have f6 := keep hS f6; have f7 := keep hS f7; go_wp2_with (fail); first | done | exact hS | exact hS.trans (hb.mono hS.size))))); (simp only [Act.put, List.setIfInBounds_toArray, List.set_cons_zero, List.set_cons_succ]))
  refine TextRun.done ?_
  intro y8 hb
  have HS3 := Lib.hid (HT2.out.below hb)
  clear hb HT2 e0 e1 e2 e3 e4 f0 f1 f2 f3 f4 f5 f6 f7
  go_wp2_with fail
  refine (raced_calls HS3.out.wa et eo 7 xv 0 hte (fun _ => heo) C).mono ?_
  rintro e y9 ⟨rfl, hW4, hw4⟩
  have HS4 := Lib.hid (HS3.out.step hw4 hW4)
  clear hW4 hw4 HS3
  rw [HR.out]
  cases r
  case false =>
    have HS5 : Hid (WSt w y9 b w.heap.size ⟨(et : Int), 7, (eo : Int), xv, 0⟩ p { rcT (setTh W et C) 7 eo et C with cnt := W.cnt + (if false = true then 1 else 0) } B lb vl va vl' va' (addS S ⟨(et : Int), 7, (eo : Int), xv, 0⟩)) := HS4.out.same (rcT_cnt W et C 7 eo)
    clear HS4
    have Hq : Hid (WAddPost b p W B lb vl va S ⟨(et : Int), 7, (eo : Int), xv, 0⟩ w (.returned (.tuple #[.bool false, .int .i64 0])) y9) :=
      ⟨vl', va', HS5.out.lo, HS5.out.wr, Hsub.out, .inr ⟨Hz.out, by rw [Hrr.out], HS5.out.wa.same (fin_no HC.out HR9.out (.inr (by decide)))⟩⟩
    obtain ⟨e0, e1, e2, e3, e4⟩ := HS5.out.ev.all
    clear HS5
    go_wp2
    go_returns
    exact Hq.out
  case true =>
    obtain ⟨A, hA, hWC⟩ := HS4.out.wa
    have cc : y9.cell? ⟨b, 321, none⟩ = some (.int .i64 W.cnt) := by rw [cell_of_block hA, hWC.cnt, rcT_cntv]
    have fc : y9.frozen? ⟨b, 321, none⟩ = false := free_of_block hA
    have HS5 : Hid (WSt w (y9.setCell ⟨b, 321, none⟩ (.int .i64 (W.cnt + 1))) b w.heap.size ⟨(et : Int), 7, (eo : Int), xv, 0⟩ p { rcT (setTh W et C) 7 eo et C with cnt := W.cnt + (if true = true then 1 else 0) } B lb vl va vl' va' (addS S ⟨(et : Int), 7, (eo : Int), xv, 0⟩)) :=
      HS4.out.step (Wrote.setCell (R := fun q => q = b) y9 (p := ⟨b, 321, none⟩) _ rfl) ⟨_, heap_set hA _, hWC.setCnt (W.cnt + 1)⟩
    clear hA hWC HS4
    go_upto_region 17 with (fail)
    revert HS5
    generalize y9.setCell ⟨b, 321, none⟩ (.int .i64 (W.cnt + 1)) = ya
    intro HS5
    clear cc fc
    have Hq : Hid (WAddPost b p W B lb vl va S ⟨(et : Int), 7, (eo : Int), xv, 0⟩ w (.returned (.tuple #[.bool true, .int .i64 0])) ya) :=
      ⟨vl', va', HS5.out.lo, HS5.out.wr, Hsub.out, .inr ⟨Hz.out, by rw [Hrr.out], HS5.out.wa.same (fin_no HC.out HR9.out (.inr (by decide)))⟩⟩
    obtain ⟨e0, e1, e2, e3, e4⟩ := HS5.out.ev.all
    clear HS5
    go_wp2
    go_returns
    exact Hq.out
set_option maxRecDepth 20000 in
set_option maxHeartbeats 16000000 in
theorem wadd_k5 {w : World} {B lb b : Nat} {vl va p : Value} {S : LogS} {W : Wch} (h : LogAt w B lb vl va S) (hp : p = .pointer (some ⟨lb, 0, none⟩)) (hW : WatchAt w b p W) (et eo : Nat) (hte : et < 8) (heo : eo < 8) (xv : Int) (hcap : (S.l.length + 1) * 40 ≤ 140737488355328)
    (hz : addE S ⟨(et : Int), 5, (eo : Int), xv, 0⟩ = 0) (hbd : 0 ≤ wJ W ⟨(et : Int), 5, (eo : Int), xv, 0⟩ et ∧ wJ W ⟨(et : Int), 5, (eo : Int), xv, 0⟩ et ≤ 1000) (hct : 0 ≤ W.cnt ∧ W.cnt ≤ 1000) :
    Calls Try.prog 22 #[.pointer (some ⟨b, 0, none⟩), .agg #[.int .i64 (et : Int), .int .i64 5, .int .i64 (eo : Int), .int .i64 xv, .int .i64 0]] w (WAddPost b p W B lb vl va S ⟨(et : Int), 5, (eo : Int), xv, 0⟩ w) := by
  have HL := Lib.hid h
  have HW := Lib.hid hW
  have Hp := Lib.hid hp
  clear h hW hp
  have Hz := Lib.hid hz
  obtain ⟨J, hJ⟩ : ∃ J, J = wJ W (⟨(et : Int), 5, (eo : Int), xv, 0⟩ : Ev) := ⟨_, rfl⟩
  have HJ : Hid (J = W.th et) := by rw [Hid, hJ]; unfold wJ; simp [joinW]; try rfl
  have hb0 : 0 ≤ J et ∧ J et ≤ 1000 := by rw [hJ]; exact hbd
  have hwr : RowKit.wrap64 (J et + 1) = J et + 1 := wrap64_fit (by omega) (by omega)
  have hwc : RowKit.wrap64 (W.cnt + 1) = W.cnt + 1 := wrap64_fit (by omega) (by omega)
  obtain ⟨C, hC⟩ : ∃ C, C = upd J et (J et + 1) := ⟨_, rfl⟩
  have HCj := Lib.hid hC
  have HC : Hid (wC W (⟨(et : Int), 5, (eo : Int), xv, 0⟩ : Ev) = C) := by rw [Hid, hC, hJ]; rfl
  obtain ⟨r, hr⟩ : ∃ r, r = rcW (setTh W et C) 5 eo et C := ⟨_, rfl⟩
  have HR : Hid (rcW (setTh W et C) 5 eo et C = r) := hr.symm
  have HR9 : Hid (wRc W (⟨(et : Int), 5, (eo : Int), xv, 0⟩ : Ev) = r) := by rw [Hid, hr]; exact rc_is HC.out
  have Hrr := HR9
  clear hz hJ hC hr hb0 hbd hct
  go_enter Try.func22, Try.ntmps22
  go_wp2_with fail
  have hN := one_newC w #[.int .i64 (et : Int), .int .i64 5, .int .i64 (eo : Int), .int .i64 xv, .int .i64 0] 38
  revert hN
  generalize w.alloc (.cells #[.int .i64 (et : Int), .int .i64 5, .int .i64 (eo : Int), .int .i64 xv, .int .i64 0] 38) = y0
  intro hN
  have HE0 : Hid (EvBox y0 w.heap.size (et : Int) 5 (eo : Int) xv 0) := ⟨cell_of_block hN.1, cell_of_block hN.1, cell_of_block hN.1, cell_of_block hN.1, cell_of_block hN.1⟩
  have HB0 := Lib.hid hN.2
  clear hN
  obtain ⟨e0, e1, e2, e3, e4⟩ := HE0.out.all
  refine wp_ext_draw 4 mixed (by kernel_rfl) ?_
  simp only [List.take_succ_cons, List.take_zero, List.drop_succ_cons, List.drop_zero]
  repeat ((first | ((apply TextRun.go rfl rfl rfl); (focus (intro w1 hS K hK; have hc := bcell hS; have hs := blt hS; have e0 := keep hS e0; have e1 := keep hS e1; have e2 := keep hS e2; have e3 := keep hS e3; have e4 := keep hS e4; go_wp2_with (fail); first | done | exact hS | exact hS.trans (hb.mono hS.size)))) | (refine TextRun.skip rfl ?_) | ((refine TextRun.wantedT rfl rfl rfl ?_); (apply Exists.intro); (apply And.intro); (focus (intro w1 hS K hK; have hc := bcell hS; have hs := blt hS; have e0 := keep hS e0; have e1 := keep hS e1; have e2 := keep hS e2; have e3 := keep hS e3; have e4 := keep hS e4; go_wp2_with (fail); first | done | exact hS | exact hS.trans (hb.mono hS.size))))); (simp only [Act.put, List.setIfInBounds_toArray, List.set_cons_zero, List.set_cons_succ]))
  refine TextRun.done ?_
  intro y1 hb
  have HB1 := Lib.hid (HB0.out.trans (hb.mono HB0.out.size))
  have HE1 := Lib.hid (HE0.out.below hb)
  clear hb HB0 HE0 e0 e1 e2 e3 e4
  have Htk := Lib.hid (take_calls (b := b) (HL.out.below HB1.out) (by obtain ⟨A, hA, hWC⟩ := HW.out.below HB1.out; rw [cell_of_block hA, hWC.log, Hp.out]) ⟨(et : Int), 5, (eo : Int), xv, 0⟩ hcap)
  go_wp2_with fail
  refine Htk.out.mono ?_
  rintro e y2 ⟨vl', va', rfl, hL2, hW2, hsub⟩
  rw [Hz.out]
  have HS0 : Hid (WSt w y2 b w.heap.size ⟨(et : Int), 5, (eo : Int), xv, 0⟩ p W B lb vl va vl' va' (addS S ⟨(et : Int), 5, (eo : Int), xv, 0⟩)) := by
    refine ⟨HE1.out.wrote hW2 (fun hq => by have := HL.out.rlt _ hq; omega), (HW.out.below HB1.out).wrote hW2 (watch_ne (HL.out.below HB1.out) (HW.out.below HB1.out)), hL2, ?_, fun e => by have := HW.out.lt; omega⟩
    exact (Wrote.of_below (R := fun q => q = b ∨ logR lb vl va q) HB1.out).trans hW2 (fun q hq => .inl (.inr hq))
  have Hsub : Hid (∀ k, logR lb vl' va' k → logR lb vl va k ∨ w.heap.size ≤ k) := fun k hk => (hsub k hk).imp id (fun h2 => Nat.le_trans HB1.out.size h2)
  clear hL2 hW2 hsub Htk HE1 HB1
  obtain ⟨e0, e1, e2, e3, e4⟩ := HS0.out.ev.all
  go_wp2_with fail
  refine wp_ext_draw 7 mixed (by kernel_rfl) ?_
  simp only [List.take_succ_cons, List.take_zero, List.drop_succ_cons, List.drop_zero]
  repeat ((first | ((apply TextRun.go rfl rfl rfl); (focus (intro w1 hS K hK; have hc := bcell hS; have hs := blt hS; have e0 := keep hS e0; have e1 := keep hS e1; have e2 := keep hS e2; have e3 := keep hS e3; have e4 := keep hS e4; go_wp2_with (fail); first | done | exact hS | exact hS.trans (hb.mono hS.size)))) | (refine TextRun.skip rfl ?_) | ((refine TextRun.wantedT rfl rfl rfl ?_); (apply Exists.intro); (apply And.intro); (focus (intro w1 hS K hK; have hc := bcell hS; have hs := blt hS; have e0 := keep hS e0; have e1 := keep hS e1; have e2 := keep hS e2; have e3 := keep hS e3; have e4 := keep hS e4; go_wp2_with (fail); first | done | exact hS | exact hS.trans (hb.mono hS.size))))); (simp only [Act.put, List.setIfInBounds_toArray, List.set_cons_zero, List.set_cons_succ]))
  refine TextRun.done ?_
  intro y3 hb
  have HS := Lib.hid (HS0.out.below hb)
  clear hb HS0 e0 e1 e2 e3 e4
  obtain ⟨e0, e1, e2, e3, e4⟩ := HS.out.ev.all
  have HT : Hid (WSt w y3 b w.heap.size ⟨(et : Int), 5, (eo : Int), xv, 0⟩ p (setTh W et J) B lb vl va vl' va' (addS S ⟨(et : Int), 5, (eo : Int), xv, 0⟩)) := by
    rw [Hid, HJ.out]
    exact HS.out.same (setTh_self W et)
  clear HS
  obtain ⟨A, hA, hWC⟩ := HT.out.wa
  have cc : y3.cell? ⟨b, 1 + et * 8 + et, none⟩ = some (.int .i64 (J et)) := by
    rw [cell_of_block hA]
    have := hWC.th et et hte hte
    rwa [setTh_at] at this
  have fc : y3.frozen? ⟨b, 1 + et * 8 + et, none⟩ = false := free_of_block hA
  have HA := Lib.hid (And.intro hA hWC)
  clear hA hWC
  go_wp2_with fail
  refine wp_ext_draw 9 mixed (by kernel_rfl) ?_
  simp only [List.take_succ_cons, List.take_zero, List.drop_succ_cons, List.drop_zero]
  repeat ((first | ((apply TextRun.go rfl rfl rfl); (focus (intro w1 hS K hK; have hc := bcell hS; have hs := blt hS; have e0 := keep hS e0; have e1 := keep hS e1; have e2 := keep hS e2; have cc := keep hS cc; go_wp2_with (fail); first | done | exact hS | exact hS.trans (hb.mono hS.size)))) | (refine TextRun.skip rfl ?_) | ((refine TextRun.wantedT rfl rfl rfl ?_); (apply Exists.intro); (apply And.intro); (focus (intro w1 hS K hK; have hc := bcell hS; have hs := blt hS; have e0 := keep hS e0; have e1 := keep hS e1; have e2 := keep hS e2; have cc := keep hS cc; go_wp2_with (fail); first | done | exact hS | exact hS.trans (hb.mono hS.size))))); (simp only [Act.put, List.setIfInBounds_toArray, List.set_cons_zero, List.set_cons_succ]))
  refine TextRun.done ?_
  intro y6 hb
  have fc : y6.frozen? ⟨b, 1 + et * 8 + et, none⟩ = false := (hb.frozen (p := ⟨b, 1 + et * 8 + et, none⟩) (Array.getElem?_eq_some_iff.1 HA.out.1).1).trans fc
  have cc := keep hb cc
  have HT2 : Hid (WSt w (y6.setCell ⟨b, 1 + et * 8 + et, none⟩ (.int .i64 (J et + 1))) b w.heap.size ⟨(et : Int), 5, (eo : Int), xv, 0⟩ p (setTh W et C) B lb vl va vl' va' (addS S ⟨(et : Int), 5, (eo : Int), xv, 0⟩)) := by
    have hA2 := (hb.block b (Array.getElem?_eq_some_iff.1 HA.out.1).1).trans HA.out.1
    have hsz := HA.out.2.size
    have h8 := same8_one (A := A) (off := 1 + et * 8) (t := et) (x := J) (J et + 1) (by omega) hte (fun i hi => by have := HA.out.2.th et i hte hi; rwa [setTh_at] at this)
    have h9 := HA.out.2.setTh hte h8
    rw [setTh_twice] at h9
    rw [Hid, HCj.out]
    exact (HT.out.below hb).step (Wrote.setCell (R := fun q => q = b) y6 (p := ⟨b, 1 + et * 8 + et, none⟩) _ rfl) ⟨_, heap_set hA2 _, h9⟩
  clear hb HA HT e0 e1 e2 e3 e4
  obtain ⟨e0, e1, e2, e3, e4⟩ : y6.cell? ⟨w.heap.size, 0, none⟩ = y6.cell? ⟨w.heap.size, 0, none⟩ ∧ True ∧ True ∧ True ∧ True := ⟨rfl, trivial, trivial, trivial, trivial⟩
  clear e0 e1 e2 e3 e4
  go_wp2_with fail
  revert HT2
  generalize y6.setCell ⟨b, 1 + et * 8 + et, none⟩ (.int .i64 (J et + 1)) = y7
  intro HT2
  clear fc cc
  obtain ⟨e0, e1, e2, e3, e4⟩ := HT2.out.ev.all
  obtain ⟨A, hA, hWC⟩ := HT2.out.wa
  obtain ⟨f0, f1, f2, f3, f4, f5, f6, f7⟩ := eight (w := y7) (b := b) (off := 1 + et * 8) (x := C) (fun i hi => by rw [cell_of_block hA]; have := hWC.th et i hte hi; rwa [setTh_at] at this)
  clear hA hWC
  refine wp_ext_draw 5 mixed (by kernel_rfl) ?_
  simp only [List.take_succ_cons, List.take_zero, List.drop_succ_cons, List.drop_zero]
  repeat ((first | ((apply TextRun.go rfl rfl rfl); (focus (intro w1 hS K hK; have hc := bcell hS; have hs := blt hS; have e0 := keep hS e0; have e1 := keep hS e1; have e2 := keep hS e2; have e3 := keep hS e3; have e4 := keep hS e4; have f0 := keep hS f0; have f1 := keep hS f1; have f2 := keep hS f2; have f3 := keep hS f3; have f4 := keep hS f4; have f5 := keep hS f5; have f6 := keep hS f6; have f7 := keep hS f7; go_wp2_with (fail); first | done | exact hS | exact hS.trans (hb.mono hS.size)))) | (refine TextRun.skip rfl ?_) | ((refine TextRun.wantedT rfl rfl rfl ?_); (apply Exists.intro); (apply And.intro); (focus (intro w1 hS K hK; have hc := bcell hS; have hs := blt hS; have e0 := keep hS e0; have e1 := keep hS e1; have e2 := keep hS e2; have e3 := keep hS e3; have e4 := keep hS e4; have f0 := keep hS f0; have f1 := keep hS f1; have f2 := keep hS f2; have f3 := keep hS f3; have f4 := keep hS f4; have f5 := keep hS f5; have f6 := keep hS f6; have f7 := keep hS f7; go_wp2_with (fail); first | done | exact hS | exact hS.trans (hb.mono hS.size))))); (simp only [Act.put, List.setIfInBounds_toArray, List.set_cons_zero, List.set_cons_succ]))
  refine TextRun.done ?_
  intro y8 hb
  have HS3 := Lib.hid (HT2.out.below hb)
  clear hb HT2 e0 e1 e2 e3 e4 f0 f1 f2 f3 f4 f5 f6 f7
  go_wp2_with fail
  refine (raced_calls HS3.out.wa et eo 5 xv 0 hte (fun _ => heo) C).mono ?_
  rintro e y9 ⟨rfl, hW4, hw4⟩
  have HS4 := Lib.hid (HS3.out.step hw4 hW4)
  clear hW4 hw4 HS3
  rw [HR.out]
  cases r
  case false =>
    have HS5 : Hid (WSt w y9 b w.heap.size ⟨(et : Int), 5, (eo : Int), xv, 0⟩ p { rcT (setTh W et C) 5 eo et C with cnt := W.cnt + (if false = true then 1 else 0) } B lb vl va vl' va' (addS S ⟨(et : Int), 5, (eo : Int), xv, 0⟩)) := HS4.out.same (rcT_cnt W et C 5 eo)
    clear HS4
    obtain ⟨e0, e1, e2, e3, e4⟩ := HS5.out.ev.all
    obtain ⟨A, hA, hWC⟩ := HS5.out.wa
    obtain ⟨f0, f1, f2, f3, f4, f5, f6, f7⟩ := eight (w := y9) (b := b) (off := 1 + et * 8) (x := C) (fun i hi => by rw [cell_of_block hA]; have := hWC.th et i hte hi; rwa [w5_th] at this)
    clear hA hWC
    go_wp2_with fail
    refine wp_ext_draw 9 mixed (by kernel_rfl) ?_
    simp only [List.take_succ_cons, List.take_zero, List.drop_succ_cons, List.drop_zero]
    repeat ((first | ((apply TextRun.go rfl rfl rfl); (focus (intro w1 hS K hK; have hc := bcell hS; have hs := blt hS; have e0 := keep hS e0; have e1 := keep hS e1; have e2 := keep hS e2; have f0 := keep hS f0; have f1 := keep hS f1; have f2 := keep hS f2; have f3 := keep hS f3; have f4 := keep hS f4; have f5 := keep hS f5; have f6 := keep hS f6; have f7 := keep hS f7; go_wp2_with (fail); first | done | exact hS | exact hS.trans (hb.mono hS.size)))) | (refine TextRun.skip rfl ?_) | ((refine TextRun.wantedT rfl rfl rfl ?_); (apply Exists.intro); (apply And.intro); (focus (intro w1 hS K hK; have hc := bcell hS; have hs := blt hS; have e0 := keep hS e0; have e1 := keep hS e1; have e2 := keep hS e2; have f0 := keep hS f0; have f1 := keep hS f1; have f2 := keep hS f2; have f3 := keep hS f3; have f4 := keep hS f4; have f5 := keep hS f5; have f6 := keep hS f6; have f7 := keep hS f7; go_wp2_with (fail); first | done | exact hS | exact hS.trans (hb.mono hS.size))))); (simp only [Act.put, List.setIfInBounds_toArray, List.set_cons_zero, List.set_cons_succ]))
    refine TextRun.done ?_
    intro yb hb
    have HS6 := Lib.hid (HS5.out.below hb)
    clear hb HS5 e0 e1 e2 e3 e4 f0 f1 f2 f3 f4 f5 f6 f7
    obtain ⟨A, hA, hWC⟩ := HS6.out.wa
    have hsz := hWC.size
    refine wpList_store_part rfl 89 (.tmp 100) (.tmp 97) rfl b (65 + eo * 8) #[.int .i64 (C 0), .int .i64 (C 1), .int .i64 (C 2), .int .i64 (C 3), .int .i64 (C 4), .int .i64 (C 5), .int .i64 (C 6), .int .i64 (C 7)] rfl rfl 95 A _ hA cntSize (by simp; omega) (by simp [Value.oneCell']) rfl ?_
    have HS7 : Hid (WSt w (yb.setRow b (patch (65 + eo * 8) #[.int .i64 (C 0), .int .i64 (C 1), .int .i64 (C 2), .int .i64 (C 3), .int .i64 (C 4), .int .i64 (C 5), .int .i64 (C 6), .int .i64 (C 7)].toList 0 A)) b w.heap.size ⟨(et : Int), 5, (eo : Int), xv, 0⟩ p (setMu { rcT (setTh W et C) 5 eo et C with cnt := W.cnt + (if false = true then 1 else 0) } eo C) B lb vl va vl' va' (addS S ⟨(et : Int), 5, (eo : Int), xv, 0⟩)) :=
      HS6.out.step (Wrote.of_grown (setRow_wrote _ _ _) (fun k hk => (Option.some.inj hk).symm)) ⟨_, setRow_heap _ _ _ _ _ _ hA, hWC.setMu heo (same8_all (by omega))⟩
    clear hA hWC hsz HS6
    revert HS7
    generalize yb.setRow b (patch (65 + eo * 8) #[.int .i64 (C 0), .int .i64 (C 1), .int .i64 (C 2), .int .i64 (C 3), .int .i64 (C 4), .int .i64 (C 5), .int .i64 (C 6), .int .i64 (C 7)].toList 0 A) = yc
    intro HS7
    have Hq : Hid (WAddPost b p W B lb vl va S ⟨(et : Int), 5, (eo : Int), xv, 0⟩ w (.returned (.tuple #[.bool false, .int .i64 0])) yc) :=
      ⟨vl', va', HS7.out.lo, HS7.out.wr, Hsub.out, .inr ⟨Hz.out, by rw [Hrr.out], HS7.out.wa.same (fin_mu HC.out HR9.out)⟩⟩
    obtain ⟨e0, e1, e2, e3, e4⟩ := HS7.out.ev.all
    clear HS7
    go_wp2
    go_returns
    exact Hq.out
  case true =>
    obtain ⟨A, hA, hWC⟩ := HS4.out.wa
    have cc : y9.cell? ⟨b, 321, none⟩ = some (.int .i64 W.cnt) := by rw [cell_of_block hA, hWC.cnt, rcT_cntv]
    have fc : y9.frozen? ⟨b, 321, none⟩ = false := free_of_block hA
    have HS5 : Hid (WSt w (y9.setCell ⟨b, 321, none⟩ (.int .i64 (W.cnt + 1))) b w.heap.size ⟨(et : Int), 5, (eo : Int), xv, 0⟩ p { rcT (setTh W et C) 5 eo et C with cnt := W.cnt + (if true = true then 1 else 0) } B lb vl va vl' va' (addS S ⟨(et : Int), 5, (eo : Int), xv, 0⟩)) :=
      HS4.out.step (Wrote.setCell (R := fun q => q = b) y9 (p := ⟨b, 321, none⟩) _ rfl) ⟨_, heap_set hA _, hWC.setCnt (W.cnt + 1)⟩
    clear hA hWC HS4
    go_upto_region 17 with (fail)
    revert HS5
    generalize y9.setCell ⟨b, 321, none⟩ (.int .i64 (W.cnt + 1)) = ya
    intro HS5
    clear cc fc
    obtain ⟨e0, e1, e2, e3, e4⟩ := HS5.out.ev.all
    obtain ⟨A, hA, hWC⟩ := HS5.out.wa
    obtain ⟨f0, f1, f2, f3, f4, f5, f6, f7⟩ := eight (w := ya) (b := b) (off := 1 + et * 8) (x := C) (fun i hi => by rw [cell_of_block hA]; have := hWC.th et i hte hi; rwa [w5_th] at this)
    clear hA hWC
    go_wp2_with fail
    refine wp_ext_draw 9 mixed (by kernel_rfl) ?_
    simp only [List.take_succ_cons, List.take_zero, List.drop_succ_cons, List.drop_zero]
    repeat ((first | ((apply TextRun.go rfl rfl rfl); (focus (intro w1 hS K hK; have hc := bcell hS; have hs := blt hS; have e0 := keep hS e0; have e1 := keep hS e1; have e2 := keep hS e2; have f0 := keep hS f0; have f1 := keep hS f1; have f2 := keep hS f2; have f3 := keep hS f3; have f4 := keep hS f4; have f5 := keep hS f5; have f6 := keep hS f6; have f7 := keep hS f7; go_wp2_with (fail); first | done | exact hS | exact hS.trans (hb.mono hS.size)))) | (refine TextRun.skip rfl ?_) | ((refine TextRun.wantedT rfl rfl rfl ?_); (apply Exists.intro); (apply And.intro); (focus (intro w1 hS K hK; have hc := bcell hS; have hs := blt hS; have e0 := keep hS e0; have e1 := keep hS e1; have e2 := keep hS e2; have f0 := keep hS f0; have f1 := keep hS f1; have f2 := keep hS f2; have f3 := keep hS f3; have f4 := keep hS f4; have f5 := keep hS f5; have f6 := keep hS f6; have f7 := keep hS f7; go_wp2_with (fail); first | done | exact hS | exact hS.trans (hb.mono hS.size))))); (simp only [Act.put, List.setIfInBounds_toArray, List.set_cons_zero, List.set_cons_succ]))
    refine TextRun.done ?_
    intro yb hb
    have HS6 := Lib.hid (HS5.out.below hb)
    clear hb HS5 e0 e1 e2 e3 e4 f0 f1 f2 f3 f4 f5 f6 f7
    obtain ⟨A, hA, hWC⟩ := HS6.out.wa
    have hsz := hWC.size
    refine wpList_store_part rfl 89 (.tmp 100) (.tmp 97) rfl b (65 + eo * 8) #[.int .i64 (C 0), .int .i64 (C 1), .int .i64 (C 2), .int .i64 (C 3), .int .i64 (C 4), .int .i64 (C 5), .int .i64 (C 6), .int .i64 (C 7)] rfl rfl 95 A _ hA cntSize (by simp; omega) (by simp [Value.oneCell']) rfl ?_
    have HS7 : Hid (WSt w (yb.setRow b (patch (65 + eo * 8) #[.int .i64 (C 0), .int .i64 (C 1), .int .i64 (C 2), .int .i64 (C 3), .int .i64 (C 4), .int .i64 (C 5), .int .i64 (C 6), .int .i64 (C 7)].toList 0 A)) b w.heap.size ⟨(et : Int), 5, (eo : Int), xv, 0⟩ p (setMu { rcT (setTh W et C) 5 eo et C with cnt := W.cnt + (if true = true then 1 else 0) } eo C) B lb vl va vl' va' (addS S ⟨(et : Int), 5, (eo : Int), xv, 0⟩)) :=
      HS6.out.step (Wrote.of_grown (setRow_wrote _ _ _) (fun k hk => (Option.some.inj hk).symm)) ⟨_, setRow_heap _ _ _ _ _ _ hA, hWC.setMu heo (same8_all (by omega))⟩
    clear hA hWC hsz HS6
    revert HS7
    generalize yb.setRow b (patch (65 + eo * 8) #[.int .i64 (C 0), .int .i64 (C 1), .int .i64 (C 2), .int .i64 (C 3), .int .i64 (C 4), .int .i64 (C 5), .int .i64 (C 6), .int .i64 (C 7)].toList 0 A) = yc
    intro HS7
    have Hq : Hid (WAddPost b p W B lb vl va S ⟨(et : Int), 5, (eo : Int), xv, 0⟩ w (.returned (.tuple #[.bool true, .int .i64 0])) yc) :=
      ⟨vl', va', HS7.out.lo, HS7.out.wr, Hsub.out, .inr ⟨Hz.out, by rw [Hrr.out], HS7.out.wa.same (fin_mu HC.out HR9.out)⟩⟩
    obtain ⟨e0, e1, e2, e3, e4⟩ := HS7.out.ev.all
    clear HS7
    go_wp2
    go_returns
    exact Hq.out
set_option maxRecDepth 20000 in
set_option maxHeartbeats 16000000 in
theorem wadd_k6 {w : World} {B lb b : Nat} {vl va p : Value} {S : LogS} {W : Wch} (h : LogAt w B lb vl va S) (hp : p = .pointer (some ⟨lb, 0, none⟩)) (hW : WatchAt w b p W) (et eo : Nat) (hte : et < 8) (heo : eo < 8) (xv : Int) (hcap : (S.l.length + 1) * 40 ≤ 140737488355328)
    (hz : addE S ⟨(et : Int), 6, (eo : Int), xv, 0⟩ = 0) (hbd : 0 ≤ wJ W ⟨(et : Int), 6, (eo : Int), xv, 0⟩ et ∧ wJ W ⟨(et : Int), 6, (eo : Int), xv, 0⟩ et ≤ 1000) (hct : 0 ≤ W.cnt ∧ W.cnt ≤ 1000) :
    Calls Try.prog 22 #[.pointer (some ⟨b, 0, none⟩), .agg #[.int .i64 (et : Int), .int .i64 6, .int .i64 (eo : Int), .int .i64 xv, .int .i64 0]] w (WAddPost b p W B lb vl va S ⟨(et : Int), 6, (eo : Int), xv, 0⟩ w) := by
  have HL := Lib.hid h
  have HW := Lib.hid hW
  have Hp := Lib.hid hp
  clear h hW hp
  have Hz := Lib.hid hz
  obtain ⟨J, hJ⟩ : ∃ J, J = wJ W (⟨(et : Int), 6, (eo : Int), xv, 0⟩ : Ev) := ⟨_, rfl⟩
  have HJ : Hid (J = W.th et) := by rw [Hid, hJ]; unfold wJ; simp [joinW]; try rfl
  have hb0 : 0 ≤ J et ∧ J et ≤ 1000 := by rw [hJ]; exact hbd
  have hwr : RowKit.wrap64 (J et + 1) = J et + 1 := wrap64_fit (by omega) (by omega)
  have hwc : RowKit.wrap64 (W.cnt + 1) = W.cnt + 1 := wrap64_fit (by omega) (by omega)
  obtain ⟨C, hC⟩ : ∃ C, C = upd J et (J et + 1) := ⟨_, rfl⟩
  have HCj := Lib.hid hC
  have HC : Hid (wC W (⟨(et : Int), 6, (eo : Int), xv, 0⟩ : Ev) = C) := by rw [Hid, hC, hJ]; rfl
  obtain ⟨r, hr⟩ : ∃ r, r = rcW (setTh W et C) 6 eo et C := ⟨_, rfl⟩
  have HR : Hid (rcW (setTh W et C) 6 eo et C = r) := hr.symm
  have HR9 : Hid (wRc W (⟨(et : Int), 6, (eo : Int), xv, 0⟩ : Ev) = r) := by rw [Hid, hr]; exact rc_is HC.out
  have Hrr := HR9
  clear hz hJ hC hr hb0 hbd hct
  go_enter Try.func22, Try.ntmps22
  go_wp2_with fail
  have hN := one_newC w #[.int .i64 (et : Int), .int .i64 6, .int .i64 (eo : Int), .int .i64 xv, .int .i64 0] 38
  revert hN
  generalize w.alloc (.cells #[.int .i64 (et : Int), .int .i64 6, .int .i64 (eo : Int), .int .i64 xv, .int .i64 0] 38) = y0
  intro hN
  have HE0 : Hid (EvBox y0 w.heap.size (et : Int) 6 (eo : Int) xv 0) := ⟨cell_of_block hN.1, cell_of_block hN.1, cell_of_block hN.1, cell_of_block hN.1, cell_of_block hN.1⟩
  have HB0 := Lib.hid hN.2
  clear hN
  obtain ⟨e0, e1, e2, e3, e4⟩ := HE0.out.all
  refine wp_ext_draw 4 mixed (by kernel_rfl) ?_
  simp only [List.take_succ_cons, List.take_zero, List.drop_succ_cons, List.drop_zero]
  repeat ((first | ((apply TextRun.go rfl rfl rfl); (focus (intro w1 hS K hK; have hc := bcell hS; have hs := blt hS; have e0 := keep hS e0; have e1 := keep hS e1; have e2 := keep hS e2; have e3 := keep hS e3; have e4 := keep hS e4; go_wp2_with (fail); first | done | exact hS | exact hS.trans (hb.mono hS.size)))) | (refine TextRun.skip rfl ?_) | ((refine TextRun.wantedT rfl rfl rfl ?_); (apply Exists.intro); (apply And.intro); (focus (intro w1 hS K hK; have hc := bcell hS; have hs := blt hS; have e0 := keep hS e0; have e1 := keep hS e1; have e2 := keep hS e2; have e3 := keep hS e3; have e4 := keep hS e4; go_wp2_with (fail); first | done | exact hS | exact hS.trans (hb.mono hS.size))))); (simp only [Act.put, List.setIfInBounds_toArray, List.set_cons_zero, List.set_cons_succ]))
  refine TextRun.done ?_
  intro y1 hb
  have HB1 := Lib.hid (HB0.out.trans (hb.mono HB0.out.size))
  have HE1 := Lib.hid (HE0.out.below hb)
  clear hb HB0 HE0 e0 e1 e2 e3 e4
  have Htk := Lib.hid (take_calls (b := b) (HL.out.below HB1.out) (by obtain ⟨A, hA, hWC⟩ := HW.out.below HB1.out; rw [cell_of_block hA, hWC.log, Hp.out]) ⟨(et : Int), 6, (eo : Int), xv, 0⟩ hcap)
  go_wp2_with fail
  refine Htk.out.mono ?_
  rintro e y2 ⟨vl', va', rfl, hL2, hW2, hsub⟩
  rw [Hz.out]
  have HS0 : Hid (WSt w y2 b w.heap.size ⟨(et : Int), 6, (eo : Int), xv, 0⟩ p W B lb vl va vl' va' (addS S ⟨(et : Int), 6, (eo : Int), xv, 0⟩)) := by
    refine ⟨HE1.out.wrote hW2 (fun hq => by have := HL.out.rlt _ hq; omega), (HW.out.below HB1.out).wrote hW2 (watch_ne (HL.out.below HB1.out) (HW.out.below HB1.out)), hL2, ?_, fun e => by have := HW.out.lt; omega⟩
    exact (Wrote.of_below (R := fun q => q = b ∨ logR lb vl va q) HB1.out).trans hW2 (fun q hq => .inl (.inr hq))
  have Hsub : Hid (∀ k, logR lb vl' va' k → logR lb vl va k ∨ w.heap.size ≤ k) := fun k hk => (hsub k hk).imp id (fun h2 => Nat.le_trans HB1.out.size h2)
  clear hL2 hW2 hsub Htk HE1 HB1
  obtain ⟨e0, e1, e2, e3, e4⟩ := HS0.out.ev.all
  go_wp2_with fail
  refine wp_ext_draw 7 mixed (by kernel_rfl) ?_
  simp only [List.take_succ_cons, List.take_zero, List.drop_succ_cons, List.drop_zero]
  repeat ((first | ((apply TextRun.go rfl rfl rfl); (focus (intro w1 hS K hK; have hc := bcell hS; have hs := blt hS; have e0 := keep hS e0; have e1 := keep hS e1; have e2 := keep hS e2; have e3 := keep hS e3; have e4 := keep hS e4; go_wp2_with (fail); first | done | exact hS | exact hS.trans (hb.mono hS.size)))) | (refine TextRun.skip rfl ?_) | ((refine TextRun.wantedT rfl rfl rfl ?_); (apply Exists.intro); (apply And.intro); (focus (intro w1 hS K hK; have hc := bcell hS; have hs := blt hS; have e0 := keep hS e0; have e1 := keep hS e1; have e2 := keep hS e2; have e3 := keep hS e3; have e4 := keep hS e4; go_wp2_with (fail); first | done | exact hS | exact hS.trans (hb.mono hS.size))))); (simp only [Act.put, List.setIfInBounds_toArray, List.set_cons_zero, List.set_cons_succ]))
  refine TextRun.done ?_
  intro y3 hb
  have HS := Lib.hid (HS0.out.below hb)
  clear hb HS0 e0 e1 e2 e3 e4
  obtain ⟨e0, e1, e2, e3, e4⟩ := HS.out.ev.all
  have HT : Hid (WSt w y3 b w.heap.size ⟨(et : Int), 6, (eo : Int), xv, 0⟩ p (setTh W et J) B lb vl va vl' va' (addS S ⟨(et : Int), 6, (eo : Int), xv, 0⟩)) := by
    rw [Hid, HJ.out]
    exact HS.out.same (setTh_self W et)
  clear HS
  obtain ⟨A, hA, hWC⟩ := HT.out.wa
  have cc : y3.cell? ⟨b, 1 + et * 8 + et, none⟩ = some (.int .i64 (J et)) := by
    rw [cell_of_block hA]
    have := hWC.th et et hte hte
    rwa [setTh_at] at this
  have fc : y3.frozen? ⟨b, 1 + et * 8 + et, none⟩ = false := free_of_block hA
  have HA := Lib.hid (And.intro hA hWC)
  clear hA hWC
  go_wp2_with fail
  refine wp_ext_draw 9 mixed (by kernel_rfl) ?_
  simp only [List.take_succ_cons, List.take_zero, List.drop_succ_cons, List.drop_zero]
  repeat ((first | ((apply TextRun.go rfl rfl rfl); (focus (intro w1 hS K hK; have hc := bcell hS; have hs := blt hS; have e0 := keep hS e0; have e1 := keep hS e1; have e2 := keep hS e2; have cc := keep hS cc; go_wp2_with (fail); first | done | exact hS | exact hS.trans (hb.mono hS.size)))) | (refine TextRun.skip rfl ?_) | ((refine TextRun.wantedT rfl rfl rfl ?_); (apply Exists.intro); (apply And.intro); (focus (intro w1 hS K hK; have hc := bcell hS; have hs := blt hS; have e0 := keep hS e0; have e1 := keep hS e1; have e2 := keep hS e2; have cc := keep hS cc; go_wp2_with (fail); first | done | exact hS | exact hS.trans (hb.mono hS.size))))); (simp only [Act.put, List.setIfInBounds_toArray, List.set_cons_zero, List.set_cons_succ]))
  refine TextRun.done ?_
  intro y6 hb
  have fc : y6.frozen? ⟨b, 1 + et * 8 + et, none⟩ = false := (hb.frozen (p := ⟨b, 1 + et * 8 + et, none⟩) (Array.getElem?_eq_some_iff.1 HA.out.1).1).trans fc
  have cc := keep hb cc
  have HT2 : Hid (WSt w (y6.setCell ⟨b, 1 + et * 8 + et, none⟩ (.int .i64 (J et + 1))) b w.heap.size ⟨(et : Int), 6, (eo : Int), xv, 0⟩ p (setTh W et C) B lb vl va vl' va' (addS S ⟨(et : Int), 6, (eo : Int), xv, 0⟩)) := by
    have hA2 := (hb.block b (Array.getElem?_eq_some_iff.1 HA.out.1).1).trans HA.out.1
    have hsz := HA.out.2.size
    have h8 := same8_one (A := A) (off := 1 + et * 8) (t := et) (x := J) (J et + 1) (by omega) hte (fun i hi => by have := HA.out.2.th et i hte hi; rwa [setTh_at] at this)
    have h9 := HA.out.2.setTh hte h8
    rw [setTh_twice] at h9
    rw [Hid, HCj.out]
    exact (HT.out.below hb).step (Wrote.setCell (R := fun q => q = b) y6 (p := ⟨b, 1 + et * 8 + et, none⟩) _ rfl) ⟨_, heap_set hA2 _, h9⟩
  clear hb HA HT e0 e1 e2 e3 e4
  obtain ⟨e0, e1, e2, e3, e4⟩ : y6.cell? ⟨w.heap.size, 0, none⟩ = y6.cell? ⟨w.heap.size, 0, none⟩ ∧ True ∧ True ∧ True ∧ True := ⟨rfl, trivial, trivial, trivial, trivial⟩
  clear e0 e1 e2 e3 e4
  go_wp2_with fail
  revert HT2
  generalize y6.setCell ⟨b, 1 + et * 8 + et, none⟩ (.int .i64 (J et + 1)) = y7
  intro HT2
  clear fc cc
  obtain ⟨e0, e1, e2, e3, e4⟩ := HT2.out.ev.all
  obtain ⟨A, hA, hWC⟩ := HT2.out.wa
  obtain ⟨f0, f1, f2, f3, f4, f5, f6, f7⟩ := eight (w := y7) (b := b) (off := 1 + et * 8) (x := C) (fun i hi => by rw [cell_of_block hA]; have := hWC.th et i hte hi; rwa [setTh_at] at this)
  clear hA hWC
  refine wp_ext_draw 5 mixed (by kernel_rfl) ?_
  simp only [List.take_succ_cons, List.take_zero, List.drop_succ_cons, List.drop_zero]
  repeat ((first | ((apply TextRun.go rfl rfl rfl); (focus (intro w1 hS K hK; have hc := bcell hS; have hs := blt hS; have e0 := keep hS e0; have e1 := keep hS e1; have e2 := keep hS e2; have e3 := keep hS e3; have e4 := keep hS e4; have f0 := keep hS f0; have f1 := keep hS f1; have f2 := keep hS f2; have f3 := keep hS f3; have f4 := keep hS f4; have f5 := keep hS f5; have f6 := keep hS f6; have f7 := keep hS f7; go_wp2_with (fail); first | done | exact hS | exact hS.trans (hb.mono hS.size)))) | (refine TextRun.skip rfl ?_) | ((refine TextRun.wantedT rfl rfl rfl ?_); (apply Exists.intro); (apply And.intro); (focus (intro w1 hS K hK; have hc := bcell hS; have hs := blt hS; have e0 := keep hS e0; have e1 := keep hS e1; have e2 := keep hS e2; have e3 := keep hS e3; have e4 := keep hS e4; have f0 := keep hS f0; have f1 := keep hS f1; have f2 := keep hS f2; have f3 := keep hS f3; have f4 := keep hS f4; have f5 := keep hS f5; have f6 := keep hS f6; have f7 := keep hS f7; go_wp2_with (fail); first | done | exact hS | exact hS.trans (hb.mono hS.size))))); (simp only [Act.put, List.setIfInBounds_toArray, List.set_cons_zero, List.set_cons_succ]))
  refine TextRun.done ?_
  intro y8 hb
  have HS3 := Lib.hid (HT2.out.below hb)
  clear hb HT2 e0 e1 e2 e3 e4 f0 f1 f2 f3 f4 f5 f6 f7
  go_wp2_with fail
  refine (raced_calls HS3.out.wa et eo 6 xv 0 hte (fun _ => heo) C).mono ?_
  rintro e y9 ⟨rfl, hW4, hw4⟩
  have HS4 := Lib.hid (HS3.out.step hw4 hW4)
  clear hW4 hw4 HS3
  rw [HR.out]
  cases r
  case false =>
    have HS5 : Hid (WSt w y9 b w.heap.size ⟨(et : Int), 6, (eo : Int), xv, 0⟩ p { rcT (setTh W et C) 6 eo et C with cnt := W.cnt + (if false = true then 1 else 0) } B lb vl va vl' va' (addS S ⟨(et : Int), 6, (eo : Int), xv, 0⟩)) := HS4.out.same (rcT_cnt W et C 6 eo)
    clear HS4
    obtain ⟨e0, e1, e2, e3, e4⟩ := HS5.out.ev.all
    obtain ⟨A, hA, hWC⟩ := HS5.out.wa
    obtain ⟨f0, f1, f2, f3, f4, f5, f6, f7⟩ := eight (w := y9) (b := b) (off := 1 + et * 8) (x := C) (fun i hi => by rw [cell_of_block hA]; have := hWC.th et i hte hi; rwa [w5_th] at this)
    clear hA hWC
    go_wp2_with fail
    refine wp_ext_draw 9 mixed (by kernel_rfl) ?_
    simp only [List.take_succ_cons, List.take_zero, List.drop_succ_cons, List.drop_zero]
    repeat ((first | ((apply TextRun.go rfl rfl rfl); (focus (intro w1 hS K hK; have hc := bcell hS; have hs := blt hS; have e0 := keep hS e0; have e1 := keep hS e1; have e2 := keep hS e2; have f0 := keep hS f0; have f1 := keep hS f1; have f2 := keep hS f2; have f3 := keep hS f3; have f4 := keep hS f4; have f5 := keep hS f5; have f6 := keep hS f6; have f7 := keep hS f7; go_wp2_with (fail); first | done | exact hS | exact hS.trans (hb.mono hS.size)))) | (refine TextRun.skip rfl ?_) | ((refine TextRun.wantedT rfl rfl rfl ?_); (apply Exists.intro); (apply And.intro); (focus (intro w1 hS K hK; have hc := bcell hS; have hs := blt hS; have e0 := keep hS e0; have e1 := keep hS e1; have e2 := keep hS e2; have f0 := keep hS f0; have f1 := keep hS f1; have f2 := keep hS f2; have f3 := keep hS f3; have f4 := keep hS f4; have f5 := keep hS f5; have f6 := keep hS f6; have f7 := keep hS f7; go_wp2_with (fail); first | done | exact hS | exact hS.trans (hb.mono hS.size))))); (simp only [Act.put, List.setIfInBounds_toArray, List.set_cons_zero, List.set_cons_succ]))
    refine TextRun.done ?_
    intro yb hb
    have HS6 := Lib.hid (HS5.out.below hb)
    clear hb HS5 e0 e1 e2 e3 e4 f0 f1 f2 f3 f4 f5 f6 f7
    obtain ⟨A, hA, hWC⟩ := HS6.out.wa
    have Hj := Lib.hid (wjoin_calls (w := yb) (b := b) (off := 1 + eo * 8) (A := A) ((setTh W et C).th eo) C hA (by have := hWC.size; omega) (fun i hi => by have := hWC.th eo i heo hi; rwa [w5_th2] at this))
    have HWC := Lib.hid hWC
    clear hA hWC
    go_wp2_with fail
    refine Hj.out.mono ?_
    rintro e yc ⟨rfl, A', hA', hS8, hw⟩
    have HS7 := Lib.hid (HS6.out.step hw ⟨A', hA', HWC.out.setTh heo hS8⟩)
    clear hA' hS8 hw Hj HWC HS6
    have Hq : Hid (WAddPost b p W B lb vl va S ⟨(et : Int), 6, (eo : Int), xv, 0⟩ w (.returned (.tuple #[.bool false, .int .i64 0])) yc) :=
      ⟨vl', va', HS7.out.lo, HS7.out.wr, Hsub.out, .inr ⟨Hz.out, by rw [Hrr.out], HS7.out.wa.same (fin_th HC.out HR9.out)⟩⟩
    obtain ⟨e0, e1, e2, e3, e4⟩ := HS7.out.ev.all
    clear HS7
    go_wp2
    go_returns
    exact Hq.out
  case true =>
    obtain ⟨A, hA, hWC⟩ := HS4.out.wa
    have cc : y9.cell? ⟨b, 321, none⟩ = some (.int .i64 W.cnt) := by rw [cell_of_block hA, hWC.cnt, rcT_cntv]
    have fc : y9.frozen? ⟨b, 321, none⟩ = false := free_of_block hA
    have HS5 : Hid (WSt w (y9.setCell ⟨b, 321, none⟩ (.int .i64 (W.cnt + 1))) b w.heap.size ⟨(et : Int), 6, (eo : Int), xv, 0⟩ p { rcT (setTh W et C) 6 eo et C with cnt := W.cnt + (if true = true then 1 else 0) } B lb vl va vl' va' (addS S ⟨(et : Int), 6, (eo : Int), xv, 0⟩)) :=
      HS4.out.step (Wrote.setCell (R := fun q => q = b) y9 (p := ⟨b, 321, none⟩) _ rfl) ⟨_, heap_set hA _, hWC.setCnt (W.cnt + 1)⟩
    clear hA hWC HS4
    go_upto_region 17 with (fail)
    revert HS5
    generalize y9.setCell ⟨b, 321, none⟩ (.int .i64 (W.cnt + 1)) = ya
    intro HS5
    clear cc fc
    obtain ⟨e0, e1, e2, e3, e4⟩ := HS5.out.ev.all
    obtain ⟨A, hA, hWC⟩ := HS5.out.wa
    obtain ⟨f0, f1, f2, f3, f4, f5, f6, f7⟩ := eight (w := ya) (b := b) (off := 1 + et * 8) (x := C) (fun i hi => by rw [cell_of_block hA]; have := hWC.th et i hte hi; rwa [w5_th] at this)
    clear hA hWC
    go_wp2_with fail
    refine wp_ext_draw 9 mixed (by kernel_rfl) ?_
    simp only [List.take_succ_cons, List.take_zero, List.drop_succ_cons, List.drop_zero]
    repeat ((first | ((apply TextRun.go rfl rfl rfl); (focus (intro w1 hS K hK; have hc := bcell hS; have hs := blt hS; have e0 := keep hS e0; have e1 := keep hS e1; have e2 := keep hS e2; have f0 := keep hS f0; have f1 := keep hS f1; have f2 := keep hS f2; have f3 := keep hS f3; have f4 := keep hS f4; have f5 := keep hS f5; have f6 := keep hS f6; have f7 := keep hS f7; go_wp2_with (fail); first | done | exact hS | exact hS.trans (hb.mono hS.size)))) | (refine TextRun.skip rfl ?_) | ((refine TextRun.wantedT rfl rfl rfl ?_); (apply Exists.intro); (apply And.intro); (focus (intro w1 hS K hK; have hc := bcell hS; have hs := blt hS; have e0 := keep hS e0; have e1 := keep hS e1; have e2 := keep hS e2; have f0 := keep hS f0; have f1 := keep hS f1; have f2 := keep hS f2; have f3 := keep hS f3; have f4 := keep hS f4; have f5 := keep hS f5; have f6 := keep hS f6; have f7 := keep hS f7; go_wp2_with (fail); first | done | exact hS | exact hS.trans (hb.mono hS.size))))); (simp only [Act.put, List.setIfInBounds_toArray, List.set_cons_zero, List.set_cons_succ]))
    refine TextRun.done ?_
    intro yb hb
    have HS6 := Lib.hid (HS5.out.below hb)
    clear hb HS5 e0 e1 e2 e3 e4 f0 f1 f2 f3 f4 f5 f6 f7
    obtain ⟨A, hA, hWC⟩ := HS6.out.wa
    have Hj := Lib.hid (wjoin_calls (w := yb) (b := b) (off := 1 + eo * 8) (A := A) ((setTh W et C).th eo) C hA (by have := hWC.size; omega) (fun i hi => by have := hWC.th eo i heo hi; rwa [w5_th2] at this))
    have HWC := Lib.hid hWC
    clear hA hWC
    go_wp2_with fail
    refine Hj.out.mono ?_
    rintro e yc ⟨rfl, A', hA', hS8, hw⟩
    have HS7 := Lib.hid (HS6.out.step hw ⟨A', hA', HWC.out.setTh heo hS8⟩)
    clear hA' hS8 hw Hj HWC HS6
    have Hq : Hid (WAddPost b p W B lb vl va S ⟨(et : Int), 6, (eo : Int), xv, 0⟩ w (.returned (.tuple #[.bool true, .int .i64 0])) yc) :=
      ⟨vl', va', HS7.out.lo, HS7.out.wr, Hsub.out, .inr ⟨Hz.out, by rw [Hrr.out], HS7.out.wa.same (fin_th HC.out HR9.out)⟩⟩
    obtain ⟨e0, e1, e2, e3, e4⟩ := HS7.out.ev.all
    clear HS7
    go_wp2
    go_returns
    exact Hq.out
set_option maxRecDepth 20000 in
set_option maxHeartbeats 16000000 in
theorem wadd_other {w : World} {B lb b : Nat} {vl va p : Value} {S : LogS} {W : Wch} (h : LogAt w B lb vl va S) (hp : p = .pointer (some ⟨lb, 0, none⟩)) (hW : WatchAt w b p W) (et eo : Nat) (hte : et < 8) (heo : eo < 8) (xv : Int) (xk : Int) (hoth : xk ≠ 4 ∧ xk ≠ 3 ∧ xk ≠ 7 ∧ xk ≠ 5 ∧ xk ≠ 6) (hcap : (S.l.length + 1) * 40 ≤ 140737488355328)
    (hz : addE S ⟨(et : Int), xk, (eo : Int), xv, 0⟩ = 0) (hbd : 0 ≤ wJ W ⟨(et : Int), xk, (eo : Int), xv, 0⟩ et ∧ wJ W ⟨(et : Int), xk, (eo : Int), xv, 0⟩ et ≤ 1000) (hct : 0 ≤ W.cnt ∧ W.cnt ≤ 1000) :
    Calls Try.prog 22 #[.pointer (some ⟨b, 0, none⟩), .agg #[.int .i64 (et : Int), .int .i64 xk, .int .i64 (eo : Int), .int .i64 xv, .int .i64 0]] w (WAddPost b p W B lb vl va S ⟨(et : Int), xk, (eo : Int), xv, 0⟩ w) := by
  have Hoth := Lib.hid hoth
  clear hoth
  have HL := Lib.hid h
  have HW := Lib.hid hW
  have Hp := Lib.hid hp
  clear h hW hp
  have Hz := Lib.hid hz
  obtain ⟨J, hJ⟩ : ∃ J, J = wJ W (⟨(et : Int), xk, (eo : Int), xv, 0⟩ : Ev) := ⟨_, rfl⟩
  have HJ : Hid (J = W.th et) := by rw [Hid, hJ]; unfold wJ; simp [joinW, Hoth.out.1, Hoth.out.2.1, Hoth.out.2.2.1]
  have hb0 : 0 ≤ J et ∧ J et ≤ 1000 := by rw [hJ]; exact hbd
  have hwr : RowKit.wrap64 (J et + 1) = J et + 1 := wrap64_fit (by omega) (by omega)
  have hwc : RowKit.wrap64 (W.cnt + 1) = W.cnt + 1 := wrap64_fit (by omega) (by omega)
  obtain ⟨C, hC⟩ : ∃ C, C = upd J et (J et + 1) := ⟨_, rfl⟩
  have HCj := Lib.hid hC
  have HC : Hid (wC W (⟨(et : Int), xk, (eo : Int), xv, 0⟩ : Ev) = C) := by rw [Hid, hC, hJ]; rfl
  obtain ⟨r, hr⟩ : ∃ r, r = rcW (setTh W et C) xk eo et C := ⟨_, rfl⟩
  have HR : Hid (rcW (setTh W et C) xk eo et C = r) := hr.symm
  have HR9 : Hid (wRc W (⟨(et : Int), xk, (eo : Int), xv, 0⟩ : Ev) = r) := by rw [Hid, hr]; exact rc_is HC.out
  have Hrr := HR9
  clear hz hJ hC hr hb0 hbd hct
  go_enter Try.func22, Try.ntmps22
  go_wp2_with fail
  have hN := one_newC w #[.int .i64 (et : Int), .int .i64 xk, .int .i64 (eo : Int), .int .i64 xv, .int .i64 0] 38
  revert hN
  generalize w.alloc (.cells #[.int .i64 (et : Int), .int .i64 xk, .int .i64 (eo : Int), .int .i64 xv, .int .i64 0] 38) = y0
  intro hN
  have HE0 : Hid (EvBox y0 w.heap.size (et : Int) xk (eo : Int) xv 0) := ⟨cell_of_block hN.1, cell_of_block hN.1, cell_of_block hN.1, cell_of_block hN.1, cell_of_block hN.1⟩
  have HB0 := Lib.hid hN.2
  clear hN
  obtain ⟨e0, e1, e2, e3, e4⟩ := HE0.out.all
  refine wp_ext_draw 4 mixed (by kernel_rfl) ?_
  simp only [List.take_succ_cons, List.take_zero, List.drop_succ_cons, List.drop_zero]
  repeat ((first | ((apply TextRun.go rfl rfl rfl); (focus (intro w1 hS K hK; have hc := bcell hS; have hs := blt hS; have e0 := keep hS e0; have e1 := keep hS e1; have e2 := keep hS e2; have e3 := keep hS e3; have e4 := keep hS e4; go_wp2_with (fail); first | done | exact hS | exact hS.trans (hb.mono hS.size)))) | (refine TextRun.skip rfl ?_) | ((refine TextRun.wantedT rfl rfl rfl ?_); (apply Exists.intro); (apply And.intro); (focus (intro w1 hS K hK; have hc := bcell hS; have hs := blt hS; have e0 := keep hS e0; have e1 := keep hS e1; have e2 := keep hS e2; have e3 := keep hS e3; have e4 := keep hS e4; go_wp2_with (fail); first | done | exact hS | exact hS.trans (hb.mono hS.size))))); (simp only [Act.put, List.setIfInBounds_toArray, List.set_cons_zero, List.set_cons_succ]))
  refine TextRun.done ?_
  intro y1 hb
  have HB1 := Lib.hid (HB0.out.trans (hb.mono HB0.out.size))
  have HE1 := Lib.hid (HE0.out.below hb)
  clear hb HB0 HE0 e0 e1 e2 e3 e4
  have Htk := Lib.hid (take_calls (b := b) (HL.out.below HB1.out) (by obtain ⟨A, hA, hWC⟩ := HW.out.below HB1.out; rw [cell_of_block hA, hWC.log, Hp.out]) ⟨(et : Int), xk, (eo : Int), xv, 0⟩ hcap)
  go_wp2_with fail
  refine Htk.out.mono ?_
  rintro e y2 ⟨vl', va', rfl, hL2, hW2, hsub⟩
  rw [Hz.out]
  have HS0 : Hid (WSt w y2 b w.heap.size ⟨(et : Int), xk, (eo : Int), xv, 0⟩ p W B lb vl va vl' va' (addS S ⟨(et : Int), xk, (eo : Int), xv, 0⟩)) := by
    refine ⟨HE1.out.wrote hW2 (fun hq => by have := HL.out.rlt _ hq; omega), (HW.out.below HB1.out).wrote hW2 (watch_ne (HL.out.below HB1.out) (HW.out.below HB1.out)), hL2, ?_, fun e => by have := HW.out.lt; omega⟩
    exact (Wrote.of_below (R := fun q => q = b ∨ logR lb vl va q) HB1.out).trans hW2 (fun q hq => .inl (.inr hq))
  have Hsub : Hid (∀ k, logR lb vl' va' k → logR lb vl va k ∨ w.heap.size ≤ k) := fun k hk => (hsub k hk).imp id (fun h2 => Nat.le_trans HB1.out.size h2)
  clear hL2 hW2 hsub Htk HE1 HB1
  obtain ⟨e0, e1, e2, e3, e4⟩ := HS0.out.ev.all
  obtain ⟨q4, q3, q7, q5, q6⟩ : (xk == 4) = false ∧ (xk == 3) = false ∧ (xk == 7) = false ∧ (xk == 5) = false ∧ (xk == 6) = false := by have := Hoth.out; simp only [beq_eq_false_iff_ne, ne_eq]; omega
  go_wp2_with fail
  refine wp_ext_draw 7 mixed (by kernel_rfl) ?_
  simp only [List.take_succ_cons, List.take_zero, List.drop_succ_cons, List.drop_zero]
  repeat ((first | ((apply TextRun.go rfl rfl rfl); (focus (intro w1 hS K hK; have hc := bcell hS; have hs := blt hS; have e0 := keep hS e0; have e1 := keep hS e1; have e2 := keep hS e2; have e3 := keep hS e3; have e4 := keep hS e4; go_wp2_with (fail); first | done | exact hS | exact hS.trans (hb.mono hS.size)))) | (refine TextRun.skip rfl ?_) | ((refine TextRun.wantedT rfl rfl rfl ?_); (apply Exists.intro); (apply And.intro); (focus (intro w1 hS K hK; have hc := bcell hS; have hs := blt hS; have e0 := keep hS e0; have e1 := keep hS e1; have e2 := keep hS e2; have e3 := keep hS e3; have e4 := keep hS e4; go_wp2_with (fail); first | done | exact hS | exact hS.trans (hb.mono hS.size))))); (simp only [Act.put, List.setIfInBounds_toArray, List.set_cons_zero, List.set_cons_succ]))
  refine TextRun.done ?_
  intro y3 hb
  have HS := Lib.hid (HS0.out.below hb)
  clear hb HS0 e0 e1 e2 e3 e4
  obtain ⟨e0, e1, e2, e3, e4⟩ := HS.out.ev.all
  have HT : Hid (WSt w y3 b w.heap.size ⟨(et : Int), xk, (eo : Int), xv, 0⟩ p (setTh W et J) B lb vl va vl' va' (addS S ⟨(et : Int), xk, (eo : Int), xv, 0⟩)) := by
    rw [Hid, HJ.out]
    exact HS.out.same (setTh_self W et)
  clear HS
  obtain ⟨A, hA, hWC⟩ := HT.out.wa
  have cc : y3.cell? ⟨b, 1 + et * 8 + et, none⟩ = some (.int .i64 (J et)) := by
    rw [cell_of_block hA]
    have := hWC.th et et hte hte
    rwa [setTh_at] at this
  have fc : y3.frozen? ⟨b, 1 + et * 8 + et, none⟩ = false := free_of_block hA
  have HA := Lib.hid (And.intro hA hWC)
  clear hA hWC
  go_wp2_with fail
  refine wp_ext_draw 9 mixed (by kernel_rfl) ?_
  simp only [List.take_succ_cons, List.take_zero, List.drop_succ_cons, List.drop_zero]
  repeat ((first | ((apply TextRun.go rfl rfl rfl); (focus (intro w1 hS K hK; have hc := bcell hS; have hs := blt hS; have e0 := keep hS e0; have e1 := keep hS e1; have e2 := keep hS e2; have cc := keep hS cc; go_wp2_with (fail); first | done | exact hS | exact hS.trans (hb.mono hS.size)))) | (refine TextRun.skip rfl ?_) | ((refine TextRun.wantedT rfl rfl rfl ?_); (apply Exists.intro); (apply And.intro); (focus (intro w1 hS K hK; have hc := bcell hS; have hs := blt hS; have e0 := keep hS e0; have e1 := keep hS e1; have e2 := keep hS e2; have cc := keep hS cc; go_wp2_with (fail); first | done | exact hS | exact hS.trans (hb.mono hS.size))))); (simp only [Act.put, List.setIfInBounds_toArray, List.set_cons_zero, List.set_cons_succ]))
  refine TextRun.done ?_
  intro y6 hb
  have fc : y6.frozen? ⟨b, 1 + et * 8 + et, none⟩ = false := (hb.frozen (p := ⟨b, 1 + et * 8 + et, none⟩) (Array.getElem?_eq_some_iff.1 HA.out.1).1).trans fc
  have cc := keep hb cc
  have HT2 : Hid (WSt w (y6.setCell ⟨b, 1 + et * 8 + et, none⟩ (.int .i64 (J et + 1))) b w.heap.size ⟨(et : Int), xk, (eo : Int), xv, 0⟩ p (setTh W et C) B lb vl va vl' va' (addS S ⟨(et : Int), xk, (eo : Int), xv, 0⟩)) := by
    have hA2 := (hb.block b (Array.getElem?_eq_some_iff.1 HA.out.1).1).trans HA.out.1
    have hsz := HA.out.2.size
    have h8 := same8_one (A := A) (off := 1 + et * 8) (t := et) (x := J) (J et + 1) (by omega) hte (fun i hi => by have := HA.out.2.th et i hte hi; rwa [setTh_at] at this)
    have h9 := HA.out.2.setTh hte h8
    rw [setTh_twice] at h9
    rw [Hid, HCj.out]
    exact (HT.out.below hb).step (Wrote.setCell (R := fun q => q = b) y6 (p := ⟨b, 1 + et * 8 + et, none⟩) _ rfl) ⟨_, heap_set hA2 _, h9⟩
  clear hb HA HT e0 e1 e2 e3 e4
  obtain ⟨e0, e1, e2, e3, e4⟩ : y6.cell? ⟨w.heap.size, 0, none⟩ = y6.cell? ⟨w.heap.size, 0, none⟩ ∧ True ∧ True ∧ True ∧ True := ⟨rfl, trivial, trivial, trivial, trivial⟩
  clear e0 e1 e2 e3 e4
  go_wp2_with fail
  revert HT2
  generalize y6.setCell ⟨b, 1 + et * 8 + et, none⟩ (.int .i64 (J et + 1)) = y7
  intro HT2
  clear fc cc
  obtain ⟨e0, e1, e2, e3, e4⟩ := HT2.out.ev.all
  obtain ⟨A, hA, hWC⟩ := HT2.out.wa
  obtain ⟨f0, f1, f2, f3, f4, f5, f6, f7⟩ := eight (w := y7) (b := b) (off := 1 + et * 8) (x := C) (fun i hi => by rw [cell_of_block hA]; have := hWC.th et i hte hi; rwa [setTh_at] at this)
  clear hA hWC
  refine wp_ext_draw 5 mixed (by kernel_rfl) ?_
  simp only [List.take_succ_cons, List.take_zero, List.drop_succ_cons, List.drop_zero]
  repeat ((first | ((apply TextRun.go rfl rfl rfl); (focus (intro w1 hS K hK; have hc := bcell hS; have hs := blt hS; have e0 := keep hS e0; have e1 := keep hS e1; have e2 := keep hS e2; have e3 := keep hS e3; have e4 := keep hS e4; have f0 := keep hS f0; have f1 := keep hS f1; have f2 := keep hS f2; have f3 := keep hS f3; have f4 := keep hS f4; have f5 := keep hS f5; have f6 := keep hS f6; have f7 := keep hS f7; go_wp2_with (fail); first | done | exact hS | exact hS.trans (hb.mono hS.size)))) | (refine TextRun.skip rfl ?_) | ((refine TextRun.wantedT rfl rfl rfl ?_); (apply Exists.intro); (apply And.intro); (focus (intro w1 hS K hK; have hc := bcell hS; have hs := blt hS; have e0 := keep hS e0; have e1 := keep hS e1; have e2 := keep hS e2; have e3 := keep hS e3; have e4 := keep hS e4; have f0 := keep hS f0; have f1 := keep hS f1; have f2 := keep hS f2; have f3 := keep hS f3; have f4 := keep hS f4; have f5 := keep hS f5; have f6 := keep hS f6; have f7 := keep hS f7; go_wp2_with (fail); first | done | exact hS | exact hS.trans (hb.mono hS.size))))); (simp only [Act.put, List.setIfInBounds_toArray, List.set_cons_zero, List.set_cons_succ]))
  refine TextRun.done ?_
  intro y8 hb
  have HS3 := Lib.hid (HT2.out.below hb)
  clear hb HT2 e0 e1 e2 e3 e4 f0 f1 f2 f3 f4 f5 f6 f7
  go_wp2_with fail
  refine (raced_calls HS3.out.wa et eo xk xv 0 hte (fun _ => heo) C).mono ?_
  rintro e y9 ⟨rfl, hW4, hw4⟩
  have HS4 := Lib.hid (HS3.out.step hw4 hW4)
  clear hW4 hw4 HS3
  rw [HR.out]
  cases r
  case false =>
    have HS5 : Hid (WSt w y9 b w.heap.size ⟨(et : Int), xk, (eo : Int), xv, 0⟩ p { rcT (setTh W et C) xk eo et C with cnt := W.cnt + (if false = true then 1 else 0) } B lb vl va vl' va' (addS S ⟨(et : Int), xk, (eo : Int), xv, 0⟩)) := HS4.out.same (rcT_cnt W et C xk eo)
    clear HS4
    have Hq : Hid (WAddPost b p W B lb vl va S ⟨(et : Int), xk, (eo : Int), xv, 0⟩ w (.returned (.tuple #[.bool false, .int .i64 0])) y9) :=
      ⟨vl', va', HS5.out.lo, HS5.out.wr, Hsub.out, .inr ⟨Hz.out, by rw [Hrr.out], HS5.out.wa.same (fin_no HC.out HR9.out (.inr ⟨Hoth.out.2.2.2.1, Hoth.out.2.1, Hoth.out.2.2.2.2⟩))⟩⟩
    obtain ⟨e0, e1, e2, e3, e4⟩ := HS5.out.ev.all
    clear HS5
    go_wp2
    go_returns
    exact Hq.out
  case true =>
    obtain ⟨A, hA, hWC⟩ := HS4.out.wa
    have cc : y9.cell? ⟨b, 321, none⟩ = some (.int .i64 W.cnt) := by rw [cell_of_block hA, hWC.cnt, rcT_cntv]
    have fc : y9.frozen? ⟨b, 321, none⟩ = false := free_of_block hA
    have HS5 : Hid (WSt w (y9.setCell ⟨b, 321, none⟩ (.int .i64 (W.cnt + 1))) b w.heap.size ⟨(et : Int), xk, (eo : Int), xv, 0⟩ p { rcT (setTh W et C) xk eo et C with cnt := W.cnt + (if true = true then 1 else 0) } B lb vl va vl' va' (addS S ⟨(et : Int), xk, (eo : Int), xv, 0⟩)) :=
      HS4.out.step (Wrote.setCell (R := fun q => q = b) y9 (p := ⟨b, 321, none⟩) _ rfl) ⟨_, heap_set hA _, hWC.setCnt (W.cnt + 1)⟩
    clear hA hWC HS4
    go_upto_region 17 with (fail)
    revert HS5
    generalize y9.setCell ⟨b, 321, none⟩ (.int .i64 (W.cnt + 1)) = ya
    intro HS5
    clear cc fc
    have Hq : Hid (WAddPost b p W B lb vl va S ⟨(et : Int), xk, (eo : Int), xv, 0⟩ w (.returned (.tuple #[.bool true, .int .i64 0])) ya) :=
      ⟨vl', va', HS5.out.lo, HS5.out.wr, Hsub.out, .inr ⟨Hz.out, by rw [Hrr.out], HS5.out.wa.same (fin_no HC.out HR9.out (.inr ⟨Hoth.out.2.2.2.1, Hoth.out.2.1, Hoth.out.2.2.2.2⟩))⟩⟩
    obtain ⟨e0, e1, e2, e3, e4⟩ := HS5.out.ev.all
    clear HS5
    go_wp2
    go_returns
    exact Hq.out
end Go.Proofs.Ytadngicebbnnlaa

namespace Go.Proofs.Ytadngicebbnnlaa
open Go.ChangeShapes Go.WideShapes Go.ChangeAt Go.RowKit Go.Deep

set_option maxRecDepth 20000 in
set_option maxHeartbeats 8000000 in
theorem wadd_no {w : World} {B lb b : Nat} {vl va p : Value} {S : LogS} {W : Wch} (h : LogAt w B lb vl va S) (hp : p = .pointer (some ⟨lb, 0, none⟩)) (hW : WatchAt w b p W) (x : Ev) (hcap : (S.l.length + 1) * 40 ≤ 140737488355328) (hz : addE S x ≠ 0) :
    Calls Try.prog 22 #[.pointer (some ⟨b, 0, none⟩), .agg #[.int .i64 x.t, .int .i64 x.k, .int .i64 x.o, .int .i64 x.v, .int .i64 x.b]] w (WAddPost b p W B lb vl va S x w) := by
  have HL := Lib.hid h
  have HW := Lib.hid hW
  have Hp := Lib.hid hp
  have Hz := Lib.hid hz
  clear h hW hp hz
  go_enter Try.func22, Try.ntmps22
  go_wp2_with fail
  have hN := one_newC w #[.int .i64 x.t, .int .i64 x.k, .int .i64 x.o, .int .i64 x.v, .int .i64 x.b] 38
  revert hN
  generalize w.alloc (.cells #[.int .i64 x.t, .int .i64 x.k, .int .i64 x.o, .int .i64 x.v, .int .i64 x.b] 38) = y0
  intro hN
  have HE0 : Hid (EvBox y0 w.heap.size x.t x.k x.o x.v x.b) := ⟨cell_of_block hN.1, cell_of_block hN.1, cell_of_block hN.1, cell_of_block hN.1, cell_of_block hN.1⟩
  have HB0 := Lib.hid hN.2
  clear hN
  obtain ⟨e0, e1, e2, e3, e4⟩ := HE0.out.all
  refine wp_ext_draw 4 mixed (by kernel_rfl) ?_
  simp only [List.take_succ_cons, List.take_zero, List.drop_succ_cons, List.drop_zero]
  repeat ((first | ((apply TextRun.go rfl rfl rfl); (focus (intro w1 hS K hK; have hc := bcell hS; have hs := blt hS; have e0 := keep hS e0; have e1 := keep hS e1; have e2 := keep hS e2; have e3 := keep hS e3; have e4 := keep hS e4; go_wp2_with (fail); first | done | exact hS | exact hS.trans (hb.mono hS.size)))) | (refine TextRun.skip rfl ?_) | ((refine TextRun.wantedT rfl rfl rfl ?_); (apply Exists.intro); (apply And.intro); (focus (intro w1 hS K hK; have hc := bcell hS; have hs := blt hS; have e0 := keep hS e0; have e1 := keep hS e1; have e2 := keep hS e2; have e3 := keep hS e3; have e4 := keep hS e4; go_wp2_with (fail); first | done | exact hS | exact hS.trans (hb.mono hS.size))))); (simp only [Act.put, List.setIfInBounds_toArray, List.set_cons_zero, List.set_cons_succ]))
  refine TextRun.done ?_
  intro y1 hb
  have HB1 := Lib.hid (HB0.out.trans (hb.mono HB0.out.size))
  clear hb HB0 HE0 e0 e1 e2 e3 e4
  have Htk := Lib.hid (take_calls (b := b) (HL.out.below HB1.out) (by obtain ⟨A, hA, hWC⟩ := HW.out.below HB1.out; rw [cell_of_block hA, hWC.log, Hp.out]) x hcap)
  go_wp2_with fail
  refine Htk.out.mono ?_
  rintro e y2 ⟨vl', va', rfl, hL2, hW2, hsub⟩
  have Hq : Hid (WAddPost b p W B lb vl va S x w (.returned (.tuple #[.bool false, .int .i64 (addE S x)])) y2) :=
    ⟨vl', va', hL2, (Wrote.of_below (R := fun q => q = b ∨ logR lb vl va q) HB1.out).trans hW2 (fun q hq => .inl (.inr hq)), fun k hk => (hsub k hk).imp id (fun h2 => Nat.le_trans HB1.out.size h2),
      .inl ⟨Hz.out, rfl, (HW.out.below HB1.out).wrote hW2 (watch_ne (HL.out.below HB1.out) (HW.out.below HB1.out))⟩⟩
  have hz' : (addE S x != 0) = true := by simpa [bne] using Hz.out
  clear hL2 hW2 hsub Htk
  generalize addE S x = z at *
  go_wp2
  go_returns
  exact Hq.out

theorem rB_o8 {x : Ev} (h : rB x = true) : 0 ≤ x.o ∧ x.o < 8 := by
  refine inB_iff.1 ?_
  have hr := h
  unfold rB rightB bodyB at hr
  cases ho : inB x.o
  · by_cases a1 : x.k = 1
    · simp [ho, a1] at hr
    by_cases a2 : x.k = 2
    · simp [ho, a2] at hr
    by_cases a3 : x.k = 3
    · simp [ho, a3] at hr
    by_cases a4 : x.k = 4
    · simp [ho, a4] at hr
    by_cases a5 : x.k = 5
    · simp [ho, a5] at hr
    by_cases a6 : x.k = 6
    · simp [ho, a6] at hr
    by_cases a7 : x.k = 7
    · simp [ho, a7] at hr
    by_cases a8 : x.k = 8
    · simp [a8] at hr
      rw [hr.2.1] at ho
      cases ho
    by_cases a9 : x.k = 9
    · simp [a9] at hr
      rw [hr.2.1.1] at ho
      exact absurd hr.1 (by rw [ho]; simp)
    · simp [a1, a2, a3, a4, a5, a6, a7, a8, a9] at hr
  · rfl
theorem wadd_calls {w : World} {B lb b : Nat} {vl va p : Value} {S : LogS} {W : Wch} (h : LogAt w B lb vl va S) (hp : p = .pointer (some ⟨lb, 0, none⟩)) (hW : WatchAt w b p W) (x : Ev) (hcap : (S.l.length + 1) * 40 ≤ 140737488355328)
    (hbd : addE S x = 0 → 0 ≤ wJ W x x.t.toNat ∧ wJ W x x.t.toNat ≤ 1000) (hct : 0 ≤ W.cnt ∧ W.cnt ≤ 1000) :
    Calls Try.prog 22 #[.pointer (some ⟨b, 0, none⟩), .agg #[.int .i64 x.t, .int .i64 x.k, .int .i64 x.o, .int .i64 x.v, .int .i64 x.b]] w (WAddPost b p W B lb vl va S x w) := by
  by_cases hz : addE S x = 0
  case neg => exact wadd_no h hp hW x hcap hz
  have hb2 := hbd hz
  obtain ⟨hr, _⟩ := addE_ok hz
  have ht := right_th hr
  have ho := rB_o8 hr
  obtain ⟨xt, xk, xo, xv, xb⟩ := x
  simp only at ht ho hb2
  obtain ⟨et, rfl⟩ := Int.eq_ofNat_of_zero_le ht.1
  obtain ⟨eo, rfl⟩ := Int.eq_ofNat_of_zero_le ho.1
  have hte : et < 8 := by omega
  have heo : eo < 8 := by omega
  rw [Int.toNat_natCast] at hb2
  clear hbd ht ho hr
  by_cases hb : xb = 0
  · subst hb
    by_cases h4 : xk = 4
    · subst h4; exact wadd_k4 h hp hW et eo hte heo xv hcap hz hb2 hct
    by_cases h3 : xk = 3
    · subst h3; exact wadd_k3 h hp hW et eo hte heo xv hcap hz hb2 hct
    by_cases h7 : xk = 7
    · subst h7; exact wadd_k7 h hp hW et eo hte heo xv hcap hz hb2 hct
    by_cases h5 : xk = 5
    · subst h5; exact wadd_k5 h hp hW et eo hte heo xv hcap hz hb2 hct
    by_cases h6 : xk = 6
    · subst h6; exact wadd_k6 h hp hW et eo hte heo xv hcap hz hb2 hct
    · exact wadd_other h hp hW et eo hte heo xv xk ⟨h4, h3, h7, h5, h6⟩ hcap hz hb2 hct
  · exact wadd_bad h hp hW et eo hte heo xv xk xb hb hcap hz hb2 hct

set_option maxHeartbeats 2000000 in
theorem wcount_calls {w : World} {b : Nat} {p : Value} {W : Wch} (h : WatchAt w b p W) : Calls Try.prog 25 #[.pointer (some ⟨b, 0, none⟩)] w fun e w' => e = .returned (.int .i64 W.cnt) ∧ w = w' := by
  obtain ⟨A, hA, hWC⟩ := h
  have cc : w.cell? ⟨b, 321, none⟩ = some (.int .i64 W.cnt) := by rw [cell_of_block hA, hWC.cnt]
  clear hA hWC
  go_enter Try.func25, Try.ntmps25
  go_wp2
  go_ret
  exact ⟨rfl, rfl⟩

set_option maxRecDepth 20000 in
set_option maxHeartbeats 4000000 in
theorem seconds_calls {w : World} {a : Option Addr} {n c : Nat} {R : List (Nat × Nat)} (h : SeesP w (.slice a n c) (natsP R)) (hn : n = R.length) (hm : n ≤ 1000000) (k : Nat) :
    Calls Try.prog 24 #[.slice a n c, .int .i64 (k : Int)] w fun e w' => e = .returned (.bool (R.any fun p => p.2 == k)) ∧ Below w.heap.size w w' := by
  have HS := Lib.hid h
  have Hn := Lib.hid hn
  obtain ⟨r, hr⟩ : ∃ r, r = R.any (fun p => p.2 == k) := ⟨_, rfl⟩
  rw [← hr]
  have Hr := Lib.hid hr
  clear h hn hr
  go_enter Try.func24, Try.ntmps24
  go_wp2_with fail
  go_loopw [5] (fun v wr => ∃ i : Nat, i ≤ n ∧ v = .int .i64 i ∧ Hid (((R.take i).any fun p => p.2 == k) = false ∧ Below w.heap.size w wr)) (fun v _ => n - (intOf v).toNat)
  case atStart => exact ⟨0, Nat.zero_le _, by go_num, rfl, Below.refl ..⟩
  case round =>
    obtain ⟨i, hi, rfl, HQ⟩ := hrel
    by_cases hin : i < n
    · obtain ⟨⟨P1, P2⟩, hp⟩ : ∃ q, R[i]? = some q := ⟨_, List.getElem?_eq_getElem (by rw [← Hn.out]; exact hin)⟩
      obtain ⟨gr, hra, p0, p1⟩ := HS.out.nat_at hp
      simp only at p0 p1
      have p0 := keep HQ.out.2 p0
      have p1 := keep HQ.out.2 p1
      subst hra
      have Htk : Hid (((R.take (i + 1)).any fun p => p.2 == k) = (((R.take i).any fun p => p.2 == k) || P2 == k)) := by
        rw [Hid, List.take_add_one, hp]; simp
      by_cases he : P2 = k
      · have heb : ((P2 : Int) == (k : Int)) = true := by simp [he]
        have Hv : Hid (r = true) := by
          rw [Hid, Hr.out]
          exact List.any_eq_true.2 ⟨_, List.mem_of_getElem? hp, by simp [he]⟩
        have HB := Lib.hid HQ.out.2
        clear he hp Htk HQ
        go_wp2
        go_ret
        exact ⟨by rw [Hv.out]; rfl, HB.out⟩
      · have heb : ((P2 : Int) == (k : Int)) = false := by simp; omega
        have HN : Hid (((R.take (i + 1)).any fun p => p.2 == k) = false ∧ Below w.heap.size w wr) := ⟨by rw [Htk.out, HQ.out.1]; simp [he], HQ.out.2⟩
        clear he hp Htk HQ
        go_wp2
        go_roundw
        case rel => exact ⟨i + 1, hin, by go_num, HN.out⟩
        case measure => exact measC hin
    · have hin : i = n := Nat.le_antisymm hi (Nat.le_of_not_lt hin)
      subst hin
      have Hv : Hid (r = false) := by
        rw [Hid, Hr.out]
        have := HQ.out.1
        rwa [List.take_of_length_le (by rw [← Hn.out]; exact Nat.le_refl _)] at this
      have HB := Lib.hid HQ.out.2
      clear HQ
      go_wp2
      go_ret
      exact ⟨by rw [Hv.out]; rfl, HB.out⟩

def wz (lb : Nat) : Array Value := (Value.pointer (some ⟨lb, 0, none⟩) :: List.replicate 321 (Value.int .i64 0)).toArray
set_option maxRecDepth 100000 in
theorem wz_cells (lb : Nat) : WCells (wz lb) (.pointer (some ⟨lb, 0, none⟩)) wch0 := by
  have hg : ∀ k, 0 < k → k < 322 → (wz lb)[k]? = some (.int .i64 0) := fun k h0 hk => by
    obtain ⟨j, rfl⟩ : ∃ j, k = j + 1 := ⟨k - 1, by omega⟩
    unfold wz
    rw [List.getElem?_toArray, List.getElem?_cons_succ, List.getElem?_replicate, if_pos (by omega)]
  exact ⟨by unfold wz; rw [List.size_toArray, List.length_cons, List.length_replicate], rfl, fun a i ha hi => hg _ (by omega) (by omega), fun a i ha hi => hg _ (by omega) (by omega), fun a i ha hi => hg _ (by omega) (by omega), fun a i ha hi => hg _ (by omega) (by omega), fun a i ha hi => hg _ (by omega) (by omega), hg _ (by omega) (by omega)⟩
set_option maxRecDepth 100000 in
theorem built_tk (lb : Nat) : Try.prog.built 88 [(0, .pointer (some ⟨lb, 0, none⟩))] = some #[.pointer (some ⟨lb, 0, none⟩)] := by kernel_rfl
set_option maxRecDepth 100000 in
theorem built_wz (lb : Nat) : Try.prog.built 95 [(0, .agg #[.pointer (some ⟨lb, 0, none⟩)])] = some (wz lb) := by kernel_rfl
set_option maxRecDepth 20000 in
set_option maxHeartbeats 4000000 in
theorem wnew_calls (w : World) : Calls Try.prog 20 #[] w fun e w' => ∃ b, e = .returned (.pointer (some ⟨b, 0, none⟩)) ∧ LogAt w' w.heap.size w.heap.size (.slice none 0 0) (.slice none 0 0) log0 ∧ WatchAt w' b (.pointer (some ⟨w.heap.size, 0, none⟩)) wch0 ∧ w.heap.size ≤ b ∧ Below w.heap.size w w' := by
  go_enter Try.func20, Try.ntmps20
  go_wp2_with fail
  refine (lnew_calls _).mono ?_
  rintro e y ⟨rfl, hL, hb⟩
  have hN := one_newC y (wz w.heap.size) 95
  have Hq : Hid (LogAt (y.alloc (.cells (wz w.heap.size) 95)) w.heap.size w.heap.size (.slice none 0 0) (.slice none 0 0) log0 ∧ WatchAt (y.alloc (.cells (wz w.heap.size) 95)) y.heap.size (.pointer (some ⟨w.heap.size, 0, none⟩)) wch0 ∧ w.heap.size ≤ y.heap.size ∧ Below w.heap.size w (y.alloc (.cells (wz w.heap.size) 95))) :=
    ⟨hL.below hN.2, ⟨_, hN.1, wz_cells _⟩, hb.size, hb.trans (hN.2.mono hb.size)⟩
  clear hL hb hN
  go_wp2_with (first | refine wpList_buildTo rfl 88 #[(0, .tmp 1)] rfl (some 2) rfl #[.pointer (some ⟨w.heap.size, 0, none⟩)] (built_tk _) ?_ | refine wpList_buildTo rfl 95 #[(0, .tmp 2)] rfl (some 3) rfl (wz w.heap.size) (built_wz _) ?_)
  go_ret
  exact ⟨_, rfl, Hq.out⟩
end Go.Proofs.Ytadngicebbnnlaa

namespace Go.Proofs.Ytadngicebbnnlaa
open Go.ChangeShapes Go.WideShapes Go.ChangeAt Go.RowKit Go.Deep

def eltEv : Elt Ev where
  T := 22
  e := 38
  z := .agg #[.int .i64 0, .int .i64 0, .int .i64 0, .int .i64 0, .int .i64 0]
  size := 5
  bytes := 40
  f := Ev.vals
  ht := Try.underlying22
  hi := infoEv
  hz := rfl
  hs := by decide
  hb := by decide
  hf := fun _ => rfl
  h1 := fun x u hu => by
    unfold Ev.vals at hu
    simp only [List.mem_cons, List.map_cons, List.map_nil, List.not_mem_nil, or_false] at hu
    rcases hu with rfl | rfl | rfl | rfl | rfl <;> rfl

theorem OwnL.evs {w : World} {B : Nat} {v : Value} {xs : List Ev} (h : OwnL eltEv w B v xs) (hw : ∀ x ∈ xs, x.wf) : ∃ a c, v = .slice a xs.length c ∧ IsEvs w a xs.length c xs := by
  obtain ⟨a, c, rfl, h1, h2, h3, h4⟩ := h.slice
  refine ⟨a, c, rfl, ⟨⟨flat_len Ev.vals 5 (fun _ => rfl) xs, fun hn => ?_⟩, rfl, h1, h2, hw⟩⟩
  cases a with
  | none => have := h3 rfl; subst this; simp at hn
  | some ad =>
    obtain ⟨g, o, s⟩ := ad
    obtain ⟨rfl, rfl, _, _, hc⟩ := h4 g o s rfl
    exact ⟨g, 0, rfl, fun j u hu => by rw [Nat.zero_add]; exact hc j u hu⟩

theorem stateW_ne {w : World} {B b bs : Nat} {vl va : Value} {S T : LogS} (h : LogAt w B b vl va S) (hT : StateAt w bs T) : ¬ logR b vl va bs := by
  obtain ⟨cs, h1, _⟩ := h.blk
  rintro (rfl | hx | hx)
  · exact own_ne h1 hT (by decide) rfl
  · obtain ⟨cur, hc⟩ := own_obj h.ev hx
    exact own_ne hc hT (by decide) rfl
  · obtain ⟨cur, hc⟩ := own_obj h.ab hx
    exact own_ne hc hT (by decide) rfl
theorem ownl_obj {w : World} {B : Nat} {u : Value} {xs : List Ev} (h : OwnL eltEv w B u xs) {g : Nat} (hg : u.ownBlock = some g) : ∃ cur, w.heap[g]? = some (.cells cur 38 (0, 0)) := own_obj h.own hg
theorem goOf_snoc : ∀ (l : List Ev) (S0 S : LogS) (i : Nat) (x : Ev), goOf S0 l i = (S, 0, 0) → addE S x = 0 → goOf S0 (l ++ [x]) i = (addS S x, 0, 0)
  | [], S0, S, i, x, h, hz => by
    have : S0 = S := congrArg Prod.fst h
    subst this
    simp [goOf, hz]
  | e :: r, S0, S, i, x, h, hz => by
    rw [List.cons_append]
    unfold goOf at h ⊢
    by_cases he : addE S0 e = 0
    · rw [if_pos he] at h ⊢; exact goOf_snoc r _ _ _ x h hz
    · rw [if_neg he] at h; exact absurd (congrArg (fun q => q.2.1) h) he
theorem wj_bd {l : List Ev} {W : Wch} {S : LogS} {x : Ev} (h : WInv (gL l) l.length W S) (hz : addE S x = 0) : 0 ≤ wJ W x x.t.toNat ∧ wJ W x x.t.toNat ≤ l.length := by
  obtain ⟨hr, hk⟩ := addE_ok hz
  have h2 := h.agree (gL_agree l x)
  have hn := (wC_kn h2 (gL_last l x) hr hk).1
  have h3 := (wJ_kn h2 (gL_last l x) hr hk).lo x.t.toNat
  refine ⟨h3, ?_⟩
  unfold wC at hn
  rw [upd_at] at hn
  have := numT_le (tG (gL (l ++ [x]))) l.length
  omega
theorem wTurn_cnt (W : Wch) (x : Ev) : (wTurn W x).cnt = W.cnt + if wRc W x then 1 else 0 := rfl

/-- The loop's state. -/
structure CInv (w : World) (B b bs lb : Nat) (vl va u p : Value) (S : LogS) (W : Wch) : Prop where
  log : LogAt w B lb vl va S
  wa : WatchAt w b p W
  st : StateAt w bs S
  own : OwnL eltEv w B u S.l
  dis : ∀ g, u.ownBlock = some g → ¬ logR lb vl va g
  good : Good S
  inv : WInv (gL S.l) S.l.length W S
  goes : ofS S.l = (S, 0, 0)
  wf : ∀ e ∈ S.l, e.wf
  bB : B ≤ b
  bsB : B ≤ bs
  cnt : 0 ≤ W.cnt ∧ W.cnt ≤ S.l.length
theorem CInv.below {w w' : World} {B b bs lb : Nat} {vl va u p : Value} {S : LogS} {W : Wch} (h : CInv w B b bs lb vl va u p S W) (hb : Below w.heap.size w w') : CInv w' B b bs lb vl va u p S W :=
  ⟨h.log.below hb, h.wa.below hb, h.st.below hb, h.own.below hb, h.dis, h.good, h.inv, h.goes, h.wf, h.bB, h.bsB, h.cnt⟩
/-- Behind both Adds; what is refused changes nothing. -/
structure CMid (w : World) (B b bs lb : Nat) (vl va u p : Value) (S S' : LogS) (W' : Wch) : Prop where
  log : LogAt w B lb vl va S'
  wa : WatchAt w b p W'
  st : StateAt w bs S'
  own : OwnL eltEv w B u S.l
  dis : ∀ g, u.ownBlock = some g → ¬ logR lb vl va g
theorem CInv.mid {w y z : World} {B b bs lb : Nat} {vl va vl' va' u p : Value} {S : LogS} {W W' : Wch} {x : Ev} (h : CInv w B b bs lb vl va u p S W)
    (hL : LogAt y B lb vl' va' (addS S x)) (hW : Wrote (fun q => q = b ∨ logR lb vl va q) w y) (hsub : ∀ k, logR lb vl' va' k → logR lb vl va k ∨ w.heap.size ≤ k) (hwa : WatchAt y b p W')
    (hT : StateAt z bs (addS S x)) (hM : y.grownBy z (some bs)) : CMid z B b bs lb vl' va' u p S (addS S x) W' := by
  have hbsb : bs ≠ b := by
    rintro rfl
    obtain ⟨A, hA, _⟩ := h.wa
    exact own_ne hA h.st (by decide) rfl
  have hub : ∀ g, u.ownBlock = some g → g ≠ b := by
    rintro g hg rfl
    obtain ⟨A, hA, _⟩ := h.wa
    obtain ⟨cur, hc⟩ := ownl_obj h.own hg
    exact own_ne hA hc (by decide) rfl
  have hO2 := h.own.wrote hW (fun g hg q => by rcases q with q | q; exact hub g hg q; exact h.dis g hg q)
  have hT2 : StateAt y bs S := h.st.wrote hW (fun q => by rcases q with q | q; exact hbsb q; exact stateW_ne h.log h.st q)
  have hW3 : Wrote (fun q => q = bs) y z := Wrote.of_grown hM (fun k hk => by cases hk; rfl)
  refine ⟨hL.wrote hW3 (fun q hq e => stateW_ne hL hT2 (e ▸ hq)), hwa.wrote hW3 (fun e => hbsb e.symm), hT, hO2.wrote hW3 ?_, fun g hg hq => ?_⟩
  · rintro g hg rfl
    obtain ⟨cur, hc⟩ := ownl_obj hO2 hg
    exact own_ne hc hT2 (by decide) rfl
  · rcases hsub g hq with hq | hq
    · exact h.dis g hg hq
    · have := (h.own.lt hg).2; omega
theorem CInv.next {w y z : World} {B b bs lb : Nat} {vl va vl' va' u u' p : Value} {S : LogS} {W : Wch} {x : Ev} (h : CInv w B b bs lb vl va u p S W) (hx : x.wf) (hz : addE S x = 0)
    (hm : CMid y B b bs lb vl' va' u p S (addS S x) (wTurn W x)) (ho : OwnL eltEv z B u' (S.l ++ [x])) (hw : Wrote (fun q => u.ownBlock = some q) y z) (hv : ∀ q, u'.ownBlock = some q → u.ownBlock = some q ∨ y.heap.size ≤ q) :
    CInv z B b bs lb vl' va' u' p (addS S x) (wTurn W x) := by
  obtain ⟨hr, hk⟩ := addE_ok hz
  have hl : (addS S x).l = S.l ++ [x] := by rw [addE_zero hz]; rfl
  have hi := (h.inv.snoc hr hk).1
  refine ⟨hm.log.wrote hw (fun q hq e => hm.dis q e hq), hm.wa.wrote hw ?_, hm.st.wrote hw ?_, by rw [hl]; exact ho, fun g hg hq => ?_, addS_good h.good x, by rw [hl, addE_zero hz]; exact hi, by rw [hl]; exact goOf_snoc _ _ _ _ _ h.goes hz, ?_, h.bB, h.bsB, ?_⟩
  · intro hq
    obtain ⟨A, hA, _⟩ := hm.wa
    obtain ⟨cur, hc⟩ := ownl_obj hm.own hq
    exact own_ne hA hc (by decide) rfl
  · intro hq
    obtain ⟨cur, hc⟩ := ownl_obj hm.own hq
    exact own_ne hc hm.st (by decide) rfl
  · rcases hv g hg with hv | hv
    · exact hm.dis g hv hq
    · have := hm.log.rlt g hq; omega
  · intro e he
    rw [hl] at he
    rcases List.mem_append.1 he with he | he
    · exact h.wf e he
    · rw [List.mem_singleton.1 he]; exact hx
  · have := h.cnt
    rw [wTurn_cnt, hl, List.length_append, List.length_singleton]
    split <;> omega
end Go.Proofs.Ytadngicebbnnlaa

namespace Go.Proofs.Ytadngicebbnnlaa
open Go.ChangeShapes Go.WideShapes Go.ChangeAt Go.RowKit Go.Deep

theorem CInv.stw {w y : World} {B b bs lb : Nat} {vl va u p : Value} {S : LogS} {W : Wch} (h : CInv w B b bs lb vl va u p S W) (hW : Wrote (fun q => q = b ∨ logR lb vl va q) w y) : StateAt y bs S := by
  refine h.st.wrote hW (fun q => ?_)
  rcases q with q | q
  · obtain ⟨A, hA, _⟩ := h.wa
    have h9 := h.st
    rw [q] at h9
    exact own_ne hA h9 (by decide) rfl
  · exact stateW_ne h.log h.st q
theorem CInv.lowB {w : World} {B b bs lb : Nat} {vl va u p : Value} {S : LogS} {W : Wch} (h : CInv w B b bs lb vl va u p S W) : ∀ q, (q = b ∨ logR lb vl va q) → B ≤ q := fun q hq => by
  rcases hq with rfl | hq
  · exact h.bB
  · exact h.log.base q hq
theorem CMid.no {w z : World} {B b bs lb : Nat} {vl va vl' va' u p : Value} {S : LogS} {W : Wch} {x : Ev} (h : CInv w B b bs lb vl va u p S W) (hz : addE S x ≠ 0) (hm : CMid z B b bs lb vl' va' u p S (addS S x) W) : CInv z B b bs lb vl' va' u p S W := by
  have hs : addS S x = S := by
    unfold addS
    unfold addE at hz
    cases hr : rB x
    · rfl
    · cases hk : okB S x
      · rfl
      · rw [hr, hk] at hz; simp at hz
  have h1 := hm.log
  have h2 := hm.st
  rw [hs] at h1 h2
  exact ⟨h1, hm.wa, h2, hm.own, hm.dis, h.good, h.inv, h.goes, h.wf, h.bB, h.bsB, h.cnt⟩

set_option maxRecDepth 20000 in
set_option maxHeartbeats 16000000 in
theorem conflictWatches_law {w : World} {a0 : Option Addr} {n c : Nat} {l : List Ev} (h : IsEvs w a0 n c l) :
    Calls Try.prog 6 #[.slice a0 n c] w fun e w' => e = .returned (.bool true) ∧ Below w.heap.size w w' := by
  have hnm : n ≤ 9223372036854775807 := by have := h.le; have := h.cap; unfold maxLen at *; omega
  have Hev := Lib.hid h
  clear h
  go_enter Try.func6, Try.ntmps6
  go_wp2_with fail
  refine (cawake_calls _).mono ?_
  rintro e w1 ⟨rfl, hb⟩
  have HB1 := Lib.hid hb
  clear hb
  go_wp2_with fail
  refine (wnew_calls _).mono ?_
  rintro e w2 ⟨b, rfl, hL, hW, hbb, hb⟩
  have HB2 := Lib.hid (HB1.out.trans (hb.mono HB1.out.size))
  have HN := Lib.hid (And.intro hL (And.intro hW hbb))
  have hB1 : w.heap.size ≤ w1.heap.size := HB1.out.size
  have hs2 : w1.heap.size ≤ w2.heap.size := hb.size
  have HB1s := Lib.hid (And.intro hB1 hs2)
  clear hb hL hW hbb HB1 hB1 hs2
  generalize w1.heap.size = B at *
  by_cases hn : 100 < n
  · have hd : decide ((100 : Int) < (n : Int)) = true := decide_eq_true (by omega)
    go_wp2
    go_ret
    exact ⟨rfl, HB2.out⟩
  have hd : decide ((100 : Int) < (n : Int)) = false := decide_eq_false (by omega)
  have hn100 : n ≤ 100 := Nat.le_of_not_lt hn
  clear hn
  go_wp2_with fail
  refine (first_calls _).mono ?_
  rintro e w3 ⟨rfl, hb⟩
  have HB3 := Lib.hid (HB2.out.trans (hb.mono HB2.out.size))
  have HN3 := Lib.hid (And.intro (HN.out.1.below hb) (HN.out.2.1.below hb))
  have hs3 : w2.heap.size ≤ w3.heap.size := hb.size
  have Hs3 := Lib.hid hs3
  clear hb hs3
  go_wp2_with (refine wpList_store_row rfl 47 (.tmp 5) (.tmp 30) rfl w3.heap.size (stArr log0.st log0.ow) rfl rfl 47 #[.int .i64 0, .int .i64 0, .int .i64 0, .int .i64 0, .int .i64 0, .int .i64 0, .int .i64 0, .int .i64 0, .int .i64 0, .int .i64 0, .int .i64 0, .int .i64 0, .int .i64 0, .int .i64 0, .int .i64 0, .int .i64 0] (MapKept.heap_alloc w3 _).1 infoState rfl (stArr_one _ _) ?_)
  have hrow := row_made w3 #[.int .i64 0, .int .i64 0, .int .i64 0, .int .i64 0, .int .i64 0, .int .i64 0, .int .i64 0, .int .i64 0, .int .i64 0, .int .i64 0, .int .i64 0, .int .i64 0, .int .i64 0, .int .i64 0, .int .i64 0, .int .i64 0] (stArr log0.st log0.ow) 47
  revert hrow
  generalize ((w3.alloc (.cells #[.int .i64 0, .int .i64 0, .int .i64 0, .int .i64 0, .int .i64 0, .int .i64 0, .int .i64 0, .int .i64 0, .int .i64 0, .int .i64 0, .int .i64 0, .int .i64 0, .int .i64 0, .int .i64 0, .int .i64 0, .int .i64 0] 47)).setRow w3.heap.size (stArr log0.st log0.ow)) = w4
  rintro ⟨hT, hb⟩
  have hT : StateAt w4 w3.heap.size log0 := hT
  have HB4 := Lib.hid (HB3.out.trans (hb.mono HB3.out.size))
  obtain ⟨p, hp⟩ : ∃ p, p = Value.pointer (some ⟨B, 0, none⟩) := ⟨_, rfl⟩
  have Hp := Lib.hid hp
  have hI4 : CInv w4 B b w3.heap.size B (.slice none 0 0) (.slice none 0 0) (.slice none 0 0) p log0 wch0 := by
    rw [hp]
    exact ⟨HN3.out.1.below hb, HN3.out.2.below hb, hT, OwnL.nil .., fun g hg => (by cases hg), good0, WInv.zero _, rfl, fun e he => (by cases he), HN.out.2.2, by have := HB1s.out.2; have := Hs3.out; omega, Int.le_refl _, Int.le_refl _⟩
  have HI4 := Lib.hid hI4
  have hBw : w.heap.size ≤ B := HB1s.out.1
  have HBw := Lib.hid hBw
  clear hb hT hI4 HN3 HN hp HB1s Hs3 hBw HB3 HB2
  generalize w3.heap.size = bs at *
  go_loopw [6, 7, 8] (fun u v x wr => ∃ (k : Nat) (S : LogS) (W : Wch) (vl va : Value), k ≤ n ∧ x = .int .i64 k ∧ v = .int .i64 W.cnt ∧ Hid (CInv wr B b bs B vl va u p S W ∧ S.l.length ≤ k ∧ Below w.heap.size w wr)) (fun _ _ x _ => n - (intOf x).toNat)
  case atStart => exact ⟨0, log0, wch0, _, _, Nat.zero_le _, by go_num, rfl, HI4.out, Nat.le_refl _, HB4.out⟩
  case round =>
    clear HI4
    obtain ⟨k, S, W, vl, va, hk, rfl, rfl, H⟩ := hrel
    by_cases hlt : k < n
    · obtain ⟨b0, off, x, rfl, hx, hxw, c0, c1, c2, c3, c4⟩ := Hev.out.at hlt
      have HC := Lib.hid (And.intro c0 (And.intro c1 (And.intro c2 (And.intro c3 c4))))
      have Hxw := Lib.hid hxw
      clear hx hxw c0 c1 c2 c3 c4
      have d0 := keep H.out.2.2 HC.out.1
      have d1 := keep H.out.2.2 HC.out.2.1
      have d2 := keep H.out.2.2 HC.out.2.2.1
      have d3 := keep H.out.2.2 HC.out.2.2.2.1
      have d4 := keep H.out.2.2 HC.out.2.2.2.2
      have hq0 : S.l.length ≤ 100 := by have := H.out.2.1; omega
      go_wp2_with fail
      refine (wadd_calls H.out.1.log Hp.out H.out.1.wa x (by omega) (fun hz => by have := wj_bd H.out.1.inv hz; omega) (by have := H.out.1.cnt; omega)).mono ?_
      rintro e z2 ⟨vl', va', hL2, hW2, hsub, hcase⟩
      have HBz := Lib.hid (Wrote.below H.out.2.2 hW2 H.out.2.2.size (fun q hq => Nat.le_trans HBw.out (H.out.1.lowB q hq)))
      have HS2 := Lib.hid (H.out.1.stw hW2)
      have HP := Lib.hid (And.intro hL2 (And.intro hW2 hsub))
      clear hL2 hW2 hsub d0 d1 d2 d3 d4
      have d0 := keep HBz.out HC.out.1
      have d1 := keep HBz.out HC.out.2.1
      have d2 := keep HBz.out HC.out.2.2.1
      have d3 := keep HBz.out HC.out.2.2.2.1
      have d4 := keep HBz.out HC.out.2.2.2.2
      rcases hcase with ⟨hz, rfl, hwa⟩ | ⟨hz, rfl, hwa⟩
      · have Hwa := Lib.hid hwa
        clear hwa
        go_wp2_with fail
        refine (sadd_calls HS2.out H.out.1.good x).mono ?_
        rintro e z3 ⟨rfl, hT3, hM3⟩
        have hm := H.out.1.mid HP.out.1 HP.out.2.1 HP.out.2.2 Hwa.out hT3 hM3
        have HN := Lib.hid (And.intro (CMid.no H.out.1 hz hm) (below_of_mod HBz.out hM3 HBz.out.size (Nat.le_trans HBw.out H.out.1.bsB)))
        have hkk := H.out.2.1
        have hz1 : (addE S x != addE S x) = false := by simp
        have hz2 : (addE S x != 0) = true := by simpa [bne] using hz
        clear hT3 hM3 hm Hwa HP HS2 HBz d0 d1 d2 d3 d4 H hz
        generalize addE S x = z at *
        go_wp2
        go_roundw
        case rel => exact ⟨k + 1, S, W, vl', va', hlt, by go_num, rfl, HN.out.1, Nat.le_succ_of_le hkk, HN.out.2⟩
        case measure => exact measC hlt
      · have Hwa := Lib.hid hwa
        have Hz := Lib.hid hz
        obtain ⟨hrr, hkk9⟩ := addE_ok hz
        have hraced := (H.out.1.inv.snoc hrr hkk9).2
        obtain ⟨r, hr⟩ : ∃ r, r = wRc W x := ⟨_, rfl⟩
        rw [← hr] at hraced ⊢
        have Hr := Lib.hid hr
        have Hraced := Lib.hid hraced
        clear hwa hrr hkk9 hraced hr
        go_wp2_with fail
        refine (sadd_calls HS2.out H.out.1.good x).mono ?_
        rintro e z3 ⟨rfl, hT3, hM3⟩
        have HM := Lib.hid (H.out.1.mid HP.out.1 HP.out.2.1 HP.out.2.2 Hwa.out hT3 hM3)
        have HB3' := Lib.hid (below_of_mod HBz.out hM3 HBz.out.size (Nat.le_trans HBw.out H.out.1.bsB))
        have hz3 : B ≤ z3.heap.size := by have := HM.out.wa.lt; have := H.out.1.bB; omega
        rw [hz]
        clear hT3 hM3 Hwa HP HS2 HBz hz d0 d1 d2 d3 d4
        have d0 := keep HB3'.out HC.out.1
        have d1 := keep HB3'.out HC.out.2.1
        have d2 := keep HB3'.out HC.out.2.2.1
        have d3 := keep HB3'.out HC.out.2.2.2.1
        have d4 := keep HB3'.out HC.out.2.2.2.2
        have hcap : S.l.length < 1000000 := by omega
        go_wp2_with (at_builtin; go_loud (refine wpList_push eltEv rfl (.tmp 63) (.tmp 68) rfl x rfl rfl rfl HM.out.own hz3 hcap ?_))
        intro u' z4 hown hw hv
        have HX := Lib.hid (And.intro (H.out.1.next Hxw.out Hz.out HM.out hown hw hv) (Wrote.below HB3'.out hw HB3'.out.size (fun q hq => Nat.le_trans HBw.out (HM.out.own.lt hq).1)))
        have hl9 : (addS S x).l = S.l ++ [x] := by rw [addE_zero Hz.out]; rfl
        have Hl9 := Lib.hid hl9
        have hwf9 : ∀ e ∈ S.l ++ [x], e.wf := by rw [← hl9]; exact HX.out.1.wf
        obtain ⟨ua, uc, rfl, hI⟩ := hown.evs hwf9
        have hwr : wrongS (S.l ++ [x]).length (S.l ++ [x]) = 0 := by
          have h8 := HX.out.1.goes
          rw [hl9] at h8
          unfold wrongS
          rw [if_neg (by rw [List.length_append, List.length_singleton]; have := H.out.2.1; omega), h8]
        have hsec := seconds_iff (l := S.l) (e := x)
        have hany : ((docC (S.l ++ [x]) (S.l ++ [x]).length).any fun q => q.2 == S.l.length) = r := by
          rw [Bool.eq_iff_iff, hsec, Hraced.out]
        have Hany := Lib.hid hany
        have HI := Lib.hid hI
        have Hwr := Lib.hid hwr
        have hkk := H.out.2.1
        have hlen9 : (S.l ++ [x]).length = S.l.length + 1 := by simp
        have hcnt := H.out.1.cnt
        have hwcn : RowKit.wrap64 (W.cnt + 1) = W.cnt + 1 := wrap64_fit (by omega) (by omega)
        have Hcn : Hid ((wTurn W x).cnt = W.cnt + if r then 1 else 0) := by rw [Hid, wTurn_cnt, Hr.out]
        clear hown hw hv hl9 hwf9 hI hwr hsec hany d0 d1 d2 d3 d4 HM HB3' H hcnt Hr Hraced
        have hwm : RowKit.wrap64 (((S.l ++ [x]).length : Int) - 1) = (S.l.length : Int) := by rw [hlen9]; rw [wrap64_fit (by omega) (by omega)]; omega
        have Hlen9 := Lib.hid hlen9
        revert HI Hwr Hany hwm HX Hlen9
        generalize hL9 : S.l ++ [x] = L9
        generalize S.l.length = q at *
        intro HX Hany HI Hwr hwm Hlen9
        clear hlen9
        have hm9 : (docC L9 L9.length).length ≤ 1000000 := by
          have h1 := Hlen9.out
          have h2 := docC_len L9 L9.length (by omega)
          have h3 : L9.length * 100 ≤ 100 * 100 := Nat.mul_le_mul_right _ (by omega)
          omega
        have Hk2 : Hid ((addS S x).l.length ≤ k + 1) := by rw [Hid, Hl9.out, hL9, Hlen9.out]; omega
        clear Hl9 hL9
        go_wp2_with fail
        refine (rcfraces_calls HI.out).mono ?_
        rintro e z5 ⟨v, rfl, hs, hb⟩
        rw [confRes_good Hwr.out] at hs ⊢
        simp only at hs ⊢
        obtain ⟨ra, rc, rfl, hrc⟩ := hs.nats
        have HX5 := Lib.hid (And.intro (HX.out.1.below hb) (HX.out.2.trans (hb.mono HX.out.2.size)))
        have HSs := Lib.hid hs
        have Hm9 := Lib.hid hm9
        have hL9n : L9.length ≤ 1000000 := by have := Hlen9.out; omega
        clear hs hb HX HI Hwr hrc hm9
        go_wp2_with fail
        have hLq : ((L9.length : Int) - 1) = (q : Int) := by have := Hlen9.out; omega
        rw [hLq]
        refine (seconds_calls HSs.out rfl Hm9.out q).mono ?_
        rintro e z6 ⟨rfl, hb⟩
        rw [Hany.out]
        have HX6 := Lib.hid (And.intro (HX5.out.1.below hb) (HX5.out.2.trans (hb.mono HX5.out.2.size)))
        have hrr : (r != r) = false := by simp
        clear hb HX5 HSs Hany hwm Hlen9 Hm9 hL9n hLq
        cases r
        case false =>
          have Hc2 : Hid ((wTurn W x).cnt = W.cnt) := by rw [Hid, Hcn.out]; simp
          clear Hcn
          go_wp2
          go_roundw
          case rel => exact ⟨k + 1, addS S x, wTurn W x, vl', va', hlt, by go_num, by rw [Hc2.out]; (first | done | rfl | exact rfl | (rw [hwcn]; done) | (simp [hwcn]; done) | go_num), HX6.out.1, Hk2.out, HX6.out.2⟩
          case measure => exact measC hlt
        case true =>
          have Hc2 : Hid ((wTurn W x).cnt = W.cnt + 1) := by rw [Hid, Hcn.out]; simp
          clear Hcn
          go_wp2
          go_roundw
          case rel => exact ⟨k + 1, addS S x, wTurn W x, vl', va', hlt, by go_num, by rw [Hc2.out]; (first | done | rfl | exact rfl | (rw [hwcn]; done) | (simp [hwcn]; done) | go_num), HX6.out.1, Hk2.out, HX6.out.2⟩
          case measure => exact measC hlt
    · have hkn : k = n := Nat.le_antisymm hk (Nat.le_of_not_lt hlt)
      have HB := Lib.hid H.out.2.2
      have HWa := Lib.hid H.out.1.wa
      clear H
      go_wp2_with fail
      refine (wcount_calls HWa.out).mono ?_
      rintro e z ⟨rfl, rfl⟩
      have hcc : (W.cnt == W.cnt) = true := by simp
      clear HWa
      generalize W.cnt = q at *
      go_wp2
      go_ret
      exact ⟨rfl, HB.out⟩
end Go.Proofs.Ytadngicebbnnlaa
