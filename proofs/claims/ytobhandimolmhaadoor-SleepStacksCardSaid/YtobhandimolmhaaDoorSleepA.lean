/-
  Sets of threads: Of of any list, the program's and the document's.
-/
import Derived.Test.YtobhandimolmhaaDoorData
import Derived.WalkKit
import Derived.WalkSpells
import Derived.WalkLawsBesides
import Derived.Handy
import Derived.Lib.Hide
import Derived.Deep.LoopGhost
import Derived.Laws.Bits64b
set_option linter.unusedSimpArgs false
set_option linter.unusedVariables false
namespace Go.Proofs.YtobhandimolmhaaDoor
open Go.ChangeShapes Go.WideShapes Go.ChangeAt Go.RowKit Go.Deep

def in8 (t : Int) : Bool := decide (0 ≤ t) && decide (t < 8)
def oneN (t : Int) : Nat := if in8 t then 2 ^ t.toNat else 0
def maskN (l : List Int) : Nat := l.foldl (fun s t => s ||| oneN t) 0
theorem oneN_lt (t : Int) : oneN t < 256 := by
  unfold oneN in8
  split
  · rename_i h
    simp only [Bool.and_eq_true, decide_eq_true_eq] at h
    have h8 : t.toNat < 8 := by omega
    exact Nat.pow_lt_pow_right (by omega) h8
  · omega
theorem or_lt {a b : Nat} (ha : a < 256) (hb : b < 256) : a ||| b < 256 := Nat.or_lt_two_pow (n := 8) ha hb
theorem maskN_lt' : ∀ (l : List Int) (s : Nat), s < 256 → l.foldl (fun s t => s ||| oneN t) s < 256
  | [], s, h => h
  | t :: l, s, h => maskN_lt' l _ (or_lt h (oneN_lt t))
theorem maskN_lt (l : List Int) : maskN l < 256 := maskN_lt' l 0 (by omega)
theorem maskN_take {l : List Int} {k : Nat} {x : Int} (h : l[k]? = some x) : maskN (l.take (k + 1)) = maskN (l.take k) ||| oneN x := by
  unfold maskN; rw [List.take_add_one, h, List.foldl_append]; rfl
theorem or_val {a b : Nat} (ha : a < 256) (hb : b < 256) : bits .or .u64 (a : Int) (b : Int) = ((a ||| b : Nat) : Int) := bits_or_u64_nat a b (by omega) (by omega)

set_option maxHeartbeats 1000000 in
theorem one_calls (w : World) (t : Int) : Calls Tryd.prog 18 #[.int .i64 t] w fun e w' => e = .returned (.int .u64 (oneN t)) ∧ Below w.heap.size w w' := by
  cases hi : in8 t
  · have Hf : Hid (oneN t = 0) := by unfold Hid oneN; rw [hi]; rfl
    have ho : t < 0 ∨ 8 ≤ t := by
      unfold in8 at hi; simp only [Bool.and_eq_false_iff, decide_eq_false_iff_not] at hi; omega
    clear hi
    rcases ho with h | h
    all_goals
      go_enter Tryd.func18, Tryd.ntmps18
      go_wp2
      go_ret
      exact ⟨by rw [Hf.out]; rfl, Below.refl _ _⟩
  · unfold in8 at hi
    simp only [Bool.and_eq_true, decide_eq_true_eq] at hi
    obtain rfl | rfl | rfl | rfl | rfl | rfl | rfl | rfl : t = 0 ∨ t = 1 ∨ t = 2 ∨ t = 3 ∨ t = 4 ∨ t = 5 ∨ t = 6 ∨ t = 7 := by omega
    all_goals
      clear hi
      go_enter Tryd.func18, Tryd.ntmps18
      go_wp2
      go_ret
      exact ⟨rfl, Below.refl _ _⟩

set_option maxHeartbeats 1000000 in
theorem sof_calls {w : World} {a0 : Option Addr} {n c : Nat} {xs : List Int} (h : IsInts w a0 n c xs) :
    Calls Tryd.prog 14 #[.slice a0 n c] w fun e w' => e = .returned (.int .u64 (maskN xs)) ∧ Below w.heap.size w w' := by
  have hn := h.bd
  have hl := h.len
  go_enter Tryd.func14, Tryd.ntmps14
  go_wp2
  go_loopw [3, 8] (fun v i wr => ∃ k : Nat, k ≤ n ∧ v = .int .u64 (maskN (xs.take k)) ∧ i = .int .i64 k ∧ Below w.heap.size w wr) (fun _ i _ => n - (intOf i).toNat)
  case atStart => exact ⟨0, Nat.zero_le _, rfl, rfl, Below.refl _ _⟩
  case round =>
    obtain ⟨k, hk, rfl, rfl, hB⟩ := hrel
    by_cases hlt : k < n
    · obtain ⟨b, off, x, rfl, hx, _, c1⟩ := h.at hlt
      have c1 := keep hB c1
      have Hr := Lib.hid (maskN_take hx)
      have Hv := Lib.hid (or_val (maskN_lt (xs.take k)) (oneN_lt x))
      go_wp2_with fail
      refine (one_calls _ _).mono ?_
      rintro e w2 ⟨rfl, hb⟩
      have hB2 := hB.trans (hb.mono hB.size)
      clear hb c1
      go_wp2
      rw [Hv.out, ← Hr.out]
      exact ⟨⟨k + 1, by omega, rfl, rfl, hB2⟩, by simp [intOf]; omega⟩
    · have hkn : xs.take k = xs := List.take_of_length_le (by omega)
      rw [hkn]
      clear hkn
      go_wp2
      go_ret
      exact ⟨rfl, hB⟩

/-- A set as a list of eight, in memory and as a value. -/
structure BitsAt (w : World) (b m : Nat) : Prop where
  blk : ∃ cs, w.heap[b]? = some (.cells cs 28 (0, 0)) ∧ cs.size = 8 ∧ ∀ i, i < 8 → cs[i]? = some (.bool (m.testBit i))
def bitsV (m : Nat) : Value := .agg #[.bool (m.testBit 0), .bool (m.testBit 1), .bool (m.testBit 2), .bool (m.testBit 3), .bool (m.testBit 4), .bool (m.testBit 5), .bool (m.testBit 6), .bool (m.testBit 7)]
section
variable {w w' : World} {b m : Nat}
theorem BitsAt.lt (h : BitsAt w b m) : b < w.heap.size := by
  obtain ⟨cs, h1, _⟩ := h.blk; exact (Array.getElem?_eq_some_iff.1 h1).1
theorem BitsAt.at (h : BitsAt w b m) {i : Nat} (hi : i < 8) : w.cell? ⟨b, i, none⟩ = some (.bool (m.testBit i)) := by
  obtain ⟨cs, h1, _, h2⟩ := h.blk; rw [show w.cell? ⟨b, i, none⟩ = cs[i]? by simp [World.cell?, h1]]; exact h2 i hi
theorem BitsAt.free (h : BitsAt w b m) (o : Nat) : w.frozen? ⟨b, o, none⟩ = false := by
  obtain ⟨cs, h1, _⟩ := h.blk; simp [World.frozen?, h1]
theorem BitsAt.frame (h : BitsAt w b m) (hb : w'.heap[b]? = w.heap[b]?) : BitsAt w' b m := by
  obtain ⟨cs, h1, r⟩ := h.blk; exact ⟨⟨cs, by rw [hb]; exact h1, r⟩⟩
theorem BitsAt.below (h : BitsAt w b m) (hb : Below w.heap.size w w') : BitsAt w' b m := h.frame (hb.block b h.lt)
theorem BitsAt.set (h : BitsAt w b m) {i : Nat} (hi : i < 8) : BitsAt (w.setCell ⟨b, i, none⟩ (.bool true)) b (m ||| 2 ^ i) := by
  obtain ⟨cs, h1, h2, h3⟩ := h.blk
  refine ⟨⟨cs.setIfInBounds i (.bool true), by simp [World.setCell, Array.getElem?_modify, h1], by simpa using h2, fun j hj => ?_⟩⟩
  rw [Nat.testBit_or, Nat.testBit_two_pow]
  rw [Array.getElem?_setIfInBounds]
  by_cases hij : i = j
  · subst hij; simp [h2, hi]
  · simp [hij, h3 j hj]
end

/-- The number of a set that is a list: j bits taken, the highest first. -/
def pn (f : Nat → Bool) : Nat → Nat
  | 0 => 0
  | j + 1 => 2 * pn f j + (f (7 - j)).toNat
theorem pn_lt (f : Nat → Bool) : ∀ j, pn f j < 2 ^ j
  | 0 => by simp [pn]
  | j + 1 => by
    have := pn_lt f j
    have h2 : (f (7 - j)).toNat ≤ 1 := Bool.toNat_le _
    rw [Nat.pow_succ]
    simp only [pn]
    omega
theorem pn_eq {m : Nat} (h : m < 256) : pn m.testBit 8 = m := by
  have : (List.range 256).all (fun m => pn m.testBit 8 == m) = true := by kernel_rfl
  have := List.all_eq_true.1 this m (by simpa using h)
  simpa using this

theorem cell_blk {w : World} {b o : Nat} {cs : Array Value} {t : TypeId} {fr : Nat × Nat} (h : w.heap[b]? = some (.cells cs t fr)) : w.cell? ⟨b, o, none⟩ = cs[o]? := by simp [World.cell?, h]
theorem cell_alloc (w : World) (cs : Array Value) (t : TypeId) (i : Nat) : (w.alloc (.cells cs t)).cell? ⟨w.heap.size, i, none⟩ = cs[i]? := cell_blk (MapKept.heap_alloc w _).1
theorem eight {P : Nat → Prop} (h0 : P 0) (h1 : P 1) (h2 : P 2) (h3 : P 3) (h4 : P 4) (h5 : P 5) (h6 : P 6) (h7 : P 7) : ∀ i, i < 8 → P i := by
  intro i hi
  obtain rfl | rfl | rfl | rfl | rfl | rfl | rfl | rfl : i = 0 ∨ i = 1 ∨ i = 2 ∨ i = 3 ∨ i = 4 ∨ i = 5 ∨ i = 6 ∨ i = 7 := by omega
  all_goals assumption

set_option maxHeartbeats 1000000 in
theorem number17_calls (w : World) {m : Nat} (hm : m < 256) : Calls Tryd.prog 9 #[bitsV m] w fun e w' => e = .returned (.int .u64 m) ∧ Below w.heap.size w w' := by
  have hp := Lib.hid (pn_eq hm)
  unfold bitsV
  generalize hf : m.testBit = f
  rw [hf] at hp
  clear hf
  go_enter Tryd.func9, Tryd.ntmps9
  go_wp2
  go_loopw [3, 4] (fun v i wr => ∃ j : Nat, j ≤ 8 ∧ v = .int .u64 (pn f j) ∧ i = .int .i64 (7 - (j : Int)) ∧ (∀ t, t < 8 → wr.cell? ⟨w.heap.size, t, none⟩ = some (.bool (f t))) ∧ Below w.heap.size w wr) (fun _ i _ => (intOf i + 1).toNat)
  case atStart => exact ⟨0, by omega, rfl, rfl, eight (cell_alloc ..) (cell_alloc ..) (cell_alloc ..) (cell_alloc ..) (cell_alloc ..) (cell_alloc ..) (cell_alloc ..) (cell_alloc ..), by go_grown⟩
  case round =>
    obtain ⟨j, hj, rfl, rfl, hc, hB⟩ := hrel
    by_cases hlt : j < 8
    · obtain ⟨t, ht⟩ : ∃ t, t + j = 7 := ⟨7 - j, by omega⟩
      have c1 := hc t (by omega)
      have hq : pn f (j + 1) = 2 * pn f j + (f t).toNat := by rw [show t = 7 - j by omega]; rfl
      have hpl : pn f j < 128 := Nat.lt_of_lt_of_le (pn_lt f j) (Nat.pow_le_pow_right (by omega) (show j ≤ 7 by omega))
      rw [show (7 : Int) - (j : Int) = (t : Int) by omega]
      have Hq := Lib.hid hq
      have Hc := Lib.hid hc
      clear hq hc
      have ht8 : t < 8 := by omega
      cases hft : f t <;> rw [hft] at c1
      all_goals
        have Hf := Lib.hid hft
        clear hft
        go_wp2
        go_roundw
        case rel => exact ⟨j + 1, by omega, by rw [Hq.out, Hf.out]; (try simp); (try omega), by congr 1; omega, Hc.out, hB⟩
        case measure => simp [intOf]; (try omega)
    · obtain rfl : j = 8 := by omega
      clear hc
      rw [hp.out]
      go_wp2
      go_ret
      exact ⟨rfl, hB⟩
theorem set8 {w : World} {b : Nat} {T : TypeId} (h : w.heap[b]? = some (.cells #[.bool false, .bool false, .bool false, .bool false, .bool false, .bool false, .bool false, .bool false] T (0, 0))) (v0 v1 v2 v3 v4 v5 v6 v7 : Value) :
    ((((((((w.setCell ⟨b, 0, none⟩ v0).setCell ⟨b, 1, none⟩ v1).setCell ⟨b, 2, none⟩ v2).setCell ⟨b, 3, none⟩ v3).setCell ⟨b, 4, none⟩ v4).setCell ⟨b, 5, none⟩ v5).setCell ⟨b, 6, none⟩ v6).setCell ⟨b, 7, none⟩ v7).heap[b]? =
      some (.cells #[v0, v1, v2, v3, v4, v5, v6, v7] T (0, 0)) := by
  simp [World.setCell, Array.getElem?_modify, h]
end Go.Proofs.YtobhandimolmhaaDoor
