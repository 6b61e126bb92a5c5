/-
  ConflictFirst: slices.Sort and Compact, First, both Cells, and the law.
-/
import Derived.Shelf.Sort.Plain
import Derived.Test.YtadngicebbnnlaaGreatProg
import Derived.Shelf.Slices.CompactI
import Derived.Test.YtadngicebbnnlaaGreatSorted
import Derived.Test.YtadngicebbnnlaaGreatRac3
set_option linter.unusedSimpArgs false
set_option linter.unusedVariables false
namespace Go.Proofs.YtadngicebbnnlaaGreat
open Go Go.Shelf Go.Proofs

def sortI_ren : Go.Shelf.Ren := ⟨fun | 189 => 21 | 125 => 47 | 257 => 46 | 128 => 79 | 129 => 80 | 294 => 70 | 295 => 71 | 296 => 72 | 297 => 73 | 298 => 74 | 299 => 75 | 216 => 76 | 300 => 77 | 301 => 78 | 328 => 103 | 329 => 104 | 330 => 105 | 331 => 106 | 332 => 107 | 215 => 69 | 343 => 124 | n => n, fun | 28 => 29 | 3 => 3 | 46 => 87 | 0 => 0 | 51 => 121 | 53 => 123 | 4 => 4 | 183 => 115 | 182 => 114 | 131 => 64 | 5 => 5 | 9 => 9 | 218 => 149 | 222 => 153 | 228 => 179 | 229 => 180 | n => n, fun n => n⟩
theorem sortI : Lays.n189 Tryz.prog sortI_ren := {
  mixed := by kernel_rfl,
  f125 := Tryz.func47.trans (congrArg some (by kernel_rfl)),
  f128 := Tryz.func79.trans (congrArg some (by kernel_rfl)),
  f129 := Tryz.func80.trans (congrArg some (by kernel_rfl)),
  f189 := Tryz.func21.trans (congrArg some (by kernel_rfl)),
  f215 := Tryz.func69.trans (congrArg some (by kernel_rfl)),
  f216 := Tryz.func76.trans (congrArg some (by kernel_rfl)),
  f257 := Tryz.func46.trans (congrArg some (by kernel_rfl)),
  f294 := Tryz.func70.trans (congrArg some (by kernel_rfl)),
  f295 := Tryz.func71.trans (congrArg some (by kernel_rfl)),
  f296 := Tryz.func72.trans (congrArg some (by kernel_rfl)),
  f297 := Tryz.func73.trans (congrArg some (by kernel_rfl)),
  f298 := Tryz.func74.trans (congrArg some (by kernel_rfl)),
  f299 := Tryz.func75.trans (congrArg some (by kernel_rfl)),
  f300 := Tryz.func77.trans (congrArg some (by kernel_rfl)),
  f301 := Tryz.func78.trans (congrArg some (by kernel_rfl)),
  f328 := Tryz.func103.trans (congrArg some (by kernel_rfl)),
  f329 := Tryz.func104.trans (congrArg some (by kernel_rfl)),
  f330 := Tryz.func105.trans (congrArg some (by kernel_rfl)),
  f331 := Tryz.func106.trans (congrArg some (by kernel_rfl)),
  f332 := Tryz.func107.trans (congrArg some (by kernel_rfl)),
  f343 := Tryz.func124.trans (congrArg some (by kernel_rfl)),
  t0 := Tryz.underlying0,
  a0 := Tryz.isAgg0,
  z0 := Tryz.sizeOf0,
  v0 := Tryz.zeroValue0,
  t3 := Tryz.underlying3,
  a3 := Tryz.isAgg3,
  z3 := Tryz.sizeOf3,
  v3 := Tryz.zeroValue3,
  t4 := Tryz.underlying4,
  a4 := Tryz.isAgg4,
  z4 := Tryz.sizeOf4,
  v4 := Tryz.zeroValue4,
  t5 := Tryz.underlying5,
  a5 := Tryz.isAgg5,
  z5 := Tryz.sizeOf5,
  v5 := Tryz.zeroValue5,
  t9 := Tryz.underlying9,
  a9 := Tryz.isAgg9,
  z9 := Tryz.sizeOf9,
  v9 := Tryz.zeroValue9,
  t28 := Tryz.underlying29,
  a28 := Tryz.isAgg29,
  z28 := Tryz.sizeOf29,
  v28 := Tryz.zeroValue29,
  t46 := Tryz.underlying87,
  a46 := Tryz.isAgg87,
  z46 := Tryz.sizeOf87,
  v46 := Tryz.zeroValue87,
  t51 := Tryz.underlying121,
  a51 := Tryz.isAgg121,
  z51 := Tryz.sizeOf121,
  v51 := Tryz.zeroValue121,
  t53 := Tryz.underlying123,
  a53 := Tryz.isAgg123,
  z53 := Tryz.sizeOf123,
  v53 := Tryz.zeroValue123,
  t131 := Tryz.underlying64,
  a131 := Tryz.isAgg64,
  z131 := Tryz.sizeOf64,
  v131 := Tryz.zeroValue64,
  t182 := Tryz.underlying114,
  a182 := Tryz.isAgg114,
  z182 := Tryz.sizeOf114,
  v182 := Tryz.zeroValue114,
  t183 := Tryz.underlying115,
  a183 := Tryz.isAgg115,
  z183 := Tryz.sizeOf115,
  v183 := Tryz.zeroValue115,
  t218 := Tryz.underlying149,
  a218 := Tryz.isAgg149,
  z218 := Tryz.sizeOf149,
  v218 := Tryz.zeroValue149,
  t222 := Tryz.underlying153,
  a222 := Tryz.isAgg153,
  z222 := Tryz.sizeOf153,
  v222 := Tryz.zeroValue153,
  t228 := Tryz.underlying179,
  a228 := Tryz.isAgg179,
  z228 := Tryz.sizeOf179,
  v228 := Tryz.zeroValue179,
  t229 := Tryz.underlying180,
  a229 := Tryz.isAgg180,
  z229 := Tryz.sizeOf180,
  v229 := Tryz.zeroValue180
}
end Go.Proofs.YtadngicebbnnlaaGreat

namespace Go.Proofs.YtadngicebbnnlaaGreat
open Go Go.Shelf Go.Proofs

def compI_ren : Go.Shelf.Ren := ⟨fun | 20 => 22 | n => n, fun | 22 => 29 | 3 => 3 | 4 => 4 | 0 => 0 | n => n, fun n => n⟩
theorem compI : Lays2.n20 Tryz.prog compI_ren := {
  mixed := by kernel_rfl,
  f20 := Tryz.func22.trans (congrArg some (by kernel_rfl)),
  t0 := Tryz.underlying0,
  a0 := Tryz.isAgg0,
  z0 := Tryz.sizeOf0,
  v0 := Tryz.zeroValue0,
  t3 := Tryz.underlying3,
  a3 := Tryz.isAgg3,
  z3 := Tryz.sizeOf3,
  v3 := Tryz.zeroValue3,
  t4 := Tryz.underlying4,
  a4 := Tryz.isAgg4,
  z4 := Tryz.sizeOf4,
  v4 := Tryz.zeroValue4,
  t22 := Tryz.underlying29,
  a22 := Tryz.isAgg29,
  z22 := Tryz.sizeOf29,
  v22 := Tryz.zeroValue29,
  i3 := by kernel_rfl
}
end Go.Proofs.YtadngicebbnnlaaGreat

namespace Go.Proofs.YtadngicebbnnlaaGreat
open Go Go.RowKit Go.Shelf

theorem flatK_int (ys : List Int) : Go.Sort.flatK eltI.f 1 ys.toArray = (ys.map (Value.int .i64)).toArray :=
  Array.ext' (by rw [flatK_list eltI.f 1 (fun _ => rfl) (by decide), flat_ints])
theorem putCells_int (ys : List Int) : Go.Sort.putCells (Value.int .i64) 0 ys.toArray = Go.Sort.putCells id 0 (Go.Sort.flatK eltI.f 1 ys.toArray) := by
  funext c
  rw [flatK_int]
  unfold Go.Sort.putCells
  congr 1
  funext k x
  simp only [List.size_toArray, List.length_map]
  split
  · rename_i h
    rw [getElem!_pos ys.toArray (k - 0) (by simp; omega), getElem!_pos (ys.map (Value.int .i64)).toArray (k - 0) (by simp; omega)]
    simp
  · rfl
theorem putRow_int (w : World) (g m : Nat) (ys : List Int) (os : Array Obj) : Go.Sort.grow (Go.Sort.putRow (Value.int .i64) (Go.Sort.ahead w m) g 0 ys.toArray) os = sortWorldK eltI.f 1 w g 0 m ys.toArray os := by
  unfold sortWorldK Go.Sort.putRowK Go.Sort.putRow
  rw [putCells_int]
theorem holds_int {w : World} {g : Nat} {ys : List Int} (h : Go.Sort.HoldsK eltI.f 1 w g 0 ys.toArray) : Go.Sort.Holds (Value.int .i64) w g 0 ys.toArray := by
  intro j hj
  rw [List.size_toArray] at hj
  have := h j (by rw [flatK_int]; simpa using hj)
  refine ⟨?_, this.2⟩
  rw [this.1, flatK_int, getElem!_pos ys.toArray j (by simpa using hj), getElem!_pos (ys.map (Value.int .i64)).toArray j (by simpa using hj)]
  simp

theorem upto_mem (d : Array Int) : ∀ (m : Nat), m ≤ d.size → ∀ x, x ∈ Lib.compactUpTo d m ↔ ∃ j, j < m ∧ d[j]! = x
  | 0, _, x => by simp [Lib.compactUpTo]
  | m + 1, hm, x => by
    rw [Lib.compactUpTo_succ, List.mem_append, upto_mem d m (by omega) x]
    constructor
    · rintro (⟨j, hj, h⟩ | h)
      · exact ⟨j, by omega, h⟩
      · split at h
        · exact ⟨m, by omega, (List.mem_singleton.1 h).symm⟩
        · cases h
    · rintro ⟨j, hj, h⟩
      by_cases hjm : j < m
      · exact .inl ⟨j, hjm, h⟩
      · have : j = m := by omega
        subst this
        cases hk : Lib.keeps d j
        · unfold Lib.keeps at hk
          rw [decide_eq_false_iff_not] at hk
          have h0 : j ≠ 0 := fun e => hk (.inl e)
          have h1 : d[j]! = d[j - 1]! := Classical.byContradiction fun e => hk (.inr e)
          exact .inl ⟨j - 1, by omega, by rw [← h1]; exact h⟩
        · exact .inr (by simp [h])
theorem compact_iff (xs : List Int) (x : Int) : x ∈ Lib.compact xs ↔ x ∈ xs := by
  unfold Lib.compact
  rw [upto_mem _ _ (by simp)]
  constructor
  · rintro ⟨j, hj, h⟩
    rw [getElem!_pos xs.toArray j (by simpa using hj)] at h
    rw [← h]; simp
  · intro h
    obtain ⟨j, hj, h⟩ := List.getElem_of_mem h
    exact ⟨j, hj, by rw [getElem!_pos xs.toArray j (by simpa using hj)]; simpa using h⟩
theorem compact_mem {xs : List Int} {x : Int} (h : x ∈ Lib.compact xs) : x ∈ xs := (compact_iff xs x).1 h
/-- What rises, without what is told twice, rises strictly. -/
theorem upto_rises (d : Array Int) (hd : ∀ i j, i < j → j < d.size → d[i]! ≤ d[j]!) : ∀ (m : Nat), m ≤ d.size → (Lib.compactUpTo d m).Pairwise (· < ·)
  | 0, _ => by simp [Lib.compactUpTo]
  | m + 1, hm => by
    rw [Lib.compactUpTo_succ, List.pairwise_append]
    refine ⟨upto_rises d hd m (by omega), by split <;> simp, fun a ha b hb => ?_⟩
    split at hb
    · rename_i hk
      rw [List.mem_singleton.1 hb]
      obtain ⟨j, hj, rfl⟩ := (upto_mem d m (by omega) a).1 ha
      unfold Lib.keeps at hk
      rw [decide_eq_true_iff] at hk
      have hne : d[m]! ≠ d[m - 1]! := hk.resolve_left (by omega)
      have h1 : d[m - 1]! ≤ d[m]! := hd _ _ (by omega) (by omega)
      have h2 : d[j]! ≤ d[m - 1]! := by
        by_cases e : j = m - 1
        · rw [e]; exact Int.le_refl _
        · exact hd _ _ (by omega) (by omega)
      omega
    · cases hb
theorem compact_rises {xs : List Int} (h : xs.Pairwise (· ≤ ·)) : (Lib.compact xs).Pairwise (· < ·) := by
  unfold Lib.compact
  refine upto_rises _ (fun i j hij hj => ?_) _ (by simp)
  have hj' : j < xs.length := by simpa using hj
  rw [getElem!_pos xs.toArray i (by simp; omega), getElem!_pos xs.toArray j hj]
  exact List.pairwise_iff_getElem.1 h i j (by omega) hj' hij
/-- Two lists that rise strictly and hold the same are one. -/
theorem rising_eq {xs ys : List Int} (h : xs.Pairwise (· < ·)) (h' : ys.Pairwise (· < ·)) (hm : ∀ x, x ∈ xs ↔ x ∈ ys) : xs = ys := by
  have hn : xs.Nodup := h.imp fun h => Int.ne_of_lt h
  have hn' : ys.Nodup := h'.imp fun h => Int.ne_of_lt h
  exact List.Perm.eq_of_pairwise (le := (· < ·)) (fun a b _ _ h1 h2 => absurd h1 (Int.lt_asymm h2)) h h' ((List.perm_ext_iff_of_nodup hn hn').2 hm)
/-! Of nothing. -/
set_option maxHeartbeats 2000000 in
set_option maxRecDepth 100000 in
theorem insI_nil (w : World) : Calls Tryz.prog 70 #[.slice none 0 0, .int .i64 0, .int .i64 0] w fun e w' => e = .returned (.tuple #[]) ∧ w' = w := by
  go_enter Tryz.func70, Tryz.ntmps70
  go_wp2
  refine wp_loop_rounds 1 ?_
  rw [rounds_succ]
  go_wp2
  go_end0
  exact ⟨rfl, rfl⟩
set_option maxHeartbeats 2000000 in
set_option maxRecDepth 100000 in
theorem pdqI_nil (lim : Int) (w : World) : Calls Tryz.prog 46 #[.slice none 0 0, .int .i64 0, .int .i64 0, .int .i64 lim] w fun e w' => e = .returned (.tuple #[]) ∧ w' = w := by
  have hi := insI_nil w
  go_enter Tryz.func46, Tryz.ntmps46
  go_wp2
  refine wp_loop_rounds 1 ?_
  rw [rounds_succ]
  go_wp2_with fail
  refine hi.mono ?_
  rintro e w' ⟨rfl, rfl⟩
  go_wp2
  (try simp only [Exit.inBlock, Exit.then]); refine bodyPost_ret (results_none rfl _ _ _) rfl ?_
  exact ⟨rfl, rfl⟩
set_option maxHeartbeats 2000000 in
set_option maxRecDepth 100000 in
theorem sortI_nil (w : World) : Calls Tryz.prog 21 #[.slice none 0 0] w fun e w' => e = .returned (.tuple #[]) ∧ w' = w := by
  have hp := fun lim => pdqI_nil lim w
  have hl : Calls Tryz.prog 47 #[.int .u64 0] w fun e w' => e = .returned (.int .i64 (Lib.bitLen 0 : Nat)) ∧ w' = w :=
    Any.bits_Len ({ sortI with } : Lays.n125 Tryz.prog sortI_ren) (0 : Int) w (by omega) (by omega)
  go_enter Tryz.func21, Tryz.ntmps21
  go_wp2_with fail
  refine hl.mono ?_
  rintro e w' ⟨rfl, rfl⟩
  go_wp2_with fail
  refine (hp _).mono ?_
  rintro e w' ⟨rfl, rfl⟩
  go_wp2
  go_end0
  exact ⟨rfl, rfl⟩

/-- slices.Sort at ints, of a list of one's own. -/
theorem sortI_calls {w : World} {B : Nat} {v : Value} {xs : List Int} (h : OwnL eltI w B v xs) (hn : xs.length < 1000000) :
    Calls Tryz.prog 21 #[v] w fun e w' => e = .returned (.tuple #[]) ∧ OwnL eltI w' B v (xs.mergeSort fun x y => decide (x ≤ y)) ∧ Wrote (fun q => v.ownBlock = some q) w w' := by
  rcases h.own.2 with ⟨h0, hl⟩ | ⟨b, cap, cur, hv, hB, hg, _⟩
  · subst h0
    have : xs = [] := List.eq_nil_of_length_eq_zero hl
    subst this
    refine (sortI_nil w).mono ?_
    rintro e w' ⟨rfl, rfl⟩
    exact ⟨rfl, by simpa using h, Wrote.refl _ _⟩
  · have hlt : b < w.heap.size := (Array.getElem?_eq_some_iff.1 hg).1
    have hown := h.own
    rw [hv] at hown
    have hH := holds_int (holdsK_own eltI.hf eltI.hs rfl hown)
    have := Any.slices_Sort_int sortI b 0 cap xs w hH hlt (by omega)
    change Calls Tryz.prog 21 _ _ _ at this
    rw [← hv] at this
    refine this.mono ?_
    rintro e w' ⟨rfl, m, os, rfl⟩
    have hlen : (xs.mergeSort fun x y => decide (x ≤ y)).length = xs.length := by simp
    have hw := sortWorld_own (m := m) (os := os) eltI.hf eltI.hs hlen hown
    rw [← hv] at hw
    rw [putRow_int]
    exact ⟨rfl, ⟨by rw [hlen]; exact hw.1⟩, hw.2.mono fun q hq => by rw [hv, hq]; rfl⟩

theorem IsInts.cut {w : World} {a : Option Addr} {n c k : Nat} {xs : List Int} (h : IsInts w a n c xs) (hk : k ≤ n) : IsInts w a k c (xs.take k) := by
  refine ⟨⟨by rw [List.length_map, List.length_take, h.len]; omega, fun h0 => ?_⟩, by rw [List.length_take, h.len]; omega, Nat.le_trans hk h.le, h.cap, fun e he => h.wf e (List.mem_of_mem_take he)⟩
  obtain ⟨b, off, he, hc⟩ := h.reads.2 (by omega)
  refine ⟨b, off, he, fun j u hu => hc j u ?_⟩
  rw [List.map_take] at hu
  have hj : j < k := by
    have := (List.getElem?_eq_some_iff.1 hu).1
    rw [List.length_take] at this
    omega
  rwa [List.getElem?_take_of_lt hj] at hu
/-- slices.Compact at ints, of a list of one's own. -/
theorem compI_calls {w : World} {B : Nat} {v : Value} {xs : List Int} (h : OwnL eltI w B v xs) (hn : xs.length < 1000000) (hf : ∀ x ∈ xs, Fit x) :
    Calls Tryz.prog 22 #[v] w fun e w' => ∃ a c, e = .returned (.slice a (Lib.compact xs).length c) ∧ IsInts w' a (Lib.compact xs).length c (Lib.compact xs) ∧ Wrote (fun q => v.ownBlock = some q) w w' := by
  rcases h.own.2 with ⟨h0, hl⟩ | ⟨b, cap, cur, hv, hB, hg, hnc, _⟩
  · subst h0
    have : xs = [] := List.eq_nil_of_length_eq_zero hl
    subst this
    have := Any.slices_Compact_int_empty compI none 0 w
    change Calls Tryz.prog 22 _ _ _ at this
    refine this.mono ?_
    rintro e w' ⟨rfl, rfl⟩
    exact ⟨none, 0, rfl, ⟨Reads.nil, rfl, Nat.le_refl _, Nat.zero_le _, fun e he => by cases he⟩, Wrote.refl _ _⟩
  · have hlt : b < w.heap.size := (Array.getElem?_eq_some_iff.1 hg).1
    have hown := h.own
    rw [hv] at hown
    have hH := holds_int (holdsK_own eltI.hf eltI.hs rfl hown)
    have := Any.slices_Compact_int compI b 0 cap xs w hH (by omega) hnc
    change Calls Tryz.prog 22 _ _ _ at this
    rw [← hv] at this
    refine this.mono ?_
    rintro e w' ⟨rfl, q, rfl⟩
    have hle : (Lib.compact xs).length ≤ xs.length := by
      unfold Lib.compact Lib.compactUpTo
      rw [List.length_map]
      exact Nat.le_trans (List.length_filter_le _ _) (by simp)
    have hlen : (Lib.compact xs ++ List.replicate (xs.length - (Lib.compact xs).length) 0).length = xs.length := by
      rw [List.length_append, List.length_replicate]; omega
    have hw := sortWorld_own (m := q) (os := #[]) eltI.hf eltI.hs hlen hown
    rw [← hv] at hw
    have hr := putRow_int w b q (Lib.compact xs ++ List.replicate (xs.length - (Lib.compact xs).length) 0) #[]
    rw [Go.Sort.grow_empty] at hr
    rw [hr]
    have hO : OwnL eltI (sortWorldK eltI.f 1 w b 0 q (Lib.compact xs ++ List.replicate (xs.length - (Lib.compact xs).length) 0).toArray #[]) B v (Lib.compact xs ++ List.replicate (xs.length - (Lib.compact xs).length) 0) := ⟨by rw [hlen]; exact hw.1⟩
    obtain ⟨a, c, he, hI⟩ := hO.ints (fun x hx => by
      rcases List.mem_append.1 hx with hx | hx
      · exact hf x (compact_mem hx)
      · rw [List.eq_of_mem_replicate hx]; exact Fit.of (by decide) (by decide))
    rw [hv, hlen] at he
    cases he
    rw [hlen] at hI
    have hI2 := hI.cut hle
    rw [List.take_left'  rfl] at hI2
    exact ⟨_, _, rfl, hI2, hw.2.mono fun q hq => by rw [hv, hq]; rfl⟩
end Go.Proofs.YtadngicebbnnlaaGreat

namespace Go.Proofs.YtadngicebbnnlaaGreat
open Go.ChangeShapes Go.WideShapes Go.ChangeAt Go.RowKit Go.Deep

noncomputable def objsC (l : List Ev) (n : Nat) : List Int := (docC l n).map fun p => (l.getD p.1 ev00).o
noncomputable def hasC (l : List Ev) (n : Nat) (c : Int) (m : Nat) : Bool := ((docC l n).take m).any fun p => (l.getD p.2 ev00).o == c
noncomputable def cellN (l : List Ev) (n k : Nat) : List Int := ((List.range k).filter fun c : Nat => hasC l n (c : Int) (docC l n).length).map fun c : Nat => (c : Int)
noncomputable def cellR (n : Nat) (l : List Ev) : List Int := if wrongS n l ≠ 0 then [] else cellN l n 8
theorem cellR_bad {n : Nat} {l : List Ev} (h : wrongS n l ≠ 0) : cellR n l = [] := if_pos h
theorem cellR_good {n : Nat} {l : List Ev} (h : wrongS n l = 0) : cellR n l = cellN l n 8 := by unfold cellR; rw [if_neg (by rw [h]; simp)]
theorem hasC_zero (l : List Ev) (n : Nat) (c : Int) : hasC l n c 0 = false := rfl
theorem hasC_succ {l : List Ev} {n m : Nat} {c : Int} {p : Nat × Nat} {e : Ev} (hp : (docC l n)[m]? = some p) (he : l[p.2]? = some e) : hasC l n c (m + 1) = (hasC l n c m || e.o == c) := by
  unfold hasC
  rw [List.take_add_one, hp, ← getD_of he]; simp
theorem cellN_succ (l : List Ev) (n k : Nat) : cellN l n (k + 1) = cellN l n k ++ if hasC l n (k : Int) (docC l n).length then [(k : Int)] else [] := by
  unfold cellN
  rw [List.range_succ, List.filter_append, List.map_append]
  congr 1
  cases h : hasC l n (k : Int) (docC l n).length <;> simp [h]
theorem cellN_len (l : List Ev) (n k : Nat) : (cellN l n k).length ≤ k := by
  unfold cellN
  rw [List.length_map]
  exact Nat.le_trans (List.length_filter_le _ _) (by simp)
theorem cellN_rises (l : List Ev) (n k : Nat) : (cellN l n k).Pairwise (· < ·) := by
  unfold cellN
  rw [List.pairwise_map]
  exact (List.pairwise_lt_range.filter _).imp fun h => by omega
theorem rB_obj {e : Ev} (h : rB e = true) (hp : plainB e.k = true) : 0 ≤ e.o ∧ e.o < 8 := by
  obtain ⟨t, k, o, v, b⟩ := e
  unfold plainB at hp
  simp only [Bool.or_eq_true, beq_iff_eq] at hp
  unfold rB rightB bodyB at h
  rcases hp with rfl | rfl
  all_goals
    refine inB_iff.1 ?_
    cases ho : inB o
    · simp [ho] at h
    · rfl
theorem cells_one15 {n : Nat} {l : List Ev} (hl : l.length = n) (hz : wrongS n l = 0) : Lib.compact ((objsC l n).mergeSort fun x y => decide (x ≤ y)) = cellN l n 8 := by
  obtain ⟨S, hS⟩ := wrong_ofC hz
  have hr : ∀ e ∈ l, rB e = true := goOf_right l log0 0 (by unfold ofS at hS; rw [hS])
  refine rising_eq (compact_rises ?_) (cellN_rises l n 8) (fun x => ?_)
  · refine (List.pairwise_mergeSort (fun a b c h1 h2 => ?_) (fun a b => ?_) _).imp fun h => by simpa using h
    · simp only [decide_eq_true_eq] at *; omega
    · simp only [Bool.or_eq_true, decide_eq_true_eq]; omega
  · rw [compact_iff, List.mem_mergeSort]
    unfold objsC cellN
    rw [List.mem_map, List.mem_map]
    have hcl : ∀ p, p ∈ docC l n → (l.getD p.1 ev00).o = (l.getD p.2 ev00).o ∧ 0 ≤ (l.getD p.2 ev00).o ∧ (l.getD p.2 ev00).o < 8 := fun p hp => by
      obtain ⟨h1, h2, h3⟩ := docC_mem.1 hp
      unfold raceC at h3
      rw [Bool.and_eq_true] at h3
      have h4 := h3.1
      unfold clE clashB at h4
      simp only [Bool.and_eq_true, beq_iff_eq] at h4
      obtain ⟨e, he⟩ : ∃ e, l[p.2]? = some e := ⟨_, List.getElem?_eq_getElem (by rw [hl]; exact h1)⟩
      have hd := getD_of he
      rw [hd] at h4 ⊢
      exact ⟨h4.1.2, rB_obj (hr e (List.mem_of_getElem? he)) h4.1.1.1.2⟩
    constructor
    · rintro ⟨p, hp, rfl⟩
      obtain ⟨h1, h2, h3⟩ := hcl p hp
      obtain ⟨k, hk⟩ := Int.eq_ofNat_of_zero_le h2
      refine ⟨k, List.mem_filter.2 ⟨List.mem_range.2 (by omega), ?_⟩, by rw [h1, hk]⟩
      unfold hasC
      rw [List.take_length]
      exact List.any_eq_true.2 ⟨p, hp, by rw [hk]; simp⟩
    · rintro ⟨k, hk, rfl⟩
      have := (List.mem_filter.1 hk).2
      unfold hasC at this
      rw [List.take_length] at this
      obtain ⟨p, hp, h⟩ := List.any_eq_true.1 this
      exact ⟨p, hp, by rw [(hcl p hp).1]; simpa using h⟩

/-- What both hand back. -/
def CellPost (w : World) (n : Nat) (l : List Ev) (e : Ending) (w' : World) : Prop :=
  ∃ (a : Option Addr) (c : Nat), e = .returned (.tuple #[.slice a (cellR n l).length c, .int .i64 (wrongS n l)]) ∧ IsInts w' a (cellR n l).length c (cellR n l) ∧ Below w.heap.size w w'
theorem CellPost.no {w w' : World} {n : Nat} {l : List Ev} (hz : wrongS n l ≠ 0) (hb : Below w.heap.size w w') : CellPost w n l (.returned (.tuple #[.slice none 0 0, .int .i64 (wrongS n l)])) w' := by
  unfold CellPost
  rw [cellR_bad hz]
  exact ⟨none, 0, rfl, ⟨Reads.nil, rfl, Nat.le_refl _, Nat.zero_le _, fun e he => by cases he⟩, hb⟩
theorem CellPost.yes {w w' : World} {n : Nat} {l : List Ev} {a : Option Addr} {c : Nat} {xs : List Int} (hz : wrongS n l = 0) (hx : xs = cellN l n 8) (h : IsInts w' a xs.length c xs) (hb : Below w.heap.size w w') : CellPost w n l (.returned (.tuple #[.slice a xs.length c, .int .i64 0])) w' := by
  unfold CellPost
  rw [cellR_good hz, hz, ← hx]
  exact ⟨a, c, rfl, h, hb⟩

set_option maxRecDepth 20000 in
set_option maxHeartbeats 8000000 in
theorem ccells_calls {w : World} {a0 : Option Addr} {n c : Nat} {l : List Ev} (h : IsEvs w a0 n c l) :
    Calls Tryz.prog 8 #[.slice a0 n c] w (CellPost w n l) := by
  have hnm : n ≤ 9223372036854775807 := by have := h.le; have := h.cap; unfold maxLen at *; omega
  have Hev := Lib.hid h
  clear h
  go_enter Tryz.func8, Tryz.ntmps8
  go_wp2_with fail
  refine (cfraces_calls Hev.out).mono ?_
  rintro e w2 ⟨v, rfl, hs, hb⟩
  have HB2 := Lib.hid hb
  by_cases hz : wrongS n l = 0
  case neg =>
    rw [confRes_bad hz] at hs ⊢
    have hz' : (wrongS n l != 0) = true := by simpa [bne] using hz
    obtain ⟨ra, rc, rfl, _⟩ := hs.nats
    have Hq : Hid (CellPost w n l (.returned (.tuple #[.slice none 0 0, .int .i64 (wrongS n l)])) w2) := CellPost.no hz HB2.out
    clear hs hb hz HB2
    generalize wrongS n l = z at *
    go_wp2
    go_returns
    exact Hq.out
  have hn100 : n ≤ 100 := wrong_leC hz
  rw [confRes_good hz] at hs ⊢
  simp only at hs ⊢
  obtain ⟨ra, rc, rfl, hrc⟩ := hs.nats
  have hRl : (docC l n).length ≤ 10000 := by have := docC_len l n hn100; have : n * 100 ≤ 100 * 100 := Nat.mul_le_mul_right _ hn100; omega
  have HSe := Lib.hid hs
  have Hz := Lib.hid hz
  have Hrc := Lib.hid hrc
  obtain ⟨m, hm⟩ : ∃ m, m = (docC l n).length := ⟨_, rfl⟩
  rw [← hm] at hRl HSe Hrc ⊢
  have hmm : m ≤ 9223372036854775807 := by omega
  have Hm := Lib.hid hm
  have HRl := Lib.hid hRl
  have Hol : Hid ((objsC l n).length = m) := by unfold objsC; rw [Hid, List.length_map, hm]
  clear hs hb hz hrc hm hRl hn100
  go_wp2_with fail
  go_loopw [6, 19] (fun u x wr => ∃ q : Nat, q ≤ m ∧ x = .int .i64 q ∧ Hid (OwnL eltI wr w2.heap.size u ((objsC l n).take q) ∧ Below w2.heap.size w2 wr)) (fun _ x _ => m - (intOf x).toNat)
  case atStart => exact ⟨0, Nat.zero_le _, by go_num, OwnL.nil .., Below.refl ..⟩
  case round =>
    obtain ⟨q, hq, rfl, HL⟩ := hrel
    by_cases hqm : q < m
    · obtain ⟨⟨P1, P2⟩, hp⟩ : ∃ p, (docC l n)[q]? = some p := ⟨_, List.getElem?_eq_getElem (by rw [← Hm.out]; exact hqm)⟩
      have hmem := docC_mem.1 (List.mem_of_getElem? hp)
      simp only at hmem
      have hP1 : P1 < n := by omega
      obtain ⟨gr, hra, p0, p1⟩ := HSe.out.nat_at hp
      simp only at p0 p1
      have p0 := keep HL.out.2 p0
      have p1 := keep HL.out.2 p1
      subst hra
      have hevw := Hev.out.below (HB2.out.trans (HL.out.2.mono HB2.out.size))
      obtain ⟨b, off, x, ha0, hx, _, c0, c1, c2, c3, c4⟩ := hevw.at hP1
      subst ha0
      have Htk : Hid ((objsC l n).take (q + 1) = (objsC l n).take q ++ [x.o]) := by
        unfold objsC
        rw [Hid, List.take_add_one, List.getElem?_map, hp, ← getD_of hx]; rfl
      have hcap : ((objsC l n).take q).length < 1000000 := by rw [List.length_take]; have := HRl.out; omega
      obtain ⟨xt, xk, xo, xv, xb⟩ := x
      simp only at c0 c1 c2 c3 c4 Htk
      have hbr : b < wr.heap.size := World.block_lt_of_cell? wr _ c0
      clear hx hp hmem hevw
      go_upto_region 8 with (fail)
      have hN := one_newC wr #[.int .i64 (P1 : Int), .int .i64 (P2 : Int)] 25
      have HL1 := Lib.hid (And.intro (HL.out.1.below hN.2) (HL.out.2.trans (hN.2.mono HL.out.2.size)))
      have hA := hN.1
      have c2 := keep hN.2 c2
      clear hN HL p0 p1 c0 c1 c3 c4
      revert hA HL1 c2
      generalize wr.alloc (.cells #[.int .i64 (P1 : Int), .int .i64 (P2 : Int)] 25) = y1
      generalize wr.heap.size = g1
      intro HL1 hA c2
      have e0 : y1.cell? ⟨g1, 0, none⟩ = some (.int .i64 (P1 : Int)) := cell_of_block hA
      clear hA
      go_wp2_with (at_builtin; go_loud (refine wpList_push eltI rfl (.tmp 23) (.tmp 30) rfl xo rfl rfl rfl HL1.out.1 HL1.out.2.size hcap ?_))
      intro v' y hown hw _
      have HN : Hid (OwnL eltI y w2.heap.size v' ((objsC l n).take (q + 1)) ∧ Below w2.heap.size w2 y) := by
        rw [Hid, Htk.out]
        exact ⟨hown, Wrote.below HL1.out.2 hw HL1.out.2.size (fun q hq => (HL1.out.1.lt hq).1)⟩
      clear hown hw HL1 Htk c2 e0
      go_wp2
      go_roundw
      case rel => exact ⟨q + 1, hqm, by go_num, HN.out⟩
      case measure => exact measC hqm
    · have hqm : q = m := Nat.le_antisymm hq (Nat.le_of_not_lt hqm)
      subst hqm
      have hl : (objsC l n).take q = objsC l n := List.take_of_length_le (by rw [Hol.out]; exact Nat.le_refl _)
      rw [hl] at HL
      have hcap : (objsC l n).length < 1000000 := by rw [Hol.out]; have := HRl.out; omega
      clear hl
      go_wp2_with fail
      refine (sortI_calls HL.out.1 hcap).mono ?_
      rintro e w3 ⟨rfl, ho, hw⟩
      have hb3 := Wrote.below HL.out.2 hw HL.out.2.size (fun q hq => (HL.out.1.lt hq).1)
      have hfit : ∀ x ∈ (objsC l n).mergeSort (fun x y => decide (x ≤ y)), Fit x := fun x hx => by
        rw [List.mem_mergeSort] at hx
        unfold objsC at hx
        obtain ⟨p, hp, rfl⟩ := List.mem_map.1 hx
        obtain ⟨h1, h2, _⟩ := docC_mem.1 hp
        obtain ⟨e, he⟩ : ∃ e, l[p.1]? = some e := ⟨_, List.getElem?_eq_getElem (by rw [Hev.out.len]; omega)⟩
        rw [getD_of he]
        exact (Hev.out.wf e (List.mem_of_getElem? he)).2.2.1
      have hc := compI_calls ho (by rw [List.length_mergeSort]; exact hcap) hfit
      have HB3 := Lib.hid (And.intro ho hb3)
      have Hcc := Lib.hid hc
      clear hc hfit ho hb3 hw HL hcap
      go_wp2_with fail
      refine Hcc.out.mono ?_
      rintro e w4 ⟨a, ca, rfl, hI, hw⟩
      have hb4 := Wrote.below HB3.out.2 hw HB3.out.2.size (fun q hq => (HB3.out.1.lt hq).1)
      have Hq : Hid (CellPost w n l (.returned (.tuple #[.slice a (Lib.compact ((objsC l n).mergeSort fun x y => decide (x ≤ y))).length ca, .int .i64 0])) w4) :=
        CellPost.yes Hz.out (cells_one15 Hev.out.len Hz.out) hI (HB2.out.trans (hb4.mono HB2.out.size))
      clear hI hw hb4 HB3 Hcc
      revert Hq
      generalize (Lib.compact ((objsC l n).mergeSort fun x y => decide (x ≤ y))).length = kk
      intro Hq
      go_wp2
      go_returns
      exact Hq.out
end Go.Proofs.YtadngicebbnnlaaGreat

namespace Go.Proofs.YtadngicebbnnlaaGreat
open Go.ChangeShapes Go.WideShapes Go.ChangeAt Go.RowKit Go.Deep

set_option maxRecDepth 20000 in
set_option maxHeartbeats 8000000 in
theorem rccells_calls {w : World} {a0 : Option Addr} {n c : Nat} {l : List Ev} (h : IsEvs w a0 n c l) :
    Calls Tryz.prog 10 #[.slice a0 n c] w (CellPost w n l) := by
  have hnm : n ≤ 9223372036854775807 := by have := h.le; have := h.cap; unfold maxLen at *; omega
  have Hev := Lib.hid h
  clear h
  go_enter Tryz.func10, Tryz.ntmps10
  go_wp2_with fail
  refine (rcfraces_calls Hev.out).mono ?_
  rintro e w2 ⟨v, rfl, hs, hb⟩
  have HB2 := Lib.hid hb
  by_cases hz : wrongS n l = 0
  case neg =>
    rw [confRes_bad hz] at hs ⊢
    have hz' : (wrongS n l != 0) = true := by simpa [bne] using hz
    obtain ⟨ra, rc, rfl, _⟩ := hs.nats
    have Hq : Hid (CellPost w n l (.returned (.tuple #[.slice none 0 0, .int .i64 (wrongS n l)])) w2) := CellPost.no hz HB2.out
    clear hs hb hz HB2
    generalize wrongS n l = z at *
    go_wp2
    go_returns
    exact Hq.out
  have hn100 : n ≤ 100 := wrong_leC hz
  rw [confRes_good hz] at hs ⊢
  simp only at hs ⊢
  obtain ⟨ra, rc, rfl, hrc⟩ := hs.nats
  have hRl : (docC l n).length ≤ 10000 := by have := docC_len l n hn100; have : n * 100 ≤ 100 * 100 := Nat.mul_le_mul_right _ hn100; omega
  have HSe := Lib.hid hs
  have Hz := Lib.hid hz
  have Hrc := Lib.hid hrc
  obtain ⟨m, hm⟩ : ∃ m, m = (docC l n).length := ⟨_, rfl⟩
  rw [← hm] at hRl HSe Hrc ⊢
  have hmm : m ≤ 9223372036854775807 := by omega
  have Hm := Lib.hid hm
  clear hs hb hz hrc hm hRl hn100
  go_wp2_with fail
  go_loopw [6, 7] (fun u x wr => ∃ k : Nat, k ≤ 8 ∧ x = .int .i64 k ∧ Hid (OwnL eltI wr w2.heap.size u (cellN l n k) ∧ Below w2.heap.size w2 wr)) (fun _ x _ => 8 - (intOf x).toNat)
  case atStart => exact ⟨0, Nat.zero_le _, by go_num, OwnL.nil .., Below.refl ..⟩
  case round =>
    obtain ⟨k, hk, rfl, HL⟩ := hrel
    by_cases hk8 : k < 8
    · go_wp2_with fail
      go_loopw [8, 9] (fun d x wq => ∃ i : Nat, i ≤ m ∧ x = .int .i64 i ∧ d = .bool (hasC l n (k : Int) i) ∧ Hid (OwnL eltI wq w2.heap.size u6 (cellN l n k) ∧ Below w2.heap.size w2 wq)) (fun _ x _ => m - (intOf x).toNat)
      case atStart => exact ⟨0, Nat.zero_le _, by go_num, rfl, HL.out⟩
      case round =>
        clear HL
        obtain ⟨i, hi, rfl, rfl, HQ⟩ := hrel
        by_cases him : i < m
        · obtain ⟨⟨P1, P2⟩, hp⟩ : ∃ p, (docC l n)[i]? = some p := ⟨_, List.getElem?_eq_getElem (by rw [← Hm.out]; exact him)⟩
          have hmem := docC_mem.1 (List.mem_of_getElem? hp)
          simp only at hmem
          have hP2 : P2 < n := hmem.1
          obtain ⟨gr, hra, p0, p1⟩ := HSe.out.nat_at hp
          simp only at p0 p1
          have p0 := keep HQ.out.2 p0
          have p1 := keep HQ.out.2 p1
          subst hra
          have hevw := Hev.out.below (HB2.out.trans (HQ.out.2.mono HB2.out.size))
          obtain ⟨b, off, x, ha0, hx, _, c0, c1, c2, c3, c4⟩ := hevw.at hP2
          subst ha0
          have Hhs := Lib.hid (hasC_succ (c := (k : Int)) hp hx)
          obtain ⟨xt, xk, xo, xv, xb⟩ := x
          simp only at c0 c1 c2 c3 c4
          clear hx hp hmem hevw
          have Hh2 : Hid (hasC l n (k : Int) (i + 1) = (hasC l n (k : Int) i || xo == (k : Int))) := Hhs.out
          clear Hhs
          revert Hh2
          generalize hasC l n (k : Int) i = h0
          intro Hh2
          by_cases he : xo = (k : Int)
          · have heb : (xo == (k : Int)) = true := by simpa using he
            have Hh3 : Hid (hasC l n (k : Int) (i + 1) = true) := by rw [Hid, Hh2.out, heb, Bool.or_true]
            clear he Hh2
            go_wp2
            go_roundw
            case rel => exact ⟨i + 1, him, by go_num, by rw [Hh3.out], HQ.out⟩
            case measure => exact measC him
          · have heb : (xo == (k : Int)) = false := by simpa using he
            have Hh3 : Hid (hasC l n (k : Int) (i + 1) = h0) := by rw [Hid, Hh2.out, heb, Bool.or_false]
            clear he Hh2
            go_wp2
            go_roundw
            case rel => exact ⟨i + 1, him, by go_num, by rw [Hh3.out], HQ.out⟩
            case measure => exact measC him
        · have him : i = m := Nat.le_antisymm hi (Nat.le_of_not_lt him)
          subst him
          have Hsc : Hid (cellN l n (k + 1) = cellN l n k ++ if hasC l n (k : Int) i then [(k : Int)] else []) := by rw [Hid, cellN_succ, ← Hm.out]
          have hcap : (cellN l n k).length < 1000000 := by have := cellN_len l n k; omega
          revert Hsc
          generalize hasC l n (k : Int) i = h0
          intro Hsc
          cases h0
          case false =>
            have HN : Hid (OwnL eltI wr w2.heap.size u6 (cellN l n (k + 1)) ∧ Below w2.heap.size w2 wr) := by
              rw [Hid, Hsc.out]; simpa using HQ.out
            clear HQ Hsc
            go_wp2
            go_roundw
            case rel => exact ⟨k + 1, hk8, by go_num, HN.out⟩
            case measure => exact measC hk8
          case true =>
            go_wp2_with (at_builtin; go_loud (refine wpList_push eltI rfl (.tmp 40) (.tmp 42) rfl (k : Int) rfl rfl rfl HQ.out.1 HQ.out.2.size hcap ?_))
            intro v' y hown hw _
            have HN : Hid (OwnL eltI y w2.heap.size v' (cellN l n (k + 1)) ∧ Below w2.heap.size w2 y) := by
              rw [Hid, Hsc.out, if_pos trivial]
              exact ⟨hown, Wrote.below HQ.out.2 hw HQ.out.2.size (fun q hq => (HQ.out.1.lt hq).1)⟩
            clear hown hw HQ Hsc
            go_wp2
            go_roundw
            case rel => exact ⟨k + 1, hk8, by go_num, HN.out⟩
            case measure => exact measC hk8
    · have hk8 : k = 8 := Nat.le_antisymm hk (Nat.le_of_not_lt hk8)
      subst hk8
      obtain ⟨a, ca, rfl, hI⟩ := HL.out.1.ints (fun x hx => by
        unfold cellN at hx
        obtain ⟨k, hk, rfl⟩ := List.mem_map.1 hx
        have := List.mem_range.1 (List.mem_filter.1 hk).1
        exact Fit.of (by omega) (by omega))
      have Hq : Hid (CellPost w n l (.returned (.tuple #[.slice a (cellN l n 8).length ca, .int .i64 0])) wr) := CellPost.yes Hz.out rfl hI (HB2.out.trans (HL.out.2.mono HB2.out.size))
      clear hI HL
      revert Hq
      generalize (cellN l n 8).length = kk
      intro Hq
      go_wp2
      go_returns
      exact Hq.out
end Go.Proofs.YtadngicebbnnlaaGreat

namespace Go.Proofs.YtadngicebbnnlaaGreat
open Go.ChangeShapes Go.WideShapes Go.ChangeAt Go.RowKit Go.Deep

/-- The first one; two noughts where there is none. -/
noncomputable def fir2 (n : Nat) (l : List Ev) : Nat × Nat := (confRes n l).1.head?.getD (0, 0)
def FirPost (w : World) (n : Nat) (l : List Ev) (e : Ending) (w' : World) : Prop :=
  e = .returned (.tuple #[.agg #[.int .i64 ((fir2 n l).1 : Int), .int .i64 ((fir2 n l).2 : Int)], .bool (decide (0 < (confRes n l).1.length)), .int .i64 (wrongS n l)]) ∧ Below w.heap.size w w'
theorem pairSize : (Tryz.prog.info? 25).map (·.size) = some 2 := by kernel_rfl
theorem pairOne (a b : Int) : (#[.int .i64 a, .int .i64 b] : Array Value).all (·.oneCell') = true := by simp [Value.oneCell']

set_option maxRecDepth 20000 in
set_option maxHeartbeats 8000000 in
theorem cffirst_calls {w : World} {a0 : Option Addr} {n c : Nat} {l : List Ev} (h : IsEvs w a0 n c l) :
    Calls Tryz.prog 7 #[.slice a0 n c] w (FirPost w n l) := by
  have Hev := Lib.hid h
  clear h
  go_enter Tryz.func7, Tryz.ntmps7
  go_wp2_with fail
  have hN := one_newC w #[.int .i64 0, .int .i64 0] 25
  revert hN
  generalize w.alloc (.cells #[.int .i64 0, .int .i64 0] 25) = w1
  rintro ⟨hA, hb1⟩
  have HB1 := Lib.hid hb1
  have hgl : w.heap.size < w1.heap.size := (Array.getElem?_eq_some_iff.1 hA).1
  refine (cfraces_calls (Hev.out.below hb1)).mono ?_
  rintro e w2 ⟨v, rfl, hs, hb⟩
  have HA2 : Hid (w2.heap[w.heap.size]? = some (.cells #[.int .i64 0, .int .i64 0] 25 (0, 0))) := (hb.block _ hgl).trans hA
  have HB2 := Lib.hid (HB1.out.trans (hb.mono HB1.out.size))
  clear hA hb1 hgl hb HB1
  have hpost : ∀ (A : Array Value), A = #[.int .i64 ((fir2 n l).1 : Int), .int .i64 ((fir2 n l).2 : Int)] → FirPost w n l (.returned (.tuple #[.agg A, .bool (decide (0 < (confRes n l).1.length)), .int .i64 (wrongS n l)])) (w2.setRow w.heap.size A) := fun A hA => by
    subst hA
    exact ⟨rfl, below_of_mod HB2.out (setRow_wrote w2 w.heap.size _) HB2.out.size (Nat.le_refl _)⟩
  have hrow : ∀ (A : Array Value), (w2.setRow w.heap.size A).heap[w.heap.size]? = some (.cells A 25 (0, 0)) := fun A => setRow_heap w2 w.heap.size _ A _ _ HA2.out
  have Hpost := Lib.hid hpost
  have Hrow := Lib.hid hrow
  clear hpost hrow
  by_cases hz : wrongS n l = 0
  case neg =>
    have Hq := Hpost.out #[.int .i64 0, .int .i64 0] (by unfold fir2; rw [confRes_bad hz]; rfl)
    have Hq := Lib.hid Hq
    rw [confRes_bad hz] at hs Hq ⊢
    have hz' : (wrongS n l != 0) = true := by simpa [bne] using hz
    obtain ⟨ra, rc, rfl, _⟩ := hs.nats
    clear hs hz Hpost
    generalize wrongS n l = z at *
    go_wp2_with (refine wpList_store_row rfl 25 (.tmp 2) (.tmp 19) rfl w.heap.size #[.int .i64 0, .int .i64 0] rfl rfl 25 #[.int .i64 0, .int .i64 0] HA2.out pairSize rfl (pairOne _ _) ?_)
    (try simp only [Exit.inBlock, Exit.then])
    refine bodyPost_ret (results_row2 rfl _ _ w.heap.size 25 _ (0, 0) _ rfl (Hrow.out _) Tryz.underlying25 rfl (by kernel_rfl)) rfl ?_
    exact Hq.out
  have hz' : (wrongS n l != 0) = false := by rw [hz]; rfl
  cases hd : docC l n with
  | nil =>
    have Hq := Lib.hid (Hpost.out #[.int .i64 0, .int .i64 0] (by unfold fir2; rw [confRes_good hz, hd]; rfl))
    rw [confRes_good hz, hd] at hs Hq ⊢
    rw [hz] at Hq
    obtain ⟨ra, rc, rfl, _⟩ := hs.nats
    clear hs hz Hpost hd
    simp only [List.length_nil] at *
    go_wp2_with (refine wpList_store_row rfl 25 (.tmp 2) (.tmp 19) rfl w.heap.size #[.int .i64 0, .int .i64 0] rfl rfl 25 #[.int .i64 0, .int .i64 0] HA2.out pairSize rfl (pairOne _ _) ?_)
    (try simp only [Exit.inBlock, Exit.then])
    refine bodyPost_ret (results_row2 rfl _ _ w.heap.size 25 _ (0, 0) _ rfl (Hrow.out _) Tryz.underlying25 rfl (by kernel_rfl)) rfl ?_
    exact Hq.out
  | cons p R =>
    obtain ⟨P1, P2⟩ := p
    have Hq := Lib.hid (Hpost.out #[.int .i64 (P1 : Int), .int .i64 (P2 : Int)] (by unfold fir2; rw [confRes_good hz, hd]; rfl))
    rw [confRes_good hz, hd] at hs Hq ⊢
    rw [hz] at Hq
    obtain ⟨ra, rc, rfl, hrc⟩ := hs.nats
    obtain ⟨gr, hra, p0, p1⟩ := hs.nat_at (i := 0) (p := (P1, P2)) rfl
    simp only at p0 p1
    subst hra
    have Hk : Hid (decide (0 < ((P1, P2) :: R).length) = true) := decide_eq_true (by simp)
    simp only at Hq
    rw [Hk.out] at Hq
    have hm0 : ((((P1, P2) :: R).length : Int) == 0) = false := by simp; omega
    have hm1 : 0 < ((P1, P2) :: R).length := by simp
    have hmm : ((P1, P2) :: R).length ≤ 9223372036854775807 := by
      rw [← hd]
      have hn100 := wrong_leC hz
      have := docC_len l n hn100; have : n * 100 ≤ 100 * 100 := Nat.mul_le_mul_right _ hn100; omega
    clear hs hz Hpost hd Hk
    simp only at *
    generalize ((P1, P2) :: R).length = m at *
    go_wp2_with (refine wpList_store_row rfl 25 (.tmp 2) (.tmp 23) rfl w.heap.size #[.int .i64 (P1 : Int), .int .i64 (P2 : Int)] rfl rfl 25 #[.int .i64 0, .int .i64 0] HA2.out pairSize rfl (pairOne _ _) ?_)
    (try simp only [Exit.inBlock, Exit.then])
    refine bodyPost_ret (results_row2 rfl _ _ w.heap.size 25 _ (0, 0) _ rfl (Hrow.out _) Tryz.underlying25 rfl (by kernel_rfl)) rfl ?_
    exact Hq.out
end Go.Proofs.YtadngicebbnnlaaGreat

namespace Go.Proofs.YtadngicebbnnlaaGreat
open Go.ChangeShapes Go.WideShapes Go.ChangeAt Go.RowKit Go.Deep

set_option maxRecDepth 20000 in
set_option maxHeartbeats 8000000 in
theorem conflictFirst_law {w : World} {a0 : Option Addr} {n c : Nat} {l : List Ev} (h : IsEvs w a0 n c l) :
    Calls Tryz.prog 3 #[.slice a0 n c] w fun e w' => e = .returned (.bool true) ∧ Below w.heap.size w w' := by
  have hnm : n ≤ 9223372036854775807 := by have := h.le; have := h.cap; unfold maxLen at *; omega
  have Hev := Lib.hid h
  clear h
  go_enter Tryz.func3, Tryz.ntmps3
  go_wp2_with fail
  refine (cawake_calls _).mono ?_
  rintro e w1 ⟨rfl, hb⟩
  have HB1 := Lib.hid hb
  clear hb
  go_wp2_with fail
  refine (cffirst_calls (Hev.out.below HB1.out)).mono ?_
  rintro e w2 ⟨rfl, hb⟩
  have HB2 := Lib.hid (HB1.out.trans (hb.mono HB1.out.size))
  clear hb HB1
  go_upto_region 3 with (fail)
  have hN := one_newC w2 #[.int .i64 ((fir2 n l).1 : Int), .int .i64 ((fir2 n l).2 : Int)] 25
  revert hN
  generalize w2.alloc (.cells #[.int .i64 ((fir2 n l).1 : Int), .int .i64 ((fir2 n l).2 : Int)] 25) = w3
  rintro ⟨hA, hb⟩
  have HB3 := Lib.hid (HB2.out.trans (hb.mono HB2.out.size))
  have e0 : w3.cell? ⟨w2.heap.size, 0, none⟩ = some (.int .i64 ((fir2 n l).1 : Int)) := cell_of_block hA
  have e1 : w3.cell? ⟨w2.heap.size, 1, none⟩ = some (.int .i64 ((fir2 n l).2 : Int)) := cell_of_block hA
  have HE3 := Lib.hid (And.intro e0 e1)
  clear hA hb HB2 e0 e1
  generalize w2.heap.size = g at *
  go_wp2_with fail
  refine (ccells_calls (Hev.out.below HB3.out)).mono ?_
  rintro e w4 ⟨a, ca, rfl, hI, hb⟩
  have HB4 := Lib.hid (HB3.out.trans (hb.mono HB3.out.size))
  have HI4 := Lib.hid hI
  have HE4 := Lib.hid (And.intro (keep hb HE3.out.1) (keep hb HE3.out.2))
  clear hI hb HB3 HE3
  go_wp2_with fail
  refine (rcfraces_calls (Hev.out.below HB4.out)).mono ?_
  rintro e w5 ⟨v, rfl, hs, hb⟩
  have HB5 := Lib.hid (HB4.out.trans (hb.mono HB4.out.size))
  have HI5 := Lib.hid (HI4.out.below hb)
  have HE5 := Lib.hid (And.intro (keep hb HE4.out.1) (keep hb HE4.out.2))
  have HS5 := Lib.hid hs
  clear hs hb HB4 HE4 HI4
  go_wp2_with fail
  refine (rccells_calls (Hev.out.below HB5.out)).mono ?_
  rintro e w6 ⟨a', ca', rfl, hI, hb⟩
  have HB6 := Lib.hid (HB5.out.trans (hb.mono HB5.out.size))
  have HI6 := Lib.hid (And.intro (HI5.out.below hb) hI)
  have HE6 := Lib.hid (And.intro (keep hb HE5.out.1) (keep hb HE5.out.2))
  have HS6 := Lib.hid (HS5.out.below hb)
  clear hI hb HB5 HE5 HI5 HS5
  revert HI6
  generalize cellR n l = cs
  intro HI6
  go_wp2_with fail
  refine (equal_calls HI6.out.1 HI6.out.2).mono ?_
  rintro e w7 ⟨rfl, hb⟩
  have hdc : decide (cs = cs) = true := decide_eq_true rfl
  have HB7 := Lib.hid (HB6.out.trans (hb.mono HB6.out.size))
  have HS7 := Lib.hid (HS6.out.below hb)
  have e0 := keep hb HE6.out.1
  have e1 := keep hb HE6.out.2
  rw [hdc]
  clear hb HB6 HE6 HI6 HS6 hdc
  have hzz : (wrongS n l != wrongS n l) = false := by simp
  have hz2 : (confRes n l).2 = wrongS n l := by
    by_cases hz : wrongS n l = 0
    · rw [confRes_good hz, hz]
    · rw [confRes_bad hz]
  rw [hz2]
  have hlt : (confRes n l).1.length ≤ 10000 := by
    by_cases hz : wrongS n l = 0
    · rw [confRes_good hz]
      have hn100 := wrong_leC hz
      have := docC_len l n hn100; have : n * 100 ≤ 100 * 100 := Nat.mul_le_mul_right _ hn100; simp only; omega
    · rw [confRes_bad hz]; simp
  have Hf2 : Hid (fir2 n l = (confRes n l).1.head?.getD (0, 0)) := rfl
  clear hz2
  revert HS7 hlt Hf2 e0 e1
  generalize fir2 n l = ff
  generalize (confRes n l).1 = R
  generalize wrongS n l = z at *
  intro HS7 e0 e1 hlt Hf2
  obtain ⟨ra, rc, rfl, hrc⟩ := HS7.out.nats
  cases R with
  | nil =>
    have hm1 : decide (0 < ([] : List (Nat × Nat)).length) = false := rfl
    rw [hm1]
    simp only [List.length_nil] at *
    go_wp2_with fail
    refine wp_ext_draw 13 mixed (by kernel_rfl) ?_
    simp only [List.take_succ_cons, List.take_zero, List.drop_succ_cons, List.drop_zero]
    repeat ((first | ((apply TextRun.go rfl rfl rfl); (focus (intro w1 hS K hK; have hc := bcell hS; have hs := blt hS; have e0 := keep hS e0; have e1 := keep hS e1; go_wp2_with (fail); first | done | exact hS | exact hS.trans (hb.mono hS.size)))) | (refine TextRun.skip rfl ?_) | ((refine TextRun.wantedT rfl rfl rfl ?_); (apply Exists.intro); (apply And.intro); (focus (intro w1 hS K hK; have hc := bcell hS; have hs := blt hS; have e0 := keep hS e0; have e1 := keep hS e1; go_wp2_with (fail); first | done | exact hS | exact hS.trans (hb.mono hS.size))))); (simp only [Act.put, List.setIfInBounds_toArray, List.set_cons_zero, List.set_cons_succ]))
    refine TextRun.done ?_
    intro w8 hb
    have HB8 := Lib.hid (HB7.out.trans (hb.mono HB7.out.size))
    clear hb HB7 e0 e1
    go_wp2
    go_ret
    exact ⟨rfl, HB8.out⟩
  | cons p R =>
    obtain ⟨P1, P2⟩ := p
    obtain ⟨gr, hra, p0, p1⟩ := HS7.out.nat_at (i := 0) (p := (P1, P2)) rfl
    simp only at p0 p1
    subst hra
    have hff : ff = (P1, P2) := Hf2.out
    subst hff
    simp only at e0 e1
    have hm1 : decide (0 < ((P1, P2) :: R).length) = true := decide_eq_true (by simp)
    rw [hm1]
    have hm2 : 0 < ((P1, P2) :: R).length := by simp
    clear hm1 Hf2 HS7
    generalize ((P1, P2) :: R).length = m at *
    have hmm : m ≤ 9223372036854775807 := by omega
    have hgt : decide ((0 : Int) < (m : Int)) = true := decide_eq_true (by omega)
    have p0 : w7.cell? ⟨gr, 0, none⟩ = some (.int .i64 (P1 : Int)) := p0
    have p1 : w7.cell? ⟨gr, 1, none⟩ = some (.int .i64 (P2 : Int)) := p1
    go_wp2_with fail
    refine wp_ext_draw 13 mixed (by kernel_rfl) ?_
    simp only [List.take_succ_cons, List.take_zero, List.drop_succ_cons, List.drop_zero]
    repeat ((first | ((apply TextRun.go rfl rfl rfl); (focus (intro w1 hS K hK; have hc := bcell hS; have hs := blt hS; have e0 := keep hS e0; have e1 := keep hS e1; have p0 := keep hS p0; have p1 := keep hS p1; go_wp2_with (fail); first | done | exact hS | exact hS.trans (hb.mono hS.size)))) | (refine TextRun.skip rfl ?_) | ((refine TextRun.wantedT rfl rfl rfl ?_); (apply Exists.intro); (apply And.intro); (focus (intro w1 hS K hK; have hc := bcell hS; have hs := blt hS; have e0 := keep hS e0; have e1 := keep hS e1; have p0 := keep hS p0; have p1 := keep hS p1; go_wp2_with (fail); first | done | exact hS | exact hS.trans (hb.mono hS.size))))); (simp only [Act.put, List.setIfInBounds_toArray, List.set_cons_zero, List.set_cons_succ]))
    refine TextRun.done ?_
    intro w8 hb
    have HB8 := Lib.hid (HB7.out.trans (hb.mono HB7.out.size))
    clear hb HB7 e0 e1 p0 p1
    go_wp2
    go_ret
    exact ⟨rfl, HB8.out⟩
end Go.Proofs.YtadngicebbnnlaaGreat
