/-
  slices.SortFunc at structs, of a list of one's own: it holds the same elements, none less than one ahead of it.
-/
import Derived.Shelf.SlSortCmp.WholeK
import Derived.Test.YtadngicebbnnlaaOrdX
set_option linter.unusedSimpArgs false
set_option linter.unusedVariables false
namespace Go.Proofs.Ytadngicebbnnlaa
open Go Go.RowKit Go.Shelf

theorem flatK_list {α : Type} [Inhabited α] (enc : α → List Value) (k : Nat) (hk : ∀ x, (enc x).length = k) (h0 : 0 < k) (xs : List α) : (Go.Sort.flatK enc k xs.toArray).toList = xs.flatMap enc := by
  have hl := flat_len enc k hk xs
  refine List.ext_getElem? fun t => ?_
  by_cases ht : t < xs.length * k
  · have h1 : (Go.Sort.flatK enc k xs.toArray).size = xs.length * k := by rw [Go.Sort.size_flatK, List.size_toArray]
    have hd : t / k < xs.length := (Nat.div_lt_iff_lt_mul h0).2 ht
    have h2 := Go.Sort.get_flatK enc k xs.toArray t (by rw [List.size_toArray]; exact ht)
    have h3 := flat_get enc k hk xs (t / k) (t % k) xs[t / k] (List.getElem?_eq_getElem hd) (Nat.mod_lt _ h0)
    rw [Nat.mul_comm, Nat.div_add_mod] at h3
    rw [h3, Array.getElem?_toList, Array.getElem?_eq_getElem (by rw [h1]; exact ht)]
    rw [getElem!_pos _ t (by rw [h1]; exact ht), getElem!_pos xs.toArray (t / k) (by rw [List.size_toArray]; exact hd)] at h2
    rw [h2]
    have h4 : t % k < (enc xs[t / k]).length := by rw [hk]; exact Nat.mod_lt _ h0
    rw [List.getElem?_eq_getElem h4]
    simp only [List.getElem_toArray]
    rw [getElem!_pos (enc xs[t / k]) (t % k) h4]
  · rw [List.getElem?_eq_none (by rw [Array.length_toList, Go.Sort.size_flatK, List.size_toArray]; omega), List.getElem?_eq_none (by rw [hl]; omega)]
theorem holdsK_own {w : World} {B g n cap size : Nat} {e : TypeId} {α : Type} [Inhabited α] {f : α → List Value} (hk : ∀ x, (f x).length = size) (h0 : 0 < size) {xs : List α} (hn : xs.length = n)
    (h : w.ownsRow B e size (.slice (some ⟨g, 0, none⟩) n cap) n (xs.flatMap f)) : Go.Sort.HoldsK f size w g 0 xs.toArray := by
  intro j hj
  rw [Go.Sort.size_flatK, List.size_toArray] at hj
  rcases h.2 with ⟨h1, _⟩ | ⟨g', cap', cur, h1, _, hg, _, _, hcs, ht⟩
  · cases h1
  · cases h1
    have hF := flatK_list f size hk h0 xs
    have h2 : (Go.Sort.flatK f size xs.toArray)[j]? = cur[j]? := by
      rw [← Array.getElem?_toList, hF, ← ht, List.getElem?_take_of_lt (by rw [← hn]; exact hj), Array.getElem?_toList]
    have hs : j < (Go.Sort.flatK f size xs.toArray).size := by rw [Go.Sort.size_flatK, List.size_toArray]; exact hj
    refine ⟨?_, ?_⟩
    · rw [Nat.zero_add, cell_of_block hg, ← h2, Array.getElem?_eq_getElem hs, getElem!_pos _ j hs]; rfl
    · rw [Nat.zero_add]; exact free_of_block hg
theorem sortWorld_block {α : Type} [Inhabited α] {f : α → List Value} {k : Nat} {w : World} {g m : Nat} {d : Array α} {os : Array Obj} (hg : g < w.heap.size) (q : Nat) (hq : q < w.heap.size) :
    (sortWorldK f k w g 0 m d os).heap[q]? = if q = g then (w.heap[g]?).map (Go.Sort.onCells (Go.Sort.putCells id 0 (Go.Sort.flatK f k d))) else w.heap[q]? := by
  unfold sortWorldK Go.Sort.putRowK Go.Sort.putRow Go.Sort.mapBlock
  rw [Go.Sort.heap_grow_old _ _ (by simpa using hq)]
  simp only [Go.Sort.heap_ahead, Array.getElem?_modify]
  by_cases h : q = g
  · subst h; simp
  · rw [if_neg (fun e => h e.symm), if_neg h]
theorem sortWorld_own {w : World} {B g n cap size m : Nat} {e : TypeId} {α : Type} [Inhabited α] {f : α → List Value} (hk : ∀ x, (f x).length = size) (h0 : 0 < size) {xs ys : List α} {os : Array Obj} (hy : ys.length = n)
    (h : w.ownsRow B e size (.slice (some ⟨g, 0, none⟩) n cap) n (xs.flatMap f)) :
    (sortWorldK f size w g 0 m ys.toArray os).ownsRow B e size (.slice (some ⟨g, 0, none⟩) n cap) n (ys.flatMap f) ∧ Wrote (fun q => q = g) w (sortWorldK f size w g 0 m ys.toArray os) := by
  have hlt : g < w.heap.size := (h.lt g rfl).2
  refine ⟨⟨by rw [flat_len f size hk, hy], ?_⟩, ⟨rfl, rfl, rfl, ?_, fun q hq hn => ?_⟩⟩
  · rcases h.2 with ⟨h1, _⟩ | ⟨g', cap', cur, h1, hB, hg, hnc, hcm, hcs, ht⟩
    · cases h1
    · cases h1
      refine .inr ⟨g, cap, Go.Sort.putCells id 0 (Go.Sort.flatK f size ys.toArray) cur, rfl, hB, ?_, hnc, hcm, ?_, ?_⟩
      · rw [sortWorld_block hlt g hlt, if_pos rfl, hg]; rfl
      · unfold Go.Sort.putCells; rw [Array.size_mapIdx]; exact hcs
      · have hF := flatK_list f size hk h0 ys
        have hFs : (Go.Sort.flatK f size ys.toArray).size = n * size := by rw [Go.Sort.size_flatK, List.size_toArray, hy]
        rw [← hF]
        have hcl : n * size ≤ cur.size := by rw [hcs]; exact Nat.mul_le_mul_right _ hnc
        refine List.ext_getElem? fun t => ?_
        by_cases h2 : t < n * size
        · rw [List.getElem?_take_of_lt h2, Array.getElem?_toList, Array.getElem?_toList]
          unfold Go.Sort.putCells
          rw [Array.getElem?_mapIdx, Array.getElem?_eq_getElem (by omega), Option.map_some, if_pos ⟨Nat.zero_le _, by rw [hFs]; omega⟩, Nat.sub_zero, Array.getElem?_eq_getElem (by rw [hFs]; exact h2), getElem!_pos _ t (by rw [hFs]; exact h2)]; rfl
        · rw [List.getElem?_eq_none (by rw [List.length_take]; omega), List.getElem?_eq_none (by rw [Array.length_toList, hFs]; omega)]
  · unfold sortWorldK
    rw [Go.Sort.size_grow]
    unfold Go.Sort.putRowK
    rw [Go.Sort.size_putRow]
    exact Nat.le_add_right _ _
  · rw [sortWorld_block hlt q hq, if_neg hn]

section
variable {P : Program} {ρ : Ren}
set_option maxHeartbeats 2000000 in
set_option maxRecDepth 100000 in
theorem ins_nil (L : SlLaysF0.n20 P ρ) (k : Nat) (aE : ∀ w, (isAgg (ρ.t 24)).run P w = .ok true w) (zE : ∀ w, (Go.sizeOf (ρ.t 24)).run P w = .ok k w) (g : Nat) (cb : Array Value) (w : World) :
    Calls P (ρ.f 20) #[.slice none 0 0, .int .i64 0, .int .i64 0, .func (.func g) #[] cb] w fun e w' => e = .returned (.tuple #[]) ∧ w' = w := by
  have mixed := L.mixed; have t0 := L.t0; have a0 := L.a0; have z0 := L.z0; have v0 := L.v0; have t3 := L.t3; have a3 := L.a3; have z3 := L.z3; have v3 := L.v3; have t4 := L.t4; have a4 := L.a4; have z4 := L.z4; have v4 := L.v4; have t22 := L.t22; have a22 := L.a22; have z22 := L.z22; have v22 := L.v22; have t25 := L.t25; have a25 := L.a25; have z25 := L.z25; have v25 := L.v25
  have u22 := run_underlying L.t22
  obtain ⟨nm20, _, F20⟩ := L.f20
  go_enter F20, SlBodyF.n20_ntmps ρ
  go_wp2
  refine wp_loop_rounds 1 ?_
  rw [rounds_succ]
  go_wp2
  go_end0
  exact ⟨rfl, rfl⟩
set_option maxHeartbeats 2000000 in
set_option maxRecDepth 100000 in
theorem pdq_nil (L : SlLaysF0.n14 P ρ) (k : Nat) (aE : ∀ w, (isAgg (ρ.t 24)).run P w = .ok true w) (zE : ∀ w, (Go.sizeOf (ρ.t 24)).run P w = .ok k w) (g : Nat) (cb : Array Value) (lim : Int) (w : World) :
    Calls P (ρ.f 14) #[.slice none 0 0, .int .i64 0, .int .i64 0, .int .i64 lim, .func (.func g) #[] cb] w fun e w' => e = .returned (.tuple #[]) ∧ w' = w := by
  have mixed := L.mixed; have t0 := L.t0; have a0 := L.a0; have z0 := L.z0; have v0 := L.v0; have t3 := L.t3; have a3 := L.a3; have z3 := L.z3; have v3 := L.v3; have t4 := L.t4; have a4 := L.a4; have z4 := L.z4; have v4 := L.v4; have t5 := L.t5; have a5 := L.a5; have z5 := L.z5; have v5 := L.v5; have t9 := L.t9; have a9 := L.a9; have z9 := L.z9; have v9 := L.v9; have t22 := L.t22; have a22 := L.a22; have z22 := L.z22; have v22 := L.v22; have t25 := L.t25; have a25 := L.a25; have z25 := L.z25; have v25 := L.v25; have t39 := L.t39; have a39 := L.a39; have z39 := L.z39; have v39 := L.v39; have t45 := L.t45; have a45 := L.a45; have z45 := L.z45; have v45 := L.v45; have t46 := L.t46; have a46 := L.a46; have z46 := L.z46; have v46 := L.v46; have t50 := L.t50; have a50 := L.a50; have z50 := L.z50; have v50 := L.v50; have t53 := L.t53; have a53 := L.a53; have z53 := L.z53; have v53 := L.v53; have t55 := L.t55; have a55 := L.a55; have z55 := L.z55; have v55 := L.v55; have t66 := L.t66; have a66 := L.a66; have z66 := L.z66; have v66 := L.v66; have t70 := L.t70; have a70 := L.a70; have z70 := L.z70; have v70 := L.v70; have t76 := L.t76; have a76 := L.a76; have z76 := L.z76; have v76 := L.v76; have t77 := L.t77; have a77 := L.a77; have z77 := L.z77; have v77 := L.v77
  have e20 : ∀ args w, (callFunc (ρ.f 20) args).run P w = .ok (.enter (ρ.f 20) args) w := L.f20.enters rfl
  have hi := ins_nil (P := P) (ρ := ρ) { L with } k aE zE g cb w
  obtain ⟨_, _, FG⟩ := L.f14
  go_enter FG, SlBodyF.n14_ntmps ρ
  go_wp2
  refine wp_loop_rounds 1 ?_
  rw [rounds_succ]
  go_wp2_with (go_at_fn (ρ.f 20); refine hi.mono ?_; rintro e w' ⟨rfl, rfl⟩)
  (try simp only [Exit.inBlock, Exit.then]); refine bodyPost_ret (results_none rfl _ _ _) rfl ?_
  exact ⟨rfl, rfl⟩
set_option maxHeartbeats 2000000 in
set_option maxRecDepth 100000 in
theorem sort_nil (L : SlLaysF0.n6 P ρ) (k : Nat) (aE : ∀ w, (isAgg (ρ.t 24)).run P w = .ok true w) (zE : ∀ w, (Go.sizeOf (ρ.t 24)).run P w = .ok k w) (g : Nat) (cb : Array Value) (w : World) :
    Calls P (ρ.f 6) #[.slice none 0 0, .func (.func g) #[] cb] w fun e w' => e = .returned (.tuple #[]) ∧ w' = w := by
  have mixed := L.mixed; have t0 := L.t0; have a0 := L.a0; have z0 := L.z0; have v0 := L.v0; have t3 := L.t3; have a3 := L.a3; have z3 := L.z3; have v3 := L.v3; have t4 := L.t4; have a4 := L.a4; have z4 := L.z4; have v4 := L.v4; have t5 := L.t5; have a5 := L.a5; have z5 := L.z5; have v5 := L.v5; have t9 := L.t9; have a9 := L.a9; have z9 := L.z9; have v9 := L.v9; have t22 := L.t22; have a22 := L.a22; have z22 := L.z22; have v22 := L.v22; have t25 := L.t25; have a25 := L.a25; have z25 := L.z25; have v25 := L.v25; have t39 := L.t39; have a39 := L.a39; have z39 := L.z39; have v39 := L.v39; have t45 := L.t45; have a45 := L.a45; have z45 := L.z45; have v45 := L.v45; have t46 := L.t46; have a46 := L.a46; have z46 := L.z46; have v46 := L.v46; have t50 := L.t50; have a50 := L.a50; have z50 := L.z50; have v50 := L.v50; have t53 := L.t53; have a53 := L.a53; have z53 := L.z53; have v53 := L.v53; have t55 := L.t55; have a55 := L.a55; have z55 := L.z55; have v55 := L.v55; have t66 := L.t66; have a66 := L.a66; have z66 := L.z66; have v66 := L.v66; have t70 := L.t70; have a70 := L.a70; have z70 := L.z70; have v70 := L.v70; have t76 := L.t76; have a76 := L.a76; have z76 := L.z76; have v76 := L.v76; have t77 := L.t77; have a77 := L.a77; have z77 := L.z77; have v77 := L.v77
  have e14 : ∀ args w, (callFunc (ρ.f 14) args).run P w = .ok (.enter (ρ.f 14) args) w := L.f14.enters rfl
  have e15 : ∀ args w, (callFunc (ρ.f 15) args).run P w = .ok (.enter (ρ.f 15) args) w := enters_of L.f15 (by kernel_rfl) rfl
  have hp := fun lim => pdq_nil (P := P) (ρ := ρ) { L with } k aE zE g cb lim w
  have hl : Calls P (ρ.f 15) #[.int .u64 0] w fun e w' => e = .returned (.int .i64 (Lib.bitLen 0 : Nat)) ∧ w' = w := by
    have h := Any.bits_Len (SlLaysF0.n15.bits (P := P) (ρ := ρ) { L with }) (0 : Int) w (by omega) (by omega)
    exact h
  obtain ⟨_, _, FG⟩ := L.f6
  go_enter FG, SlBodyF.n6_ntmps ρ
  go_wp2_with (first | (go_at_fn (ρ.f 15); refine hl.mono ?_; rintro e w' ⟨rfl, rfl⟩) | (go_at_fn (ρ.f 14); refine (hp _).mono ?_; rintro e w' ⟨rfl, rfl⟩))
  go_end0
  exact ⟨rfl, rfl⟩
end

/-- What is asked of the closure: in whatever world it hands back cf; it draws, and lays blocks. -/
def CmpAt (g : Nat) {α : Type} (f : α → List Value) (cf : α → α → Int) : Prop :=
  ∀ (x y : α) (W : World), Calls Try.prog g #[.agg (f x).toArray, .agg (f y).toArray] W fun e w' => e = .returned (.int .i64 (cf x y)) ∧ Below W.heap.size W w' ∧ W.drawn ≤ w'.drawn
theorem grown_of {W w' : World} (h : Below W.heap.size W w') (hd : W.drawn ≤ w'.drawn) : ∃ q os, w' = Go.Sort.grow (W.drewN q) os := by
  refine ⟨w'.drawn - W.drawn, w'.heap.extract W.heap.size w'.heap.size, ?_⟩
  have hh : w'.heap = W.heap ++ w'.heap.extract W.heap.size w'.heap.size := by
    apply Array.ext_getElem?
    intro i
    rw [Array.getElem?_append]
    by_cases hi : i < W.heap.size
    · rw [if_pos hi, h.block i hi]
    · rw [if_neg hi]
      have hs := h.size
      by_cases h2 : i < w'.heap.size
      · rw [Array.getElem?_extract, if_pos (by omega)]; congr 1; omega
      · rw [Array.getElem?_eq_none (by omega), Array.getElem?_eq_none (by rw [Array.size_extract]; omega)]
  have h1 := h.os
  have h2 := h.tape
  have h3 := h.output
  obtain ⟨wh, wt, wd, wo, wp⟩ := w'
  obtain ⟨Wh, Wt, Wd, Wo, Wp⟩ := W
  simp only at h1 h2 h3 hh hd
  subst h1 h2 h3
  unfold Go.Sort.grow World.drewN
  simp only
  congr 1
  omega
/-- slices.SortFunc, of a list of one's own. -/
theorem sortL_calls {α : Type} [Inhabited α] (E : Elt α) {ρ : Ren} (L : SlLaysF0.n6 Try.prog ρ) (aE : ∀ w, (isAgg (ρ.t 24)).run Try.prog w = .ok true w) (zE : ∀ w, (Go.sizeOf (ρ.t 24)).run Try.prog w = .ok E.size w)
    (cf : α → α → Int) (hO : Go.Sort.SWO (ltOf cf)) (g : Nat) (eg : ∀ args w, (callFunc g args).run Try.prog w = .ok (.enter g args) w) (hc : CmpAt g E.f cf)
    {w : World} {B : Nat} {v : Value} {xs : List α} (h : OwnL E w B v xs) (hn : xs.length < 1000000) :
    Calls Try.prog (ρ.f 6) #[v, .func (.func g) #[] #[]] w fun e w' => e = .returned (.tuple #[]) ∧ ∃ ys : List α, ys.Perm xs ∧ (ys.Pairwise fun a b => ltOf cf b a = false) ∧ OwnL E w' B v ys ∧ Wrote (fun q => v.ownBlock = some q) w w' := by
  rcases h.own.2 with ⟨h0, hl⟩ | ⟨b, cap, cur, hv, hB, hg, _⟩
  · subst h0
    refine (sort_nil L E.size aE zE g #[] w).mono ?_
    rintro e w' ⟨rfl, rfl⟩
    have : xs = [] := List.eq_nil_of_length_eq_zero hl
    subst this
    exact ⟨rfl, [], .refl _, .nil, h, Wrote.refl _ _⟩
  · have hlt : b < w.heap.size := (Array.getElem?_eq_some_iff.1 hg).1
    have hown := h.own
    rw [hv] at hown
    have hsz : xs.toArray.size = xs.length := List.size_toArray ..
    have hcl : CmpLays Try.prog g #[] E.f E.size cf b 0 xs.toArray.size w := fun m os dk _ x y => (hc x y _).mono fun e w' ⟨he, hb, hd⟩ => ⟨he, grown_of hb hd⟩
    have := AnyQ.slices_SortFunc L E.size aE zE E.f E.hf E.h1 cf hO g #[] b 0 cap xs.toArray w eg hcl (holdsK_own E.hf E.hs rfl hown) hlt (by rw [hsz]; omega)
    rw [hsz, ← hv] at this
    refine this.mono ?_
    rintro e w' ⟨rfl, d', n, os, ⟨hp1, _, hp2⟩, hs, rfl⟩
    rw [hsz] at hp1
    have hd : d' = d'.toList.toArray := by simp
    have hlen : d'.toList.length = xs.length := by rw [Array.length_toList]; exact hp1
    have hw := sortWorld_own (m := n) (os := os) E.hf E.hs hlen hown
    rw [← hd, ← hv] at hw
    refine ⟨rfl, d'.toList, ?_, ?_, ⟨by rw [hlen]; exact hw.1⟩, hw.2.mono fun q hq => by rw [hv, hq]; rfl⟩
    · have e1 : d'.extract 0 xs.length = d' := by rw [← hp1]; simp
      have e2 : xs.toArray.extract 0 xs.length = xs.toArray := by rw [← hsz]; simp
      rw [e1, e2] at hp2
      simpa using hp2
    · rw [List.pairwise_iff_getElem]
      intro i j hi hj hij
      have := hs i j (Nat.zero_le _) hij (by rw [← hlen]; exact hj)
      rw [getElem!_pos d' j (by rw [← Array.length_toList]; exact hj), getElem!_pos d' i (by rw [← Array.length_toList]; exact hi)] at this
      simpa using this
end Go.Proofs.Ytadngicebbnnlaa
