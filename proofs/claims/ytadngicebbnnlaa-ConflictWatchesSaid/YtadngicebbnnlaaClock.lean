/-
  Clocks: the program's functions and the document's, one by one.
-/
import Derived.Test.YtadngicebbnnlaaData
import Derived.WalkKit
import Derived.WalkSpells
import Derived.WalkLawsBesides
import Derived.Handy
import Derived.Lib.Hide
import Derived.Deep.LoopGhost
import Derived.Deep.OwnRows
set_option linter.unusedSimpArgs false
set_option linter.unusedVariables false
namespace Go.Proofs.Ytadngicebbnnlaa
open Go.ChangeShapes Go.WideShapes Go.ChangeAt Go.RowKit Go.Deep

theorem take_succ_eq {α : Type} {xs ys : List α} {k : Nat} {x y : α} (hx : xs[k]? = some x) (hy : ys[k]? = some y) (h : xs.take k = ys.take k) (e : x = y) : xs.take (k + 1) = ys.take (k + 1) := by
  rw [List.take_add_one, List.take_add_one, h, hx, hy, e]

/-! ### The document's Of, At, Covers, Leq, Compare. -/
def okClock (l : List Int) : Bool := decide (1 ≤ l.length) && decide (l.length ≤ 8) && l.all (fun x => decide (0 ≤ x))
def errOf (l : List Int) : Int := if okClock l then 0 else 1

theorem all_take_succ {xs : List Int} {k : Nat} {x : Int} (hx : xs[k]? = some x) (h : (xs.take k).all (fun x => decide (0 ≤ x)) = true) (h0 : 0 ≤ x) : (xs.take (k + 1)).all (fun x => decide (0 ≤ x)) = true := by
  rw [List.take_add_one, hx, List.all_append, h]; simp [h0]
theorem all_false {xs : List Int} {k : Nat} {x : Int} (hx : xs[k]? = some x) (h0 : x < 0) : okClock xs = false := by
  unfold okClock
  have : xs.all (fun x => decide (0 ≤ x)) = false := by
    rw [List.all_eq_false]; exact ⟨x, List.mem_of_getElem? hx, by simp; omega⟩
  rw [this]; simp

/-- A clock in memory: its block, the row of its counts. -/
structure ClockAt (w : World) (b g : Nat) (l : List Int) : Prop where
  ex : ∃ cap cur, w.heap[b]? = some (.cells #[.slice (some ⟨g, 0, none⟩) l.length cap] 173 (0, 0)) ∧ w.heap[g]? = some (.cells cur 3 (0, 0)) ∧
    l.length ≤ cap ∧ cap ≤ maxLen ∧ cur.size = cap ∧ cur.toList.take l.length = l.map (Value.int .i64)
  pos : 0 < l.length
  le : l.length ≤ 8
  wf : ∀ x ∈ l, Fit x

section
variable {w w' : World} {b g : Nat} {l : List Int}
theorem cell_of_block {cs : Array Value} {t : TypeId} {fr : Nat × Nat} {o : Nat} (h : w.heap[b]? = some (.cells cs t fr)) : w.cell? ⟨b, o, none⟩ = cs[o]? := by simp [World.cell?, h]
theorem free_of_block {cs : Array Value} {t : TypeId} {o : Nat} (h : w.heap[b]? = some (.cells cs t (0, 0))) : w.frozen? ⟨b, o, none⟩ = false := by simp [World.frozen?, h]
theorem ClockAt.head (h : ClockAt w b g l) : ∃ cap, w.cell? ⟨b, 0, none⟩ = some (.slice (some ⟨g, 0, none⟩) l.length cap) ∧ l.length ≤ cap ∧ cap ≤ maxLen := by
  obtain ⟨cap, cur, h1, _, h3, h4, _⟩ := h.ex
  exact ⟨cap, by rw [cell_of_block h1]; rfl, h3, h4⟩
theorem ClockAt.at (h : ClockAt w b g l) {i : Nat} {x : Int} (hi : l[i]? = some x) : w.cell? ⟨g, i, none⟩ = some (.int .i64 x) := by
  obtain ⟨cap, cur, _, h2, _, _, _, h6⟩ := h.ex
  have hlt : i < l.length := (List.getElem?_eq_some_iff.1 hi).1
  have h1 : (cur.toList.take l.length)[i]? = some (.int .i64 x) := by rw [h6, List.getElem?_map, hi]; rfl
  rw [List.getElem?_take_of_lt hlt] at h1
  rw [cell_of_block h2, ← Array.getElem?_toList]
  exact h1
theorem ClockAt.free (h : ClockAt w b g l) (i : Nat) : w.frozen? ⟨g, i, none⟩ = false := by
  obtain ⟨cap, cur, _, h2, _⟩ := h.ex
  exact free_of_block h2
theorem ClockAt.frame (h : ClockAt w b g l) (hb : w'.heap[b]? = w.heap[b]?) (hg : w'.heap[g]? = w.heap[g]?) : ClockAt w' b g l := by
  obtain ⟨cap, cur, h1, h2, r⟩ := h.ex
  exact ⟨⟨cap, cur, by rw [hb, h1], by rw [hg, h2], r⟩, h.pos, h.le, h.wf⟩
theorem ClockAt.lt (h : ClockAt w b g l) : b < w.heap.size ∧ g < w.heap.size := by
  obtain ⟨cap, cur, h1, h2, _⟩ := h.ex
  exact ⟨(Array.getElem?_eq_some_iff.1 h1).1, (Array.getElem?_eq_some_iff.1 h2).1⟩
theorem ClockAt.ne (h : ClockAt w b g l) : b ≠ g := by
  obtain ⟨cap, cur, h1, h2, _⟩ := h.ex
  rintro rfl
  rw [h1] at h2
  cases h2
theorem ClockAt.below (h : ClockAt w b g l) (hb : Below w.heap.size w w') : ClockAt w' b g l :=
  h.frame (hb.block b h.lt.1) (hb.block g h.lt.2)
theorem ClockAt.ints (h : ClockAt w b g l) : ∃ cap, w.cell? ⟨b, 0, none⟩ = some (.slice (some ⟨g, 0, none⟩) l.length cap) ∧ IsInts w (some ⟨g, 0, none⟩) l.length cap l := by
  obtain ⟨cap, h1, h2, h3⟩ := h.head
  refine ⟨cap, h1, ⟨⟨by simp, fun _ => ⟨g, 0, rfl, fun j u hu => ?_⟩⟩, rfl, h2, h3, h.wf⟩⟩
  rw [List.getElem?_map] at hu
  cases hj : l[j]? with
  | none => rw [hj] at hu; cases hu
  | some x => rw [hj] at hu; cases hu; rw [Nat.zero_add]; exact h.at hj
theorem ClockAt.set (h : ClockAt w b g l) {i : Nat} (hi : i < l.length) {x : Int} (hx : Fit x) : ClockAt (w.setCell ⟨g, i, none⟩ (.int .i64 x)) b g (l.set i x) := by
  obtain ⟨cap, cur, h1, h2, h3, h4, h5, h6⟩ := h.ex
  have hne := h.ne
  refine ⟨⟨cap, cur.setIfInBounds i (.int .i64 x), ?_, ?_, by simpa using h3, h4, by simpa using h5, ?_⟩, by simpa using h.pos, by simpa using h.le, fun y hy => ?_⟩
  · rw [List.length_set, Below.heap_setCell _ _ _ _ (by simpa using hne)]; exact h1
  · simp [World.setCell, Array.getElem?_modify, h2]
  · rw [List.length_set, Array.toList_setIfInBounds, List.take_set, h6, List.map_set]
  · rcases List.mem_or_eq_of_mem_set hy with hy | rfl
    · exact h.wf y hy
    · exact hx
end

/-! ### The program's functions. -/
theorem infoInt : (Try.prog.info? 3).map (fun i => (i.zero, i.size, i.bytes)) = some (some (.int .i64 0), 1, 8) := by kernel_rfl
theorem clock_made (w : World) (k : Nat) (h1 : 1 ≤ k) (h8 : k ≤ 8) :
    ClockAt ((w.alloc (.cells (madeCells #[.int .i64 0] k) 3)).alloc (.cells #[.slice (some ⟨w.heap.size, 0, none⟩) k k] 173)) (w.heap.size + 1) w.heap.size (List.replicate k 0) := by
  refine ⟨⟨k, madeCells #[.int .i64 0] k, ?_, ?_, by simp, by unfold maxLen; omega, size_madeCells _ _, ?_⟩, by simp; omega, by simpa using h8, fun x hx => ?_⟩
  · rw [List.length_replicate]
    have := (MapKept.heap_alloc (w.alloc (.cells (madeCells #[.int .i64 0] k) 3)) (.cells #[.slice (some ⟨w.heap.size, 0, none⟩) k k] 173)).1
    simpa using this
  · rw [Below.heap_alloc _ _ _ (by simp)]
    exact (MapKept.heap_alloc w _).1
  · rw [toList_madeCells_one, List.length_replicate, List.map_replicate, List.take_of_length_le (by simp)]
  · rw [List.eq_of_mem_replicate hx]; exact Fit.of (by decide) (by decide)
theorem clock_made_below (w : World) (k : Nat) : Below w.heap.size w ((w.alloc (.cells (madeCells #[.int .i64 0] k) 3)).alloc (.cells #[.slice (some ⟨w.heap.size, 0, none⟩) k k] 173)) := by go_grown
theorem mint_calls {w : World} {a0 : Option Addr} {n c : Nat} {xs : List Int} (h : IsInts w a0 n c xs) (h1 : 1 ≤ n) :
    Calls Try.prog 96 #[.slice a0 n c] w fun e w' => ∃ m, e = .returned (.int .i64 m) ∧ (∀ x ∈ xs, m ≤ x) ∧ m ∈ xs ∧ w = w' := by
  have hn := h.bd
  have hl := h.len
  obtain ⟨b, off, x0, rfl, hx0, _, c0⟩ := h.at (show 0 < n by omega)
  rw [Nat.add_zero] at c0
  go_enter Try.func96, Try.ntmps96
  go_wp2
  go_loop [3, 4] (fun v i => ∃ (k : Nat) (m : Int), 1 ≤ k ∧ k ≤ n ∧ i = .int .i64 k ∧ v = .int .i64 m ∧ (∀ x ∈ xs.take k, m ≤ x) ∧ m ∈ xs) (fun _ i => n - (intOf i).toNat)
  case atStart =>
    refine ⟨1, x0, by omega, h1, rfl, rfl, fun x hx => ?_, List.mem_of_getElem? hx0⟩
    cases xs with
    | nil => simp at hx0
    | cons y ys => simp at hx hx0; omega
  case round =>
    obtain ⟨k, m, hk1, hk, rfl, rfl, hall, hmem⟩ := hrel
    have Hall := Lib.hid hall
    clear hall
    by_cases hlt : k < n
    · obtain ⟨b', off', x, hb', hx, _, c1⟩ := h.at hlt
      cases hb'
      clear c0
      go_wp2
      refine ⟨⟨k + 1, if x < m then x else m, by omega, by omega, by go_num, rfl, fun y hy => ?_, ?_⟩, by simp [intOf]; omega⟩
      · rw [List.take_add_one, hx, List.mem_append] at hy
        rcases hy with hy | hy
        · have := Hall.out y hy; split <;> omega
        · simp at hy; subst hy; split <;> omega
      · split
        · exact List.mem_of_getElem? hx
        · exact hmem
    · go_wp2
      go_ret
      have hall := Hall.out
      rw [List.take_of_length_le (by omega)] at hall
      exact ⟨m, rfl, hall, hmem, rfl⟩
/-- slices.Clone of ints: a row of its own. -/
theorem clone_calls {w : World} {a0 : Option Addr} {n c : Nat} {xs : List Int} (h : IsInts w a0 n c xs) (h1 : 1 ≤ n) (hb : n * 8 ≤ 140737488355328) :
    Calls Try.prog 97 #[.slice a0 n c] w fun e w' => ∃ v, e = .returned v ∧ w'.ownsRow w.heap.size 3 1 v n (xs.map (Value.int .i64)) ∧ Below w.heap.size w w' := by
  have hn := h.bd
  have hl := h.len
  obtain ⟨b, off, rfl, hc⟩ := h.reads.2 (by omega)
  obtain ⟨i0, hi, hz0, hz1, hz2⟩ := info_parts infoInt
  have hnil := fun W => Lib.run_eql_slice_nil (P := Try.prog) W 54 3 (some ⟨b, off, none⟩) n c 0 0 Try.underlying54
  have Hc := Lib.hid hc
  have Hi := Lib.hid hi
  have Hz0 := Lib.hid hz0
  have Hz1 := Lib.hid hz1
  have Hz2 := Lib.hid hz2
  have Hl := Lib.hid hl
  have Hb := Lib.hid hb
  clear hc hi hz0 hz1 hz2 hl hb
  go_enter Try.func97, Try.ntmps97
  have hnews : ∀ j u, (xs.map (Value.int .i64))[j]? = some u → (w.alloc (.cells #[] 3)).cell? ((⟨b, off, none⟩ : Addr).add j) = some u := by
    intro j u hu
    have h2 := Hc.out j u hu
    have h3 : (w.alloc (.cells #[] 3)).cell? ⟨b, off + j, none⟩ = some u := keep ((Below.refl _ _).alloc (Nat.le_refl _) _) h2
    unfold Addr.add
    split
    · rename_i h0; subst h0; exact h3
    · exact h3
  have Hn := Lib.hid hnews
  clear hnews
  go_wp2_with (at_builtin; go_loud (refine wpList_append_own _ rfl (.tmp 5) (.tmp 6) 54 rfl w.heap.size 3 i0 (.int .i64 0) 1 8 Try.underlying54 Hi.out Hz0.out Hz1.out Hz2.out rfl (by decide) _ 0 [] rfl (World.ownsRow_made w #[] 0 (Nat.le_refl _) (Nat.zero_le _) rfl) ⟨b, off, none⟩ n c (xs.map (Value.int .i64)) rfl (by simp [Hl.out]) Hn.out (by simp [Value.oneCell']) (by unfold maxLen; omega) (by have := Hb.out; omega) (by simp) ?_); intro v' w' hown hg _)
  go_ret
  have hbel : Below w.heap.size w w' := ((Below.refl _ _).alloc (Nat.le_refl _) _).grown hg (by simp) (fun k hk => by cases hk; exact Nat.le_refl _)
  exact ⟨v', rfl, by simpa using hown, hbel⟩
theorem of_bad {w : World} {a0 : Option Addr} {n c : Nat} {xs : List Int} (h : IsInts w a0 n c xs) (hbad : okClock xs = false) :
    Calls Try.prog 73 #[.slice a0 n c] w fun e w' => e = .returned (.tuple #[.pointer none, .int .i64 1]) ∧ w = w' := by
  have hn := h.bd
  have hl := h.len
  by_cases h1 : n < 1
  · clear hbad
    go_enter Try.func73, Try.ntmps73
    go_wp2
    go_ret2
    exact ⟨rfl, rfl⟩
  by_cases h8 : 8 < n
  · clear hbad
    go_enter Try.func73, Try.ntmps73
    go_wp2
    go_ret2
    exact ⟨rfl, rfl⟩
  have hneg : ∃ x ∈ xs, x < 0 := by
    have h2 : xs.all (fun x => decide (0 ≤ x)) = false := by
      unfold okClock at hbad
      simp only [Bool.and_eq_false_iff, decide_eq_false_iff_not] at hbad
      rcases hbad with (h | h) | h
      · omega
      · omega
      · exact h
    rw [List.all_eq_false] at h2
    obtain ⟨x, hx, h0⟩ := h2
    exact ⟨x, hx, by simpa using h0⟩
  obtain ⟨x, hx, hx0⟩ := hneg
  have hm := mint_calls h (show 1 ≤ n by omega)
  have Hm := Lib.hid hm
  clear hm hbad
  go_enter Try.func73, Try.ntmps73
  go_wp2_with fail
  refine Hm.out.mono ?_
  rintro e w' ⟨m, rfl, hlo, _, rfl⟩
  have hm0 := hlo x hx
  have hm1 : m < 0 := by omega
  clear hlo Hm
  go_wp2
  go_ret2
  exact ⟨rfl, rfl⟩

theorem own_form {w : World} {base : Nat} {e : TypeId} {size : Nat} {v : Value} {n : Nat} {xs : List Value} (h : w.ownsRow base e size v n xs) (h1 : 1 ≤ n) : ∃ g cap, v = .slice (some ⟨g, 0, none⟩) n cap := by
  rcases h.2 with ⟨_, h0⟩ | ⟨g, cap, cur, rfl, _⟩
  · omega
  · exact ⟨g, cap, rfl⟩
theorem clock_of (w w1 : World) (v : Value) (xs : List Int) (hn1 : 1 ≤ xs.length) (h8 : xs.length ≤ 8) (hf : ∀ x ∈ xs, Fit x) (hown : w1.ownsRow w.heap.size 3 1 v xs.length (xs.map (Value.int .i64))) :
    ∃ g, w.heap.size ≤ g ∧ ClockAt (w1.alloc (.cells #[v] 173)) w1.heap.size g xs := by
  rcases hown.2 with ⟨_, h0⟩ | ⟨g, cap, cur, rfl, hb, hg, hnc, hcm, hcs, ht⟩
  · omega
  have hlt : g < w1.heap.size := (Array.getElem?_eq_some_iff.1 hg).1
  refine ⟨g, hb, ⟨⟨cap, cur, (MapKept.heap_alloc w1 _).1, ?_, hnc, hcm, by simpa using hcs, by simpa using ht⟩, hn1, h8, hf⟩⟩
  rw [Below.heap_alloc _ _ _ hlt]
  exact hg

theorem of_good {w : World} {a0 : Option Addr} {n c : Nat} {xs : List Int} (h : IsInts w a0 n c xs) (hok : okClock xs = true) :
    Calls Try.prog 73 #[.slice a0 n c] w fun e w' => ∃ b g, e = .returned (.tuple #[.pointer (some ⟨b, 0, none⟩), .int .i64 0]) ∧ ClockAt w' b g xs ∧ w.heap.size ≤ b ∧ w.heap.size ≤ g ∧ Below w.heap.size w w' := by
  have hn := h.bd
  have hl := h.len
  unfold okClock at hok
  simp only [Bool.and_eq_true, decide_eq_true_eq] at hok
  obtain ⟨⟨h1, h8⟩, hall⟩ := hok
  have hn1 : 1 ≤ n := by omega
  have hn8 : n ≤ 8 := by omega
  have hm := mint_calls h hn1
  have hc := clone_calls h hn1 (by omega)
  have hmk := fun (w1 : World) (v : Value) (hown : w1.ownsRow w.heap.size 3 1 v n (xs.map (Value.int .i64))) => clock_of w w1 v xs h1 h8 h.wf (by rw [hl]; exact hown)
  have Hm := Lib.hid hm
  have Hc := Lib.hid hc
  have Hall := Lib.hid hall
  have Hmk := Lib.hid hmk
  clear hm hc hall hmk hl h1 h8
  go_enter Try.func73, Try.ntmps73
  go_wp2_with fail
  refine Hm.out.mono ?_
  rintro e w' ⟨m, rfl, _, hmem, rfl⟩
  have hm0 : 0 ≤ m := by
    have := List.all_eq_true.1 Hall.out m hmem
    simpa using this
  clear Hm hmem Hall
  go_wp2_with fail
  refine Hc.out.mono ?_
  rintro e w1 ⟨v, rfl, hown, hb⟩
  obtain ⟨g0, cap0, rfl⟩ := own_form hown hn1
  obtain ⟨g, hg, hcl⟩ := Hmk.out w1 _ hown
  have Hcl := Lib.hid hcl
  have Hbl := Lib.hid (hb.alloc hb.size (.cells #[.slice (some ⟨g0, 0, none⟩) n cap0] 173))
  have hs := hb.size
  clear Hc Hmk hown hcl hb
  go_wp2
  go_ret2
  exact ⟨_, g, rfl, Hcl.out, hs, hg, Hbl.out⟩
end Go.Proofs.Ytadngicebbnnlaa
