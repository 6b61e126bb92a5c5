/-
  Races, plain law: beside one another; a race turned round; the number of races under an exchange.
-/
import Derived.Test.YtadngicebbnnlaaRaceB
set_option linter.unusedSimpArgs false
set_option linter.unusedVariables false
namespace Go.Proofs.Ytadngicebbnnlaa
open Go.ChangeShapes Go.WideShapes Go.ChangeAt Go.RowKit Go.Deep

theorem racesAt_mem {l : List Ev} {m k : Nat} : k ∈ racesAt l m ↔ raceP l m k = true := by
  unfold racesAt racesP raceP
  rw [List.mem_filter, List.mem_range, Bool.and_eq_true, decide_eq_true_iff]
theorem beside_cand {l : List Ev} {i : Nat} {t ak ao : Int} : candB l (i + 1) t ak ao i = ((thE l i != t && dependsB (l.getD i ev00).t (l.getD i ev00).k (l.getD i ev00).o t ak ao) && canB (takes log0 (l.take i)) t ak ao) := by
  unfold candB
  rw [freeP_start, restP_start]
  rfl
theorem beside_race {l : List Ev} {i : Nat} : i ∈ racesAt l (i + 1) ↔ candB l (i + 1) (l.getD (i + 1) ev00).t (l.getD (i + 1) ev00).k (l.getD (i + 1) ev00).o i = true := by
  unfold racesAt racesP
  rw [List.mem_filter, List.mem_range, maxP_iff]
  exact ⟨fun h => h.2.1, fun h => ⟨by omega, h, fun j h1 h2 => by omega⟩⟩

/-- The places that Reverse tells. -/
noncomputable def turnP (l : List Ev) (k i : Nat) : List Nat := List.range k ++ restP (rD l) k i ++ [i]
theorem turnP_len (l : List Ev) (k i : Nat) : (turnP l k i).length = k + (restP (rD l) k i).length + 1 := by unfold turnP; simp; omega
theorem evsAt_range {l : List Ev} : ∀ {k : Nat}, k ≤ l.length → evsAt l (List.range k) = l.take k
  | 0, _ => rfl
  | k + 1, h => by
    have hx : l[k]? = some l[k] := List.getElem?_eq_getElem (by omega)
    rw [List.range_succ, evsAt_app, evsAt_range (by omega), take_one hx]
    unfold evsAt
    simp only [List.map_cons, List.map_nil, getD_of hx]
theorem turn_evs {l : List Ev} {k i : Nat} (hk : k ≤ l.length) : evsAt l (turnP l k i) = l.take k ++ evsAt l (restP (rD l) k i) ++ [l.getD i ev00] := by
  unfold turnP
  rw [evsAt_app, evsAt_app, evsAt_range hk]
  rfl
theorem cand_of {l : List Ev} {i k : Nat} (h : k ∈ racesAt l i) : k < i ∧ thE l k ≠ (l.getD i ev00).t ∧ canB (takes log0 (l.take k ++ evsAt l (restP (rD l) k i))) (l.getD i ev00).t (l.getD i ev00).k (l.getD i ev00).o = true := by
  have h1 := racesAt_mem.1 h
  obtain ⟨h2, h3, _⟩ := raceP_iff.1 h1
  unfold candB at h3
  simp only [Bool.and_eq_true] at h3
  refine ⟨h2, by simpa using h3.1.1, ?_⟩
  rw [takes_apps]; exact h3.2.2
theorem turn_of {l : List Ev} {S : LogS} (hR : ofS l = (S, 0, 0)) {i k : Nat} (hk : k < i) (hi : i ≤ l.length) : ofS (l.take k ++ evsAt l (restP (rD l) k i)) = (takes log0 (l.take k ++ evsAt l (restP (rD l) k i)), 0, 0) :=
  ofS_okL (rest_ok (okL_of hR) hk hi)
theorem turnP_lt {l : List Ev} {k i j : Nat} (hk : k < i) (h : j ∈ turnP l k i) : j ≤ i := by
  unfold turnP at h
  simp only [List.mem_append, List.mem_range, List.mem_singleton] at h
  rcases h with (h | h) | h
  · omega
  · have := (restP_mem.1 h).1; omega
  · omega
theorem turnP_ne {l : List Ev} {k i j : Nat} (hk : k < i) (h : j ∈ turnP l k i) : j ≠ k := by
  unfold turnP at h
  simp only [List.mem_append, List.mem_range, List.mem_singleton] at h
  rcases h with (h | h) | h
  · omega
  · have := (restP_mem.1 h).2.1; omega
  · omega
theorem turnP_rises {l : List Ev} {k i : Nat} (hk : k < i) : (turnP l k i).Pairwise (· < ·) := by
  unfold turnP
  rw [List.pairwise_append, List.pairwise_append]
  refine ⟨⟨List.pairwise_lt_range, ?_, ?_⟩, List.pairwise_singleton _ _, ?_⟩
  · unfold restP; exact List.pairwise_lt_range.filter _
  · intro a ha b hb
    have := List.mem_range.1 ha
    have := (restP_mem.1 hb).2.1
    omega
  · intro a ha b hb
    have hb := List.mem_singleton.1 hb
    subst hb
    rcases List.mem_append.1 ha with ha | ha
    · have := List.mem_range.1 ha; omega
    · exact (restP_mem.1 ha).1
theorem turnP_next {l : List Ev} {k i m a b : Nat} (hk : k < i) (ha : (turnP l k i)[m]? = some a) (hb : (turnP l k i)[m + 1]? = some b) : a < b := by
  obtain ⟨h1, rfl⟩ := List.getElem?_eq_some_iff.1 ha
  obtain ⟨h2, rfl⟩ := List.getElem?_eq_some_iff.1 hb
  exact List.pairwise_iff_getElem.1 (turnP_rises hk) m (m + 1) h1 h2 (by omega)
theorem turnP_last {l : List Ev} {k i : Nat} : (turnP l k i)[(turnP l k i).length - 1]? = some i := by
  rw [turnP_len]
  unfold turnP
  rw [List.getElem?_append_right (by simp)]
  simp

theorem nodup_len {α : Type} [DecidableEq α] : ∀ {xs ys : List α}, xs.Nodup → (∀ x ∈ xs, x ∈ ys) → xs.length ≤ ys.length
  | [], _, _, _ => Nat.zero_le _
  | x :: xs, ys, h, hs => by
    have h1 := List.nodup_cons.1 h
    have hx : x ∈ ys := hs x (by simp)
    have h2 := nodup_len (xs := xs) (ys := ys.erase x) h1.2 (fun y hy => (List.mem_erase_of_ne (fun e => h1.1 (by rw [← e]; exact hy))).2 (hs y (by simp [hy])))
    rw [List.length_erase_of_mem hx] at h2
    have : 1 ≤ ys.length := List.length_pos_of_mem hx
    rw [List.length_cons]; omega
/-- The races of the events below N, in their order. -/
noncomputable def allN (l : List Ev) (N : Nat) : List (Nat × Nat) := (List.range N).flatMap fun i => (racesAt l i).map fun k => (k, i)
def natsP (xs : List (Nat × Nat)) : List (Int × Int) := xs.map fun p => ((p.1 : Int), (p.2 : Int))
theorem natsP_app (xs ys : List (Nat × Nat)) : natsP (xs ++ ys) = natsP xs ++ natsP ys := by simp [natsP]
theorem natsP_len (xs : List (Nat × Nat)) : (natsP xs).length = xs.length := by simp [natsP]
theorem natsP_get {xs : List (Nat × Nat)} {i : Nat} {p : Nat × Nat} (h : xs[i]? = some p) : (natsP xs)[i]? = some ((p.1 : Int), (p.2 : Int)) := by unfold natsP; rw [List.getElem?_map, h]; rfl
theorem allN_succ (l : List Ev) (N : Nat) : allN l (N + 1) = allN l N ++ (racesAt l N).map fun k => (k, N) := by
  unfold allN
  rw [List.range_succ, List.flatMap_append]
  simp
theorem racesAt_len (l : List Ev) (k : Nat) : (racesAt l k).length ≤ k := by
  unfold racesAt racesP
  have := List.length_filter_le (maxP (rD l) (candB l k (l.getD k ev00).t (l.getD k ev00).k (l.getD k ev00).o) k) (List.range k)
  rw [List.length_range] at this
  exact this
theorem allN_len (l : List Ev) : ∀ N, N ≤ 100 → (allN l N).length ≤ N * 100
  | 0, _ => by simp [allN]
  | N + 1, h => by
    have h1 := allN_len l N (by omega)
    have h2 := racesAt_len l N
    rw [allN_succ, List.length_append, List.length_map]
    omega
theorem allN_mem {l : List Ev} {N : Nat} {p : Nat × Nat} : p ∈ allN l N ↔ p.2 < N ∧ p.1 ∈ racesAt l p.2 := by
  unfold allN
  rw [List.mem_flatMap]
  constructor
  · rintro ⟨i, hi, hp⟩
    obtain ⟨k, hk, rfl⟩ := List.mem_map.1 hp
    exact ⟨List.mem_range.1 hi, hk⟩
  · rintro ⟨h1, h2⟩
    exact ⟨p.2, List.mem_range.2 h1, List.mem_map.2 ⟨p.1, h2, rfl⟩⟩
/-- What stands when m of the races of the event at j have been told. -/
noncomputable def partN (l : List Ev) (j m : Nat) : List (Nat × Nat) := allN l j ++ ((racesAt l j).take m).map fun k => (k, j)
theorem partN_zero (l : List Ev) (j : Nat) : partN l j 0 = allN l j := by unfold partN; simp
theorem partN_end (l : List Ev) (j : Nat) : partN l j (racesAt l j).length = allN l (j + 1) := by unfold partN; rw [List.take_length, allN_succ]
theorem partN_succ {l : List Ev} {j m q : Nat} (h : (racesAt l j)[m]? = some q) : partN l j (m + 1) = partN l j m ++ [(q, j)] := by
  unfold partN
  rw [List.take_add_one, h, List.map_append, ← List.append_assoc]
  rfl
theorem partN_len (l : List Ev) {j m : Nat} (hj : j ≤ 100) : (partN l j m).length ≤ 10100 := by
  have h1 := allN_len l j hj
  have h2 := racesAt_len l j
  unfold partN
  rw [List.length_append, List.length_map, List.length_take]
  omega
noncomputable def allRes (n : Nat) (l : List Ev) : List (Nat × Nat) × Int := if wrongS n l ≠ 0 then ([], wrongS n l) else (allN l n, 0)
theorem allRes_bad {n : Nat} {l : List Ev} (h : wrongS n l ≠ 0) : allRes n l = ([], wrongS n l) := if_pos h
theorem allRes_good {n : Nat} {l : List Ev} (h : wrongS n l = 0) : allRes n l = (allN l n, 0) := by unfold allRes; rw [if_neg (by rw [h]; simp)]
/-- What both All hand back. -/
def AllPost (w : World) (r : List (Nat × Nat) × Int) (e : Ending) (w' : World) : Prop := ∃ v, e = .returned (.tuple #[v, .int .i64 r.2]) ∧ SeesP w' v (natsP r.1) ∧ Below w.heap.size w w'
theorem AllPost.none {w w' : World} {z : Int} (hb : Below w.heap.size w w') : AllPost w ([], z) (.returned (.tuple #[.slice none 0 0, .int .i64 z])) w' :=
  ⟨_, rfl, ⟨Option.none, 0, rfl, Nat.le_refl _, Nat.zero_le _, fun i p hp => by simp [natsP] at hp⟩, hb⟩


/-- Where a pair goes, when the events at i and i + 1 are exchanged. -/
def swP (i : Nat) (p : Nat × Nat) : Nat × Nat := (sw i p.1, sw i p.2)
theorem swP_swP (i : Nat) (p : Nat × Nat) : swP i (swP i p) = p := by unfold swP; simp only [sw_sw]
theorem allN_nodup (l : List Ev) : ∀ N, (allN l N).Nodup
  | 0 => by simp [allN]
  | N + 1 => by
    rw [allN_succ]
    refine List.nodup_append.2 ⟨allN_nodup l N, ?_, ?_⟩
    · have h : (racesAt l N).Nodup := by unfold racesAt racesP; exact List.nodup_range.filter _
      exact List.Pairwise.map _ (fun a b hab e => hab (by simpa using e)) h
    · rintro a ha b hb rfl
      obtain ⟨k, _, rfl⟩ := List.mem_map.1 hb
      have := (allN_mem.1 ha).1
      simp at this
theorem swap_mem {l l' : List Ev} {i n : Nat} (h : Swp l l' i) (hn : n = l.length) {p : Nat × Nat} (hp : p ∈ allN l n) : swP i p ∈ allN l' n := by
  have h1 := allN_mem.1 hp
  refine allN_mem.2 ⟨?_, ?_⟩
  · have h2 := h.lt
    have h3 := h1.1
    show sw i p.2 < n
    unfold sw
    split
    · omega
    · split <;> omega
  · rw [racesAt_mem]
    show raceP l' (sw i p.2) (sw i p.1) = true
    rw [h.race (by omega)]
    exact racesAt_mem.1 h1.2
theorem swap_le {l l' : List Ev} {i n : Nat} (h : Swp l l' i) (hn : n = l.length) : (allN l n).length ≤ (allN l' n).length := by
  have h1 : ((allN l n).map (swP i)).Nodup := List.Pairwise.map _ (fun a b hab e => hab (by rw [← swP_swP i a, e, swP_swP])) (allN_nodup l n)
  have h2 := nodup_len (xs := (allN l n).map (swP i)) (ys := allN l' n) h1 (fun x hx => by
    obtain ⟨p, hp, rfl⟩ := List.mem_map.1 hx
    exact swap_mem h hn hp)
  rw [List.length_map] at h2
  exact h2
theorem swap_len2 {l l' : List Ev} {i n : Nat} (h : Swp l l' i) (hn : n = l.length) : (allN l' n).length = (allN l n).length :=
  Nat.le_antisymm (swap_le h.symm (by rw [h.len]; exact hn)) (swap_le h hn)
theorem OwnL.nat_at {w : World} {B n c : Nat} {a : Option Addr} {R : List Nat} (h : OwnL eltI w B (.slice a n c) (natsI R)) {i q : Nat} (hq : R[i]? = some q) : ∃ g, a = some ⟨g, 0, none⟩ ∧ w.cell? ⟨g, i, none⟩ = some (.int .i64 (q : Int)) := by
  obtain ⟨a', c', he, _, hat⟩ := h.int_at
  cases he
  obtain ⟨g, h1, _, h2⟩ := hat i q (natsI_get hq)
  exact ⟨g, h1, h2⟩
end Go.Proofs.Ytadngicebbnnlaa
