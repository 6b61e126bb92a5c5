/-
  joined: the greater counts of two clocks, as arrays; steps: does synchronisation go from one event to another at once.
-/
import Derived.Test.YtadngicebbnnlaaClock5
import Derived.Test.YtadngicebbnnlaaReg3
import Derived.Laws.CopyOwn
set_option linter.unusedSimpArgs false
set_option linter.unusedVariables false
namespace Go.Proofs.Ytadngicebbnnlaa
open Go.ChangeShapes Go.WideShapes Go.ChangeAt Go.RowKit Go.Deep

def vecC (x : List Int) : Array Value := #[.int .i64 (x.getD 0 0), .int .i64 (x.getD 1 0), .int .i64 (x.getD 2 0), .int .i64 (x.getD 3 0), .int .i64 (x.getD 4 0), .int .i64 (x.getD 5 0), .int .i64 (x.getD 6 0), .int .i64 (x.getD 7 0)]
def vecV (x : List Int) : Value := .agg (vecC x)
/-- A clock of eight. -/
structure CV (x : List Int) : Prop where
  len : x.length = 8
  pos : ∀ a ∈ x, 0 ≤ a
  fit : ∀ a ∈ x, Fit a
theorem len8 {x : List Int} (h : x.length = 8) : ∃ a0 a1 a2 a3 a4 a5 a6 a7, x = [a0, a1, a2, a3, a4, a5, a6, a7] := by
  match x, h with
  | [a0, a1, a2, a3, a4, a5, a6, a7], _ => exact ⟨a0, a1, a2, a3, a4, a5, a6, a7, rfl⟩
theorem CV.ok {x : List Int} (h : CV x) : okClock x = true := by
  unfold okClock
  rw [h.len]
  simp only [Bool.and_eq_true, decide_eq_true_eq, List.all_eq_true]
  exact ⟨⟨by omega, by omega⟩, fun a ha => h.pos a ha⟩
theorem CV.zip {x y : List Int} (h : CV x) (h' : CV y) : CV (List.zipWith max x y) := by
  have key : ∀ a ∈ List.zipWith max x y, ∃ b ∈ x, ∃ c ∈ y, a = max b c := by
    intro a ha
    obtain ⟨i, hi, rfl⟩ := List.getElem_of_mem ha
    rw [List.length_zipWith] at hi
    exact ⟨x[i], List.getElem_mem _, y[i], List.getElem_mem _, by simp⟩
  refine ⟨by rw [List.length_zipWith, h.len, h'.len]; rfl, fun a ha => ?_, fun a ha => ?_⟩
  · obtain ⟨b, hb, c, hc, rfl⟩ := key a ha
    have := h.pos b hb
    omega
  · obtain ⟨b, hb, c, hc, rfl⟩ := key a ha
    exact max_fit (h.fit b hb) (h'.fit c hc)
theorem ints_vec {w : World} {b o : Nat} {x : List Int} (h : CV x) (hc : ∀ j, j < 8 → w.cell? ⟨b, o + j, none⟩ = some (.int .i64 (x.getD j 0))) : IsInts w (some ⟨b, o, none⟩) 8 8 x := by
  refine ⟨⟨by rw [List.length_map, h.len], fun _ => ⟨b, o, rfl, fun j u hu => ?_⟩⟩, h.len, Nat.le_refl _, by unfold maxLen; omega, h.fit⟩
  rw [List.getElem?_map] at hu
  cases hx : x[j]? with
  | none => rw [hx] at hu; cases hu
  | some a =>
    rw [hx] at hu
    cases hu
    have hj := (List.getElem?_eq_some_iff.1 hx).1
    rw [h.len] at hj
    rw [hc j hj]
    simp [List.getD, hx]

theorem set8i {w : World} {b : Nat} {T : TypeId} (h : w.heap[b]? = some (.cells #[.int .i64 0, .int .i64 0, .int .i64 0, .int .i64 0, .int .i64 0, .int .i64 0, .int .i64 0, .int .i64 0] T (0, 0))) (v0 v1 v2 v3 v4 v5 v6 v7 : Value) :
    ((((((((w.setCell ⟨b, 0, none⟩ v0).setCell ⟨b, 1, none⟩ v1).setCell ⟨b, 2, none⟩ v2).setCell ⟨b, 3, none⟩ v3).setCell ⟨b, 4, none⟩ v4).setCell ⟨b, 5, none⟩ v5).setCell ⟨b, 6, none⟩ v6).setCell ⟨b, 7, none⟩ v7).heap[b]? =
      some (.cells #[v0, v1, v2, v3, v4, v5, v6, v7] T (0, 0)) := by
  simp [World.setCell, Array.getElem?_modify, h]
set_option maxRecDepth 20000 in
set_option maxHeartbeats 4000000 in
theorem joined_calls (w : World) {x y : List Int} (hx : CV x) (hy : CV y) :
    Calls Try.prog 42 #[vecV x, vecV y] w fun e w' => e = .returned (vecV (List.zipWith max x y)) ∧ Below w.heap.size w w' := by
  have hz := hx.zip hy
  have hox := hx.ok
  have hoy := hy.ok
  have hj : joinS x y = (List.zipWith max x y, 0) := by unfold joinS; rw [if_pos (by rw [hx.len, hy.len])]
  generalize hzz : List.zipWith max x y = z at *
  unfold vecV
  have hcx : ∀ W : World, IsInts (W.alloc (.cells (vecC x) 80)) (some ⟨W.heap.size, 0, none⟩) 8 8 x := fun W => ints_vec hx (fun j hj => by
    rw [Nat.zero_add, cell_of_block (MapKept.heap_alloc W _).1]
    obtain rfl | rfl | rfl | rfl | rfl | rfl | rfl | rfl : j = 0 ∨ j = 1 ∨ j = 2 ∨ j = 3 ∨ j = 4 ∨ j = 5 ∨ j = 6 ∨ j = 7 := by omega
    all_goals rfl)
  have hcy : ∀ W : World, IsInts (W.alloc (.cells (vecC y) 80)) (some ⟨W.heap.size, 0, none⟩) 8 8 y := fun W => ints_vec hy (fun j hj => by
    rw [Nat.zero_add, cell_of_block (MapKept.heap_alloc W _).1]
    obtain rfl | rfl | rfl | rfl | rfl | rfl | rfl | rfl : j = 0 ∨ j = 1 ∨ j = 2 ∨ j = 3 ∨ j = 4 ∨ j = 5 ∨ j = 6 ∨ j = 7 := by omega
    all_goals rfl)
  go_enter Try.func42, Try.ntmps42
  go_wp2_with fail
  obtain ⟨wa, hwa⟩ : ∃ wa, wa = w.alloc (.cells (vecC x) 80) := ⟨_, rfl⟩
  have ia := hcx w
  have z0 : wa.heap.size = w.heap.size + 1 := by rw [hwa]; simp
  have bA : Below w.heap.size w wa := by rw [hwa]; exact (Below.refl _ w).alloc (Nat.le_refl _) _
  rw [← hwa] at ia ⊢
  obtain ⟨wb, hwb⟩ : ∃ wb, wb = wa.alloc (.cells (vecC y) 80) := ⟨_, rfl⟩
  have ib := hcy wa
  have z1 : wb.heap.size = w.heap.size + 1 + 1 := by rw [hwb]; simp [z0]
  have bB : Below wa.heap.size wa wb := by rw [hwb]; exact (Below.refl _ wa).alloc (Nat.le_refl _) _
  rw [← hwb] at ib ⊢
  obtain ⟨wc, hwc⟩ : ∃ wc, wc = wb.alloc (.cells #[.int .i64 0, .int .i64 0, .int .i64 0, .int .i64 0, .int .i64 0, .int .i64 0, .int .i64 0, .int .i64 0] 80) := ⟨_, rfl⟩
  have fo := (MapKept.heap_alloc wb (.cells #[.int .i64 0, .int .i64 0, .int .i64 0, .int .i64 0, .int .i64 0, .int .i64 0, .int .i64 0, .int .i64 0] 80)).1
  have z2 : wc.heap.size = w.heap.size + 1 + 1 + 1 := by rw [hwc]; simp [z1]
  have bC : Below wb.heap.size wb wc := by rw [hwc]; exact (Below.refl _ wb).alloc (Nat.le_refl _) _
  rw [← hwc] at fo ⊢
  rw [z0] at ib
  rw [z1] at fo
  have ia := (ia.below bB).below bC
  have ib := ib.below bC
  have hB := bA.trans ((bB.trans (bC.mono (by omega))).mono (by omega))
  clear bA bB bC hwa hwb hwc hcx hcy
  refine (of_good ia hox).mono ?_
  rintro e w1 ⟨p1, g1, rfl, C1, q1, q1', hb⟩
  have hB1 := hB.trans (hb.mono (by omega))
  have ib := ib.below hb
  have fo := (hb.block (w.heap.size + 1 + 1) (by omega)).trans fo
  have s1 := hb.size
  clear hb
  go_wp2_with fail
  refine (of_good ib hoy).mono ?_
  rintro e w2 ⟨p2, g2, rfl, C2, q2, q2', hb⟩
  have hB2 := hB1.trans (hb.mono hB1.size)
  have l1 := C1.lt
  have C1 := C1.below hb
  have fo := (hb.block (w.heap.size + 1 + 1) (by omega)).trans fo
  have s2 := hb.size
  clear hb
  go_wp2_with fail
  refine (join_calls C1 C2 (by omega) (by omega)).mono ?_
  rintro e w3 ⟨rfl, C3, hm⟩
  have hB3 := below_of_mod hB2 hm hB2.size (by omega)
  have fo := (hm.block (w.heap.size + 1 + 1) (by omega) (by simp; omega)).trans fo
  rw [hj] at C3
  have s3 := hm.size
  clear hm C1 C2
  go_wp2_with fail
  obtain ⟨w4, hw4⟩ : ∃ w4, w4 = w3.alloc (.cells #[.int .i64 0, .int .i64 0, .int .i64 0, .int .i64 0, .int .i64 0, .int .i64 0, .int .i64 0, .int .i64 0] 80) := ⟨_, rfl⟩
  have fn := (MapKept.heap_alloc w3 (.cells #[.int .i64 0, .int .i64 0, .int .i64 0, .int .i64 0, .int .i64 0, .int .i64 0, .int .i64 0, .int .i64 0] 80)).1
  have z4 : w4.heap.size = w3.heap.size + 1 := by rw [hw4]; simp
  have b4 : Below w3.heap.size w3 w4 := by rw [hw4]; exact (Below.refl _ w3).alloc (Nat.le_refl _) _
  rw [← hw4] at fn ⊢
  have C4 := C3.below b4
  have hB4 := hB3.trans (b4.mono hB3.size)
  have fo := (b4.block (w.heap.size + 1 + 1) (by omega)).trans fo
  clear b4 hw4 C3
  refine wp_plan2_draw 3 [0, 1] [2] (fun _ => True) mixed (by kernel_rfl) noPanicOn trivial ?_
  simp only [picks, List.map_cons, List.map_nil, List.getD_cons_zero, List.getD_cons_succ]
  try simp only [Act.put, List.setIfInBounds_toArray, List.set_cons_zero, List.set_cons_succ]
  repeat ((apply ReadRun.go rfl); (intro w1 hS; go_simp; first | done | exact rfl); (simp only [Act.put, List.setIfInBounds_toArray, List.set_cons_zero, List.set_cons_succ]))
  refine ReadRun.done ?_
  refine MakeRun.go rfl (fun K hK => ?_)
  have hdr : Below w4.heap.size w4 w4.drew := (Below.refl _ w4).drew
  go_wp2_with fail
  refine (list_calls (C4.below hdr)).mono ?_
  rintro e w5 ⟨v, rfl, ho, hb⟩
  obtain ⟨gl, cl, rfl, I5, hgl, _⟩ := ints_of_own ho (by rw [hz.len]; omega) hz.fit
  have hb5 := hdr.trans (hb.mono (Nat.le_refl _))
  have fn5 := (hb5.block w3.heap.size (by omega)).trans fn
  have fo5 := (hb5.block (w.heap.size + 1 + 1) (by omega)).trans fo
  have hB5 := hB4.trans (hb5.mono hB4.size)
  have s5 := hb5.size
  clear hb hb5 fn fo hB4 C4
  (try go_wp2_with fail)
  refine ⟨trivial, ?_⟩
  try simp only [Act.put, List.setIfInBounds_toArray, List.set_cons_zero, List.set_cons_succ]
  refine MakeRun.done ?_
  simp only [List.drop_succ_cons, List.drop_zero]
  have hrow : (((#[.int .i64 0, .int .i64 0, .int .i64 0, .int .i64 0, .int .i64 0, .int .i64 0, .int .i64 0, .int .i64 0] : Array Value).toList.take 0 ++ (z.map (Value.int .i64) ++ (#[.int .i64 0, .int .i64 0, .int .i64 0, .int .i64 0, .int .i64 0, .int .i64 0, .int .i64 0, .int .i64 0] : Array Value).toList.drop (0 + (z.map (Value.int .i64)).length))).toArray) = vecC z := by
    obtain ⟨a0, a1, a2, a3, a4, a5, a6, a7, rfl⟩ := len8 hz.len
    rfl
  refine wpList_copy_own rfl (.tmp 23) (.tmp 25) 54 54 rfl 3 Try.underlying54 (by kernel_rfl) w3.heap.size 0 8 8 ⟨gl, 0, none⟩ z.length cl rfl rfl #[.int .i64 0, .int .i64 0, .int .i64 0, .int .i64 0, .int .i64 0, .int .i64 0, .int .i64 0, .int .i64 0] 80 fn5 (z.map (Value.int .i64)) (by simp [hz.len]) (fun j u hu => ?_) (by simp [hz.len]) (by simp [Value.oneCell']) ?_
  · obtain ⟨b', off', hba, hcc⟩ := I5.reads.2 (by rw [hz.len]; omega)
    cases hba
    have := hcc j u hu
    rw [Nat.zero_add] at this
    unfold Addr.add
    split
    · rename_i h0; subst h0; exact this
    · simpa using this
  rw [hrow]
  obtain ⟨w6, hw6⟩ : ∃ w6, w6 = w5.setRow w3.heap.size (vecC z) := ⟨_, rfl⟩
  have hw6' : w6.heap[w3.heap.size]? = some (.cells (vecC z) 80 (0, 0)) := by rw [hw6]; exact setRow_heap w5 _ _ _ _ _ fn5
  have hB6 : Below w.heap.size w w6 := by rw [hw6]; exact below_setRow hB5 (by omega) _
  have fo6 : w6.heap[w.heap.size + 1 + 1]? = some (.cells #[.int .i64 0, .int .i64 0, .int .i64 0, .int .i64 0, .int .i64 0, .int .i64 0, .int .i64 0, .int .i64 0] 80 (0, 0)) := by rw [hw6, setRow_other _ _ _ _ (by omega)]; exact fo5
  rw [← hw6]
  have r0 : w6.cell? ⟨w3.heap.size, 0, none⟩ = some (.int .i64 (z.getD 0 0)) := cell_of_block hw6'
  have r1 : w6.cell? ⟨w3.heap.size, 1, none⟩ = some (.int .i64 (z.getD 1 0)) := cell_of_block hw6'
  have r2 : w6.cell? ⟨w3.heap.size, 2, none⟩ = some (.int .i64 (z.getD 2 0)) := cell_of_block hw6'
  have r3 : w6.cell? ⟨w3.heap.size, 3, none⟩ = some (.int .i64 (z.getD 3 0)) := cell_of_block hw6'
  have r4 : w6.cell? ⟨w3.heap.size, 4, none⟩ = some (.int .i64 (z.getD 4 0)) := cell_of_block hw6'
  have r5 : w6.cell? ⟨w3.heap.size, 5, none⟩ = some (.int .i64 (z.getD 5 0)) := cell_of_block hw6'
  have r6 : w6.cell? ⟨w3.heap.size, 6, none⟩ = some (.int .i64 (z.getD 6 0)) := cell_of_block hw6'
  have r7 : w6.cell? ⟨w3.heap.size, 7, none⟩ = some (.int .i64 (z.getD 7 0)) := cell_of_block hw6'
  have o0 : w6.cell? ⟨w.heap.size + 1 + 1, 0, none⟩ = some (.int .i64 0) := cell_of_block fo6
  have o1 : w6.cell? ⟨w.heap.size + 1 + 1, 1, none⟩ = some (.int .i64 0) := cell_of_block fo6
  have o2 : w6.cell? ⟨w.heap.size + 1 + 1, 2, none⟩ = some (.int .i64 0) := cell_of_block fo6
  have o3 : w6.cell? ⟨w.heap.size + 1 + 1, 3, none⟩ = some (.int .i64 0) := cell_of_block fo6
  have o4 : w6.cell? ⟨w.heap.size + 1 + 1, 4, none⟩ = some (.int .i64 0) := cell_of_block fo6
  have o5 : w6.cell? ⟨w.heap.size + 1 + 1, 5, none⟩ = some (.int .i64 0) := cell_of_block fo6
  have o6 : w6.cell? ⟨w.heap.size + 1 + 1, 6, none⟩ = some (.int .i64 0) := cell_of_block fo6
  have o7 : w6.cell? ⟨w.heap.size + 1 + 1, 7, none⟩ = some (.int .i64 0) := cell_of_block fo6
  have hfz : ∀ o, w6.frozen? ⟨w.heap.size + 1 + 1, o, none⟩ = false := fun o => free_of_block fo6
  have Hs := Lib.hid (set8i fo6)
  clear hw6 hw6' fn5 fo5 fo6 I5 ho
  have HB6 := Lib.hid hB6
  clear hB6
  go_wp2
  (try simp only [Exit.inBlock, Exit.then])
  refine bodyPost_ret (results_cell_row rfl _ _ (w.heap.size + 1 + 1) 80 _ (0, 0) _ rfl (Hs.out _ _ _ _ _ _ _ _) Try.underlying80 rfl (by kernel_rfl)) rfl ?_
  refine ⟨rfl, ?_⟩
  have := HB6.out
  clear HB6
  go_grown
end Go.Proofs.Ytadngicebbnnlaa
