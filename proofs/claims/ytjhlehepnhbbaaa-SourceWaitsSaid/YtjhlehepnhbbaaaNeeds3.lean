/-
  SourceNeeds: what is to be tried for the races of the last event is the document's.
-/
import Derived.Test.YtjhlehepnhbbaaaNeeds2
set_option linter.unusedSimpArgs false
set_option linter.unusedVariables false
namespace Go.Proofs.Ytjhlehepnhbbaaa
open Go.ChangeShapes Go.WideShapes Go.ChangeAt Go.RowKit Go.Deep

set_option maxHeartbeats 2000000 in
theorem sets_nil (w : World) : Calls Try.prog 37 #[.slice none 0 0, .slice none 0 0] w fun e w' => e = .returned (.bool true) ∧ Below w.heap.size w w' := by
  go_enter Try.func37, Try.ntmps37
  go_wp2_with fail
  go_loopw [5] (fun x wr => x = .int .i64 0 ∧ Hid (Below w.heap.size w wr)) (fun _ _ => 0)
  case atStart => exact ⟨rfl, Below.refl ..⟩
  case round =>
    obtain ⟨rfl, HB⟩ := hrel
    go_wp2
    go_ret
    exact ⟨rfl, HB.out⟩
set_option maxRecDepth 20000 in
set_option maxHeartbeats 4000000 in
theorem sets_same {w : World} {g1 g2 n : Nat} {f : Nat → Nat} (h1 : w.heap[g1]? = some (.cells (uintsA n f) 69 (0, 0))) (h2 : w.heap[g2]? = some (.cells (uintsA n f) 68 (0, 0))) (hn : n ≤ 1000) :
    Calls Try.prog 37 #[.slice (some ⟨g1, 0, none⟩) n n, .slice (some ⟨g2, 0, none⟩) n n] w fun e w' => e = .returned (.bool true) ∧ Below w.heap.size w w' := by
  have H1 : Hid (∀ k, k < n → w.cell? ⟨g1, k, none⟩ = some (.int .u64 ((f k : Nat) : Int))) := fun k hk => by rw [cell_of_block h1]; exact uintsA_get hk
  have H2 : Hid (∀ k, k < n → w.cell? ⟨g2, k, none⟩ = some (.int .u64 ((f k : Nat) : Int))) := fun k hk => by rw [cell_of_block h2]; exact uintsA_get hk
  clear h1 h2
  go_enter Try.func37, Try.ntmps37
  go_wp2_with fail
  go_loopw [5] (fun x wr => ∃ k : Nat, k ≤ n ∧ x = .int .i64 k ∧ Hid (Below w.heap.size w wr)) (fun x _ => n - (intOf x).toNat)
  case atStart => exact ⟨0, Nat.zero_le _, by go_num, Below.refl ..⟩
  case round =>
    obtain ⟨k, hk, rfl, HB⟩ := hrel
    by_cases hkn : k < n
    · have c0 := keep HB.out (H1.out k hkn)
      have d0 := keep HB.out (H2.out k hkn)
      revert c0 d0
      generalize ((f k : Nat) : Int) = z
      intro c0 d0
      go_wp2_with fail
      refine wp_ext_draw 9 mixed (by kernel_rfl) ?_
      simp only [List.take_succ_cons, List.take_zero, List.drop_succ_cons, List.drop_zero]
      repeat ((first | ((apply TextRun.go rfl rfl rfl); (focus (intro w1 hS K hK; have hc := bcell hS; have hs := blt hS; have c0 := keep hS c0; have d0 := keep hS d0; go_wp2_with (fail); first | done | exact hS | exact hS.trans (hb.mono hS.size)))) | (refine TextRun.skip rfl ?_) | ((refine TextRun.wantedT rfl rfl rfl ?_); (apply Exists.intro); (apply And.intro); (focus (intro w1 hS K hK; have hc := bcell hS; have hs := blt hS; have c0 := keep hS c0; have d0 := keep hS d0; go_wp2_with (fail); first | done | exact hS | exact hS.trans (hb.mono hS.size))))); (simp only [Act.put, List.setIfInBounds_toArray, List.set_cons_zero, List.set_cons_succ]))
      refine TextRun.done ?_
      intro w2 hb
      have HB2 := Lib.hid (HB.out.trans (hb.mono HB.out.size))
      clear hb c0 d0
      go_wp2
      go_roundw
      case rel => exact ⟨k + 1, hkn, by go_num, HB2.out⟩
      case measure => exact meas hkn
    · have hkn : n = k := Nat.le_antisymm (Nat.le_of_not_lt hkn) hk
      subst hkn
      go_wp2
      go_ret
      exact ⟨rfl, HB.out⟩
theorem ndOk_le {n : Nat} {l : List Ev} (h : ndOk n l = true) : n ≤ 100 := by
  unfold ndOk at h
  rw [Bool.and_eq_true] at h
  exact wrong_le16 (by simpa using h.1)
theorem heap_below {w w' : World} {g : Nat} {o : Obj} (h : w.heap[g]? = some o) (hb : Below w.heap.size w w') : w'.heap[g]? = some o := (hb.block g (Array.getElem?_eq_some_iff.1 h).1).trans h

set_option maxRecDepth 20000 in
set_option maxHeartbeats 4000000 in
theorem sourceNeeds_law {w : World} {a0 : Option Addr} {n c : Nat} {l : List Ev} (h : IsEvs w a0 n c l) :
    Calls Try.prog 11 #[.slice a0 n c] w fun e w' => e = .returned (.bool true) ∧ Below w.heap.size w w' := by
  have Hev := Lib.hid h
  clear h
  go_enter Try.func11, Try.ntmps11
  go_wp2_with fail
  refine (awake19_calls _).mono ?_
  rintro e w1 ⟨rfl, hb⟩
  have HB1 := Lib.hid hb
  clear hb
  go_wp2_with fail
  refine (pneeds_calls (Hev.out.below HB1.out)).mono ?_
  rintro e w2 ⟨hb, ⟨hok, rfl⟩ | ⟨hok, g1, rfl, hg1⟩⟩
  · have HB2 := Lib.hid (HB1.out.trans (hb.mono HB1.out.size))
    clear hb
    go_wp2_with fail
    refine (rneeds_calls (Hev.out.below HB2.out)).mono ?_
    rintro e w3 ⟨hb, ⟨_, rfl⟩ | ⟨hok', _⟩⟩
    case inr => rw [hok] at hok'; cases hok'
    have HB3 := Lib.hid (HB2.out.trans (hb.mono HB2.out.size))
    clear hb hok
    generalize ndErr n l = z
    go_wp2_with fail
    refine (sets_nil _).mono ?_
    rintro e w4 ⟨rfl, hb⟩
    have HB4 := Lib.hid (HB3.out.trans (hb.mono HB3.out.size))
    clear hb
    have hzz : (z == z) = true := by simp
    go_wp2
    go_ret
    exact ⟨rfl, HB4.out⟩
  · have HB2 := Lib.hid (HB1.out.trans (hb.mono HB1.out.size))
    have hn100 := ndOk_le hok
    clear hb
    go_wp2_with fail
    refine (rneeds_calls (Hev.out.below HB2.out)).mono ?_
    rintro e w3 ⟨hb, ⟨hok', _⟩ | ⟨_, g2, rfl, hg2⟩⟩
    case inl => rw [hok] at hok'; cases hok'
    have HB3 := Lib.hid (HB2.out.trans (hb.mono HB2.out.size))
    have HS := Lib.hid (sets_same (heap_below hg1 hb) hg2 (by omega))
    clear hb hok hg1 hg2
    go_wp2_with fail
    refine HS.out.mono ?_
    rintro e w4 ⟨rfl, hb⟩
    have HB4 := Lib.hid (HB3.out.trans (hb.mono HB3.out.size))
    clear hb
    go_wp2
    go_ret
    exact ⟨rfl, HB4.out⟩
end Go.Proofs.Ytjhlehepnhbbaaa
