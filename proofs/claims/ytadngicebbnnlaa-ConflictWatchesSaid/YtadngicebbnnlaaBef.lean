/-
  Before and Sync of an Order.
-/
import Derived.Test.YtadngicebbnnlaaKnow
set_option linter.unusedSimpArgs false
set_option linter.unusedVariables false
namespace Go.Proofs.Ytadngicebbnnlaa
open Go.ChangeShapes Go.WideShapes Go.ChangeAt Go.RowKit Go.Deep

theorem mom_full {t q : Int} {F S : List Int} {ah : Int} {u : Nat} {x : Value} (h : (vecC F).toList[u]? = some x) : (momA t q F S ah).toList[2 + u]? = some x := by
  have hu : u < 8 := (List.getElem?_eq_some_iff.1 h).1
  obtain rfl | rfl | rfl | rfl | rfl | rfl | rfl | rfl : u = 0 ∨ u = 1 ∨ u = 2 ∨ u = 3 ∨ u = 4 ∨ u = 5 ∨ u = 6 ∨ u = 7 := by omega
  all_goals exact h
theorem mom_sync {t q : Int} {F S : List Int} {ah : Int} {u : Nat} {x : Value} (h : (vecC S).toList[u]? = some x) : (momA t q F S ah).toList[10 + u]? = some x := by
  have hu : u < 8 := (List.getElem?_eq_some_iff.1 h).1
  obtain rfl | rfl | rfl | rfl | rfl | rfl | rfl | rfl : u = 0 ∨ u = 1 ∨ u = 2 ∨ u = 3 ∨ u = 4 ∨ u = 5 ∨ u = 6 ∨ u = 7 := by omega
  all_goals exact h
theorem befB_nat {n : Nat} {r : Nat → Nat → Bool} {i j : Nat} (hi : i < n) (hj : j < n) : befB n r (i : Int) (j : Int) = hbB r i j := by
  unfold befB; rw [inN_nat, inN_nat]; simp [hi, hj]

set_option maxRecDepth 20000 in
set_option maxHeartbeats 4000000 in
theorem sync_calls {w : World} {B b : Nat} {v : Value} {l : List Ev} {n : Nat} (h : OrdAt w B b v l n) (hg : GoodL n l) (i j : Int) :
    Calls Try.prog 17 #[.pointer (some ⟨b, 0, none⟩), .int .i64 i, .int .i64 j] w fun e w' => e = .returned (.bool (befB n (rS l) i j)) ∧ Below w.heap.size w w' := by
  have hp : ∀ W, Below w.heap.size w W → ∀ x, Calls Try.prog 45 #[.pointer (some ⟨b, 0, none⟩), .int .i64 x] W fun e w' => e = .returned (.bool (inN n x)) ∧ W = w' := fun W hb x => place_calls (h.below hb) hg.le x
  rcases inN_cases n i with hi | ⟨ki, rfl, hki⟩
  · have Hv : Hid (befB n (rS l) i j = false) := by unfold Hid befB; rw [hi]; rfl
    have Hp1 : Hid (∀ W, Below w.heap.size w W → Calls Try.prog 45 #[.pointer (some ⟨b, 0, none⟩), .int .i64 i] W fun e w' => e = .returned (.bool false) ∧ W = w') := fun W hb => by have := hp W hb i; rw [hi] at this; exact this
    clear hp hi
    rw [Hv.out]
    go_enter Try.func17, Try.ntmps17
    go_wp2_with fail
    refine wp_ext_draw 31 mixed (by kernel_rfl) ?_
    simp only [List.take_succ_cons, List.take_zero, List.drop_succ_cons, List.drop_zero]
    repeat ((first | ((apply TextRun.go rfl rfl rfl); (focus (intro w1 hS K hK; have hc := bcell hS; have hs := blt hS; go_wp2_with ((with_reducible refine (Hp1.out _ hS).mono ?_); rintro e w' ⟨rfl, rfl⟩); first | done | exact hS | exact hS.trans (hb.mono hS.size)))) | (refine TextRun.skip rfl ?_) | ((refine TextRun.wantedT rfl rfl rfl ?_); (apply Exists.intro); (apply And.intro); (focus (intro w1 hS K hK; have hc := bcell hS; have hs := blt hS; go_wp2_with ((with_reducible refine (Hp1.out _ hS).mono ?_); rintro e w' ⟨rfl, rfl⟩); first | done | exact hS | exact hS.trans (hb.mono hS.size))))); (simp only [Act.put, List.setIfInBounds_toArray, List.set_cons_zero, List.set_cons_succ]))
    refine TextRun.done ?_
    intro w3 hb
    go_wp2
    go_ret
    exact ⟨rfl, hb⟩
  have hpi : ∀ W, Below w.heap.size w W → Calls Try.prog 45 #[.pointer (some ⟨b, 0, none⟩), .int .i64 (ki : Int)] W fun e w' => e = .returned (.bool true) ∧ W = w' := fun W hb => by have := hp W hb ki; rw [inN_nat, decide_eq_true hki] at this; exact this
  have Hpi := Lib.hid hpi
  clear hpi
  rcases inN_cases n j with hj | ⟨kj, rfl, hkj⟩
  · have Hv : Hid (befB n (rS l) (ki : Int) j = false) := by unfold Hid befB; rw [hj]; simp
    have Hpj : Hid (∀ W, Below w.heap.size w W → Calls Try.prog 45 #[.pointer (some ⟨b, 0, none⟩), .int .i64 j] W fun e w' => e = .returned (.bool false) ∧ W = w') := fun W hb => by have := hp W hb j; rw [hj] at this; exact this
    clear hp hj
    rw [Hv.out]
    go_enter Try.func17, Try.ntmps17
    go_wp2_with fail
    refine wp_ext_draw 31 mixed (by kernel_rfl) ?_
    simp only [List.take_succ_cons, List.take_zero, List.drop_succ_cons, List.drop_zero]
    repeat ((first | ((apply TextRun.go rfl rfl rfl); (focus (intro w1 hS K hK; have hc := bcell hS; have hs := blt hS; go_wp2_with (first | ((with_reducible refine (Hpi.out _ hS).mono ?_); rintro e w' ⟨rfl, rfl⟩) | ((with_reducible refine (Hpj.out _ hS).mono ?_); rintro e w' ⟨rfl, rfl⟩)); first | done | exact hS | exact hS.trans (hb.mono hS.size)))) | (refine TextRun.skip rfl ?_) | ((refine TextRun.wantedT rfl rfl rfl ?_); (apply Exists.intro); (apply And.intro); (focus (intro w1 hS K hK; have hc := bcell hS; have hs := blt hS; go_wp2_with (first | ((with_reducible refine (Hpi.out _ hS).mono ?_); rintro e w' ⟨rfl, rfl⟩) | ((with_reducible refine (Hpj.out _ hS).mono ?_); rintro e w' ⟨rfl, rfl⟩)); first | done | exact hS | exact hS.trans (hb.mono hS.size))))); (simp only [Act.put, List.setIfInBounds_toArray, List.set_cons_zero, List.set_cons_succ]))
    refine TextRun.done ?_
    intro w3 hb
    go_wp2
    go_ret
    exact ⟨rfl, hb⟩
  have hpj : ∀ W, Below w.heap.size w W → Calls Try.prog 45 #[.pointer (some ⟨b, 0, none⟩), .int .i64 (kj : Int)] W fun e w' => e = .returned (.bool true) ∧ W = w' := fun W hb => by have := hp W hb kj; rw [inN_nat, decide_eq_true hkj] at this; exact this
  have Hpj := Lib.hid hpj
  clear hpj hp
  rw [befB_nat hki hkj]
  by_cases hne : ki = kj
  · have Hv : Hid (hbB (rS l) ki kj = false) := hbB_false (by omega)
    rw [Hv.out]
    have hnt : ((ki : Int) != (kj : Int)) = false := by rw [bne_eq_false_iff_eq]; omega
    clear hne
    go_enter Try.func17, Try.ntmps17
    go_wp2_with fail
    refine wp_ext_draw 31 mixed (by kernel_rfl) ?_
    simp only [List.take_succ_cons, List.take_zero, List.drop_succ_cons, List.drop_zero]
    repeat ((first | ((apply TextRun.go rfl rfl rfl); (focus (intro w1 hS K hK; have hc := bcell hS; have hs := blt hS; go_wp2_with (first | ((with_reducible refine (Hpi.out _ hS).mono ?_); rintro e w' ⟨rfl, rfl⟩) | ((with_reducible refine (Hpj.out _ hS).mono ?_); rintro e w' ⟨rfl, rfl⟩)); first | done | exact hS | exact hS.trans (hb.mono hS.size)))) | (refine TextRun.skip rfl ?_) | ((refine TextRun.wantedT rfl rfl rfl ?_); (apply Exists.intro); (apply And.intro); (focus (intro w1 hS K hK; have hc := bcell hS; have hs := blt hS; go_wp2_with (first | ((with_reducible refine (Hpi.out _ hS).mono ?_); rintro e w' ⟨rfl, rfl⟩) | ((with_reducible refine (Hpj.out _ hS).mono ?_); rintro e w' ⟨rfl, rfl⟩)); first | done | exact hS | exact hS.trans (hb.mono hS.size))))); (simp only [Act.put, List.setIfInBounds_toArray, List.set_cons_zero, List.set_cons_succ]))
    refine TextRun.done ?_
    intro w3 hb
    go_wp2
    go_ret
    exact ⟨rfl, hb⟩
  · have hnt : ((ki : Int) != (kj : Int)) = true := by rw [bne_iff_ne]; omega
    have hk : ∀ W, Calls Try.prog 46 #[.agg (momA (thE l ki) (numT (thE l) ki : Int) (vec (rD l) (thE l) ki) (vec (rS l) (thE l) ki) (ahK (thE l) ki ki)), .agg (vecC (vec (rS l) (thE l) kj))] W fun e w' => e = .returned (.bool (hbB (rS l) ki kj)) ∧ Below W.heap.size W w' := fun W => by
      have := known_calls W (q := (numT (thE l) ki : Int)) (vec (rD l) (thE l) ki) (vec (rS l) (thE l) ki) (vec (rS l) (thE l) kj) (ahK (thE l) ki ki) (hg.th hki)
      rw [known_bef hg (fun i j e => rS_same e) hki hkj hne] at this
      exact this
    have Hk := Lib.hid hk
    obtain ⟨a, c, rfl, cb, hrd⟩ := h.read
    obtain ⟨g, rfl, _, _, _, hci⟩ := hrd ki hki
    obtain ⟨_, hq, _, _, _, hcj⟩ := hrd kj hkj
    cases hq
    have Hci := Lib.hid hci
    have Hcj := Lib.hid hcj
    clear hk hne hci hcj hrd
    go_enter Try.func17, Try.ntmps17
    go_wp2_with fail
    refine wp_ext_draw 31 mixed (by kernel_rfl) ?_
    simp only [List.take_succ_cons, List.take_zero, List.drop_succ_cons, List.drop_zero]
    repeat ((first | ((apply TextRun.go rfl rfl rfl); (focus (intro w1 hS K hK; have hc := bcell hS; have hs := blt hS; have cb := keep hS cb; go_wp2_with (first | ((with_reducible refine (Hpi.out _ hS).mono ?_); rintro e w' ⟨rfl, rfl⟩) | ((with_reducible refine (Hpj.out _ hS).mono ?_); rintro e w' ⟨rfl, rfl⟩)); first | done | exact hS | exact hS.trans (hb.mono hS.size)))) | (refine TextRun.skip rfl ?_) | ((refine TextRun.wantedT rfl rfl rfl ?_); (apply Exists.intro); (apply And.intro); (focus (intro w1 hS K hK; have hc := bcell hS; have hs := blt hS; have cb := keep hS cb; go_wp2_with (first | ((with_reducible refine (Hpi.out _ hS).mono ?_); rintro e w' ⟨rfl, rfl⟩) | ((with_reducible refine (Hpj.out _ hS).mono ?_); rintro e w' ⟨rfl, rfl⟩)); first | done | exact hS | exact hS.trans (hb.mono hS.size))))); (simp only [Act.put, List.setIfInBounds_toArray, List.set_cons_zero, List.set_cons_succ]))
    refine TextRun.wantedT rfl rfl rfl ⟨_, fun w1 hS K hK => wp_load_at 82 (.tmp 26) rfl g (ki * 19) rfl (momA (thE l ki) (numT (thE l) ki : Int) (vec (rD l) (thE l) ki) (vec (rS l) (thE l) ki) (ahK (thE l) ki ki)) _ (fun u x hx => keep hS (Hci.out u x hx)) Try.underlying82 rfl sizeMom (hK _ hS), ?_⟩
    simp only [Act.put, List.setIfInBounds_toArray, List.set_cons_zero, List.set_cons_succ]
    repeat ((first | ((apply TextRun.go rfl rfl rfl); (focus (intro w1 hS K hK; have hc := bcell hS; have hs := blt hS; have cb := keep hS cb; go_wp2_with (fail); first | done | exact hS | exact hS.trans (hb.mono hS.size)))) | (refine TextRun.skip rfl ?_) | ((refine TextRun.wantedT rfl rfl rfl ?_); (apply Exists.intro); (apply And.intro); (focus (intro w1 hS K hK; have hc := bcell hS; have hs := blt hS; have cb := keep hS cb; go_wp2_with (fail); first | done | exact hS | exact hS.trans (hb.mono hS.size))))); (simp only [Act.put, List.setIfInBounds_toArray, List.set_cons_zero, List.set_cons_succ]))
    refine TextRun.wantedT rfl rfl rfl ⟨_, fun w1 hS K hK => wp_load_at 80 (.tmp 34) rfl g (kj * 19 + 10) rfl (vecC (vec (rS l) (thE l) kj)) _ (fun u x hx => by rw [Nat.add_assoc]; exact keep hS (Hcj.out _ x (mom_sync hx))) Try.underlying80 rfl sizeCounts (hK _ hS), ?_⟩
    simp only [Act.put, List.setIfInBounds_toArray, List.set_cons_zero, List.set_cons_succ]
    repeat ((first | ((apply TextRun.go rfl rfl rfl); (focus (intro w1 hS K hK; have hc := bcell hS; have hs := blt hS; go_wp2_with ((with_reducible refine (Hk.out _).mono ?_); rintro e w' ⟨rfl, hb⟩); first | done | exact hS | exact hS.trans (hb.mono hS.size)))) | (refine TextRun.skip rfl ?_) | ((refine TextRun.wantedT rfl rfl rfl ?_); (apply Exists.intro); (apply And.intro); (focus (intro w1 hS K hK; have hc := bcell hS; have hs := blt hS; go_wp2_with ((with_reducible refine (Hk.out _).mono ?_); rintro e w' ⟨rfl, hb⟩); first | done | exact hS | exact hS.trans (hb.mono hS.size))))); (simp only [Act.put, List.setIfInBounds_toArray, List.set_cons_zero, List.set_cons_succ]))
    refine TextRun.done ?_
    intro w3 hb
    go_wp2
    go_ret
    exact ⟨rfl, hb⟩
end Go.Proofs.Ytadngicebbnnlaa
