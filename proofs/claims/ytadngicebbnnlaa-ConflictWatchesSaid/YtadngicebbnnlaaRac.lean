/-
  Races of layer 15, on both sides; Same; the statements' awake.
-/
import Derived.Test.YtadngicebbnnlaaConf
import Derived.Test.YtadngicebbnnlaaSorted
import Derived.Test.YtadngicebbnnlaaSortPair
import Derived.Test.YtadngicebbnnlaaCmp
import Derived.Test.YtadngicebbnnlaaRBef
import Derived.Deep.Cut
set_option linter.unusedSimpArgs false
set_option linter.unusedVariables false
namespace Go.Proofs.Ytadngicebbnnlaa
open Go.ChangeShapes Go.WideShapes Go.ChangeAt Go.RowKit Go.Deep

def cmpP (p q : Int × Int) : Int := if cmpI p.2 q.2 ≠ 0 then cmpI p.2 q.2 else cmpI p.1 q.1
theorem cmpI_zero {x y : Int} : cmpI x y = 0 ↔ x = y := by unfold cmpI; split <;> (try split) <;> omega
theorem ltPair (x y : Int × Int) : ltOf cmpP x y = true ↔ ltZ x y := by
  unfold ltOf cmpP ltZ
  rw [decide_eq_true_iff]
  have h0 := cmpI_zero (x := x.2) (y := y.2)
  have h1 := cmpI_lt (x := x.2) (y := y.2)
  have h2 := cmpI_lt (x := x.1) (y := y.1)
  split <;> omega
theorem swoPair : Go.Sort.SWO (ltOf cmpP) where
  irrefl x := by
    cases h : ltOf cmpP x x
    · rfl
    · have := (ltPair x x).1 h; unfold ltZ at this; omega
  trans x y z h1 h2 := by
    rw [ltPair] at *; unfold ltZ at *; omega
  ntrans x y z h1 h2 := by
    cases h : ltOf cmpP x z
    · rfl
    · have h3 := (ltPair x z).1 h
      have h4 : ¬ ltZ x y := fun e => by rw [(ltPair x y).2 e] at h1; cases h1
      have h5 : ¬ ltZ y z := fun e => by rw [(ltPair y z).2 e] at h2; cases h2
      unfold ltZ at *; omega

set_option maxHeartbeats 2000000 in
theorem or_calls {w : World} {b : Nat} {x y : Int} (h0 : w.cell? ⟨b, 0, none⟩ = some (.int .i64 x)) (h1 : w.cell? ⟨b, 1, none⟩ = some (.int .i64 y)) :
    Calls Try.prog 35 #[.slice (some ⟨b, 0, none⟩) 2 2] w fun e w' => e = .returned (.int .i64 (if x ≠ 0 then x else y)) ∧ w = w' := by
  by_cases hx : x = 0
  · have hxb : (x != 0) = false := by simpa using hx
    have Hv : Hid ((if x ≠ 0 then x else y) = y) := by rw [Hid, if_neg (by simp [hx])]
    rw [Hv.out]
    clear hx
    by_cases hy : y = 0
    · have hyb : (y != 0) = false := by simpa using hy
      have Hy := Lib.hid hy
      clear hy
      go_enter Try.func35, Try.ntmps35
      go_wp2_with fail
      go_loopw [5, 8] (fun _ v wr => ∃ k : Nat, k ≤ 2 ∧ v = .int .i64 k ∧ wr = w) (fun _ v _ => 2 - (intOf v).toNat)
      case atStart => exact ⟨0, Nat.zero_le _, by go_num, rfl⟩
      case round =>
        obtain ⟨k, hk, rfl, rfl⟩ := hrel
        rcases (show k = 0 ∨ k = 1 ∨ k = 2 by omega) with rfl | rfl | rfl
        · go_wp2
          go_roundw
          case rel => exact ⟨1, by omega, by go_num, by first | rfl | trivial⟩
          case measure => simp [intOf]
        · go_wp2
          go_roundw
          case rel => exact ⟨2, by omega, by go_num, by first | rfl | trivial⟩
          case measure => simp [intOf]
        · go_wp2
          go_ret
          exact ⟨by rw [Hy.out]; rfl, rfl⟩
    · have hyb : (y != 0) = true := by simpa using hy
      clear hy
      go_enter Try.func35, Try.ntmps35
      go_wp2_with fail
      go_loopw [5, 8] (fun _ v wr => ∃ k : Nat, k ≤ 1 ∧ v = .int .i64 k ∧ wr = w) (fun _ v _ => 2 - (intOf v).toNat)
      case atStart => exact ⟨0, Nat.zero_le _, by go_num, rfl⟩
      case round =>
        obtain ⟨k, hk, rfl, rfl⟩ := hrel
        rcases (show k = 0 ∨ k = 1 by omega) with rfl | rfl
        · go_wp2
          go_roundw
          case rel => exact ⟨1, by omega, by go_num, by first | rfl | trivial⟩
          case measure => simp [intOf]
        · go_wp2
          go_ret
          exact ⟨rfl, rfl⟩
  · have hxb : (x != 0) = true := by simpa using hx
    have Hv : Hid ((if x ≠ 0 then x else y) = x) := by rw [Hid, if_pos hx]
    rw [Hv.out]
    clear hx
    go_enter Try.func35, Try.ntmps35
    go_wp2_with fail
    go_loopw [5, 8] (fun _ v wr => v = .int .i64 0 ∧ wr = w) (fun _ _ _ => 0)
    case atStart => exact ⟨by go_num, rfl⟩
    case round =>
      obtain ⟨rfl, rfl⟩ := hrel
      go_wp2
      go_ret
      exact ⟨rfl, rfl⟩

set_option maxRecDepth 20000 in
set_option maxHeartbeats 4000000 in
theorem paircmp_calls : CmpAt 34 eltP.f cmpP := by
  rintro ⟨x1, x2⟩ ⟨y1, y2⟩ W
  show Calls Try.prog 34 #[.agg #[.int .i64 x1, .int .i64 x2], .agg #[.int .i64 y1, .int .i64 y2]] W _
  have hc1 := fun W' => cmp_calls x1 y1 W'
  have hc2 := fun W' => cmp_calls x2 y2 W'
  have Hp : Hid (cmpP (x1, x2) (y1, y2) = if cmpI x2 y2 ≠ 0 then cmpI x2 y2 else cmpI x1 y1) := rfl
  revert hc1 hc2 Hp
  generalize cmpI x1 y1 = r1
  generalize cmpI x2 y2 = r2
  intro hc1 hc2 Hp
  go_enter Try.func34, Try.ntmps34
  go_wp2_with fail
  have hN : ((W.alloc (.cells #[.int .i64 x1, .int .i64 x2] 35)).alloc (.cells #[.int .i64 y1, .int .i64 y2] 35)).heap[W.heap.size]? = some (.cells #[.int .i64 x1, .int .i64 x2] 35 (0, 0)) ∧ ((W.alloc (.cells #[.int .i64 x1, .int .i64 x2] 35)).alloc (.cells #[.int .i64 y1, .int .i64 y2] 35)).heap[W.heap.size + 1]? = some (.cells #[.int .i64 y1, .int .i64 y2] 35 (0, 0)) ∧ Below W.heap.size W ((W.alloc (.cells #[.int .i64 x1, .int .i64 x2] 35)).alloc (.cells #[.int .i64 y1, .int .i64 y2] 35)) ∧ W.drawn ≤ ((W.alloc (.cells #[.int .i64 x1, .int .i64 x2] 35)).alloc (.cells #[.int .i64 y1, .int .i64 y2] 35)).drawn := by
    have hA := (MapKept.heap_alloc W (.cells #[.int .i64 x1, .int .i64 x2] 35)).1
    have hB := heap_alloc1 W #[.int .i64 x1, .int .i64 x2] #[.int .i64 y1, .int .i64 y2] 35 35
    have b1 : Below W.heap.size W (W.alloc (.cells #[.int .i64 x1, .int .i64 x2] 35)) := (Below.refl _ W).alloc (Nat.le_refl _) _
    have b2 : Below (W.alloc (.cells #[.int .i64 x1, .int .i64 x2] 35)).heap.size (W.alloc (.cells #[.int .i64 x1, .int .i64 x2] 35)) ((W.alloc (.cells #[.int .i64 x1, .int .i64 x2] 35)).alloc (.cells #[.int .i64 y1, .int .i64 y2] 35)) := (Below.refl _ _).alloc (Nat.le_refl _) _
    exact ⟨(b2.block W.heap.size (by simp)).trans hA, hB, b1.trans (b2.mono (by simp)), Nat.le_refl _⟩
  revert hN
  generalize (W.alloc (.cells #[.int .i64 x1, .int .i64 x2] 35)).alloc (.cells #[.int .i64 y1, .int .i64 y2] 35) = w
  rintro ⟨hA, hB, hb0, hd0⟩
  have c0 : w.cell? ⟨W.heap.size, 0, none⟩ = some (.int .i64 x1) := cell_of_block hA
  have c1 : w.cell? ⟨W.heap.size, 1, none⟩ = some (.int .i64 x2) := cell_of_block hA
  have d0 : w.cell? ⟨W.heap.size + 1, 0, none⟩ = some (.int .i64 y1) := cell_of_block hB
  have d1 : w.cell? ⟨W.heap.size + 1, 1, none⟩ = some (.int .i64 y2) := cell_of_block hB
  have HB0 := Lib.hid hb0
  have HD0 := Lib.hid hd0
  clear hA hB hb0 hd0
  refine wp_text_draw 10 (fun w' => Below w.heap.size w w' ∧ w.drawn ≤ w'.drawn) mixed (by kernel_rfl) ⟨(Below.refl _ w).drew, Nat.le_succ _⟩ ?_
  simp only [List.take_succ_cons, List.take_zero, List.drop_succ_cons, List.drop_zero]
  repeat ((first | ((apply TextRun.go rfl rfl rfl); (focus (intro w1 hS0 K hK; have hS := hS0.1; have hc := bcell hS; have hs := blt hS; have c0 := keep hS c0; have c1 := keep hS c1; have d0 := keep hS d0; have d1 := keep hS d1; go_wp2_with (first | ((with_reducible refine (hc2 _).mono ?_); rintro e w' ⟨rfl, rfl⟩) | ((with_reducible refine (hc1 _).mono ?_); rintro e w' ⟨rfl, rfl⟩)); first | done | exact hS0))) | (refine TextRun.skip rfl ?_) | ((refine TextRun.wantedT rfl rfl rfl ?_); (apply Exists.intro); (apply And.intro); (focus (intro w1 hS0 K hK; have hS := hS0.1; have hc := bcell hS; have hs := blt hS; have c0 := keep hS c0; have c1 := keep hS c1; have d0 := keep hS d0; have d1 := keep hS d1; go_wp2_with (first | ((with_reducible refine (hc2 _).mono ?_); rintro e w' ⟨rfl, rfl⟩) | ((with_reducible refine (hc1 _).mono ?_); rintro e w' ⟨rfl, rfl⟩)); first | done | exact hS0)))); (simp only [Act.put, List.setIfInBounds_toArray, List.set_cons_zero, List.set_cons_succ]))
  refine TextRun.done ?_
  rintro w2 ⟨hb, hd⟩
  have hbb := HB0.out.trans (hb.mono HB0.out.size)
  have hdd : W.drawn ≤ w2.drawn := Nat.le_trans HD0.out hd
  have hal : Below w2.heap.size w2 (w2.alloc (.cells #[.int .i64 r2, .int .i64 r1] 3)) := (Below.refl _ w2).alloc (Nat.le_refl _) _
  have Hend : Hid (Below W.heap.size W (w2.alloc (.cells #[.int .i64 r2, .int .i64 r1] 3)) ∧ W.drawn ≤ (w2.alloc (.cells #[.int .i64 r2, .int .i64 r1] 3)).drawn) := ⟨hbb.trans (hal.mono hbb.size), hdd⟩
  have Ho := Lib.hid (or_calls (w := w2.alloc (.cells #[.int .i64 r2, .int .i64 r1] 3)) (b := w2.heap.size) (x := r2) (y := r1) (cell_new rfl) (cell_new rfl))
  clear hb hd hbb hdd hal c0 c1 d0 d1 hc1 hc2
  go_wp2_with fail
  refine Ho.out.mono ?_
  rintro e w3 ⟨rfl, rfl⟩
  rw [← Hp.out]
  go_wp2
  go_ret
  exact ⟨rfl, Hend.out⟩

theorem sortPair_calls {w : World} {B : Nat} {v : Value} {xs : List (Int × Int)} (h : OwnL eltP w B v xs) (hn : xs.length < 1000000) :
    Calls Try.prog 33 #[v, .func (.func 34) #[] #[]] w fun e w' => e = .returned (.tuple #[]) ∧ ∃ ys : List (Int × Int), ys.Perm xs ∧ (ys.Pairwise fun a b => ¬ ltZ b a) ∧ OwnL eltP w' B v ys ∧ Wrote (fun q => v.ownBlock = some q) w w' := by
  have := sortL_calls eltP sortPair Try.isAgg35 Try.sizeOf35 cmpP swoPair 34 (enters_of Try.func34 (by kernel_rfl) rfl) paircmp_calls h hn
  change Calls Try.prog 33 _ _ _ at this
  refine this.mono fun e w' ⟨he, ys, h1, h2, h3⟩ => ⟨he, ys, h1, h2.imp fun h hz => ?_, h3⟩
  rw [(ltPair _ _).2 hz] at h; cases h
end Go.Proofs.Ytadngicebbnnlaa
