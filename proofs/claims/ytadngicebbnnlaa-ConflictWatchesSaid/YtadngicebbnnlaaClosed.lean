/-
  The document's closed: all that is reached ahead of each place.
-/
import Derived.Test.YtadngicebbnnlaaMat
import Derived.Test.YtadngicebbnnlaaOrdMid
set_option linter.unusedSimpArgs false
set_option linter.unusedVariables false
namespace Go.Proofs.Ytadngicebbnnlaa
open Go.ChangeShapes Go.WideShapes Go.ChangeAt Go.RowKit Go.Deep

theorem step_is {t k o v b : Int} (h : rightB t k o v b = true) (t' k' o' b' : Int) : stepR t k o b t' k' o' b' = stepB t k o b t' k' o' b' := by
  unfold rightB bodyB at h
  unfold stepR stepB
  by_cases ht : t = t'
  · simp [ht]
  have hb : (t == t') = false := by simpa using ht
  rw [hb]
  by_cases h0 : b = 0
  · subst h0; simp
  have hb0 : (b == 0) = false := by simpa using h0
  have hb1 : (b != 0) = true := by simpa using h0
  simp only [hb0, hb1, Bool.false_and, Bool.false_eq_true, if_false, if_true, Bool.and_false] at h ⊢
  by_cases k5 : k = 5
  · simp [k5]
  by_cases k3 : k = 3
  · subst k3; simp at h
  by_cases k6 : k = 6
  · simp [k6]
  by_cases k9 : k = 9
  · subst k9; simp at h
  simp [k5, k3, k6, k9]
def rOf (s : Bool) (l : List Ev) : Nat → Nat → Bool := fun k j => if s then rS l k j else rD l k j
theorem rOf_step {l : List Ev} {K j : Nat} {a b : Ev} (ha : l[K]? = some a) (hb : l[j]? = some b) (hr : rB a = true) : stepR a.t a.k a.o a.b b.t b.k b.o b.b = rOf true l K j := by
  rw [step_is hr]; exact (rS_of ha hb).symm
theorem rOf_dep {l : List Ev} {K j : Nat} {a b : Ev} (ha : l[K]? = some a) (hb : l[j]? = some b) : rdepB a.t a.k a.o b.t b.k b.o = rOf false l K j := by
  rw [← depends_is]; exact (rD_of ha hb).symm

/-- The row under work. -/
structure RowAt (n : Nat) (f : Nat → Bool) (rb : Nat) (wo wx : World) : Prop where
  row : wx.heap[rb]? = some (.cells (boolsA n f) 4 (0, 0))
  below : Below rb wo wx
theorem RowAt.of {n : Nat} {f g : Nat → Bool} {rb : Nat} {wo wx : World} (h : RowAt n f rb wo wx) (e : ∀ i, i < n → f i = g i) : RowAt n g rb wo wx := ⟨by rw [← boolsA_congr e]; exact h.row, h.below⟩
theorem RowAt.lt {n : Nat} {f : Nat → Bool} {rb : Nat} {wo wx : World} (h : RowAt n f rb wo wx) : rb < wx.heap.size := (Array.getElem?_eq_some_iff.1 h.row).1
theorem RowAt.go {n : Nat} {f : Nat → Bool} {rb : Nat} {wo wx wy : World} (h : RowAt n f rb wo wx) (hb : Below wx.heap.size wx wy) : RowAt n f rb wo wy := ⟨(hb.block rb h.lt).trans h.row, h.below.trans (hb.mono (Nat.le_of_lt h.lt))⟩
theorem RowAt.set {n : Nat} {f : Nat → Bool} {rb : Nat} {wo wx : World} (h : RowAt n f rb wo wx) (i : Nat) : RowAt n (fun x => f x || x == i) rb wo (wx.setCell ⟨rb, i, none⟩ (.bool true)) :=
  ⟨by rw [← boolsA_set]; exact set_block h.row _, h.below.setCell (p := ⟨rb, i, none⟩) (Nat.le_refl _) _⟩
theorem RowAt.get {n : Nat} {f : Nat → Bool} {rb : Nat} {wo wx : World} (h : RowAt n f rb wo wx) {i : Nat} (hi : i < n) : wx.cell? ⟨rb, i, none⟩ = some (.bool (f i)) ∧ wx.frozen? ⟨rb, i, none⟩ = false :=
  ⟨by rw [cell_of_block h.row]; exact boolsA_get hi, free_of_block h.row⟩
theorem row_end {r : Nat → Nat → Bool} {j K : Nat} (hr : r K j = true) (i : Nat) : (rowB r j K i || i == K || (decide (i < K) && hbB r i K)) = rowB r j (K + 1) i := by
  rw [rowB_succ, hr, Bool.true_and]
  by_cases h : i < K
  · have : (K == i) = (i == K) := by rw [Bool.eq_iff_iff]; simp; omega
    simp [h, this, Bool.or_assoc]
  · rw [hbB_false (by omega)]
    have : (K == i) = (i == K) := by rw [Bool.eq_iff_iff]; simp; omega
    simp [this]
theorem row_more {r : Nat → Nat → Bool} {j K I : Nat} (i : Nat) (b : Bool) (hb : hbB r I K = b) : ((rowB r j K i || i == K || (decide (i < I) && hbB r i K)) || (b && i == I)) = (rowB r j K i || i == K || (decide (i < I + 1) && hbB r i K)) := by
  by_cases h : i = I
  · subst h; rw [hb]; simp
  · have h1 : (i == I) = false := by simpa using h
    have h2 : decide (i < I + 1) = decide (i < I) := by rw [decide_eq_decide]; omega
    rw [h1, h2, Bool.and_false, Bool.or_false]

set_option maxRecDepth 20000 in
set_option maxHeartbeats 8000000 in
theorem closed_calls {w : World} {a0 : Option Addr} {n c : Nat} {l : List Ev} (h : IsEvs w a0 n c l) (hn100 : n ≤ 100) (hrt : ∀ (i : Nat) (e : Ev), l[i]? = some e → rB e = true) (s : Bool) :
    Calls Try.prog 68 #[.slice a0 n c, .bool s] w fun x w' => ∃ v, x = .returned v ∧ MatAt w' w.heap.size v n n (fun j i => hbB (rOf s l) i j) ∧ Below w.heap.size w w' := by
  have hnm : n ≤ 9223372036854775807 := by omega
  have Hrt := Lib.hid hrt
  clear hrt
  go_enter Try.func68, Try.ntmps68
  go_wp2_with fail
  go_loopw [5, 6] (fun u i wr => ∃ j : Nat, j ≤ n ∧ i = .int .i64 j ∧ Hid (MatAt wr w.heap.size u n j (fun j i => hbB (rOf s l) i j) ∧ Below w.heap.size w wr)) (fun _ i _ => n - (intOf i).toNat)
  case atStart => exact ⟨0, Nat.zero_le _, rfl, ⟨MatAt.nil .., Below.refl ..⟩⟩
  case round =>
    obtain ⟨j, hj, rfl, H⟩ := hrel
    by_cases hjn : j < n
    · go_wp2_with (refine wpList_makeB rfl (.tmp 18) (.tmp 18) rfl n (by omega) rfl rfl ?_)
      have HS : RowAt n (fun i => rowB (rOf s l) j 0 i) wr.heap.size wr (wr.alloc (.cells (boolsA n fun _ => false) 4)) := ⟨(MapKept.heap_alloc wr _).1, (Below.refl _ wr).alloc (Nat.le_refl _) _⟩
      revert HS
      generalize wr.alloc (.cells (boolsA n fun _ => false) 4) = wy
      intro HS
      obtain ⟨wo, hwo⟩ : ∃ wo, wo = wr := ⟨_, rfl⟩
      subst hwo
      obtain ⟨rb, hrb⟩ : ∃ rb, rb = wo.heap.size := ⟨_, rfl⟩
      rw [← hrb] at HS ⊢
      have hws : w.heap.size ≤ rb := by rw [hrb]; exact H.out.2.size
      have Hrb := Lib.hid hrb
      clear hrb
      go_loopw [8] (fun i wr => ∃ K : Nat, K ≤ j ∧ i = .int .i64 K ∧ RowAt n (fun i => rowB (rOf s l) j K i) rb wo wr) (fun i _ => j - (intOf i).toNat)
      case atStart => exact ⟨0, Nat.zero_le _, rfl, HS⟩
      case round =>
        obtain ⟨K, hK, rfl, HR⟩ := hrel
        clear HS
        by_cases hKj : K < j
        · obtain ⟨bl, off, e', rfl, he', _, d0, d1, d2, d3, d4⟩ := h.at (show K < n by omega)
          obtain ⟨_, _, e, hq, he, _, f0, f1, f2, f3, f4⟩ := h.at hjn
          cases hq
          have hBx : Below w.heap.size w wr := H.out.2.trans (HR.below.mono hws)
          have d0 := keep hBx d0
          have d1 := keep hBx d1
          have d2 := keep hBx d2
          have d3 := keep hBx d3
          have d4 := keep hBx d4
          have f0 := keep hBx f0
          have f1 := keep hBx f1
          have f2 := keep hBx f2
          have f3 := keep hBx f3
          have f4 := keep hBx f4
          have hKn : K < n := by omega
          have hnc : n ≤ c := h.le
          obtain ⟨x, co, g, rfl, hx, hjc, hgc⟩ := H.out.1.read hKj
          have hxr : x ≠ rb := by have := cell_lt hx; rw [← Hrb.out] at this; simp only at this; omega
          have hgr : g ≠ rb := by have := cell_lt (hgc K hKn); rw [← Hrb.out] at this; simp only at this; omega
          have Hx := Lib.hid hx
          have Hg := Lib.hid hgc
          obtain ⟨on, hon⟩ : ∃ on, on = rOf s l K j := ⟨_, rfl⟩
          have Hon := Lib.hid hon
          have He := Lib.hid he
          have He' := Lib.hid he'
          clear hon he he' hgc hx
          cases s
          · have Hst : ∀ W, Calls Try.prog 18 #[.agg #[.int .i64 e'.t, .int .i64 e'.k, .int .i64 e'.o, .int .i64 e'.v, .int .i64 e'.b], .agg #[.int .i64 e.t, .int .i64 e.k, .int .i64 e.o, .int .i64 e.v, .int .i64 e.b]] W fun x w' => x = .returned (.bool on) ∧ Below W.heap.size W w' := fun W => by
              rw [Hon.out, ← rOf_dep He'.out He.out]; exact rdep_calls _ _ _ _ _ _ _ _ _ _ _
            go_wp2_with fail
            refine wp_ext_draw 9 mixed (by kernel_rfl) ?_
            simp only [List.take_succ_cons, List.take_zero, List.drop_succ_cons, List.drop_zero]
            repeat ((first | ((apply TextRun.go rfl rfl rfl); (focus (intro w1 hS K hK; have hc := bcell hS; have hs := blt hS; have d0 := keep hS d0; have d1 := keep hS d1; have d2 := keep hS d2; have d3 := keep hS d3; have d4 := keep hS d4; have f0 := keep hS f0; have f1 := keep hS f1; have f2 := keep hS f2; have f3 := keep hS f3; have f4 := keep hS f4; go_wp2_with ((with_reducible refine (Hst _).mono ?_); rintro x' w4 ⟨rfl, hb⟩); first | done | exact hS | exact hS.trans (hb.mono hS.size)))) | (refine TextRun.skip rfl ?_) | ((refine TextRun.wantedT rfl rfl rfl ?_); (apply Exists.intro); (apply And.intro); (focus (intro w1 hS K hK; have hc := bcell hS; have hs := blt hS; have d0 := keep hS d0; have d1 := keep hS d1; have d2 := keep hS d2; have d3 := keep hS d3; have d4 := keep hS d4; have f0 := keep hS f0; have f1 := keep hS f1; have f2 := keep hS f2; have f3 := keep hS f3; have f4 := keep hS f4; go_wp2_with ((with_reducible refine (Hst _).mono ?_); rintro x' w4 ⟨rfl, hb⟩); first | done | exact hS | exact hS.trans (hb.mono hS.size))))); (simp only [Act.put, List.setIfInBounds_toArray, List.set_cons_zero, List.set_cons_succ]))
            refine TextRun.done ?_
            intro w4 hb4
            have HR4 := HR.go hb4
            clear HR d0 d1 d2 d3 d4 f0 f1 f2 f3 f4 Hst hBx hb4
            cases on
            · go_wp2
              go_roundw
              case rel => exact ⟨K + 1, by omega, by go_num, HR4.of fun i _ => by rw [rowB_succ, ← Hon.out]; simp⟩
              case measure => simp [intOf]; omega
            · obtain ⟨q1, q2⟩ := HR4.get hKn
              go_wp2_with fail
              have HS := (HR4.set K).of (g := fun i => rowB (rOf false l) j K i || i == K || (decide (i < 0) && hbB (rOf false l) i K)) (fun i _ => by simp)
              clear q1 q2 HR4
              go_loopw [10] (fun i wr => ∃ I : Nat, I ≤ K ∧ i = .int .i64 I ∧ RowAt n (fun i => rowB (rOf false l) j K i || i == K || (decide (i < I) && hbB (rOf false l) i K)) rb wo wr) (fun i _ => K - (intOf i).toNat)
              case atStart => exact ⟨0, Nat.zero_le _, rfl, HS⟩
              case round =>
                obtain ⟨I, hI, rfl, HR⟩ := hrel
                clear HS
                by_cases hIK : I < K
                · have HBo : Below wo.heap.size wo wr := by rw [← Hrb.out]; exact HR.below
                  have cx := keep HBo Hx.out
                  have cg := keep HBo (Hg.out I (by omega))
                  obtain ⟨q1, q2⟩ := HR.get (i := I) (by omega)
                  have hIn : I < n := by omega
                  clear HBo
                  rcases Bool.eq_false_or_eq_true (hbB (rOf false l) I K) with hb | hb
                  · rw [hb] at cg
                    have Hb := Lib.hid hb
                    clear hb
                    go_wp2
                    go_roundw
                    case rel => exact ⟨I + 1, by omega, by go_num, (HR.set I).of (fun i _ => by have := row_more (r := rOf false l) (j := j) i true Hb.out; simpa using this)⟩
                    case measure => simp [intOf]; omega
                  · rw [hb] at cg
                    have Hb := Lib.hid hb
                    clear hb
                    go_wp2
                    go_roundw
                    case rel => exact ⟨I + 1, by omega, by go_num, HR.of (fun i _ => by have := row_more (r := rOf false l) (j := j) i false Hb.out; simpa using this)⟩
                    case measure => simp [intOf]; omega
                · have hIe : I = K := by omega
                  go_wp2
                  go_roundw
                  case rel => exact ⟨K + 1, by omega, by go_num, HR.of fun i _ => by rw [hIe]; exact row_end Hon.out.symm i⟩
                  case measure => simp [intOf]; omega
          · have Hst : ∀ W, Calls Try.prog 92 #[.agg #[.int .i64 e'.t, .int .i64 e'.k, .int .i64 e'.o, .int .i64 e'.v, .int .i64 e'.b], .agg #[.int .i64 e.t, .int .i64 e.k, .int .i64 e.o, .int .i64 e.v, .int .i64 e.b]] W fun x w' => x = .returned (.bool on) ∧ Below W.heap.size W w' := fun W => by
              rw [Hon.out, ← rOf_step He'.out He.out (Hrt.out _ _ He'.out)]; exact rstep_calls _ _ _ _ _ _ _ _ _ _ _
            go_wp2_with fail
            refine wp_ext_draw 9 mixed (by kernel_rfl) ?_
            simp only [List.take_succ_cons, List.take_zero, List.drop_succ_cons, List.drop_zero]
            repeat ((first | ((apply TextRun.go rfl rfl rfl); (focus (intro w1 hS K hK; have hc := bcell hS; have hs := blt hS; have d0 := keep hS d0; have d1 := keep hS d1; have d2 := keep hS d2; have d3 := keep hS d3; have d4 := keep hS d4; have f0 := keep hS f0; have f1 := keep hS f1; have f2 := keep hS f2; have f3 := keep hS f3; have f4 := keep hS f4; go_wp2_with ((with_reducible refine (Hst _).mono ?_); rintro x' w4 ⟨rfl, hb⟩); first | done | exact hS | exact hS.trans (hb.mono hS.size)))) | (refine TextRun.skip rfl ?_) | ((refine TextRun.wantedT rfl rfl rfl ?_); (apply Exists.intro); (apply And.intro); (focus (intro w1 hS K hK; have hc := bcell hS; have hs := blt hS; have d0 := keep hS d0; have d1 := keep hS d1; have d2 := keep hS d2; have d3 := keep hS d3; have d4 := keep hS d4; have f0 := keep hS f0; have f1 := keep hS f1; have f2 := keep hS f2; have f3 := keep hS f3; have f4 := keep hS f4; go_wp2_with ((with_reducible refine (Hst _).mono ?_); rintro x' w4 ⟨rfl, hb⟩); first | done | exact hS | exact hS.trans (hb.mono hS.size))))); (simp only [Act.put, List.setIfInBounds_toArray, List.set_cons_zero, List.set_cons_succ]))
            refine TextRun.done ?_
            intro w4 hb4
            have HR4 := HR.go hb4
            clear HR d0 d1 d2 d3 d4 f0 f1 f2 f3 f4 Hst hBx hb4
            cases on
            · go_wp2
              go_roundw
              case rel => exact ⟨K + 1, by omega, by go_num, HR4.of fun i _ => by rw [rowB_succ, ← Hon.out]; simp⟩
              case measure => simp [intOf]; omega
            · obtain ⟨q1, q2⟩ := HR4.get hKn
              go_wp2_with fail
              have HS := (HR4.set K).of (g := fun i => rowB (rOf true l) j K i || i == K || (decide (i < 0) && hbB (rOf true l) i K)) (fun i _ => by simp)
              clear q1 q2 HR4
              go_loopw [10] (fun i wr => ∃ I : Nat, I ≤ K ∧ i = .int .i64 I ∧ RowAt n (fun i => rowB (rOf true l) j K i || i == K || (decide (i < I) && hbB (rOf true l) i K)) rb wo wr) (fun i _ => K - (intOf i).toNat)
              case atStart => exact ⟨0, Nat.zero_le _, rfl, HS⟩
              case round =>
                obtain ⟨I, hI, rfl, HR⟩ := hrel
                clear HS
                by_cases hIK : I < K
                · have HBo : Below wo.heap.size wo wr := by rw [← Hrb.out]; exact HR.below
                  have cx := keep HBo Hx.out
                  have cg := keep HBo (Hg.out I (by omega))
                  obtain ⟨q1, q2⟩ := HR.get (i := I) (by omega)
                  have hIn : I < n := by omega
                  clear HBo
                  rcases Bool.eq_false_or_eq_true (hbB (rOf true l) I K) with hb | hb
                  · rw [hb] at cg
                    have Hb := Lib.hid hb
                    clear hb
                    go_wp2
                    go_roundw
                    case rel => exact ⟨I + 1, by omega, by go_num, (HR.set I).of (fun i _ => by have := row_more (r := rOf true l) (j := j) i true Hb.out; simpa using this)⟩
                    case measure => simp [intOf]; omega
                  · rw [hb] at cg
                    have Hb := Lib.hid hb
                    clear hb
                    go_wp2
                    go_roundw
                    case rel => exact ⟨I + 1, by omega, by go_num, HR.of (fun i _ => by have := row_more (r := rOf true l) (j := j) i false Hb.out; simpa using this)⟩
                    case measure => simp [intOf]; omega
                · have hIe : I = K := by omega
                  go_wp2
                  go_roundw
                  case rel => exact ⟨K + 1, by omega, by go_num, HR.of fun i _ => by rw [hIe]; exact row_end Hon.out.symm i⟩
                  case measure => simp [intOf]; omega
        · have hKe : K = j := by omega
          rw [hKe] at HR
          have HR := HR.of (g := fun i => hbB (rOf s l) i j) (fun i _ => rowB_all)
          have HBo : Below wo.heap.size wo wr := by rw [← Hrb.out]; exact HR.below
          obtain ⟨gs, ho, hgs⟩ := (H.out.1.below HBo).ex
          have hal : Below wr.heap.size wr (wr.alloc (.cells #[.slice (some ⟨rb, 0, none⟩) n n] 71)) := (Below.refl _ wr).alloc (Nat.le_refl _) _
          have hoA := ownsRow_at (w' := wr.alloc (.cells #[.slice (some ⟨rb, 0, none⟩) n n] 71)) ho (fun x hx => hal.block x (ho.lt x hx).2)
          have hN : ∀ (i : Nat) (u : Value), [Value.slice (some ⟨rb, 0, none⟩) n n][i]? = some u → (wr.alloc (.cells #[.slice (some ⟨rb, 0, none⟩) n n] 71)).cell? ((⟨wr.heap.size, 0, none⟩ : Addr).add i) = some u := fun i u hi => cells_new wr _ _ i u hi
          have hgsA : ∀ (i g : Nat), gs[i]? = some g → w.heap.size ≤ g ∧ (∀ x, u5.ownBlock = some x → x ≠ g) ∧ (wr.alloc (.cells #[.slice (some ⟨rb, 0, none⟩) n n] 71)).heap[g]? = some (.cells (boolsA n (fun a => hbB (rOf s l) a i)) 4 (0, 0)) := fun i g hi => by
            obtain ⟨h1, h2, h3⟩ := hgs i g hi
            exact ⟨h1, h2, (hal.block g (Array.getElem?_eq_some_iff.1 h3).1).trans h3⟩
          have hrA := (hal.block rb HR.lt).trans HR.row
          have hBA : Below w.heap.size w (wr.alloc (.cells #[.slice (some ⟨rb, 0, none⟩) n n] 71)) := (H.out.2.trans (HR.below.mono hws)).trans (hal.mono (by have := HR.lt; omega))
          have hur : ∀ x, u5.ownBlock = some x → x ≠ rb := fun x hx => by have := (H.out.1.lt hx).2; rw [← Hrb.out] at this; omega
          have hul : ∀ x, u5.ownBlock = some x → w.heap.size ≤ x := fun x hx => (H.out.1.lt hx).1
          obtain ⟨i0, hi0, hz0, hs0, hy0⟩ := info_at infoBools
          have hh := And.intro hi0 (And.intro hz0 (And.intro hs0 hy0))
          have Hh := Lib.hid hh
          have HoA := Lib.hid hoA
          have HN := Lib.hid hN
          have HgsA := Lib.hid hgsA
          have HrA := Lib.hid hrA
          have HBA := Lib.hid hBA
          have Hur := Lib.hid hur
          have Hul := Lib.hid hul
          clear hi0 hz0 hs0 hy0 hh hoA hN hgsA hrA hBA hur hul hal hgs ho HBo
          go_wp2_with (at_builtin; go_loud (refine wpList_append_at _ rfl (.tmp 64) (.tmp 66) 66 rfl w.heap.size 71 i0 (.slice none 0 0) 1 24 Try.underlying66 Hh.out.1 Hh.out.2.1 Hh.out.2.2.1 Hh.out.2.2.2 rfl (by decide) _ j _ rfl HoA.out ⟨wr.heap.size, 0, none⟩ 1 1 [.slice (some ⟨rb, 0, none⟩) n n] rfl rfl HN.out (by intro u hu; simp at hu; subst hu; rfl) (by unfold maxLen; omega) (by omega) HBA.out.size ?_); intro v' wc hown hg hnl hv; (have HM := Lib.hid (MatAt.push (f := fun j i => hbB (rOf s l) i j) HoA.out HgsA.out hws HrA.out Hur.out hown (Wrote.of_grown (R := fun x => u5.ownBlock = some x) hg (fun x hx => hx)) hv)); (have HB := Lib.hid (Wrote.below HBA.out (Wrote.of_grown (R := fun x => u5.ownBlock = some x) hg (fun x hx => hx)) HBA.out.size Hul.out)); clear hown hg hnl hv)
          go_roundw
          case rel => exact ⟨j + 1, hjn, by go_num, ⟨HM.out, HB.out⟩⟩
          case measure => simp [intOf]; omega
    · have hje : j = n := by omega
      subst hje
      go_wp2
      go_ret
      exact ⟨_, rfl, H.out.1, H.out.2⟩
end Go.Proofs.Ytadngicebbnnlaa
