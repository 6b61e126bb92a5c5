/-
  SleepAll: the walk.
-/
import Derived.Test.YtngmcbliihohcaaDoorInsert
import Derived.Test.YtngmcbliihohcaaDoorBehind
import Derived.Test.YtngmcbliihohcaaDoorSetsLaw
import Derived.Test.YtngmcbliihohcaaDoorInts
import Derived.Test.YtngmcbliihohcaaDoorApp
set_option linter.unusedSimpArgs false
set_option linter.unusedVariables false
namespace Go.Proofs.YtngmcbliihohcaaDoor
open Go.ChangeShapes Go.WideShapes Go.ChangeAt Go.RowKit Go.Deep Go.Shelf

attribute [local go_sem] Oper.semAt_some

theorem frozen_grown {W W' : World} {row : Option Nat} (hg : W.grownBy W' row) {p : Addr} {v : Value} (h : W.cell? p = some v) (hne : row ≠ some p.block) : W'.frozen? p = W.frozen? p := by
  have hl : p.block < W.heap.size := block_of_cell0 (b := p.block) (o := p.off) (sp := p.spot) h
  exact World.frozen?_of_block (hg.block p.block hl (fun e => hne (by rw [e])))
theorem infoI : (Tryd.prog.info? 3).map (fun i => (i.zero, i.size, i.bytes)) = some (some (.int .i64 0), 1, 8) := by kernel_rfl
/-- A slice of numbers of the call's own: its value, and what it reads. -/
theorem own_read {w : World} {base n : Nat} {v : Value} {xs : List Int} (h : w.ownsRow base 3 1 v n (xs.map (Value.int .i64))) :
    ∃ a c, v = .slice a n c ∧ ∀ i x, xs[i]? = some x → ∃ g, a = some ⟨g, 0, none⟩ ∧ w.cell? ⟨g, i, none⟩ = some (.int .i64 x) ∧ base ≤ g ∧ g < w.heap.size := by
  have hl : xs.length = n := by simpa using h.1
  rcases h.2 with ⟨h1, h0⟩ | ⟨g, cap, cur, rfl, hb, hg, hnc, hcm, hcs, ht⟩
  · refine ⟨none, 0, by rw [h0]; exact h1, fun i x hx => ?_⟩
    have := (List.getElem?_eq_some_iff.1 hx).1
    omega
  · refine ⟨some ⟨g, 0, none⟩, cap, rfl, fun i x hx => ⟨g, rfl, ?_, hb, (Array.getElem?_eq_some_iff.1 hg).1⟩⟩
    have hu : (xs.map (Value.int .i64))[i]? = some (.int .i64 x) := by rw [List.getElem?_map, hx]; rfl
    rw [← ht, Nat.mul_one, List.getElem?_take] at hu
    rw [cell_blk hg]
    split at hu
    · rw [← Array.getElem?_toList]; exact hu
    · cases hu
/-- The threads below k, as numbers. -/
def wl (m k : Nat) : List Int := ((List.range k).filter m.testBit).map (fun (x : Nat) => (x : Int))
theorem wl_succ (m k : Nat) : wl m (k + 1) = if m.testBit k then wl m k ++ [(k : Int)] else wl m k := by
  unfold wl
  rw [List.range_succ, List.filter_append, List.map_append]
  cases h : m.testBit k <;> simp [h]
theorem wl_len (m k : Nat) : (wl m k).length ≤ k := by
  unfold wl; rw [List.length_map]; exact Nat.le_trans (List.length_filter_le _ _) (by simp)
theorem wl_bl {m : Nat} (hm : m < 256) : wl m 8 = (bl m).map (fun t => (t.val : Int)) := by
  have all : ∀ m, m < 256 → wl m 8 = (bl m).map (fun t => (t.val : Int)) := all256 (by kernel_rfl)
  exact all m hm

theorem prefix_snoc {α : Type} {pre l : List α} {x : α} (h : pre <+: l) (hx : l[pre.length]? = some x) : pre ++ [x] <+: l := by
  obtain ⟨t, rfl⟩ := h
  rw [List.getElem?_append_right (Nat.le_refl _), Nat.sub_self] at hx
  cases t with
  | nil => cases hx
  | cons y t => simp at hx; subst hx; exact ⟨t, by simp⟩
theorem prefix_at {α : Type} {pre l : List α} {x y : α} (h : pre ++ [x] <+: l) (hy : l[pre.length]? = some y) : x = y := by
  obtain ⟨t, rfl⟩ := h
  simpa using hy

set_option maxRecDepth 100000 in
set_option maxHeartbeats 8000000 in
theorem all_law {w : World} (hT : TabOk w) {s : Nat} (hs : s < 18446744073709551616) (stop : Int) :
    Calls Tryd.prog 4 #[.int .u64 s, .int .i64 stop] w fun x w' => x = .returned (.bool true) ∧ Below w.heap.size w w' := by
  have hR := fun W => rbits_calls W hs
  have hm := Nat.mod_lt s (show 256 > 0 by omega)
  have Hall := fun W => all_calls W (s : Int)
  have hst := fun (w0 : World) (Bn n₀ : Nat) (h2 : 2 ≤ n₀) (h3 : Bn < w0.heap.size) (h4 : n₀ ≤ w0.heap.size) (h5 : TabOk w0) (h6 : w0.cell? ⟨Bn, 0, none⟩ = some (.int .u64 s)) => all_stops 9 Bn n₀ hs h2 w0 h3 h4 h5 h6
  generalize s % 256 = m at *
  obtain ⟨f, hf⟩ : ∃ f, f = m.testBit := ⟨_, rfl⟩
  rw [show bitsV m = .agg #[.bool (f 0), .bool (f 1), .bool (f 2), .bool (f 3), .bool (f 4), .bool (f 5), .bool (f 6), .bool (f 7)] by rw [hf]; rfl] at hR
  have HR := Lib.hid hR
  have HAll := Lib.hid Hall
  have Hf := Lib.hid hf
  clear hR Hall hf
  refine (callsIn_wide (n := 10)).1 ?_
  refine callsIn_of_wp_marks Tryd.func4 rfl trivial ?_ rfl
  simp only [Tryd.ntmps4, List.size_toArray, List.length_cons, List.length_nil, Nat.reduceAdd, Nat.reduceSub, Array.replicate_succ, Array.replicate_zero, List.push_toArray, List.append_toArray, List.nil_append, List.cons_append]
  refine wpIn_wide.2 ?_
  go_wp2_with fail
  obtain ⟨wa, hwa⟩ : ∃ wa, wa = w.alloc (.cells #[.int .i64 stop] 3) := ⟨_, rfl⟩
  have f0 := (cell_nw2 w #[.int .i64 stop] 3 0).1
  have z0 : wa.heap.size = w.heap.size + 1 := by rw [hwa]; simp
  have bA : Below w.heap.size w wa := by rw [hwa]; exact (Below.refl _ w).alloc (Nat.le_refl _) _
  rw [← hwa] at f0 ⊢
  obtain ⟨wb, hwb⟩ : ∃ wb, wb = wa.alloc (.cells #[.bool false] 4) := ⟨_, rfl⟩
  have f1 := cell_nw2 wa #[.bool false] 4 0
  have z1 : wb.heap.size = w.heap.size + 1 + 1 := by rw [hwb]; simp [z0]
  have bB : Below wa.heap.size wa wb := by rw [hwb]; exact (Below.refl _ wa).alloc (Nat.le_refl _) _
  rw [← hwb] at f1 ⊢
  rw [z0] at f1
  have c0 : wb.cell? ⟨w.heap.size, 0, none⟩ = some (.int .i64 stop) := (bB.cell (p := ⟨w.heap.size, 0, none⟩) (by simp only; omega)).trans f0
  obtain ⟨c1, d1⟩ : wb.cell? ⟨w.heap.size + 1, 0, none⟩ = some (.bool false) ∧ wb.frozen? ⟨w.heap.size + 1, 0, none⟩ = false := f1
  have hB := bA.trans (bB.mono (by omega))
  clear f0 bA bB hwa hwb
  refine (awake17_calls _).mono ?_
  rintro x w1 ⟨rfl, hb⟩
  have hB1 := hB.trans (hb.mono (by omega))
  have c0 := keep hb c0
  have d1 := frozen_keep hb c1 d1
  have c1 := keep hb c1
  have hz1 := hb.size
  clear hb
  go_wp2_with fail
  refine (HR.out _).mono ?_
  rintro x w2 ⟨rfl, hb⟩
  have hB2 := hB1.trans (hb.mono hB1.size)
  have c0 := keep hb c0
  have d1 := frozen_keep hb c1 d1
  have c1 := keep hb c1
  have hz2 := hb.size
  clear hb
  go_wp2_with fail
  obtain ⟨w3, hw3⟩ : ∃ w3, w3 = w2.alloc (.cells #[.bool (f 0), .bool (f 1), .bool (f 2), .bool (f 3), .bool (f 4), .bool (f 5), .bool (f 6), .bool (f 7)] 25) := ⟨_, rfl⟩
  have fa := fun o => (cell_nw2 w2 #[.bool (f 0), .bool (f 1), .bool (f 2), .bool (f 3), .bool (f 4), .bool (f 5), .bool (f 6), .bool (f 7)] 25 o).1
  have z3 : w3.heap.size = w2.heap.size + 1 := by rw [hw3]; simp
  have b3 : Below w2.heap.size w2 w3 := by rw [hw3]; exact (Below.refl _ w2).alloc (Nat.le_refl _) _
  rw [← hw3] at fa ⊢
  obtain ⟨w4, hw4⟩ : ∃ w4, w4 = w3.alloc (.cells #[.slice none 0 0] 32) := ⟨_, rfl⟩
  have fv := cell_nw2 w3 #[.slice none 0 0] 32 0
  have z4 : w4.heap.size = w2.heap.size + 1 + 1 := by rw [hw4]; simp [z3]
  have b4 : Below w3.heap.size w3 w4 := by rw [hw4]; exact (Below.refl _ w3).alloc (Nat.le_refl _) _
  rw [← hw4] at fv ⊢
  rw [z3] at fv
  have ca : ∀ t, t < 8 → w4.cell? ⟨w2.heap.size, t, none⟩ = some (.bool (f t)) := fun t ht => (b4.cell (p := ⟨w2.heap.size, t, none⟩) (by simp only; omega)).trans (eight (P := fun t => w3.cell? ⟨w2.heap.size, t, none⟩ = some (.bool (f t))) (fa 0) (fa 1) (fa 2) (fa 3) (fa 4) (fa 5) (fa 6) (fa 7) t ht)
  obtain ⟨cv, dv⟩ : w4.cell? ⟨w2.heap.size + 1, 0, none⟩ = some (.slice none 0 0) ∧ w4.frozen? ⟨w2.heap.size + 1, 0, none⟩ = false := fv
  have hbb := b3.trans (b4.mono (by omega))
  have hB4 := hB2.trans (hbb.mono hB2.size)
  have c0 := keep hbb c0
  have d1 := frozen_keep hbb c1 d1
  have c1 := keep hbb c1
  have Hca := Lib.hid ca
  obtain ⟨i0, hi, hz0, hz1', hz2'⟩ := info_parts infoI
  have Hi := Lib.hid hi
  have Hz0 := Lib.hid hz0
  have Hz1 := Lib.hid hz1'
  have Hz2 := Lib.hid hz2'
  clear fa ca hbb b3 b4 hw3 hw4 hB hB1 hB2 hi hz0 hz1' hz2'
  have hsz : w.heap.size + 1 < w2.heap.size := by omega
  generalize hb2 : w2.heap.size = b2 at *
  clear hz1 hz2 z0 z1 z3 hb2
  go_loopw [9] (fun i wr => ∃ (k : Nat) (v : Value), k ≤ 8 ∧ i = .int .i64 k ∧ wr.cell? ⟨b2 + 1, 0, none⟩ = some v ∧ wr.frozen? ⟨b2 + 1, 0, none⟩ = false ∧ Hid (wr.ownsRow (b2 + 1 + 1) 3 1 v (wl m k).length ((wl m k).map (Value.int .i64)) ∧ Below (b2 + 1) w4 wr)) (fun i _ => 8 - (intOf i).toNat)
  case atStart => exact ⟨0, .slice none 0 0, Nat.zero_le _, rfl, cv, dv, World.ownsRow_nil .., Below.refl _ _⟩
  case round =>
    obtain ⟨k, v, hk, rfl, gv, ev, H⟩ := hrel
    obtain ⟨va, vc, rfl, hrd⟩ := own_read H.out.1
    have Hrd := Lib.hid hrd
    clear hrd
    by_cases hlt : k < 8
    · have r0 := (H.out.2.cell (p := ⟨b2, k, none⟩) (by simp only; omega)).trans (Hca.out k hlt)
      have Hs := Lib.hid (wl_succ m k)
      have hwl := wl_len m k
      rcases Bool.eq_false_or_eq_true (f k) with h1 | h1
      · rw [h1] at r0
        have hq : Hid (wl m (k + 1) = wl m k ++ [(k : Int)]) := by unfold Hid; rw [Hs.out, ← Hf.out, h1]; rfl
        clear h1
        have hA : Below wr.heap.size wr (wr.alloc (.cells #[.int .i64 k] 3)) := (Below.refl _ wr).alloc (Nat.le_refl _) _
        have hsize : b2 + 1 + 1 ≤ wr.heap.size := by have := H.out.2.size; omega
        have hN : ∀ j u, [Value.int .i64 (k : Int)][j]? = some u → (wr.alloc (.cells #[.int .i64 k] 3)).cell? ((⟨wr.heap.size, 0, none⟩ : Addr).add j) = some u := fun j u hj => cells_new wr [Value.int .i64 (k : Int)] _ j u hj
        have HN := Lib.hid hN
        have HA := Lib.hid (And.intro (H.out.1.alloc (.cells #[.int .i64 k] 3)) (H.out.2.trans (hA.mono (by omega))))
        have gv2 := keep hA gv
        have ev2 := frozen_keep hA gv ev
        clear hN hA
        go_wp2_with (at_builtin; go_loud (refine wpList_append_own _ rfl (.tmp 27) (.tmp 29) 32 rfl (b2 + 1 + 1) 3 i0 (.int .i64 0) 1 8 Tryd.underlying32 Hi.out Hz0.out Hz1.out Hz2.out rfl (by decide) _ _ _ rfl HA.out.1 ⟨wr.heap.size, 0, none⟩ 1 1 [.int .i64 k] rfl rfl HN.out (by simp [Value.oneCell']) (by unfold maxLen; omega) (by omega) (by simp; omega) ?_); go_loud (intro v' w' hown hg _; have hlt' := HA.out.1.lt; have hg : (wr.alloc (.cells #[.int .i64 k] 3)).grownBy w' (Value.slice va (wl m k).length vc).ownBlock := hg; have gv3 := hg.cell gv2 (fun e => by have := (hlt' _ e.symm).1; simp only at this; omega); have ev3 := (frozen_grown hg gv2 (fun e => by have := (hlt' _ e).1; simp only at this; omega)).trans ev2; have hB' := HA.out.2.grown hg (by simp; omega) (fun q hq => by have := (hlt' q hq).1; omega); have HO := Lib.hid hown; have HBo := Lib.hid hB'; clear hlt' hown hg hB' gv2 ev2; obtain ⟨va', vc', rfl, _⟩ := own_read (xs := wl m k ++ [(k : Int)]) (by rw [List.map_append]; exact HO.out)))
        refine ⟨⟨k + 1, .slice va' ((wl m k).length + 1) vc', by omega, by go_num, World.cell?_setCell_same _ _ _ gv3, by rw [World.frozen?_setCell]; exact ev3, ?_, HBo.out.setCell (p := ⟨b2 + 1, 0, none⟩) (Nat.le_refl _) _⟩, by simp [intOf]; omega⟩
        rw [hq.out, List.length_append, List.map_append]
        exact HO.out.kept (mod_set (mod_refl w' (some (b2 + 1))) 0 _) (.inr (fun e => by have := (HO.out.lt _ e).1; omega))
      · have hq : Hid (wl m (k + 1) = wl m k) := by unfold Hid; rw [Hs.out, ← Hf.out, h1]; rfl
        rw [h1] at r0
        clear h1
        go_wp2
        go_roundw
        case rel => exact ⟨k + 1, _, by omega, by go_num, gv, ev, by rw [hq.out]; exact H.out⟩
        case measure => simp [intOf]; omega
    · have hk8 : k = 8 := by omega
      subst hk8
      clear hlt hk
      have HW := Lib.hid (hB4.trans (H.out.2.mono (by omega)))
      have c0 := (H.out.2.cell (p := ⟨w.heap.size, 0, none⟩) (by simp only; omega)).trans c0
      have d1 := (H.out.2.frozen (p := ⟨w.heap.size + 1, 0, none⟩) (by simp only; omega)).trans d1
      have c1 := (H.out.2.cell (p := ⟨w.heap.size + 1, 0, none⟩) (by simp only; omega)).trans c1
      have hNl := wl_bl hm
      have hwl8 := wl_len m 8
      generalize wl m 8 = L at *
      have hNl2 : (bl m).length = L.length := by rw [hNl, List.length_map]
      have HNl := Lib.hid hNl
      have HNl2 := Lib.hid hNl2
      clear hNl hNl2
      have hb2r : b2 + 1 + 1 ≤ wr.heap.size := by have := H.out.2.size; omega
      clear H cv dv Hca Hi Hz0 Hz1 Hz2 hB4 z4
      go_wp2_with fail
      refine (HAll.out _).mono ?_
      rintro x w' ⟨rfl, rfl⟩
      obtain ⟨wx, hwx⟩ : ∃ wx, wx = wr.alloc (.cells #[.int .i64 0] 3) := ⟨_, rfl⟩
      have fn := cell_nw2 wr #[.int .i64 0] 3 0
      have zx : wx.heap.size = wr.heap.size + 1 := by rw [hwx]; simp
      have bX : Below wr.heap.size wr wx := by rw [hwx]; exact (Below.refl _ wr).alloc (Nat.le_refl _) _
      rw [← hwx] at fn ⊢
      rw [zx]
      obtain ⟨W0, hW0⟩ : ∃ W0, W0 = wx.alloc (.cells #[.int .u64 s] 24) := ⟨_, rfl⟩
      have fs := (cell_nw2 wx #[.int .u64 s] 24 0).1
      have zy : W0.heap.size = wr.heap.size + 1 + 1 := by rw [hW0]; simp [zx]
      have bY : Below wx.heap.size wx W0 := by rw [hW0]; exact (Below.refl _ wx).alloc (Nat.le_refl _) _
      rw [← hW0] at fs ⊢
      rw [zx] at fs
      obtain ⟨cn, en⟩ : W0.cell? ⟨wr.heap.size, 0, none⟩ = some (.int .i64 0) ∧ W0.frozen? ⟨wr.heap.size, 0, none⟩ = false := ⟨keep bY fn.1, frozen_keep bY fn.1 fn.2⟩
      have bXY := bX.trans (bY.mono (by omega))
      have hT0 : TabOk W0 := (hT.below HW.out).below bXY
      clear fn bX bY hwx hW0
      go_wp2_with fail
      refine (wpIn_wide (n := 10)).1 ?_
      refine wpIn_rangeFunc_ownF rfl (by omega) (gf := 36) (lb := #[.pointer (some ⟨wr.heap.size + 1, 0, none⟩)]) rfl trivial (enters_of Tryd.func36 (by kernel_rfl) rfl)
        (hst W0 (wr.heap.size + 1) wr.heap.size (by omega) (by omega) (by omega) hT0 fs) belowK_t (belowK_b (by omega)) (Below.refl _ _) (fun _ => rfl)
        (fun pre W => (pre <+: bl m ∧ W.cell? ⟨wr.heap.size, 0, none⟩ = some (.int .i64 (pre.length : Int)) ∧ W.frozen? ⟨wr.heap.size, 0, none⟩ = false) ∧ Below wr.heap.size W0 W)
        (fun c pre W => (c = .ret ∧ ¬ (pre <+: bl m)) ∨ (c = .exit 2 ∧ ((pre.length : Int) = stop ∧ pre <+: bl m ∧ W.cell? ⟨wr.heap.size, 0, none⟩ = some (.int .i64 (pre.length : Int)) ∧ W.frozen? ⟨wr.heap.size, 0, none⟩ = false) ∧ Below wr.heap.size W0 W))
        (OwnFrom.and (Own.from (fun s A B row hs hg hr => ⟨hs.1, cell_kept hs.2.1 hg hr, (frozen_kept hs.2.1 hg hr).trans hs.2.2⟩) _) (ownFrom_below (by omega) (by omega)))
        (fun c s A B row hs hg hr => hs.elim .inl (fun h => .inr ⟨h.1, ⟨h.2.1.1, h.2.1.2.1, cell_kept h.2.1.2.2.1 hg (fun r e => (hr r e).2), (frozen_kept h.2.1.2.2.1 hg (fun r e => (hr r e).2)).trans h.2.1.2.2.2⟩, ownFrom_below (β := Unit) (show wr.heap.size ≤ W0.heap.size by omega) (show wr.heap.size ≤ W0.heap.size by omega) () A B row h.2.2 hg hr⟩))
        ⟨⟨List.nil_prefix, cn, en⟩, Below.refl _ _⟩
        ?a1 ?assign ?body ?done ?stop
      case assign =>
        intro l x W K hK
        simp [encT]
        gi_wp2
        exact hK
      case body =>
        rintro l pre x W ⟨⟨hp, hc, hf⟩, hB⟩ hlen
        have hBr := bXY.trans hB
        have k0 := (hBr.cell (p := ⟨w.heap.size, 0, none⟩) (by simp only; omega)).trans c0
        have k1 := (hBr.cell (p := ⟨w.heap.size + 1, 0, none⟩) (by simp only; omega)).trans c1
        have e1 := (hBr.frozen (p := ⟨w.heap.size + 1, 0, none⟩) (by simp only; omega)).trans d1
        have kv := (hBr.cell (p := ⟨b2 + 1, 0, none⟩) (by simp only; omega)).trans gv
        have hsz2 := hBr.size
        by_cases hge : L.length ≤ pre.length
        · have hno : ¬ (pre ++ [x] <+: bl m) := fun h => by have := h.length_le; have h9 := HNl2.out; simp at this; omega
          have Hno := Lib.hid hno
          clear hno hp
          gi_wp2
          exact ⟨KeepsOthers.setCell _ _ _, .inl ⟨rfl, Hno.out⟩⟩
        · obtain ⟨y, hy⟩ : ∃ y, L[pre.length]? = some y := ⟨_, List.getElem?_eq_getElem (by omega)⟩
          obtain ⟨g, rfl, hcg, hg1, hg2⟩ := Hrd.out pre.length y hy
          have hcg := (hBr.cell (p := ⟨g, pre.length, none⟩) (by simp only; omega)).trans hcg
          rw [HNl.out, List.getElem?_map] at hy
          obtain ⟨t, ht, rfl⟩ := Option.map_eq_some_iff.1 hy
          by_cases hxy : x = t
          · have hp2 := prefix_snoc hp (show (bl m)[pre.length]? = some x by rw [hxy]; exact ht)
            have he : ((x.val : Int) == (t.val : Int)) = true := by rw [hxy]; simp
            have he2 : ((x.val : Int) != (t.val : Int)) = false := by rw [hxy]; simp
            have Hp2 := Lib.hid hp2
            clear hp2 hp hy ht hxy
            by_cases hstp : ((pre.length : Int) + 1) = stop
            · have hs1 : ((pre.length : Int) + 1 == stop) = true := by simpa using hstp
              have Hs1 := Lib.hid hstp
              clear hstp
              gi_wp2
              exact ⟨KeepsOthers.setCell _ _ _, .inr ⟨rfl, ⟨by rw [← Hs1.out]; simp, Hp2.out, by rw [World.cell?_setCell_same' _ _ _ (by rw [hc]; rfl)]; simp, by rw [World.frozen?_setCell]; exact hf⟩, hB.setCell (p := ⟨wr.heap.size, 0, none⟩) (Nat.le_refl _) _⟩⟩
            · have hs1 : ((pre.length : Int) + 1 == stop) = false := by simpa using hstp
              clear hstp
              gi_wp2
              exact ⟨KeepsOthers.setCell _ _ _, (Below.refl _ _).setCell (p := ⟨wr.heap.size, 0, none⟩) (Nat.le_refl _) _, ⟨Hp2.out, by rw [World.cell?_setCell_same' _ _ _ (by rw [hc]; rfl)]; simp, by rw [World.frozen?_setCell]; exact hf⟩, hB.setCell (p := ⟨wr.heap.size, 0, none⟩) (Nat.le_refl _) _⟩
          · have hno : ¬ (pre ++ [x] <+: bl m) := fun h => hxy (prefix_at h ht)
            have hv : ¬ (x.val : Int) = (t.val : Int) := fun h => hxy (Fin.ext (by omega))
            have he : ((x.val : Int) == (t.val : Int)) = false := by simpa using hv
            have he2 : ((x.val : Int) != (t.val : Int)) = true := by simpa using hv
            have Hno := Lib.hid hno
            clear hno hp hy ht hxy hv
            gi_wp2
            exact ⟨KeepsOthers.setCell _ _ _, .inl ⟨rfl, Hno.out⟩⟩
      case done =>
        rintro D ys W hD rfl ⟨⟨_, hc, hf⟩, hB⟩ hK
        have hn1 : ((bl m).length : Int) = (L.length : Int) ∨ ((bl m).length : Int) = stop := .inl (by have h9 := HNl2.out; omega)
        obtain ⟨n1, hnn⟩ : ∃ n1, n1 = (bl m).length := ⟨_, rfl⟩
        rw [← hnn] at hc hn1
        clear hnn
        have hBr := bXY.trans hB
        have hsW := hBr.size
        have hDlt := (Array.getElem?_eq_some_iff.1 hK).1
        have k0 := (hBr.cell (p := ⟨w.heap.size, 0, none⟩) (by simp only; omega)).trans c0
        have k1 := (hBr.cell (p := ⟨w.heap.size + 1, 0, none⟩) (by simp only; omega)).trans c1
        have e1 := (hBr.frozen (p := ⟨w.heap.size + 1, 0, none⟩) (by simp only; omega)).trans d1
        have kv := (hBr.cell (p := ⟨b2 + 1, 0, none⟩) (by simp only; omega)).trans gv
        have hHW : Below w.heap.size w W := HW.out.trans (hBr.mono (by omega))
        have hnl : wr.heap.size < W.heap.size := block_of_cell0 hc
        go_wp2_with fail
        refine (HAll.out _).mono ?_
        rintro x w' ⟨rfl, rfl⟩
        obtain ⟨wy, hwy⟩ : ∃ wy, wy = W.alloc (.cells #[.int .i64 0] 3) := ⟨_, rfl⟩
        have fn := cell_nw2 W #[.int .i64 0] 3 0
        have zx2 : wy.heap.size = W.heap.size + 1 := by rw [hwy]; simp
        have bX : Below W.heap.size W wy := by rw [hwy]; exact (Below.refl _ W).alloc (Nat.le_refl _) _
        rw [← hwy] at fn ⊢
        rw [zx2]
        obtain ⟨Wz, hWz⟩ : ∃ Wz, Wz = wy.alloc (.cells #[.int .u64 s] 24) := ⟨_, rfl⟩
        have fs2 := (cell_nw2 wy #[.int .u64 s] 24 0).1
        have zy2 : Wz.heap.size = W.heap.size + 1 + 1 := by rw [hWz]; simp [zx2]
        have bY : Below wy.heap.size wy Wz := by rw [hWz]; exact (Below.refl _ wy).alloc (Nat.le_refl _) _
        rw [← hWz] at fs2 ⊢
        rw [zx2] at fs2
        obtain ⟨cm, em⟩ : Wz.cell? ⟨W.heap.size, 0, none⟩ = some (.int .i64 0) ∧ Wz.frozen? ⟨W.heap.size, 0, none⟩ = false := ⟨keep bY fn.1, frozen_keep bY fn.1 fn.2⟩
        have bZ := bX.trans (bY.mono (by omega))
        have hTz : TabOk Wz := (hT.below hHW).below bZ
        clear fn bX bY hwy hWz
        go_wp2_with fail
        refine (wpIn_wide (n := 10)).1 ?_
        refine wpIn_rangeFunc_ownF rfl (by omega) (gf := 36) (lb := #[.pointer (some ⟨W.heap.size + 1, 0, none⟩)]) rfl trivial (enters_of Tryd.func36 (by kernel_rfl) rfl)
          (hst Wz (W.heap.size + 1) W.heap.size (by omega) (by omega) (by omega) hTz fs2) belowK_t (belowK_b (by omega)) (Below.refl _ _) (fun _ => rfl)
          (fun pre V => (pre <+: bl m ∧ V.cell? ⟨W.heap.size, 0, none⟩ = some (.int .i64 (pre.length : Int)) ∧ V.frozen? ⟨W.heap.size, 0, none⟩ = false) ∧ Below W.heap.size Wz V)
          (fun c pre V => (c = .ret ∧ ¬ (pre <+: bl m)) ∨ False)
          (OwnFrom.and (Own.from (fun s A B row hs hg hr => ⟨hs.1, cell_kept hs.2.1 hg hr, (frozen_kept hs.2.1 hg hr).trans hs.2.2⟩) _) (ownFrom_below (by omega) (by omega)))
          (fun c s A B row hs hg hr => hs)
          ⟨⟨List.nil_prefix, cm, em⟩, Below.refl _ _⟩
          ?a12 ?assign2 ?body2 ?done2 ?stop2
        case assign2 =>
          intro l x W K hK
          simp [encT]
          gi_wp2
          exact hK
        case body2 =>
          rintro l pre x V ⟨⟨hp, hc, hf⟩, hB⟩ hlen
          have hBz := bZ.trans hB
          have k0 := (hBz.cell (p := ⟨w.heap.size, 0, none⟩) (by simp only; omega)).trans k0
          have e1 := (hBz.frozen (p := ⟨w.heap.size + 1, 0, none⟩) (by simp only; omega)).trans e1
          have k1 := (hBz.cell (p := ⟨w.heap.size + 1, 0, none⟩) (by simp only; omega)).trans k1
          have kv := (hBz.cell (p := ⟨b2 + 1, 0, none⟩) (by simp only; omega)).trans kv
          have hsz2 := hBz.size
          have hBr := hBr.trans (hBz.mono (by omega))
          by_cases hge : L.length ≤ pre.length
          · have hno : ¬ (pre ++ [x] <+: bl m) := fun h => by have := h.length_le; have h9 := HNl2.out; simp at this; omega
            have Hno := Lib.hid hno
            clear hno hp
            gi_wp2
            exact ⟨KeepsOthers.setCell _ _ _, .inl ⟨rfl, Hno.out⟩⟩
          · obtain ⟨y, hy⟩ : ∃ y, L[pre.length]? = some y := ⟨_, List.getElem?_eq_getElem (by omega)⟩
            obtain ⟨g, rfl, hcg, hg1, hg2⟩ := Hrd.out pre.length y hy
            have hcg := (hBr.cell (p := ⟨g, pre.length, none⟩) (by simp only; omega)).trans hcg
            rw [HNl.out, List.getElem?_map] at hy
            obtain ⟨t, ht, rfl⟩ := Option.map_eq_some_iff.1 hy
            by_cases hxy : x = t
            · have hp2 := prefix_snoc hp (show (bl m)[pre.length]? = some x by rw [hxy]; exact ht)
              have he : ((x.val : Int) == (t.val : Int)) = true := by rw [hxy]; simp
              have he2 : ((x.val : Int) != (t.val : Int)) = false := by rw [hxy]; simp
              have Hp2 := Lib.hid hp2
              clear hp2 hp hy ht hxy
              gi_wp2
              exact ⟨KeepsOthers.setCell _ _ _, (Below.refl _ _).setCell (p := ⟨W.heap.size, 0, none⟩) (Nat.le_refl _) _, ⟨Hp2.out, by rw [World.cell?_setCell_same' _ _ _ (by rw [hc]; rfl)]; simp, by rw [World.frozen?_setCell]; exact hf⟩, hB.setCell (p := ⟨W.heap.size, 0, none⟩) (Nat.le_refl _) _⟩
            · have hno : ¬ (pre ++ [x] <+: bl m) := fun h => hxy (prefix_at h ht)
              have hv : ¬ (x.val : Int) = (t.val : Int) := fun h => hxy (Fin.ext (by omega))
              have he : ((x.val : Int) == (t.val : Int)) = false := by simpa using hv
              have he2 : ((x.val : Int) != (t.val : Int)) = true := by simpa using hv
              have Hno := Lib.hid hno
              clear hno hp hy ht hxy hv
              gi_wp2
              exact ⟨KeepsOthers.setCell _ _ _, .inl ⟨rfl, Hno.out⟩⟩
        case done2 =>
          rintro D2 ys V hD2 rfl ⟨⟨_, hc2, hf2⟩, hB2⟩ hK2
          have hBz := bZ.trans hB2
          have k0 := (hBz.cell (p := ⟨w.heap.size, 0, none⟩) (by simp only; omega)).trans k0
          have e1 := (hBz.frozen (p := ⟨w.heap.size + 1, 0, none⟩) (by simp only; omega)).trans e1
          have k1 := (hBz.cell (p := ⟨w.heap.size + 1, 0, none⟩) (by simp only; omega)).trans k1
          have kv := (hBz.cell (p := ⟨b2 + 1, 0, none⟩) (by simp only; omega)).trans kv
          have hc1 := (hBz.cell (p := ⟨wr.heap.size, 0, none⟩) (by simp only; omega)).trans hc
          have hK1 := (hBz.block D hDlt).trans hK
          have hsV := hBz.size
          rw [HNl2.out] at hc2
          have HBV := Lib.hid (hHW.trans (hBz.mono (by omega)))
          have hne : D ≠ D2 := by omega
          clear hBr hsW hHW hBz hB2
          have hn2 : ((n1 : Int) == (L.length : Int)) = true ∨ (((n1 : Int) == (L.length : Int)) = false ∧ ((n1 : Int) == stop) = true) := by
            rcases hn1 with h | h
            · exact .inl (by simpa using h)
            · rcases Bool.eq_false_or_eq_true ((n1 : Int) == (L.length : Int)) with h' | h'
              · exact .inl h'
              · exact .inr ⟨h', by simpa using h⟩
          clear hn1 hst
          rcases hn2 with h1 | ⟨h1, h2⟩
          all_goals
            go_wp2
            have hV : KeepsOthers V (V.setCell ⟨w.heap.size + 1, 0, none⟩ (.bool true)) := KeepsOthers.setCell _ _ _
            have hK2' := hV.same D2 _ hK2 rfl
            have hK1' := hV.same D _ hK1 rfl
            refine ⟨by simp, .inl ⟨_, _, rfl, run_takeDeferred hK2', ?_⟩⟩
            have hK1'' := ((grownBy_putObj' _ D2 (.deferred none)).block D (Array.getElem?_eq_some_iff.1 hK1').1 (by simpa using hne)).trans hK1'
            refine ⟨by simp, .inl ⟨_, _, rfl, run_takeDeferred hK1'', ?_⟩⟩
            have hr0 : (V.setCell ⟨w.heap.size + 1, 0, none⟩ (.bool true)).cell? ⟨w.heap.size + 1, 0, none⟩ = some (.bool true) := World.cell?_setCell_same' _ _ _ (by rw [k1]; rfl)
            have hr1 := cell_kept hr0 (grownBy_putObj' _ D2 (.deferred none)) (fun r e => by cases e; exact ⟨_, hK2', rfl⟩)
            have hr2 := cell_kept hr1 (grownBy_putObj' _ D (.deferred none)) (fun r e => by cases e; exact ⟨_, hK1'', rfl⟩)
            refine ⟨.bool true, ?_, rfl, ((HBV.out.setCell (p := ⟨w.heap.size + 1, 0, none⟩) (by simp) _).trans (belowK_b (w := w) (Nat.le_refl _) _ D2 _ _ (by omega) hK2' rfl rfl)).trans (belowK_b (w := w) (Nat.le_refl _) _ D _ _ (by omega) hK1'' rfl rfl)⟩
            simp [results, Tryd.f4, go_sem, hr2]
        case stop2 =>
          rintro D2 c pre V hD2 hpre hx hK2
          rcases hx with ⟨rfl, hno⟩ | h
          · exact absurd hpre hno
          · exact h.elim
      case stop =>
        rintro D c pre W hD hpre hx hK
        rcases hx with ⟨rfl, hno⟩ | ⟨rfl, ⟨hst1, _, hc, hf⟩, hB⟩
        · exact absurd hpre hno
        · have hn1 : (pre.length : Int) = (L.length : Int) ∨ (pre.length : Int) = stop := .inr hst1
          generalize pre.length = n1 at hc hn1
          clear hst1
          gi_wp2
          have hBr := bXY.trans hB
          have hsW := hBr.size
          have hDlt := (Array.getElem?_eq_some_iff.1 hK).1
          have k0 := (hBr.cell (p := ⟨w.heap.size, 0, none⟩) (by simp only; omega)).trans c0
          have k1 := (hBr.cell (p := ⟨w.heap.size + 1, 0, none⟩) (by simp only; omega)).trans c1
          have e1 := (hBr.frozen (p := ⟨w.heap.size + 1, 0, none⟩) (by simp only; omega)).trans d1
          have kv := (hBr.cell (p := ⟨b2 + 1, 0, none⟩) (by simp only; omega)).trans gv
          have hHW : Below w.heap.size w W := HW.out.trans (hBr.mono (by omega))
          have hnl : wr.heap.size < W.heap.size := block_of_cell0 hc
          go_wp2_with fail
          refine (HAll.out _).mono ?_
          rintro x w' ⟨rfl, rfl⟩
          obtain ⟨wy, hwy⟩ : ∃ wy, wy = W.alloc (.cells #[.int .i64 0] 3) := ⟨_, rfl⟩
          have fn := cell_nw2 W #[.int .i64 0] 3 0
          have zx2 : wy.heap.size = W.heap.size + 1 := by rw [hwy]; simp
          have bX : Below W.heap.size W wy := by rw [hwy]; exact (Below.refl _ W).alloc (Nat.le_refl _) _
          rw [← hwy] at fn ⊢
          rw [zx2]
          obtain ⟨Wz, hWz⟩ : ∃ Wz, Wz = wy.alloc (.cells #[.int .u64 s] 24) := ⟨_, rfl⟩
          have fs2 := (cell_nw2 wy #[.int .u64 s] 24 0).1
          have zy2 : Wz.heap.size = W.heap.size + 1 + 1 := by rw [hWz]; simp [zx2]
          have bY : Below wy.heap.size wy Wz := by rw [hWz]; exact (Below.refl _ wy).alloc (Nat.le_refl _) _
          rw [← hWz] at fs2 ⊢
          rw [zx2] at fs2
          obtain ⟨cm, em⟩ : Wz.cell? ⟨W.heap.size, 0, none⟩ = some (.int .i64 0) ∧ Wz.frozen? ⟨W.heap.size, 0, none⟩ = false := ⟨keep bY fn.1, frozen_keep bY fn.1 fn.2⟩
          have bZ := bX.trans (bY.mono (by omega))
          have hTz : TabOk Wz := (hT.below hHW).below bZ
          clear fn bX bY hwy hWz
          go_wp2_with fail
          refine (wpIn_wide (n := 10)).1 ?_
          refine wpIn_rangeFunc_ownF rfl (by omega) (gf := 36) (lb := #[.pointer (some ⟨W.heap.size + 1, 0, none⟩)]) rfl trivial (enters_of Tryd.func36 (by kernel_rfl) rfl)
            (hst Wz (W.heap.size + 1) W.heap.size (by omega) (by omega) (by omega) hTz fs2) belowK_t (belowK_b (by omega)) (Below.refl _ _) (fun _ => rfl)
            (fun pre V => (pre <+: bl m ∧ V.cell? ⟨W.heap.size, 0, none⟩ = some (.int .i64 (pre.length : Int)) ∧ V.frozen? ⟨W.heap.size, 0, none⟩ = false) ∧ Below W.heap.size Wz V)
            (fun c pre V => (c = .ret ∧ ¬ (pre <+: bl m)) ∨ False)
            (OwnFrom.and (Own.from (fun s A B row hs hg hr => ⟨hs.1, cell_kept hs.2.1 hg hr, (frozen_kept hs.2.1 hg hr).trans hs.2.2⟩) _) (ownFrom_below (by omega) (by omega)))
            (fun c s A B row hs hg hr => hs)
            ⟨⟨List.nil_prefix, cm, em⟩, Below.refl _ _⟩
            ?a13 ?assign3 ?body3 ?done3 ?stop3
          case assign3 =>
            intro l x W K hK
            simp [encT]
            gi_wp2
            exact hK
          case body3 =>
            rintro l pre x V ⟨⟨hp, hc, hf⟩, hB⟩ hlen
            have hBz := bZ.trans hB
            have k0 := (hBz.cell (p := ⟨w.heap.size, 0, none⟩) (by simp only; omega)).trans k0
            have e1 := (hBz.frozen (p := ⟨w.heap.size + 1, 0, none⟩) (by simp only; omega)).trans e1
            have k1 := (hBz.cell (p := ⟨w.heap.size + 1, 0, none⟩) (by simp only; omega)).trans k1
            have kv := (hBz.cell (p := ⟨b2 + 1, 0, none⟩) (by simp only; omega)).trans kv
            have hsz2 := hBz.size
            have hBr := hBr.trans (hBz.mono (by omega))
            by_cases hge : L.length ≤ pre.length
            · have hno : ¬ (pre ++ [x] <+: bl m) := fun h => by have := h.length_le; have h9 := HNl2.out; simp at this; omega
              have Hno := Lib.hid hno
              clear hno hp
              gi_wp2
              exact ⟨KeepsOthers.setCell _ _ _, .inl ⟨rfl, Hno.out⟩⟩
            · obtain ⟨y, hy⟩ : ∃ y, L[pre.length]? = some y := ⟨_, List.getElem?_eq_getElem (by omega)⟩
              obtain ⟨g, rfl, hcg, hg1, hg2⟩ := Hrd.out pre.length y hy
              have hcg := (hBr.cell (p := ⟨g, pre.length, none⟩) (by simp only; omega)).trans hcg
              rw [HNl.out, List.getElem?_map] at hy
              obtain ⟨t, ht, rfl⟩ := Option.map_eq_some_iff.1 hy
              by_cases hxy : x = t
              · have hp2 := prefix_snoc hp (show (bl m)[pre.length]? = some x by rw [hxy]; exact ht)
                have he : ((x.val : Int) == (t.val : Int)) = true := by rw [hxy]; simp
                have he2 : ((x.val : Int) != (t.val : Int)) = false := by rw [hxy]; simp
                have Hp2 := Lib.hid hp2
                clear hp2 hp hy ht hxy
                gi_wp2
                exact ⟨KeepsOthers.setCell _ _ _, (Below.refl _ _).setCell (p := ⟨W.heap.size, 0, none⟩) (Nat.le_refl _) _, ⟨Hp2.out, by rw [World.cell?_setCell_same' _ _ _ (by rw [hc]; rfl)]; simp, by rw [World.frozen?_setCell]; exact hf⟩, hB.setCell (p := ⟨W.heap.size, 0, none⟩) (Nat.le_refl _) _⟩
              · have hno : ¬ (pre ++ [x] <+: bl m) := fun h => hxy (prefix_at h ht)
                have hv : ¬ (x.val : Int) = (t.val : Int) := fun h => hxy (Fin.ext (by omega))
                have he : ((x.val : Int) == (t.val : Int)) = false := by simpa using hv
                have he2 : ((x.val : Int) != (t.val : Int)) = true := by simpa using hv
                have Hno := Lib.hid hno
                clear hno hp hy ht hxy hv
                gi_wp2
                exact ⟨KeepsOthers.setCell _ _ _, .inl ⟨rfl, Hno.out⟩⟩
          case done3 =>
            rintro D2 ys V hD2 rfl ⟨⟨_, hc2, hf2⟩, hB2⟩ hK2
            have hBz := bZ.trans hB2
            have k0 := (hBz.cell (p := ⟨w.heap.size, 0, none⟩) (by simp only; omega)).trans k0
            have e1 := (hBz.frozen (p := ⟨w.heap.size + 1, 0, none⟩) (by simp only; omega)).trans e1
            have k1 := (hBz.cell (p := ⟨w.heap.size + 1, 0, none⟩) (by simp only; omega)).trans k1
            have kv := (hBz.cell (p := ⟨b2 + 1, 0, none⟩) (by simp only; omega)).trans kv
            have hc1 := (hBz.cell (p := ⟨wr.heap.size, 0, none⟩) (by simp only; omega)).trans hc
            have hK1 := (hBz.block D hDlt).trans hK
            have hsV := hBz.size
            rw [HNl2.out] at hc2
            have HBV := Lib.hid (hHW.trans (hBz.mono (by omega)))
            have hne : D ≠ D2 := by omega
            clear hBr hsW hHW hBz hB2
            have hn2 : ((n1 : Int) == (L.length : Int)) = true ∨ (((n1 : Int) == (L.length : Int)) = false ∧ ((n1 : Int) == stop) = true) := by
              rcases hn1 with h | h
              · exact .inl (by simpa using h)
              · rcases Bool.eq_false_or_eq_true ((n1 : Int) == (L.length : Int)) with h' | h'
                · exact .inl h'
                · exact .inr ⟨h', by simpa using h⟩
            clear hn1 hst
            rcases hn2 with h1 | ⟨h1, h2⟩
            all_goals
              go_wp2
              have hV : KeepsOthers V (V.setCell ⟨w.heap.size + 1, 0, none⟩ (.bool true)) := KeepsOthers.setCell _ _ _
              have hK2' := hV.same D2 _ hK2 rfl
              have hK1' := hV.same D _ hK1 rfl
              refine ⟨by simp, .inl ⟨_, _, rfl, run_takeDeferred hK2', ?_⟩⟩
              have hK1'' := ((grownBy_putObj' _ D2 (.deferred none)).block D (Array.getElem?_eq_some_iff.1 hK1').1 (by simpa using hne)).trans hK1'
              refine ⟨by simp, .inl ⟨_, _, rfl, run_takeDeferred hK1'', ?_⟩⟩
              have hr0 : (V.setCell ⟨w.heap.size + 1, 0, none⟩ (.bool true)).cell? ⟨w.heap.size + 1, 0, none⟩ = some (.bool true) := World.cell?_setCell_same' _ _ _ (by rw [k1]; rfl)
              have hr1 := cell_kept hr0 (grownBy_putObj' _ D2 (.deferred none)) (fun r e => by cases e; exact ⟨_, hK2', rfl⟩)
              have hr2 := cell_kept hr1 (grownBy_putObj' _ D (.deferred none)) (fun r e => by cases e; exact ⟨_, hK1'', rfl⟩)
              refine ⟨.bool true, ?_, rfl, ((HBV.out.setCell (p := ⟨w.heap.size + 1, 0, none⟩) (by simp) _).trans (belowK_b (w := w) (Nat.le_refl _) _ D2 _ _ (by omega) hK2' rfl rfl)).trans (belowK_b (w := w) (Nat.le_refl _) _ D _ _ (by omega) hK1'' rfl rfl)⟩
              simp [results, Tryd.f4, go_sem, hr2]
          case stop3 =>
            rintro D2 c pre V hD2 hpre hx hK2
            rcases hx with ⟨rfl, hno⟩ | h
            · exact absurd hpre hno
            · exact h.elim
end Go.Proofs.YtngmcbliihohcaaDoor
