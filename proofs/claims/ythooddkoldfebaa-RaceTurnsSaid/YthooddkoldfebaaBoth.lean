/-
  Of, whatever the list; awake; both.
-/
import Derived.Test.YthooddkoldfebaaBef
import Derived.Test.YthooddkoldfebaaRBef
import Derived.Test.YthooddkoldfebaaOrdOf
set_option linter.unusedSimpArgs false
set_option linter.unusedVariables false
namespace Go.Proofs.Ythooddkoldfebaa
open Go.ChangeShapes Go.WideShapes Go.ChangeAt Go.RowKit Go.Deep

def ORPost (l : List Ev) (n : Nat) (w : World) (x : Ending) (w' : World) : Prop :=
  Below w.heap.size w w' ∧
  ((wrongS n l ≠ 0 ∧ x = .returned (.tuple #[.pointer none, .int .i64 (wrongS n l)])) ∨
   (wrongS n l = 0 ∧ GoodL n l ∧ ∃ b v, x = .returned (.tuple #[.pointer (some ⟨b, 0, none⟩), .int .i64 0]) ∧ OrdAt w' w.heap.size b v l n))
theorem good_of {w : World} {a0 : Option Addr} {n c : Nat} {l : List Ev} (h : IsEvs w a0 n c l) (hn : n ≤ 100) {S : LogS} (hR : ofS l = (S, 0, 0)) : GoodL n l :=
  ⟨h.len, hn, fun _ e he => goOf_right l log0 0 (by unfold ofS at hR; rw [hR]) e (List.mem_of_getElem? he)⟩
theorem order_calls {w : World} {a0 : Option Addr} {n c : Nat} {l : List Ev} (h : IsEvs w a0 n c l) :
    Calls Try.prog 21 #[.slice a0 n c] w (ORPost l n w) := by
  by_cases h100 : 100 < n
  · have hw : wrongS n l = 122 := if_pos h100
    refine (ord_long h h100).mono ?_
    rintro x w' ⟨hb, h1 | ⟨h1, _⟩ | ⟨h1, _⟩⟩
    · exact ⟨hb, .inl ⟨by rw [hw]; decide, by rw [hw]; exact h1.2⟩⟩
    · omega
    · omega
  · have hn : n ≤ 100 := by omega
    have hw : wrongS n l = (ofS l).2.1 := if_neg h100
    rcases ofS_cases l with ⟨S, hR, _, _⟩ | ⟨S, z, p, hR, hz⟩
    · have hw0 : wrongS n l = 0 := by rw [hw, hR]
      refine (ord_good h hn hR).mono ?_
      rintro x w' ⟨hb, h1 | ⟨_, h1, _⟩ | ⟨_, _, b, v, h1, h2⟩⟩
      · omega
      · rw [hR] at h1; exact absurd rfl h1
      · exact ⟨hb, .inr ⟨hw0, good_of h hn hR, b, v, h1, h2⟩⟩
    · have hw0 : wrongS n l = z := by rw [hw, hR]
      refine (ord_bad h hn hR hz).mono ?_
      rintro x w' ⟨hb, h1 | ⟨_, _, h1⟩ | ⟨_, h1, _⟩⟩
      · omega
      · exact ⟨hb, .inl ⟨by rw [hw0]; exact hz, by rw [hw]; exact h1⟩⟩
      · rw [hR] at h1; exact absurd h1 hz

def two0 : List Ev := [⟨0, 1, 0, 0, 0⟩, ⟨0, 1, 0, 0, 0⟩]
theorem two_wrong : wrongS 2 two0 = 0 := by decide
theorem two_bef : befB 2 (rD two0) 0 1 = true := by
  have : befB 2 (rD two0) ((0 : Nat) : Int) ((1 : Nat) : Int) = true := by
    rw [befB_nat (by omega) (by omega), hbB_iff]
    exact .one (by omega) (rD_same rfl)
  exact this
theorem two_evs (w : World) : IsEvs (w.alloc (.cells #[.int .i64 0, .int .i64 1, .int .i64 0, .int .i64 0, .int .i64 0, .int .i64 0, .int .i64 1, .int .i64 0, .int .i64 0, .int .i64 0] 33)) (some ⟨w.heap.size, 0, none⟩) 2 2 two0 := by
  refine ⟨⟨rfl, fun _ => ⟨w.heap.size, 0, rfl, fun j u hj => ?_⟩⟩, rfl, Nat.le_refl _, by unfold maxLen; omega, fun e he => ?_⟩
  · rw [Nat.zero_add]; exact cell_new (by rw [← Array.getElem?_toList]; exact hj)
  · simp only [two0, List.mem_cons, List.not_mem_nil, or_false, or_self] at he
    subst he
    exact ⟨Fit.of (by decide) (by decide), Fit.of (by decide) (by decide), Fit.of (by decide) (by decide), Fit.of (by decide) (by decide), Fit.of (by decide) (by decide)⟩
set_option maxHeartbeats 2000000 in
theorem oawake_calls (w : World) : Calls Try.prog 16 #[] w fun e w' => e = .returned (.bool true) ∧ Below w.heap.size w w' := by
  have hE := two_evs w
  have hbE : Below w.heap.size w (w.alloc (.cells #[.int .i64 0, .int .i64 1, .int .i64 0, .int .i64 0, .int .i64 0, .int .i64 0, .int .i64 1, .int .i64 0, .int .i64 0, .int .i64 0] 33)) := (Below.refl _ w).alloc (Nat.le_refl _) _
  have HE := Lib.hid hE
  have HbE := Lib.hid hbE
  clear hE hbE
  go_enter Try.func16, Try.ntmps16
  go_wp2_with fail
  refine (order_calls HE.out).mono ?_
  rintro x w1 ⟨hb, ⟨h1, _⟩ | ⟨_, hg, b, v, rfl, hO⟩⟩
  · exact absurd two_wrong h1
  have hB1 : Below w.heap.size w w1 := HbE.out.trans (hb.mono HbE.out.size)
  have HG := Lib.hid hg
  have HO := Lib.hid hO
  clear hb hO HE HbE hg
  go_wp2_with fail
  refine (before_calls HO.out HG.out 0 1).mono ?_
  rintro x w2 ⟨rfl, hb⟩
  have hB2 : Below w.heap.size w w2 := hB1.trans (hb.mono hB1.size)
  rw [two_bef]
  clear hb hB1 HO
  go_wp2
  go_ret
  exact ⟨rfl, hB2⟩

theorem ReadRun.wantedT {P : Program} {ops : Array Oper} {S : World → Prop} {F : Act → Prop} {o : Oper} {rest : List Oper} {a : Act} {v : Value} (hg : Region.wanted o (yielded ops a.tmps) = true)
    (h : ∀ w, S w → (execOp a.eval o).run P w = .ok (.value v) w) (hr : ReadRun P ops S F rest (a.put o.dst v)) : ReadRun P ops S F (o :: rest) a := ⟨v, .inl ⟨hg, h⟩, hr⟩
theorem ReadRun.skip {P : Program} {ops : Array Oper} {S : World → Prop} {F : Act → Prop} {o : Oper} {rest : List Oper} {a : Act} (hg : Region.wanted o (yielded ops a.tmps) = false)
    (hr : ReadRun P ops S F rest (a.put o.dst undef)) : ReadRun P ops S F (o :: rest) a := ⟨undef, .inr ⟨hg, rfl⟩, hr⟩

theorem results_row4 {P : Program} {fn : Func} {m p q r : Tmp} {ty : TypeId} (h : fn.results = #[.tmp m, .cell p ty, .tmp q, .tmp r]) (tmps : Array Value) (w : World) (g : Nat) (t : TypeId) (cs : Array Value) (fr : Nat × Nat) (d : TypeDesc)
    (hp : tmps.getD p undef = .pointer (some ⟨g, 0, none⟩)) (hg : w.heap[g]? = some (.cells cs t fr))
    (hu : P.underlying ty = some d) (hd : (match d with | .struct _ | .array _ _ => true | _ => false) = true) (hi : (P.info? ty).map (·.size) = some cs.size) :
    (results fn tmps).run P w = .ok (.tuple #[tmps.getD m undef, .agg cs, tmps.getD q undef, tmps.getD r undef]) w := by
  have hp' : tmps[p]?.getD undef = .pointer (some ⟨g, 0, none⟩) := by simpa using hp
  simp [results, h, hp', asAddr, run_loadVar_row w g t ty cs fr d hg hu hd hi]

theorem OrdAt.apart {w w' : World} {B B' b : Nat} {v : Value} {l : List Ev} {n y : Nat} (h : OrdAt w B b v l n) (hB : B' ≤ B) (hy : y < B) (hb : y ≠ b) (hw : ∀ x, x ≠ y → w'.heap[x]? = w.heap[x]?) : OrdAt w' B' b v l n :=
  ⟨(hw b (fun e => hb e.symm)).trans h.blk, ownsRow_base (ownsRow_at h.own (fun g hg => hw g (by have := (h.own.lt g hg).1; omega))) hB, h.ne⟩

/-- What both hands back. -/
def BothPost (a0 : Option Addr) (l : List Ev) (n c : Nat) (w : World) (x : Ending) (w' : World) : Prop :=
  Below w.heap.size w w' ∧
  ((wrongS n l ≠ 0 ∧ x = .returned (.tuple #[.pointer none, .agg #[.slice none 0 0, .slice none 0 0, .slice none 0 0], .bool false, .bool true])) ∨
   (wrongS n l = 0 ∧ GoodL n l ∧ ∃ b v v1 v2 B, x = .returned (.tuple #[.pointer (some ⟨b, 0, none⟩), .agg #[.slice a0 n c, v1, v2], .bool true, .bool true]) ∧ OrdAt w' w.heap.size b v l n ∧
     MatAt w' B v1 n n (fun j i => hbB (rD l) i j) ∧ MatAt w' B v2 n n (fun j i => hbB (rS l) i j)))

set_option maxRecDepth 20000 in
set_option maxHeartbeats 8000000 in
theorem both_calls {w : World} {a0 : Option Addr} {n c : Nat} {l : List Ev} (h : IsEvs w a0 n c l) :
    Calls Try.prog 17 #[.slice a0 n c] w (BothPost a0 l n c w) := by
  have hb0 : Below w.heap.size w (w.alloc (.cells #[.slice none 0 0, .slice none 0 0, .slice none 0 0] 27)) := (Below.refl _ w).alloc (Nat.le_refl _) _
  have Hev := Lib.hid h
  have Hc := Lib.hid (order_calls (h.below hb0))
  have Hb0 := Lib.hid hb0
  have hR0 := (MapKept.heap_alloc w (.cells #[.slice none 0 0, .slice none 0 0, .slice none 0 0] 27)).1
  have HR0 := Lib.hid hR0
  clear hb0 hR0 h
  go_enter Try.func17, Try.ntmps17
  go_wp2_with fail
  refine Hc.out.mono ?_
  rintro x w1 ⟨hb, ⟨h1, rfl⟩ | ⟨h1, hg, b, v, rfl, hO⟩⟩
  · have hp : ∀ w', Below w.heap.size w w' → BothPost a0 l n c w (.returned (.tuple #[.pointer none, .agg #[.slice none 0 0, .slice none 0 0, .slice none 0 0], .bool false, .bool true])) w' := fun w' hb => ⟨hb, .inl ⟨h1, rfl⟩⟩
    have Hp := Lib.hid hp
    clear hp
    have hR1 := (hb.block _ (by simp)).trans HR0.out
    have hB1 : Below w.heap.size w w1 := Hb0.out.trans (hb.mono (by simp))
    have hne := h1
    have hz : (wrongS n l != 0) = true := by simpa using h1
    have HB1 := Lib.hid hB1
    have HR1 := Lib.hid hR1
    have Hc2 := Lib.hid (rord_calls (Hev.out.below hB1))
    clear hb hR1 hB1 Hc HR0 Hb0 hne
    go_wp2_with fail
    refine Hc2.out.mono ?_
    rintro x w2 ⟨hb, ⟨_, rfl⟩ | ⟨h2, _⟩⟩
    case inr => exact absurd h2 h1
    have hR2 := (hb.block _ (Array.getElem?_eq_some_iff.1 HR1.out).1).trans HR1.out
    have hB2 := HB1.out.trans (hb.mono HB1.out.size)
    have HR2 := Lib.hid hR2
    have HB2 := Lib.hid hB2
    clear hb hR2 hB2 Hc2 HR1 HB1 h1
    generalize wrongS n l = z at *
    go_wp2_with fail
    have N3 := (MapKept.heap_alloc w2 (.cells #[.slice none 0 0, .slice none 0 0, .slice none 0 0] 27)).1
    have b3 : Below w2.heap.size w2 (w2.alloc (.cells #[.slice none 0 0, .slice none 0 0, .slice none 0 0] 27)) := (Below.refl _ w2).alloc (Nat.le_refl _) _
    revert N3 b3
    generalize w2.alloc (.cells #[.slice none 0 0, .slice none 0 0, .slice none 0 0] 27) = w3
    intro N3 b3
    have R3 := (b3.block _ (Array.getElem?_eq_some_iff.1 HR2.out).1).trans HR2.out
    have B3 : Below w.heap.size w w3 := HB2.out.trans (b3.mono HB2.out.size)
    have s0 : w3.cell? ⟨w2.heap.size, 0, none⟩ = some (.slice none 0 0) := cell_of_block N3
    have s1 : w3.cell? ⟨w2.heap.size, 1, none⟩ = some (.slice none 0 0) := cell_of_block N3
    have s2 : w3.cell? ⟨w2.heap.size, 2, none⟩ = some (.slice none 0 0) := cell_of_block N3
    have HR3 := Lib.hid R3
    have HB3 := Lib.hid B3

    clear R3 B3 N3
    have hS3 : w3.cell? ⟨w2.heap.size, 0, none⟩ = some (.slice none 0 0) ∧ w3.cell? ⟨w2.heap.size, 1, none⟩ = some (.slice none 0 0) ∧ w3.cell? ⟨w2.heap.size, 2, none⟩ = some (.slice none 0 0) := ⟨s0, s1, s2⟩
    have hne2 : w2.heap.size ≠ w.heap.size := by have := (Array.getElem?_eq_some_iff.1 HR2.out).1; omega
    refine wp_plan3_draw 11 [0, 1, 2, 3, 4, 5, 6, 7, 8] [9] [10] (fun w' => w'.cell? ⟨w2.heap.size, 0, none⟩ = some (.slice none 0 0) ∧ w'.cell? ⟨w2.heap.size, 1, none⟩ = some (.slice none 0 0) ∧ w'.cell? ⟨w2.heap.size, 2, none⟩ = some (.slice none 0 0)) mixed (by kernel_rfl) (fun c a d v w h => by cases d <;> exact h) hS3 ?_
    simp only [picks, List.map_cons, List.map_nil, List.getD_cons_zero, List.getD_cons_succ]
    repeat ((first | ((apply ReadRun.go rfl); (intro w1 hS; go_simp; first | done | exact rfl)) | ((apply ReadRun.wantedT rfl); (intro w1 hS; go_simp; first | done | exact rfl)) | (refine ReadRun.skip rfl ?_)); (simp only [Act.put, List.setIfInBounds_toArray, List.set_cons_zero, List.set_cons_succ]))
    refine ReadRun.done ?_
    refine MakeRun.go rfl (fun K hK => ?_)
    have hb4 : Below w3.heap.size w3 w3.drew := (Below.refl _ w3).drew
    have R4 : w3.drew.heap[w.heap.size]? = some (.cells #[.slice none 0 0, .slice none 0 0, .slice none 0 0] 27 (0, 0)) := HR3.out
    have B4 : Below w.heap.size w w3.drew := HB3.out.drew
    have R5 := setRow_heap w3.drew w.heap.size _ #[.slice none 0 0, .slice none 0 0, .slice none 0 0] _ _ R4
    have B5 := below_setRow B4 (Nat.le_refl _) #[.slice none 0 0, .slice none 0 0, .slice none 0 0]
    have HR5 := Lib.hid R5
    have HB5 := Lib.hid B5
    refine wp_store_row 27 (.tmp 3) (.tmp 22) rfl w.heap.size #[.slice none 0 0, .slice none 0 0, .slice none 0 0] rfl rfl 27 _ R4 (by kernel_rfl) rfl (by simp [Value.oneCell']) ?_
    refine hK _ _ ⟨⟨(cell_setRow_other _ _ _ _ hne2).trans s0, (cell_setRow_other _ _ _ _ hne2).trans s1, (cell_setRow_other _ _ _ _ hne2).trans s2⟩, ?_⟩
    clear hK
    refine MakeRun.done ?_
    simp only [Act.put, List.setIfInBounds_toArray, List.set_cons_zero, List.set_cons_succ]
    repeat ((first | ((apply ReadRun.go rfl); (intro w1 hS; go_simp; first | done | exact rfl)) | ((apply ReadRun.wantedT rfl); (intro w1 hS; go_simp; first | done | exact rfl)) | (refine ReadRun.skip rfl ?_)); (simp only [Act.put, List.setIfInBounds_toArray, List.set_cons_zero, List.set_cons_succ]))
    refine ReadRun.done ?_

    clear R4 B4 R5 B5 hb4 s0 s1 s2 b3 hS3
    go_wp2
    (try simp only [Exit.inBlock, Exit.then])
    refine bodyPost_ret (results_row4 rfl _ _ w.heap.size 27 _ (0, 0) _ rfl HR5.out Try.underlying27 rfl (by kernel_rfl)) rfl ?_
    exact Hp.out _ HB5.out
  · have hR1 := (hb.block _ (by simp)).trans HR0.out
    have hB1 : Below w.heap.size w w1 := Hb0.out.trans (hb.mono (by simp))
    have HB1 := Lib.hid hB1
    have HR1 := Lib.hid hR1
    have HRx := Lib.hid hR1
    have HG := Lib.hid hg
    have HZ := Lib.hid h1
    have HO := Lib.hid hO
    have Hc2 := Lib.hid (rord_calls (Hev.out.below hB1))
    have Hs0 := Lib.hid (show w.heap.size ≤ (w.alloc (.cells #[.slice none 0 0, .slice none 0 0, .slice none 0 0] 27)).heap.size by simp)
    clear hb hR1 hB1 Hc HR0 Hb0 hg hO h1
    go_wp2_with fail
    refine Hc2.out.mono ?_
    rintro x w2 ⟨hb, ⟨h2, _⟩ | ⟨_, v1, v2, rfl, hM1, hM2⟩⟩
    · exact absurd HZ.out h2
    obtain ⟨sa, sp, sq, rfl⟩ := hM1.slice
    obtain ⟨ta, tp, tq, rfl⟩ := hM2.slice
    have hR2 := (hb.block _ (Array.getElem?_eq_some_iff.1 HR1.out).1).trans HR1.out
    have hB2 := HB1.out.trans (hb.mono HB1.out.size)
    have hO2 := HO.out.below hb
    have HO2 := Lib.hid hO2
    have HR2 := Lib.hid hR2
    have HB2 := Lib.hid hB2
    have HM1 := Lib.hid hM1
    have HM2 := Lib.hid hM2
    clear hb hR2 hB2 Hc2 HR1 hM1 hM2 hO2 HO
    go_wp2_with fail
    have N3 := (MapKept.heap_alloc w2 (.cells #[.slice a0 n c, .slice sa sp sq, .slice ta tp tq] 27)).1
    have b3 : Below w2.heap.size w2 (w2.alloc (.cells #[.slice a0 n c, .slice sa sp sq, .slice ta tp tq] 27)) := (Below.refl _ w2).alloc (Nat.le_refl _) _
    revert N3 b3
    generalize w2.alloc (.cells #[.slice a0 n c, .slice sa sp sq, .slice ta tp tq] 27) = w3
    intro N3 b3
    have R3 := (b3.block _ (Array.getElem?_eq_some_iff.1 HR2.out).1).trans HR2.out
    have B3 : Below w.heap.size w w3 := HB2.out.trans (b3.mono HB2.out.size)
    have s0 : w3.cell? ⟨w2.heap.size, 0, none⟩ = some (.slice a0 n c) := cell_of_block N3
    have s1 : w3.cell? ⟨w2.heap.size, 1, none⟩ = some (.slice sa sp sq) := cell_of_block N3
    have s2 : w3.cell? ⟨w2.heap.size, 2, none⟩ = some (.slice ta tp tq) := cell_of_block N3
    have HR3 := Lib.hid R3
    have HB3 := Lib.hid B3
    have HO3 := Lib.hid (And.intro (HO2.out.below b3) (And.intro (HM1.out.below b3) (HM2.out.below b3)))
    clear R3 B3 N3
    have hS3 : w3.cell? ⟨w2.heap.size, 0, none⟩ = some (.slice a0 n c) ∧ w3.cell? ⟨w2.heap.size, 1, none⟩ = some (.slice sa sp sq) ∧ w3.cell? ⟨w2.heap.size, 2, none⟩ = some (.slice ta tp tq) := ⟨s0, s1, s2⟩
    have hne2 : w2.heap.size ≠ w.heap.size := by have := (Array.getElem?_eq_some_iff.1 HR2.out).1; omega
    refine wp_plan3_draw 11 [0, 1, 2, 3, 4, 5, 6, 7, 8] [9] [10] (fun w' => w'.cell? ⟨w2.heap.size, 0, none⟩ = some (.slice a0 n c) ∧ w'.cell? ⟨w2.heap.size, 1, none⟩ = some (.slice sa sp sq) ∧ w'.cell? ⟨w2.heap.size, 2, none⟩ = some (.slice ta tp tq)) mixed (by kernel_rfl) (fun c a d v w h => by cases d <;> exact h) hS3 ?_
    simp only [picks, List.map_cons, List.map_nil, List.getD_cons_zero, List.getD_cons_succ]
    repeat ((first | ((apply ReadRun.go rfl); (intro w1 hS; go_simp; first | done | exact rfl)) | ((apply ReadRun.wantedT rfl); (intro w1 hS; go_simp; first | done | exact rfl)) | (refine ReadRun.skip rfl ?_)); (simp only [Act.put, List.setIfInBounds_toArray, List.set_cons_zero, List.set_cons_succ]))
    refine ReadRun.done ?_
    refine MakeRun.go rfl (fun K hK => ?_)
    have hb4 : Below w3.heap.size w3 w3.drew := (Below.refl _ w3).drew
    have R4 : w3.drew.heap[w.heap.size]? = some (.cells #[.slice none 0 0, .slice none 0 0, .slice none 0 0] 27 (0, 0)) := HR3.out
    have B4 : Below w.heap.size w w3.drew := HB3.out.drew
    have R5 := setRow_heap w3.drew w.heap.size _ #[.slice a0 n c, .slice sa sp sq, .slice ta tp tq] _ _ R4
    have B5 := below_setRow B4 (Nat.le_refl _) #[.slice a0 n c, .slice sa sp sq, .slice ta tp tq]
    have HR5 := Lib.hid R5
    have HB5 := Lib.hid B5
    refine wp_store_row 27 (.tmp 3) (.tmp 31) rfl w.heap.size #[.slice a0 n c, .slice sa sp sq, .slice ta tp tq] rfl rfl 27 _ R4 (by kernel_rfl) rfl (by simp [Value.oneCell']) ?_
    refine hK _ _ ⟨⟨(cell_setRow_other _ _ _ _ hne2).trans s0, (cell_setRow_other _ _ _ _ hne2).trans s1, (cell_setRow_other _ _ _ _ hne2).trans s2⟩, ?_⟩
    clear hK
    refine MakeRun.done ?_
    simp only [Act.put, List.setIfInBounds_toArray, List.set_cons_zero, List.set_cons_succ]
    repeat ((first | ((apply ReadRun.go rfl); (intro w1 hS; go_simp; first | done | exact rfl)) | ((apply ReadRun.wantedT rfl); (intro w1 hS; go_simp; first | done | exact rfl)) | (refine ReadRun.skip rfl ?_)); (simp only [Act.put, List.setIfInBounds_toArray, List.set_cons_zero, List.set_cons_succ]))
    refine ReadRun.done ?_
    have O5 := HO3.out.1.below hb4
    have M15 := HO3.out.2.1.below hb4
    have M25 := HO3.out.2.2.below hb4
    have h45 := hb4.size
    have HX := Lib.hid (And.intro O5 (And.intro M15 M25))
    clear O5 M15 M25
    clear R4 B4 R5 B5 hb4 s0 s1 s2 b3 hS3
    go_wp2
    (try simp only [Exit.inBlock, Exit.then])
    refine bodyPost_ret (results_row4 rfl _ _ w.heap.size 27 _ (0, 0) _ rfl HR5.out Try.underlying27 rfl (by kernel_rfl)) rfl ?_
    have hlt := HB1.out.size
    have hl1 : w.heap.size < w1.heap.size := (Array.getElem?_eq_some_iff.1 HRx.out).1
    refine ⟨HB5.out, .inr ⟨HZ.out, HG.out, b, v, .slice sa sp sq, .slice ta tp tq, w1.heap.size, rfl, ?_, HX.out.2.1.aside (Nat.le_refl _) (fun x h1 _ => setRow_other _ _ _ _ (by omega)), HX.out.2.2.aside (Nat.le_refl _) (fun x h1 _ => setRow_other _ _ _ _ (by omega))⟩⟩
    exact HX.out.1.apart (y := w.heap.size) Hs0.out (by simp) (by intro e; have h1 := HO2.out.blk; rw [← e, HR2.out] at h1; simp at h1) (fun x hx => setRow_other _ _ _ _ hx)
end Go.Proofs.Ythooddkoldfebaa
