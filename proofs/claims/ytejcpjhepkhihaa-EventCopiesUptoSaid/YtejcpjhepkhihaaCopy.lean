/-
  Copy of a log.
-/
import Derived.Test.YtejcpjhepkhihaaCanLaw
import Derived.Test.YtejcpjhepkhihaaEvRow
import Derived.Test.YtejcpjhepkhihaaReg2
set_option linter.unusedSimpArgs false
set_option linter.unusedVariables false
namespace Go.Proofs.Ytejcpjhepkhihaa
open Go.ChangeShapes Go.WideShapes Go.ChangeAt Go.RowKit Go.Deep

theorem one_cells (l : List Ev) : ∀ u ∈ evCells l, u.oneCell' = true := by
  intro u hu
  simp only [evCells, List.mem_flatMap] at hu
  obtain ⟨e, _, he⟩ := hu
  exact vals_one e u he

set_option maxHeartbeats 1000000 in
theorem clonee_calls {w : World} {B b : Nat} {vl va : Value} {S : LogS} (h : LogAt w B b vl va S) (hcap : S.l.length * 40 ≤ 140737488355328) :
    Calls Try.prog 60 #[vl] w fun e w' => ∃ v, e = .returned v ∧ w'.ownsRow w.heap.size 23 5 v S.l.length (evCells S.l) ∧ (S.l = [] → v = .slice none 0 0) ∧ Below w.heap.size w w' := by
  obtain ⟨i0, hi, hz0, hz1, hz2⟩ := info_parts infoEv
  have Hi := Lib.hid hi
  have Hz0 := Lib.hid hz0
  have Hz1 := Lib.hid hz1
  have Hz2 := Lib.hid hz2
  clear hi hz0 hz1 hz2
  have hnil := fun W a n c => Lib.run_eql_slice_nil (P := Try.prog) W 24 23 a n c 0 0 Try.underlying24
  rcases h.ev.2 with ⟨hv, h0⟩ | ⟨g, cap, cur, hv, _⟩
  · have hl : S.l = [] := List.eq_nil_of_length_eq_zero h0
    have Hl := Lib.hid hl
    clear h hl h0
    subst hv
    rw [Hl.out]
    go_enter Try.func60, Try.ntmps60
    go_wp2
    go_ret
    exact ⟨_, rfl, World.ownsRow_nil _ _ _ _, fun _ => rfl, by go_grown⟩
  · subst hv
    have hpos : 1 ≤ S.l.length := by
      rcases Nat.eq_zero_or_pos S.l.length with h0 | h0
      · have := (h.nl (List.eq_nil_of_length_eq_zero h0)).1
        cases this
      · exact h0
    have hcells := h.ev.cells (g := g) rfl
    have hnews : ∀ j u, (evCells S.l)[j]? = some u → (w.alloc (.cells #[] 23)).cell? ((⟨g, 0, none⟩ : Addr).add j) = some u := fun j u hu => keep (W := w) ((Below.refl w.heap.size w).alloc (Nat.le_refl _) (.cells #[] 23)) (hcells j u hu)
    have hnl : (evCells S.l).length = S.l.length * 5 := by rw [evCells, flat_len Ev.vals 5 (fun _ => rfl)]
    have hco : ∀ u ∈ evCells S.l, u.oneCell' = true := one_cells _
    have Hn := Lib.hid hnews
    have Hnl := Lib.hid hnl
    have Hco := Lib.hid hco
    clear h hcells hnews hnl hco
    go_enter Try.func60, Try.ntmps60
    go_wp2_with (at_builtin; go_loud (refine wpList_append_own _ rfl (.tmp 5) (.tmp 6) 24 rfl w.heap.size 23 i0 (.agg #[.int .i64 0, .int .i64 0, .int .i64 0, .int .i64 0, .int .i64 0]) 5 40 Try.underlying24 Hi.out Hz0.out Hz1.out Hz2.out rfl (by decide) _ 0 [] rfl (World.ownsRow_made w #[] 0 (Nat.le_refl _) (Nat.zero_le _) rfl) ⟨g, 0, none⟩ S.l.length cap (evCells S.l) rfl Hnl.out Hn.out Hco.out (by unfold maxLen; omega) (by omega) (by simp) ?_); intro v' w' hown hg hnl2; clear hnl2)
    go_ret
    have hbel : Below w.heap.size w w' := ((Below.refl _ _).alloc (Nat.le_refl _) _).grown hg (by simp) (fun k hk => by cases hk; exact Nat.le_refl _)
    exact ⟨v', rfl, by simpa using hown, fun hl => by rw [hl] at hpos; simp at hpos, hbel⟩

set_option maxHeartbeats 1000000 in
theorem clonea_calls {w : World} {B b : Nat} {vl va : Value} {S : LogS} (h : LogAt w B b vl va S) (hcap : S.l.length * 40 ≤ 140737488355328) :
    Calls Try.prog 61 #[va] w fun e w' => ∃ v, e = .returned v ∧ w'.ownsRow w.heap.size 64 1 v S.l.length (S.l.map abVal) ∧ (S.l = [] → v = .slice none 0 0) ∧ Below w.heap.size w w' := by
  obtain ⟨i0, hi, hz0, hz1, hz2⟩ := info_parts infoAb
  have Hi := Lib.hid hi
  have Hz0 := Lib.hid hz0
  have Hz1 := Lib.hid hz1
  have Hz2 := Lib.hid hz2
  clear hi hz0 hz1 hz2
  have hnil := fun W a n c => Lib.run_eql_slice_nil (P := Try.prog) W 70 64 a n c 0 0 Try.underlying70
  rcases h.ab.2 with ⟨hv, h0⟩ | ⟨g, cap, cur, hv, _⟩
  · have hl : S.l = [] := List.eq_nil_of_length_eq_zero h0
    have Hl := Lib.hid hl
    clear h hl h0
    subst hv
    rw [Hl.out]
    go_enter Try.func61, Try.ntmps61
    go_wp2
    go_ret
    exact ⟨_, rfl, World.ownsRow_nil _ _ _ _, fun _ => rfl, by go_grown⟩
  · subst hv
    have hpos : 1 ≤ S.l.length := by
      rcases Nat.eq_zero_or_pos S.l.length with h0 | h0
      · have := (h.nl (List.eq_nil_of_length_eq_zero h0)).2
        cases this
      · exact h0
    have hcells := h.ab.cells (g := g) rfl
    have hnews : ∀ j u, (S.l.map abVal)[j]? = some u → (w.alloc (.cells #[] 64)).cell? ((⟨g, 0, none⟩ : Addr).add j) = some u := fun j u hu => keep (W := w) ((Below.refl w.heap.size w).alloc (Nat.le_refl _) (.cells #[] 64)) (hcells j u hu)
    have hnl : (S.l.map abVal).length = S.l.length * 1 := by rw [List.length_map, Nat.mul_one]
    have hco : ∀ u ∈ S.l.map abVal, u.oneCell' = true := (by intro u hu; rw [List.mem_map] at hu; obtain ⟨e, _, rfl⟩ := hu; rfl)
    have Hn := Lib.hid hnews
    have Hnl := Lib.hid hnl
    have Hco := Lib.hid hco
    clear h hcells hnews hnl hco
    go_enter Try.func61, Try.ntmps61
    go_wp2_with (at_builtin; go_loud (refine wpList_append_own _ rfl (.tmp 5) (.tmp 6) 70 rfl w.heap.size 64 i0 (.nilIface) 1 16 Try.underlying70 Hi.out Hz0.out Hz1.out Hz2.out rfl (by decide) _ 0 [] rfl (World.ownsRow_made w #[] 0 (Nat.le_refl _) (Nat.zero_le _) rfl) ⟨g, 0, none⟩ S.l.length cap (S.l.map abVal) rfl Hnl.out Hn.out Hco.out (by unfold maxLen; omega) (by omega) (by simp) ?_); intro v' w' hown hg hnl2; clear hnl2)
    go_ret
    have hbel : Below w.heap.size w w' := ((Below.refl _ _).alloc (Nat.le_refl _) _).grown hg (by simp) (fun k hk => by cases hk; exact Nat.le_refl _)
    exact ⟨v', rfl, by simpa using hown, fun hl => by rw [hl] at hpos; simp at hpos, hbel⟩

theorem infoLog : (Try.prog.info? 73).map (·.size) = some 26 := by kernel_rfl

theorem own_sl {w : World} {B : Nat} {e : TypeId} {size : Nat} {v : Value} {n : Nat} {xs : List Value} (h : w.ownsRow B e size v n xs) : ∃ a m c, v = .slice a m c := by
  rcases h.2 with ⟨rfl, _⟩ | ⟨g, cap, cur, rfl, _⟩
  · exact ⟨_, _, _, rfl⟩
  · exact ⟨_, _, _, rfl⟩
theorem own_low {w : World} {B B' : Nat} {e : TypeId} {size : Nat} {v : Value} {n : Nat} {xs : List Value} (h : w.ownsRow B e size v n xs) (hB : B' ≤ B) : w.ownsRow B' e size v n xs := by
  refine ⟨h.1, ?_⟩
  rcases h.2 with hn | ⟨g, cap, cur, rfl, hb, r⟩
  · exact .inl hn
  · exact .inr ⟨g, cap, cur, rfl, Nat.le_trans hB hb, r⟩
theorem copied {w3 : World} {q : Nat} {v1 v2 : Value} {S : LogS} {cs : Array Value} (hn3 : w3.heap[q]? = some (.cells cs 73 (0, 0))) (hsz : cs.size = 26)
    (hci : ∀ i, i < 8 → cs[2 + i * 2]? = some (.int .i64 (S.st i)) ∧ cs[2 + i * 2 + 1]? = some (.int .i64 (S.la i)) ∧ cs[18 + i]? = some (.int .i64 (S.ow i)))
    (h1 : w3.ownsRow (q + 1) 23 5 v1 S.l.length (evCells S.l)) (h2 : w3.ownsRow (q + 1) 64 1 v2 S.l.length (S.l.map abVal))
    (n1 : S.l = [] → v1 = .slice none 0 0) (n2 : S.l = [] → v2 = .slice none 0 0) :
    LogAt ((w3.setCell ⟨q, 0, none⟩ v1).setCell ⟨q, 1, none⟩ v2) q q v1 v2 S := by
  have oth : ∀ g, g ≠ q → ((w3.setCell ⟨q, 0, none⟩ v1).setCell ⟨q, 1, none⟩ v2).heap[g]? = w3.heap[g]? := fun g hg => (Below.heap_setCell _ _ _ _ hg).trans (Below.heap_setCell _ _ _ _ hg)
  refine ⟨Nat.le_refl _, ⟨_, heap_set (heap_set hn3 v1) v2, by simpa using hsz, ?_, ?_, fun i hi => ?_⟩, ?_, ?_, fun h => ⟨n1 h, n2 h⟩⟩
  · rw [Array.getElem?_setIfInBounds_ne (by omega)]; simp [hsz]
  · simp [hsz]
  · obtain ⟨a1, a2, a3⟩ := hci i hi
    rw [Array.getElem?_setIfInBounds_ne (by omega), Array.getElem?_setIfInBounds_ne (by omega), Array.getElem?_setIfInBounds_ne (by omega), Array.getElem?_setIfInBounds_ne (by omega), Array.getElem?_setIfInBounds_ne (by omega), Array.getElem?_setIfInBounds_ne (by omega)]
    exact ⟨a1, a2, a3⟩
  · exact own_low (ownsRow_at h1 (fun g hg => oth g (by have := (h1.lt g hg).1; omega))) (Nat.le_succ q)
  · exact own_low (ownsRow_at h2 (fun g hg => oth g (by have := (h2.lt g hg).1; omega))) (Nat.le_succ q)

set_option maxRecDepth 20000 in
set_option maxHeartbeats 4000000 in
theorem lcopy_calls {w : World} {B b : Nat} {vl va : Value} {S : LogS} (h : LogAt w B b vl va S) (hcap : S.l.length * 40 ≤ 140737488355328) :
    Calls Try.prog 39 #[.pointer (some ⟨b, 0, none⟩)] w fun e w' => ∃ b' vl' va', e = .returned (.pointer (some ⟨b', 0, none⟩)) ∧ LogAt w' w.heap.size b' vl' va' S ∧ Below w.heap.size w w' := by
  obtain ⟨cs, hblk, hsz, hc0, hc1, hci⟩ := h.blk
  have hone : cs.all (·.oneCell') = true := by
    have hv : ∀ v n xs e size, w.ownsRow B e size v n xs → v.oneCell' = true := fun v n xs e size ho => by
      rcases ho.2 with ⟨rfl, _⟩ | ⟨g, cap, cur, rfl, _⟩ <;> rfl
    rw [Array.all_eq_true]
    intro i hi
    have hq : ∀ u, cs[i]? = some u → u.oneCell' = true → cs[i].oneCell' = true := fun u hu h1 => by
      rw [Array.getElem?_eq_getElem hi] at hu
      cases hu; exact h1
    rcases Nat.lt_or_ge i 2 with h2 | h2
    · obtain rfl | rfl : i = 0 ∨ i = 1 := by omega
      · exact hq _ hc0 (hv _ _ _ _ _ h.ev)
      · exact hq _ hc1 (hv _ _ _ _ _ h.ab)
    · rcases Nat.lt_or_ge i 18 with h3 | h3
      · have h4 := hci ((i - 2) / 2) (by omega)
        obtain h5 | h5 : 2 + (i - 2) / 2 * 2 = i ∨ 2 + (i - 2) / 2 * 2 + 1 = i := by omega
        · exact hq _ (by rw [← h5]; exact h4.1) rfl
        · exact hq _ (by rw [← h5]; exact h4.2.1) rfl
      · have h4 := hci (i - 18) (by omega)
        exact hq _ (by rw [show i = 18 + (i - 18) by omega]; exact h4.2.2) rfl
  have H := Lib.hid h
  have Hci := Lib.hid hci
  have Hone := Lib.hid hone
  have Hblk := Lib.hid hblk
  have c1 := h.cl
  have c2 := h.ca
  have hblt := h.lt
  clear h hci hone hblk hc0 hc1
  go_enter Try.func39, Try.ntmps39
  go_wp2_with (first | (refine wpList_load_row rfl 73 (.tmp 5) rfl b rfl 73 cs (0, 0) _ Hblk.out Try.underlying73 rfl (by rw [hsz]; exact infoLog) ?_) | (refine wpList_store_row rfl 73 (.tmp 3) (.tmp 6) rfl w.heap.size cs rfl rfl 73 _ (MapKept.heap_alloc w _).1 (by rw [hsz]; exact infoLog) (by rw [hsz]; rfl) Hone.out ?_))
  have hrow := row_made w #[.slice none 0 0, .slice none 0 0, .int .i64 0, .int .i64 0, .int .i64 0, .int .i64 0, .int .i64 0, .int .i64 0, .int .i64 0, .int .i64 0, .int .i64 0, .int .i64 0, .int .i64 0, .int .i64 0, .int .i64 0, .int .i64 0, .int .i64 0, .int .i64 0, .int .i64 0, .int .i64 0, .int .i64 0, .int .i64 0, .int .i64 0, .int .i64 0, .int .i64 0, .int .i64 0] cs 73
  have hlt := row_lt w #[.slice none 0 0, .slice none 0 0, .int .i64 0, .int .i64 0, .int .i64 0, .int .i64 0, .int .i64 0, .int .i64 0, .int .i64 0, .int .i64 0, .int .i64 0, .int .i64 0, .int .i64 0, .int .i64 0, .int .i64 0, .int .i64 0, .int .i64 0, .int .i64 0, .int .i64 0, .int .i64 0, .int .i64 0, .int .i64 0, .int .i64 0, .int .i64 0, .int .i64 0, .int .i64 0] cs 73
  revert hrow hlt
  generalize ((w.alloc (.cells #[.slice none 0 0, .slice none 0 0, .int .i64 0, .int .i64 0, .int .i64 0, .int .i64 0, .int .i64 0, .int .i64 0, .int .i64 0, .int .i64 0, .int .i64 0, .int .i64 0, .int .i64 0, .int .i64 0, .int .i64 0, .int .i64 0, .int .i64 0, .int .i64 0, .int .i64 0, .int .i64 0, .int .i64 0, .int .i64 0, .int .i64 0, .int .i64 0, .int .i64 0, .int .i64 0] 73)).setRow w.heap.size cs) = w1
  rintro ⟨hn1, hb1⟩ hlt
  have H1 := Lib.hid (H.out.below hb1)
  have Hn1 := Lib.hid hn1
  have HB1 := Lib.hid hb1
  have d1 := keep hb1 c1
  have d2 := keep hb1 c2
  clear hn1 hb1 c1 c2 H
  refine wp_plan2_draw 14 [0, 1, 2, 3, 5, 6, 7, 8] [4, 9, 10, 11, 12, 13] (fun w' => w'.cell? ⟨b, 0, none⟩ = some vl ∧ w'.cell? ⟨b, 1, none⟩ = some va) mixed (by kernel_rfl) noPanicOn ⟨d1, d2⟩ ?_
  simp only [picks, List.map_cons, List.map_nil, List.getD_cons_zero, List.getD_cons_succ]
  try simp only [Act.put, List.setIfInBounds_toArray, List.set_cons_zero, List.set_cons_succ]
  repeat ((apply ReadRun.go rfl); (intro w1 hS; go_simp; first | done | exact rfl); (simp only [Act.put, List.setIfInBounds_toArray, List.set_cons_zero, List.set_cons_succ]))
  refine ReadRun.done ?_
  refine MakeRun.go rfl (fun K hK => ?_)
  have hdr : Below w1.heap.size w1 w1.drew := (Below.refl _ w1).drew
  go_wp2_with fail
  refine (clonee_calls (H1.out.below hdr) hcap).mono ?_
  rintro e w2 ⟨v1, rfl, ho1, hnl1, hb⟩
  have hb2 := hdr.trans (hb.mono (Nat.le_refl _))
  have H2 := Lib.hid (H1.out.below hb2)
  have HO1 := Lib.hid (And.intro ho1 hnl1)
  have HB2 := Lib.hid hb2
  clear hb hb2 ho1 hnl1 hdr H1
  (try go_wp2_with fail)
  refine ⟨⟨H2.out.cl, H2.out.ca⟩, ?_⟩
  try simp only [Act.put, List.setIfInBounds_toArray, List.set_cons_zero, List.set_cons_succ]
  refine MakeRun.go rfl (fun K hK => ?_)
  go_wp2_with fail
  refine (clonea_calls H2.out hcap).mono ?_
  rintro e w3 ⟨v2, rfl, ho2, hnl2, hb⟩
  have H3 := Lib.hid (H2.out.below hb)
  have HO2 := Lib.hid (And.intro ho2 hnl2)
  have HB3 := Lib.hid hb
  clear hb ho2 hnl2 H2
  (try go_wp2_with fail)
  refine ⟨⟨H3.out.cl, H3.out.ca⟩, ?_⟩
  try simp only [Act.put, List.setIfInBounds_toArray, List.set_cons_zero, List.set_cons_succ]
  obtain ⟨p1, q1, r1, rfl⟩ := own_sl HO1.out.1
  obtain ⟨p2, q2, r2, rfl⟩ := own_sl HO2.out.1
  have hs12 : w1.heap.size ≤ w2.heap.size := HB2.out.size
  have hs23 : w2.heap.size ≤ w3.heap.size := HB3.out.size
  have hn3 : w3.heap[w.heap.size]? = some (.cells cs 73 (0, 0)) := ((HB2.out.trans (HB3.out.mono HB2.out.size)).block _ hlt).trans Hn1.out
  have hF := copied (v1 := .slice p1 q1 r1) (v2 := .slice p2 q2 r2) (S := S) (w3 := w3) hn3 hsz Hci.out
    (own_low (ownsRow_at HO1.out.1 (fun g hg => HB3.out.block g (HO1.out.1.lt g hg).2)) (by have := hlt; simp at this ⊢; omega : w.heap.size + 1 ≤ w1.drew.heap.size)) (own_low HO2.out.1 (by omega : w.heap.size + 1 ≤ w2.heap.size)) HO1.out.2 HO2.out.2
  have hB3 : Below w.heap.size w w3 := HB1.out.trans ((HB2.out.trans (HB3.out.mono HB2.out.size)).mono HB1.out.size)
  have hB5 : Below w.heap.size w ((w3.setCell ⟨w.heap.size, 0, none⟩ (.slice p1 q1 r1)).setCell ⟨w.heap.size, 1, none⟩ (.slice p2 q2 r2)) := (hB3.setCell (p := ⟨w.heap.size, 0, none⟩) (Nat.le_refl _) _).setCell (p := ⟨w.heap.size, 1, none⟩) (Nat.le_refl _) _
  have HF := Lib.hid (And.intro hF hB5)
  have u0 : ∃ u, w3.cell? ⟨w.heap.size, 0, none⟩ = some u := ⟨cs[0], by simp [World.cell?, hn3, hsz]⟩
  have u1 : ∃ u, w3.cell? ⟨w.heap.size, 1, none⟩ = some u := ⟨cs[1], by simp [World.cell?, hn3, hsz]⟩
  have f0 : w3.frozen? ⟨w.heap.size, 0, none⟩ = false := by simp [World.frozen?, hn3]
  have f1 : w3.frozen? ⟨w.heap.size, 1, none⟩ = false := by simp [World.frozen?, hn3]
  obtain ⟨u0, e0⟩ := u0
  obtain ⟨u1, e1⟩ := u1
  have g0 := H3.out.cl
  have g1 := H3.out.ca
  have hbw : b ≠ w.heap.size := by omega
  have G1 : (w3.setCell ⟨w.heap.size, 0, none⟩ (.slice p1 q1 r1)).cell? ⟨b, 0, none⟩ = some vl ∧ (w3.setCell ⟨w.heap.size, 0, none⟩ (.slice p1 q1 r1)).cell? ⟨b, 1, none⟩ = some va :=
    ⟨(World.cell?_of_block (a := ⟨b, 0, none⟩) (Below.heap_setCell _ _ _ _ hbw)).trans g0, (World.cell?_of_block (a := ⟨b, 1, none⟩) (Below.heap_setCell _ _ _ _ hbw)).trans g1⟩
  have G2 : ((w3.setCell ⟨w.heap.size, 0, none⟩ (.slice p1 q1 r1)).setCell ⟨w.heap.size, 1, none⟩ (.slice p2 q2 r2)).cell? ⟨b, 0, none⟩ = some vl ∧ ((w3.setCell ⟨w.heap.size, 0, none⟩ (.slice p1 q1 r1)).setCell ⟨w.heap.size, 1, none⟩ (.slice p2 q2 r2)).cell? ⟨b, 1, none⟩ = some va :=
    ⟨(World.cell?_of_block (a := ⟨b, 0, none⟩) (Below.heap_setCell _ _ _ _ hbw)).trans G1.1, (World.cell?_of_block (a := ⟨b, 1, none⟩) (Below.heap_setCell _ _ _ _ hbw)).trans G1.2⟩
  have HG1 := Lib.hid G1
  have HG2 := Lib.hid G2
  have HG0 := Lib.hid (And.intro g0 g1)
  clear hF hB3 hB5 hn3 G1 G2 g0 g1 H3 HO1 HO2 HB2 HB3 Hn1 HB1 d1 d2 Hci Hone Hblk
  refine MakeRun.go rfl (fun K hK => ?_)
  go_wp2_with fail
  refine ⟨HG0.out, ?_⟩
  try simp only [Act.put, List.setIfInBounds_toArray, List.set_cons_zero, List.set_cons_succ]
  refine MakeRun.go rfl (fun K hK => ?_)
  go_wp2_with fail
  refine ⟨HG1.out, ?_⟩
  try simp only [Act.put, List.setIfInBounds_toArray, List.set_cons_zero, List.set_cons_succ]
  refine MakeRun.go rfl (fun K hK => ?_)
  go_wp2_with fail
  refine ⟨HG1.out, ?_⟩
  try simp only [Act.put, List.setIfInBounds_toArray, List.set_cons_zero, List.set_cons_succ]
  refine MakeRun.go rfl (fun K hK => ?_)
  go_wp2_with fail
  refine ⟨HG2.out, ?_⟩
  try simp only [Act.put, List.setIfInBounds_toArray, List.set_cons_zero, List.set_cons_succ]
  refine MakeRun.done ?_
  simp only [List.drop_succ_cons, List.drop_zero, List.drop_nil]
  go_wp2
  go_ret
  exact ⟨_, _, _, rfl, HF.out.1, HF.out.2⟩
end Go.Proofs.Ytejcpjhepkhihaa
