/-
  Layer 19: for each place the initials that are to be tried there; rows of sets written in place.
-/
import Derived.Test.YtjhlehepnhbbaaaSuf
import Derived.Test.YtjhlehepnhbbaaaInit
import Derived.Test.YtjhlehepnhbbaaaSwp
set_option linter.unusedSimpArgs false
set_option linter.unusedVariables false
namespace Go.Proofs.Ytjhlehepnhbbaaa
open Go.ChangeShapes Go.WideShapes Go.ChangeAt Go.RowKit Go.Deep

def uintsA (n : Nat) (f : Nat → Nat) : Array Value := ((List.range n).map fun i => Value.int .u64 ((f i : Nat) : Int)).toArray
theorem uintsA_get {n i : Nat} {f : Nat → Nat} (h : i < n) : (uintsA n f)[i]? = some (.int .u64 ((f i : Nat) : Int)) := by simp [uintsA, h]
theorem uintsA_congr {n : Nat} {f g : Nat → Nat} (h : ∀ i, i < n → f i = g i) : uintsA n f = uintsA n g := by
  unfold uintsA
  congr 1
  exact List.map_congr_left fun i hi => by rw [h i (List.mem_range.1 hi)]
theorem uintsA_put {n i : Nat} {z : Nat} {f : Nat → Nat} : (uintsA n f).setIfInBounds i (.int .u64 (z : Int)) = uintsA n (fun x => if x = i then z else f x) := by
  apply Array.ext
  · simp [uintsA]
  · intro j h1 h2
    simp only [uintsA, Array.getElem_setIfInBounds, List.getElem_toArray, List.getElem_map, List.getElem_range]
    by_cases hj : i = j
    · subst hj; simp
    · have : ¬ j = i := fun e => hj e.symm
      simp [hj, this]
theorem made_uints (n : Nat) : madeCells #[.int .u64 0] n = uintsA n (fun _ => 0) := by
  apply Array.ext
  · simp [uintsA, madeCells]
  · intro j h1 h2
    simp [uintsA, madeCells, Nat.mod_one]
theorem infoSet : (Try.prog.info? 69).map (fun i => (i.zero, i.size, i.bytes)) = some (some (.int .u64 0), 1, 8) := by kernel_rfl
theorem infoUint : (Try.prog.info? 68).map (fun i => (i.zero, i.size, i.bytes)) = some (some (.int .u64 0), 1, 8) := by kernel_rfl
theorem run_makeU (T e : TypeId) (ht : Try.prog.underlying T = some (.slice e)) (hinf : (Try.prog.info? e).map (fun i => (i.zero, i.size, i.bytes)) = some (some (.int .u64 0), 1, 8)) (w : World) (n : Nat) (hn : n ≤ 1000) :
    (Instr.makeSlice T (.int .i64 (n : Int)) (.int .i64 (n : Int))).run Try.prog w = .ok (.slice (some ⟨w.heap.size, 0, none⟩) n n) (w.alloc (.cells (uintsA n fun _ => 0) e)) := by
  obtain ⟨i0, hi, hz, hs, hb⟩ := info_at hinf
  have hr := run_make (P := Try.prog) w T e i0 (.int .u64 0) ht hi hz .i64 .i64 n n (by omega) (Int.le_refl _) (by rw [hb]; omega) (by omega)
  simp only [Int.toNat_natCast, hs, Nat.mul_one] at hr
  rw [← made_uints]
  exact hr
theorem wpList_makeU {T e : TypeId} (ht : Try.prog.underlying T = some (.slice e)) (hinf : (Try.prog.info? e).map (fun i => (i.zero, i.size, i.bytes)) = some (some (.int .u64 0), 1, 8)) {w : World} {ops : Array Oper} {rest : List Oper} {o : Oper} {a : Act} {Q : Exit → Act → World → Prop} (hg : o.guard = none) (l c : Operand) (ho : o.op = .makeSlice T l c) (n : Nat) (hn : n ≤ 1000)
    (hl : a.eval l = .int .i64 (n : Int)) (hc : a.eval c = .int .i64 (n : Int))
    (h : wpList Try.prog ops Q rest (a.put o.dst (.slice (some ⟨w.heap.size, 0, none⟩) n n)) (w.alloc (.cells (uintsA n fun _ => 0) e))) : wpList Try.prog ops Q (o :: rest) a w := by
  refine wpList_plain hg fun _ hK => ?_
  unfold Oper.wp
  simp only [execOp, ho, hl, hc, Sem.run_bind, run_makeU T e ht hinf w n hn, Result.andThen_ok]
  exact hK _ _ h
/-- The row under work. -/
structure RowU (e : TypeId) (n : Nat) (f : Nat → Nat) (rb : Nat) (wo wx : World) : Prop where
  row : wx.heap[rb]? = some (.cells (uintsA n f) e (0, 0))
  below : Below rb wo wx
section
variable {e : TypeId} {n : Nat} {f g : Nat → Nat} {rb : Nat} {wo wx wy : World}
theorem RowU.of (h : RowU e n f rb wo wx) (he : ∀ i, i < n → f i = g i) : RowU e n g rb wo wx := ⟨by rw [← uintsA_congr he]; exact h.row, h.below⟩
theorem RowU.lt (h : RowU e n f rb wo wx) : rb < wx.heap.size := (Array.getElem?_eq_some_iff.1 h.row).1
theorem RowU.go (h : RowU e n f rb wo wx) (hb : Below wx.heap.size wx wy) : RowU e n f rb wo wy := ⟨(hb.block rb h.lt).trans h.row, h.below.trans (hb.mono (Nat.le_of_lt h.lt))⟩
theorem RowU.put (h : RowU e n f rb wo wx) (i : Nat) (z : Nat) : RowU e n (fun x => if x = i then z else f x) rb wo (wx.setCell ⟨rb, i, none⟩ (.int .u64 (z : Int))) :=
  ⟨by rw [← uintsA_put]; exact set_block h.row _, h.below.setCell (p := ⟨rb, i, none⟩) (Nat.le_refl _) _⟩
theorem RowU.get (h : RowU e n f rb wo wx) {i : Nat} (hi : i < n) : wx.cell? ⟨rb, i, none⟩ = some (.int .u64 ((f i : Nat) : Int)) ∧ wx.frozen? ⟨rb, i, none⟩ = false :=
  ⟨by rw [cell_of_block h.row]; exact uintsA_get hi, free_of_block h.row⟩
theorem RowU.wrote {R : Nat → Prop} (h : RowU e n f rb wo wx) (hw : Wrote R wx wy) (hR : ∀ q, R q → rb < q) : RowU e n f rb wo wy :=
  ⟨(hw.block rb h.lt (fun hr => Nat.lt_irrefl _ (hR rb hr))).trans h.row, Wrote.below h.below hw (Nat.le_of_lt h.lt) (fun q hq => Nat.le_of_lt (hR q hq))⟩
theorem RowU.base (h : RowU e n f rb wo wx) (he : rb = wo.heap.size) : Below wo.heap.size wo wx := by rw [← he]; exact h.below
end
/-- The initials that are to be tried at k, for a target x behind N events. -/
noncomputable def needX (l : List Ev) (x : Ev) (N k : Nat) : List Ev := evsAt l (restP (rD l) k N) ++ [x]
noncomputable def needN (l : List Ev) (x : Ev) (N k : Nat) : Nat := (initS (needX l x N k) (needX l x N k).length).2
/-- What both make of the first m of the races R. -/
noncomputable def needF (l : List Ev) (x : Ev) (N : Nat) (R : List Nat) (k : Nat) : Nat := if k ∈ R then needN l x N k else 0
theorem needF_nil (l : List Ev) (x : Ev) (N k : Nat) : needF l x N [] k = 0 := by unfold needF; simp
theorem needF_put {l : List Ev} {x : Ev} {N : Nat} {R : List Nat} {m q : Nat} (hq : R[m]? = some q) (k : Nat) : (if k = q then needN l x N q else needF l x N (R.take m) k) = needF l x N (R.take (m + 1)) k := by
  have ht : R.take (m + 1) = R.take m ++ [q] := by rw [List.take_add_one, hq]; rfl
  unfold needF
  rw [ht]
  by_cases hk : k = q
  · subst hk; rw [if_pos rfl, if_pos (by simp)]
  · rw [if_neg hk]
    have : (k ∈ R.take m ++ [q]) ↔ k ∈ R.take m := by simp [hk]
    simp only [this]

/-- A list of places that is read. -/
def AtR (w : World) (a : Option Addr) (R : List Nat) : Prop := ∀ (m q : Nat), R[m]? = some q → ∃ g, a = some ⟨g, 0, none⟩ ∧ w.cell? ⟨g, m, none⟩ = some (.int .i64 (q : Int))
theorem AtR.below {w w' : World} {a : Option Addr} {R : List Nat} (h : AtR w a R) (hb : Below w.heap.size w w') : AtR w' a R := fun m q hq => by
  obtain ⟨g, h1, h2⟩ := h m q hq
  exact ⟨g, h1, keep hb h2⟩
theorem AtR.wrote {w w' : World} {a : Option Addr} {D : List Nat} {K : Nat → Prop} (h : AtR w a D) (hw : Wrote K w w') (hR : ∀ g, a = some ⟨g, 0, none⟩ → ¬ K g) : AtR w' a D := fun m q hq => by
  obtain ⟨g, h1, h2⟩ := h m q hq
  have hlt : g < w.heap.size := by
    rcases Nat.lt_or_ge g w.heap.size with h' | h'
    · exact h'
    · simp [World.cell?, Array.getElem?_eq_none h'] at h2
  exact ⟨g, h1, by rw [World.cell?_of_block (w := w) (hw.block g hlt (hR g h1))]; exact h2⟩
theorem OwnL.atR {w : World} {B n c : Nat} {a : Option Addr} {R : List Nat} (h : OwnL eltI w B (.slice a n c) (natsI R)) : AtR w a R := fun m q hq => by
  obtain ⟨a', c', he, _, hat⟩ := h.int_at
  cases he
  obtain ⟨g, h1, _, h2⟩ := hat m q (natsI_get hq)
  exact ⟨g, h1, h2⟩
/-- Who hands back a row of sets. -/
def SetsPost (t : TypeId) (w : World) (n : Nat) (f : Nat → Nat) (e : Ending) (w' : World) : Prop := ∃ g, e = .returned (.slice (some ⟨g, 0, none⟩) n n) ∧ w'.heap[g]? = some (.cells (uintsA n f) t (0, 0)) ∧ Below w.heap.size w w'
set_option maxRecDepth 20000 in
set_option maxHeartbeats 16000000 in
theorem needs_calls {w : World} {a0 ra : Option Addr} {n c rc : Nat} {l : List Ev} {R : List Nat} {N : Nat} {x : Ev} (h : IsEvs w a0 n c l) (hz : wrongS n l = 0) (hN : N ≤ n) (hR : AtR w ra R) (hRc : R.length ≤ rc) (hRn : ∀ q ∈ R, q < N) (hRl : R.length ≤ 100) (hx : x.wf) :
    Calls Try.prog 67 #[.slice a0 n c, .slice ra R.length rc, .int .i64 (N : Int), .agg #[.int .i64 x.t, .int .i64 x.k, .int .i64 x.o, .int .i64 x.v, .int .i64 x.b]] w (SetsPost 69 w n (needF l x N R)) := by
  obtain ⟨xt, xk, xo, xv, xb⟩ := x
  simp only
  have Hev := Lib.hid h
  have Hz := Lib.hid hz
  have HR := Lib.hid hR
  have HRn := Lib.hid hRn
  have Hx := Lib.hid hx
  have Hl := Lib.hid h.len
  have Hwf := Lib.hid h.wf
  have hn100 : n ≤ 100 := wrong_le16 hz
  clear h hz hR hRn hx
  go_enter Try.func67, Try.ntmps67
  go_wp2_with fail
  have hN0 := one_newR w #[.int .i64 xt, .int .i64 xk, .int .i64 xo, .int .i64 xv, .int .i64 xb] 36
  revert hN0
  generalize w.alloc (.cells #[.int .i64 xt, .int .i64 xk, .int .i64 xo, .int .i64 xv, .int .i64 xb] 36) = w0
  rintro ⟨hA, hb0⟩
  obtain ⟨gx, hgx⟩ : ∃ gx, gx = w.heap.size := ⟨_, rfl⟩
  rw [← hgx] at hA ⊢
  have x0 : w0.cell? ⟨gx, 0, none⟩ = some (.int .i64 xt) := cell_of_block hA
  have x1 : w0.cell? ⟨gx, 1, none⟩ = some (.int .i64 xk) := cell_of_block hA
  have x2 : w0.cell? ⟨gx, 2, none⟩ = some (.int .i64 xo) := cell_of_block hA
  have x3 : w0.cell? ⟨gx, 3, none⟩ = some (.int .i64 xv) := cell_of_block hA
  have x4 : w0.cell? ⟨gx, 4, none⟩ = some (.int .i64 xb) := cell_of_block hA
  have HB0 := Lib.hid hb0
  clear hA hb0 hgx
  refine (order_calls (Hev.out.below HB0.out)).mono ?_
  rintro e w1 ⟨hb1, ⟨hz, rfl⟩ | ⟨hz, hg, b, v, rfl, hO⟩⟩
  · exact absurd Hz.out hz
  have HB1 := Lib.hid (HB0.out.trans (hb1.mono HB0.out.size))
  have HO := Lib.hid hO
  have HG := Lib.hid hg
  have HX := Lib.hid (And.intro (keep hb1 x0) (And.intro (keep hb1 x1) (And.intro (keep hb1 x2) (And.intro (keep hb1 x3) (keep hb1 x4)))))
  clear hb1 hg hO hz x0 x1 x2 x3 x4
  go_wp2_with (refine wpList_makeU Try.underlying56 infoSet rfl (.tmp 23) (.tmp 23) rfl n (by omega) rfl rfl ?_)
  have HS : RowU 69 n (needF l ⟨xt, xk, xo, xv, xb⟩ N (R.take 0)) w1.heap.size w1 (w1.alloc (.cells (uintsA n fun _ => 0) 69)) := ⟨by rw [uintsA_congr (f := needF l ⟨xt, xk, xo, xv, xb⟩ N (R.take 0)) (g := fun _ => 0) (fun i _ => by rw [List.take_zero, needF_nil])]; exact (MapKept.heap_alloc w1 _).1, (Below.refl _ w1).alloc (Nat.le_refl _) _⟩
  revert HS
  generalize w1.alloc (.cells (uintsA n fun _ => 0) 69) = w2
  intro HS
  obtain ⟨gl, hgl⟩ : ∃ gl, gl = w1.heap.size := ⟨_, rfl⟩
  rw [← hgl] at HS ⊢
  have Hgl := Lib.hid hgl
  have HS2 := Lib.hid HS
  clear hgl HS
  go_wp2_with fail
  go_loopw [13, 14, 27] (fun _ _ y wr => ∃ m : Nat, m ≤ R.length ∧ y = .int .i64 m ∧ Hid (RowU 69 n (needF l ⟨xt, xk, xo, xv, xb⟩ N (R.take m)) gl w1 wr)) (fun _ _ y _ => R.length - (intOf y).toNat)
  case atStart => exact ⟨0, Nat.zero_le _, by go_num, HS2.out⟩
  case round =>
    clear HS2
    obtain ⟨m, hm, rfl, HS⟩ := hrel
    have HBr := Lib.hid (HS.out.base Hgl.out)
    have HBw := Lib.hid (HB1.out.trans (HBr.out.mono HB1.out.size))
    by_cases hmR : m < R.length
    · obtain ⟨q, hq⟩ : ∃ q, R[m]? = some q := ⟨_, List.getElem?_eq_getElem hmR⟩
      have hqN : q < N := HRn.out q (List.mem_of_getElem? hq)
      obtain ⟨rg, rfl, cq⟩ := (HR.out.below HBw.out) m q hq
      have Hq := Lib.hid hq
      clear hq
      go_wp2_with fail
      refine (srest_calls (HO.out.below HBr.out) HG.out hqN hN).mono ?_
      rintro e y1 ⟨ur, rfl, hown, hb⟩
      have HS1 := Lib.hid (HS.out.go hb)
      obtain ⟨sa, sc, hu, hsc, _⟩ := hown.int_at
      rw [natsI_len] at hu hsc
      subst hu
      have hsz : gl < y1.heap.size := HS1.out.lt
      have HD := Lib.hid (And.intro (OwnL.atR hown) (fun g (hg : (Value.slice sa (restP (rD l) q N).length sc).ownBlock = some g) => (hown.lt hg).2))
      have hDl : (restP (rD l) q N).length ≤ 100 := Nat.le_trans (restP_len (rD l) q N) (by omega)
      have HDn : Hid (∀ p ∈ restP (rD l) q N, p < n) := fun p hp => Nat.lt_of_lt_of_le (restP_lt hp) hN
      have Hne : Hid (needX l ⟨xt, xk, xo, xv, xb⟩ N q = evsAt l (restP (rD l) q N) ++ [⟨xt, xk, xo, xv, xb⟩]) := rfl
      have Hput : Hid (∀ k, (if k = q then needN l ⟨xt, xk, xo, xv, xb⟩ N q else needF l ⟨xt, xk, xo, xv, xb⟩ N (R.take m) k) = needF l ⟨xt, xk, xo, xv, xb⟩ N (R.take (m + 1)) k) := fun k => needF_put Hq.out k
      have HDb : Hid (∀ g, sa = some ⟨g, 0, none⟩ → g < y1.heap.size) := fun g hg => (hown.lt (by rw [hg]; rfl)).2
      have HDa : Hid (AtR y1 sa (restP (rD l) q N)) := OwnL.atR hown
      obtain ⟨Bx, hBx⟩ : ∃ Bx, Bx = y1.heap.size := ⟨_, rfl⟩
      rw [← hBx] at HDb hsz
      have HBx : Hid (Bx ≤ y1.heap.size) := by rw [hBx]; exact Nat.le_refl _
      have Hsz := Lib.hid hsz
      clear hb hown HS HBr HBw HD hBx hsz
      revert HDa hsc hDl HDn Hne
      generalize restP (rD l) q N = D
      intro hsc hDl HDn Hne HDa
      go_wp2_with fail
      go_loopw [14, 36] (fun u y wq => ∃ p : Nat, p ≤ D.length ∧ y = .int .i64 p ∧ Hid (RowU 69 n (needF l ⟨xt, xk, xo, xv, xb⟩ N (R.take m)) gl w1 wq ∧ AtR wq sa D ∧ OwnL eltEv wq Bx u (evsAt l (D.take p)) ∧ Bx ≤ wq.heap.size)) (fun _ y _ => D.length - (intOf y).toNat)
      case atStart => exact ⟨0, Nat.zero_le _, by go_num, HS1.out, HDa.out, by rw [List.take_zero]; exact OwnL.nil .., HBx.out⟩
      case round =>
        clear HS1 HDa HBx
        obtain ⟨p, hp, rfl, HL⟩ := hrel
        have HBq := Lib.hid (HL.out.1.base Hgl.out)
        by_cases hpl : p < D.length
        · obtain ⟨r, hr⟩ : ∃ r, D[p]? = some r := ⟨_, List.getElem?_eq_getElem hpl⟩
          have hrn : r < n := HDn.out r (List.mem_of_getElem? hr)
          obtain ⟨dg, rfl, cd⟩ := HL.out.2.1 p r hr
          obtain ⟨bl, off, y, rfl, hy, _, c0, c1, c2, c3, c4⟩ := (Hev.out.below (HB1.out.trans (HBq.out.mono HB1.out.size))).at hrn
          have Hstep : Hid (evsAt l (D.take (p + 1)) = evsAt l (D.take p) ++ [y]) := evs_one hr hy
          obtain ⟨yt, yk, yo, yv, yb⟩ := y
          simp only at c0 c1 c2 c3 c4
          have Hlen : Hid ((evsAt l (D.take p)).length < 1000000) := by rw [Hid, evsAt_len, List.length_take]; omega
          clear hr hy HBq
          go_wp2_with (at_builtin; go_loud (refine wpList_push eltEv rfl (.tmp 40) (.tmp 45) rfl ⟨yt, yk, yo, yv, yb⟩ rfl rfl rfl HL.out.2.2.1 HL.out.2.2.2 Hlen.out ?_); intro v' wv hown hw hv; (have HL' := Lib.hid (And.intro (HL.out.1.wrote hw (fun z hz => Nat.lt_of_lt_of_le Hsz.out (HL.out.2.2.1.lt hz).1)) (And.intro (HL.out.2.1.wrote hw (fun g hg hz => Nat.lt_irrefl _ (Nat.lt_of_lt_of_le (HDb.out g hg) (HL.out.2.2.1.lt hz).1))) (And.intro (show OwnL eltEv wv Bx v' (evsAt l (D.take (p + 1))) by rw [Hstep.out]; exact hown) (Nat.le_trans HL.out.2.2.2 hw.size))))); clear hown hw hv)
          go_roundw
          case rel => exact ⟨p + 1, hpl, by go_num, HL'.out⟩
          case measure => exact meas hpl
        · have hpl : D.length = p := Nat.le_antisymm (Nat.le_of_not_lt hpl) hp
          subst hpl
          have hX := keep HBq.out HX.out.1
          have hX1 := keep HBq.out HX.out.2.1
          have hX2 := keep HBq.out HX.out.2.2.1
          have hX3 := keep HBq.out HX.out.2.2.2.1
          have hX4 := keep HBq.out HX.out.2.2.2.2
          have Hlen : Hid ((evsAt l (D.take D.length)).length < 1000000) := by rw [Hid, evsAt_len, List.length_take]; omega
          have hqn : q < n := Nat.lt_of_lt_of_le hqN hN
          have HDw : Hid (∀ z ∈ needX l ⟨xt, xk, xo, xv, xb⟩ N q, z.wf) := fun z hz => by
            rw [Hne.out] at hz
            rcases List.mem_append.1 hz with hz | hz
            · exact evsAt_wf Hwf.out (fun j hj => by rw [Hl.out]; exact HDn.out j hj) z hz
            · rw [List.mem_singleton.1 hz]; exact Hx.out
          clear HBq
          go_wp2_with (at_builtin; go_loud (refine wpList_push eltEv rfl (.tmp 50) (.tmp 52) rfl ⟨xt, xk, xo, xv, xb⟩ rfl rfl rfl HL.out.2.2.1 HL.out.2.2.2 Hlen.out ?_); intro v' wv hown hw hv; (have HN := Lib.hid (And.intro (HL.out.1.wrote hw (fun z hz => Nat.lt_of_lt_of_le Hsz.out (HL.out.2.2.1.lt hz).1)) (show OwnL eltEv wv Bx v' (needX l ⟨xt, xk, xo, xv, xb⟩ N q) by rw [Hne.out]; rw [List.take_length] at hown; exact hown))); clear hown hw hv)
          obtain ⟨xa, xc, rfl, hE⟩ := HN.out.2.evs HDw.out
          refine (init_calls hE).mono ?_
          rintro e wz ⟨rfl, hb⟩
          have HSz := Lib.hid (HN.out.1.go hb)
          obtain ⟨gc, gf⟩ := HSz.out.get hqn
          have HF : Hid (RowU 69 n (needF l ⟨xt, xk, xo, xv, xb⟩ N (R.take (m + 1))) gl w1 (wz.setCell ⟨gl, q, none⟩ (.int .u64 (((initS (needX l ⟨xt, xk, xo, xv, xb⟩ N q) (needX l ⟨xt, xk, xo, xv, xb⟩ N q).length).2 : Nat) : Int)))) := (HSz.out.put q _).of (fun k _ => Hput.out k)
          clear hE hb HN HL HSz hX hX1 hX2 hX3 hX4
          go_wp2
          go_roundw
          case rel => exact ⟨m + 1, hmR, by go_num, HF.out⟩
          case measure => exact meas hmR
    · have hmR : R.length = m := Nat.le_antisymm (Nat.le_of_not_lt hmR) hm
      subst hmR
      have Hq : Hid (SetsPost 69 w n (needF l ⟨xt, xk, xo, xv, xb⟩ N R) (.returned (.slice (some ⟨gl, 0, none⟩) n n)) wr) := by
        have := HS.out.row
        rw [List.take_length] at this
        exact ⟨gl, rfl, this, HBw.out⟩
      clear HS HBr HBw
      go_wp2
      go_ret
      exact Hq.out
end Go.Proofs.Ytjhlehepnhbbaaa
