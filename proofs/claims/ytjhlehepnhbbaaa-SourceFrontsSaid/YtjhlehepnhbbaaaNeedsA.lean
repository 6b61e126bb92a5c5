/-
  Needs of both: rows of sets, the walks.
-/
import Derived.Test.YtjhlehepnhbbaaaSuf
import Derived.Test.YtjhlehepnhbbaaaInit
import Derived.Test.YtjhlehepnhbbaaaSwpA
set_option linter.unusedSimpArgs false
set_option linter.unusedVariables false
namespace Go.Proofs.Ytjhlehepnhbbaaa
open Go.ChangeShapes Go.WideShapes Go.ChangeAt Go.RowKit Go.Deep

def uintsA (n : Nat) (f : Nat → Nat) : Array Value := ((List.range n).map fun i => Value.int .u64 ((f i : Nat) : Int)).toArray
theorem uintsA_get {n i : Nat} {f : Nat → Nat} (h : i < n) : (uintsA n f)[i]? = some (.int .u64 ((f i : Nat) : Int)) := by simp [uintsA, h]
theorem uintsA_congr {n : Nat} {f g : Nat → Nat} (h : ∀ i, i < n → f i = g i) : uintsA n f = uintsA n g := by
  unfold uintsA
  congr 1
  exact List.map_congr_left fun i hi => by rw [h i (List.mem_range.1 hi)]
theorem uintsA_put {n i : Nat} {z : Nat} {f : Nat → Nat} : (uintsA n f).setIfInBounds i (.int .u64 (z : Int)) = uintsA n (fun x => if x = i then z else f x) := by
  apply Array.ext
  · simp [uintsA]
  · intro j h1 h2
    simp only [uintsA, Array.getElem_setIfInBounds, List.getElem_toArray, List.getElem_map, List.getElem_range]
    by_cases hj : i = j
    · subst hj; simp
    · have : ¬ j = i := fun e => hj e.symm
      simp [hj, this]
theorem made_uints (n : Nat) : madeCells #[.int .u64 0] n = uintsA n (fun _ => 0) := by
  apply Array.ext
  · simp [uintsA, madeCells]
  · intro j h1 h2
    simp [uintsA, madeCells, Nat.mod_one]
theorem infoSet : (Try.prog.info? 69).map (fun i => (i.zero, i.size, i.bytes)) = some (some (.int .u64 0), 1, 8) := by kernel_rfl
theorem infoUint : (Try.prog.info? 68).map (fun i => (i.zero, i.size, i.bytes)) = some (some (.int .u64 0), 1, 8) := by kernel_rfl
theorem run_makeU (T e : TypeId) (ht : Try.prog.underlying T = some (.slice e)) (hinf : (Try.prog.info? e).map (fun i => (i.zero, i.size, i.bytes)) = some (some (.int .u64 0), 1, 8)) (w : World) (n : Nat) (hn : n ≤ 1000) :
    (Instr.makeSlice T (.int .i64 (n : Int)) (.int .i64 (n : Int))).run Try.prog w = .ok (.slice (some ⟨w.heap.size, 0, none⟩) n n) (w.alloc (.cells (uintsA n fun _ => 0) e)) := by
  obtain ⟨i0, hi, hz, hs, hb⟩ := info_at hinf
  have hr := run_make (P := Try.prog) w T e i0 (.int .u64 0) ht hi hz .i64 .i64 n n (by omega) (Int.le_refl _) (by rw [hb]; omega) (by omega)
  simp only [Int.toNat_natCast, hs, Nat.mul_one] at hr
  rw [← made_uints]
  exact hr
theorem wpList_makeU {T e : TypeId} (ht : Try.prog.underlying T = some (.slice e)) (hinf : (Try.prog.info? e).map (fun i => (i.zero, i.size, i.bytes)) = some (some (.int .u64 0), 1, 8)) {w : World} {ops : Array Oper} {rest : List Oper} {o : Oper} {a : Act} {Q : Exit → Act → World → Prop} (hg : o.guard = none) (l c : Operand) (ho : o.op = .makeSlice T l c) (n : Nat) (hn : n ≤ 1000)
    (hl : a.eval l = .int .i64 (n : Int)) (hc : a.eval c = .int .i64 (n : Int))
    (h : wpList Try.prog ops Q rest (a.put o.dst (.slice (some ⟨w.heap.size, 0, none⟩) n n)) (w.alloc (.cells (uintsA n fun _ => 0) e))) : wpList Try.prog ops Q (o :: rest) a w := by
  refine wpList_plain hg fun _ hK => ?_
  unfold Oper.wp
  simp only [execOp, ho, hl, hc, Sem.run_bind, run_makeU T e ht hinf w n hn, Result.andThen_ok]
  exact hK _ _ h
/-- The row under work. -/
structure RowU (e : TypeId) (n : Nat) (f : Nat → Nat) (rb : Nat) (wo wx : World) : Prop where
  row : wx.heap[rb]? = some (.cells (uintsA n f) e (0, 0))
  below : Below rb wo wx
section
variable {e : TypeId} {n : Nat} {f g : Nat → Nat} {rb : Nat} {wo wx wy : World}
theorem RowU.of (h : RowU e n f rb wo wx) (he : ∀ i, i < n → f i = g i) : RowU e n g rb wo wx := ⟨by rw [← uintsA_congr he]; exact h.row, h.below⟩
theorem RowU.lt (h : RowU e n f rb wo wx) : rb < wx.heap.size := (Array.getElem?_eq_some_iff.1 h.row).1
theorem RowU.go (h : RowU e n f rb wo wx) (hb : Below wx.heap.size wx wy) : RowU e n f rb wo wy := ⟨(hb.block rb h.lt).trans h.row, h.below.trans (hb.mono (Nat.le_of_lt h.lt))⟩
theorem RowU.put (h : RowU e n f rb wo wx) (i : Nat) (z : Nat) : RowU e n (fun x => if x = i then z else f x) rb wo (wx.setCell ⟨rb, i, none⟩ (.int .u64 (z : Int))) :=
  ⟨by rw [← uintsA_put]; exact set_block h.row _, h.below.setCell (p := ⟨rb, i, none⟩) (Nat.le_refl _) _⟩
theorem RowU.get (h : RowU e n f rb wo wx) {i : Nat} (hi : i < n) : wx.cell? ⟨rb, i, none⟩ = some (.int .u64 ((f i : Nat) : Int)) ∧ wx.frozen? ⟨rb, i, none⟩ = false :=
  ⟨by rw [cell_of_block h.row]; exact uintsA_get hi, free_of_block h.row⟩
theorem RowU.wrote {R : Nat → Prop} (h : RowU e n f rb wo wx) (hw : Wrote R wx wy) (hR : ∀ q, R q → rb < q) : RowU e n f rb wo wy :=
  ⟨(hw.block rb h.lt (fun hr => Nat.lt_irrefl _ (hR rb hr))).trans h.row, Wrote.below h.below hw (Nat.le_of_lt h.lt) (fun q hq => Nat.le_of_lt (hR q hq))⟩
theorem RowU.base (h : RowU e n f rb wo wx) (he : rb = wo.heap.size) : Below wo.heap.size wo wx := by rw [← he]; exact h.below
end
/-- The initials that are to be tried at k, for a target x behind N events. -/
noncomputable def needX (l : List Ev) (x : Ev) (N k : Nat) : List Ev := evsAt l (restP (rD l) k N) ++ [x]
noncomputable def needN (l : List Ev) (x : Ev) (N k : Nat) : Nat := (initS (needX l x N k) (needX l x N k).length).2
/-- What both make of the first m of the races R. -/
noncomputable def needF (l : List Ev) (x : Ev) (N : Nat) (R : List Nat) (k : Nat) : Nat := if k ∈ R then needN l x N k else 0
theorem needF_nil (l : List Ev) (x : Ev) (N k : Nat) : needF l x N [] k = 0 := by unfold needF; simp
theorem needF_put {l : List Ev} {x : Ev} {N : Nat} {R : List Nat} {m q : Nat} (hq : R[m]? = some q) (k : Nat) : (if k = q then needN l x N q else needF l x N (R.take m) k) = needF l x N (R.take (m + 1)) k := by
  have ht : R.take (m + 1) = R.take m ++ [q] := by rw [List.take_add_one, hq]; rfl
  unfold needF
  rw [ht]
  by_cases hk : k = q
  · subst hk; rw [if_pos rfl, if_pos (by simp)]
  · rw [if_neg hk]
    have : (k ∈ R.take m ++ [q]) ↔ k ∈ R.take m := by simp [hk]
    simp only [this]

/-- A list of places that is read. -/
def AtR (w : World) (a : Option Addr) (R : List Nat) : Prop := ∀ (m q : Nat), R[m]? = some q → ∃ g, a = some ⟨g, 0, none⟩ ∧ w.cell? ⟨g, m, none⟩ = some (.int .i64 (q : Int))
theorem AtR.below {w w' : World} {a : Option Addr} {R : List Nat} (h : AtR w a R) (hb : Below w.heap.size w w') : AtR w' a R := fun m q hq => by
  obtain ⟨g, h1, h2⟩ := h m q hq
  exact ⟨g, h1, keep hb h2⟩
theorem AtR.wrote {w w' : World} {a : Option Addr} {D : List Nat} {K : Nat → Prop} (h : AtR w a D) (hw : Wrote K w w') (hR : ∀ g, a = some ⟨g, 0, none⟩ → ¬ K g) : AtR w' a D := fun m q hq => by
  obtain ⟨g, h1, h2⟩ := h m q hq
  have hlt : g < w.heap.size := by
    rcases Nat.lt_or_ge g w.heap.size with h' | h'
    · exact h'
    · simp [World.cell?, Array.getElem?_eq_none h'] at h2
  exact ⟨g, h1, by rw [World.cell?_of_block (w := w) (hw.block g hlt (hR g h1))]; exact h2⟩
theorem OwnL.atR {w : World} {B n c : Nat} {a : Option Addr} {R : List Nat} (h : OwnL eltI w B (.slice a n c) (natsI R)) : AtR w a R := fun m q hq => by
  obtain ⟨a', c', he, _, hat⟩ := h.int_at
  cases he
  obtain ⟨g, h1, _, h2⟩ := hat m q (natsI_get hq)
  exact ⟨g, h1, h2⟩
/-- Who hands back a row of sets. -/
def SetsPost (t : TypeId) (w : World) (n : Nat) (f : Nat → Nat) (e : Ending) (w' : World) : Prop := ∃ g, e = .returned (.slice (some ⟨g, 0, none⟩) n n) ∧ w'.heap[g]? = some (.cells (uintsA n f) t (0, 0)) ∧ Below w.heap.size w w'
set_option maxRecDepth 20000 in
set_option maxHeartbeats 16000000 in
theorem needs_calls {w : World} {a0 ra : Option Addr} {n c rc : Nat} {l : List Ev} {R : List Nat} {N : Nat} {x : Ev} (h : IsEvs w a0 n c l) (hz : wrongS n l = 0) (hN : N ≤ n) (hR : AtR w ra R) (hRc : R.length ≤ rc) (hRn : ∀ q ∈ R, q < N) (hRl : R.length ≤ 100) (hx : x.wf) :
    Calls Try.prog 67 #[.slice a0 n c, .slice ra R.length rc, .int .i64 (N : Int), .agg #[.int .i64 x.t, .int .i64 x.k, .int .i64 x.o, .int .i64 x.v, .int .i64 x.b]] w (SetsPost 69 w n (needF l x N R)) := by
  obtain ⟨xt, xk, xo, xv, xb⟩ := x
  simp only
  have Hev := Lib.hid h
  have Hz := Lib.hid hz
  have HR := Lib.hid hR
  have HRn := Lib.hid hRn
  have Hx := Lib.hid hx
  have Hl := Lib.hid h.len
  have Hwf := Lib.hid h.wf
  have hn100 : n ≤ 100 := wrong_le16 hz
  clear h hz hR hRn hx
  go_enter Try.func67, Try.ntmps67
  go_wp2_with fail
  have hN0 := one_newR w #[.int .i64 xt, .int .i64 xk, .int .i64 xo, .int .i64 xv, .int .i64 xb] 36
  revert hN0
  generalize w.alloc (.cells #[.int .i64 xt, .int .i64 xk, .int .i64 xo, .int .i64 xv, .int .i64 xb] 36) = w0
  rintro ⟨hA, hb0⟩
  obtain ⟨gx, hgx⟩ : ∃ gx, gx = w.heap.size := ⟨_, rfl⟩
  rw [← hgx] at hA ⊢
  have x0 : w0.cell? ⟨gx, 0, none⟩ = some (.int .i64 xt) := cell_of_block hA
  have x1 : w0.cell? ⟨gx, 1, none⟩ = some (.int .i64 xk) := cell_of_block hA
  have x2 : w0.cell? ⟨gx, 2, none⟩ = some (.int .i64 xo) := cell_of_block hA
  have x3 : w0.cell? ⟨gx, 3, none⟩ = some (.int .i64 xv) := cell_of_block hA
  have x4 : w0.cell? ⟨gx, 4, none⟩ = some (.int .i64 xb) := cell_of_block hA
  have HB0 := Lib.hid hb0
  clear hA hb0 hgx
  refine (order_calls (Hev.out.below HB0.out)).mono ?_
  rintro e w1 ⟨hb1, ⟨hz, rfl⟩ | ⟨hz, hg, b, v, rfl, hO⟩⟩
  · exact absurd Hz.out hz
  have HB1 := Lib.hid (HB0.out.trans (hb1.mono HB0.out.size))
  have HO := Lib.hid hO
  have HG := Lib.hid hg
  have HX := Lib.hid (And.intro (keep hb1 x0) (And.intro (keep hb1 x1) (And.intro (keep hb1 x2) (And.intro (keep hb1 x3) (keep hb1 x4)))))
  clear hb1 hg hO hz x0 x1 x2 x3 x4
  go_wp2_with (refine wpList_makeU Try.underlying56 infoSet rfl (.tmp 23) (.tmp 23) rfl n (by omega) rfl rfl ?_)
  have HS : RowU 69 n (needF l ⟨xt, xk, xo, xv, xb⟩ N (R.take 0)) w1.heap.size w1 (w1.alloc (.cells (uintsA n fun _ => 0) 69)) := ⟨by rw [uintsA_congr (f := needF l ⟨xt, xk, xo, xv, xb⟩ N (R.take 0)) (g := fun _ => 0) (fun i _ => by rw [List.take_zero, needF_nil])]; exact (MapKept.heap_alloc w1 _).1, (Below.refl _ w1).alloc (Nat.le_refl _) _⟩
  revert HS
  generalize w1.alloc (.cells (uintsA n fun _ => 0) 69) = w2
  intro HS
  obtain ⟨gl, hgl⟩ : ∃ gl, gl = w1.heap.size := ⟨_, rfl⟩
  rw [← hgl] at HS ⊢
  have Hgl := Lib.hid hgl
  have HS2 := Lib.hid HS
  clear hgl HS
  go_wp2_with fail
  go_loopw [13, 14, 27] (fun _ _ y wr => ∃ m : Nat, m ≤ R.length ∧ y = .int .i64 m ∧ Hid (RowU 69 n (needF l ⟨xt, xk, xo, xv, xb⟩ N (R.take m)) gl w1 wr)) (fun _ _ y _ => R.length - (intOf y).toNat)
  case atStart => exact ⟨0, Nat.zero_le _, by go_num, HS2.out⟩
  case round =>
    clear HS2
    obtain ⟨m, hm, rfl, HS⟩ := hrel
    have HBr := Lib.hid (HS.out.base Hgl.out)
    have HBw := Lib.hid (HB1.out.trans (HBr.out.mono HB1.out.size))
    by_cases hmR : m < R.length
    · obtain ⟨q, hq⟩ : ∃ q, R[m]? = some q := ⟨_, List.getElem?_eq_getElem hmR⟩
      have hqN : q < N := HRn.out q (List.mem_of_getElem? hq)
      obtain ⟨rg, rfl, cq⟩ := (HR.out.below HBw.out) m q hq
      have Hq := Lib.hid hq
      clear hq
      go_wp2_with fail
      refine (srest_calls (HO.out.below HBr.out) HG.out hqN hN).mono ?_
      rintro e y1 ⟨ur, rfl, hown, hb⟩
      have HS1 := Lib.hid (HS.out.go hb)
      obtain ⟨sa, sc, hu, hsc, _⟩ := hown.int_at
      rw [natsI_len] at hu hsc
      subst hu
      have hsz : gl < y1.heap.size := HS1.out.lt
      have HD := Lib.hid (And.intro (OwnL.atR hown) (fun g (hg : (Value.slice sa (restP (rD l) q N).length sc).ownBlock = some g) => (hown.lt hg).2))
      have hDl : (restP (rD l) q N).length ≤ 100 := Nat.le_trans (restP_len (rD l) q N) (by omega)
      have HDn : Hid (∀ p ∈ restP (rD l) q N, p < n) := fun p hp => Nat.lt_of_lt_of_le (restP_lt hp) hN
      have Hne : Hid (needX l ⟨xt, xk, xo, xv, xb⟩ N q = evsAt l (restP (rD l) q N) ++ [⟨xt, xk, xo, xv, xb⟩]) := rfl
      have Hput : Hid (∀ k, (if k = q then needN l ⟨xt, xk, xo, xv, xb⟩ N q else needF l ⟨xt, xk, xo, xv, xb⟩ N (R.take m) k) = needF l ⟨xt, xk, xo, xv, xb⟩ N (R.take (m + 1)) k) := fun k => needF_put Hq.out k
      have HDb : Hid (∀ g, sa = some ⟨g, 0, none⟩ → g < y1.heap.size) := fun g hg => (hown.lt (by rw [hg]; rfl)).2
      have HDa : Hid (AtR y1 sa (restP (rD l) q N)) := OwnL.atR hown
      obtain ⟨Bx, hBx⟩ : ∃ Bx, Bx = y1.heap.size := ⟨_, rfl⟩
      rw [← hBx] at HDb hsz
      have HBx : Hid (Bx ≤ y1.heap.size) := by rw [hBx]; exact Nat.le_refl _
      have Hsz := Lib.hid hsz
      clear hb hown HS HBr HBw HD hBx hsz
      revert HDa hsc hDl HDn Hne
      generalize restP (rD l) q N = D
      intro hsc hDl HDn Hne HDa
      go_wp2_with fail
      go_loopw [14, 36] (fun u y wq => ∃ p : Nat, p ≤ D.length ∧ y = .int .i64 p ∧ Hid (RowU 69 n (needF l ⟨xt, xk, xo, xv, xb⟩ N (R.take m)) gl w1 wq ∧ AtR wq sa D ∧ OwnL eltEv wq Bx u (evsAt l (D.take p)) ∧ Bx ≤ wq.heap.size)) (fun _ y _ => D.length - (intOf y).toNat)
      case atStart => exact ⟨0, Nat.zero_le _, by go_num, HS1.out, HDa.out, by rw [List.take_zero]; exact OwnL.nil .., HBx.out⟩
      case round =>
        clear HS1 HDa HBx
        obtain ⟨p, hp, rfl, HL⟩ := hrel
        have HBq := Lib.hid (HL.out.1.base Hgl.out)
        by_cases hpl : p < D.length
        · obtain ⟨r, hr⟩ : ∃ r, D[p]? = some r := ⟨_, List.getElem?_eq_getElem hpl⟩
          have hrn : r < n := HDn.out r (List.mem_of_getElem? hr)
          obtain ⟨dg, rfl, cd⟩ := HL.out.2.1 p r hr
          obtain ⟨bl, off, y, rfl, hy, _, c0, c1, c2, c3, c4⟩ := (Hev.out.below (HB1.out.trans (HBq.out.mono HB1.out.size))).at hrn
          have Hstep : Hid (evsAt l (D.take (p + 1)) = evsAt l (D.take p) ++ [y]) := evs_one hr hy
          obtain ⟨yt, yk, yo, yv, yb⟩ := y
          simp only at c0 c1 c2 c3 c4
          have Hlen : Hid ((evsAt l (D.take p)).length < 1000000) := by rw [Hid, evsAt_len, List.length_take]; omega
          clear hr hy HBq
          go_wp2_with (at_builtin; go_loud (refine wpList_push eltEv rfl (.tmp 40) (.tmp 45) rfl ⟨yt, yk, yo, yv, yb⟩ rfl rfl rfl HL.out.2.2.1 HL.out.2.2.2 Hlen.out ?_); intro v' wv hown hw hv; (have HL' := Lib.hid (And.intro (HL.out.1.wrote hw (fun z hz => Nat.lt_of_lt_of_le Hsz.out (HL.out.2.2.1.lt hz).1)) (And.intro (HL.out.2.1.wrote hw (fun g hg hz => Nat.lt_irrefl _ (Nat.lt_of_lt_of_le (HDb.out g hg) (HL.out.2.2.1.lt hz).1))) (And.intro (show OwnL eltEv wv Bx v' (evsAt l (D.take (p + 1))) by rw [Hstep.out]; exact hown) (Nat.le_trans HL.out.2.2.2 hw.size))))); clear hown hw hv)
          go_roundw
          case rel => exact ⟨p + 1, hpl, by go_num, HL'.out⟩
          case measure => exact meas hpl
        · have hpl : D.length = p := Nat.le_antisymm (Nat.le_of_not_lt hpl) hp
          subst hpl
          have hX := keep HBq.out HX.out.1
          have hX1 := keep HBq.out HX.out.2.1
          have hX2 := keep HBq.out HX.out.2.2.1
          have hX3 := keep HBq.out HX.out.2.2.2.1
          have hX4 := keep HBq.out HX.out.2.2.2.2
          have Hlen : Hid ((evsAt l (D.take D.length)).length < 1000000) := by rw [Hid, evsAt_len, List.length_take]; omega
          have hqn : q < n := Nat.lt_of_lt_of_le hqN hN
          have HDw : Hid (∀ z ∈ needX l ⟨xt, xk, xo, xv, xb⟩ N q, z.wf) := fun z hz => by
            rw [Hne.out] at hz
            rcases List.mem_append.1 hz with hz | hz
            · exact evsAt_wf Hwf.out (fun j hj => by rw [Hl.out]; exact HDn.out j hj) z hz
            · rw [List.mem_singleton.1 hz]; exact Hx.out
          clear HBq
          go_wp2_with (at_builtin; go_loud (refine wpList_push eltEv rfl (.tmp 50) (.tmp 52) rfl ⟨xt, xk, xo, xv, xb⟩ rfl rfl rfl HL.out.2.2.1 HL.out.2.2.2 Hlen.out ?_); intro v' wv hown hw hv; (have HN := Lib.hid (And.intro (HL.out.1.wrote hw (fun z hz => Nat.lt_of_lt_of_le Hsz.out (HL.out.2.2.1.lt hz).1)) (show OwnL eltEv wv Bx v' (needX l ⟨xt, xk, xo, xv, xb⟩ N q) by rw [Hne.out]; rw [List.take_length] at hown; exact hown))); clear hown hw hv)
          obtain ⟨xa, xc, rfl, hE⟩ := HN.out.2.evs HDw.out
          refine (init_calls hE).mono ?_
          rintro e wz ⟨rfl, hb⟩
          have HSz := Lib.hid (HN.out.1.go hb)
          obtain ⟨gc, gf⟩ := HSz.out.get hqn
          have HF : Hid (RowU 69 n (needF l ⟨xt, xk, xo, xv, xb⟩ N (R.take (m + 1))) gl w1 (wz.setCell ⟨gl, q, none⟩ (.int .u64 (((initS (needX l ⟨xt, xk, xo, xv, xb⟩ N q) (needX l ⟨xt, xk, xo, xv, xb⟩ N q).length).2 : Nat) : Int)))) := (HSz.out.put q _).of (fun k _ => Hput.out k)
          clear hE hb HN HL HSz hX hX1 hX2 hX3 hX4
          go_wp2
          go_roundw
          case rel => exact ⟨m + 1, hmR, by go_num, HF.out⟩
          case measure => exact meas hmR
    · have hmR : R.length = m := Nat.le_antisymm (Nat.le_of_not_lt hmR) hm
      subst hmR
      have Hq : Hid (SetsPost 69 w n (needF l ⟨xt, xk, xo, xv, xb⟩ N R) (.returned (.slice (some ⟨gl, 0, none⟩) n n)) wr) := by
        have := HS.out.row
        rw [List.take_length] at this
        exact ⟨gl, rfl, this, HBw.out⟩
      clear HS HBr HBw
      go_wp2
      go_ret
      exact Hq.out
end Go.Proofs.Ytjhlehepnhbbaaa

namespace Go.Proofs.Ytjhlehepnhbbaaa
open Go.ChangeShapes Go.WideShapes Go.ChangeAt Go.RowKit Go.Deep

/-- What both hand back: nothing and an error, or a row of sets. -/
def NdPost (t : TypeId) (w : World) (n : Nat) (ok : Bool) (f : Nat → Nat) (z : Int) (e : Ending) (w' : World) : Prop :=
  Below w.heap.size w w' ∧ ((ok = false ∧ e = .returned (.tuple #[.slice none 0 0, .int .i64 z])) ∨ (ok = true ∧ ∃ g, e = .returned (.tuple #[.slice (some ⟨g, 0, none⟩) n n, .int .i64 0]) ∧ w'.heap[g]? = some (.cells (uintsA n f) t (0, 0))))
theorem NdPost.no {t : TypeId} {w w' : World} {n : Nat} {ok : Bool} {f : Nat → Nat} {z : Int} (ho : ok = false) (hb : Below w.heap.size w w') : NdPost t w n ok f z (.returned (.tuple #[.slice none 0 0, .int .i64 z])) w' := ⟨hb, .inl ⟨ho, rfl⟩⟩
noncomputable def ndOk (n : Nat) (l : List Ev) : Bool := decide (wrongS n l = 0) && decide (n ≠ 0)
noncomputable def ndErr (n : Nat) (l : List Ev) : Int := if wrongS n l ≠ 0 then wrongS n l else 190
noncomputable def ndF (n : Nat) (l : List Ev) : Nat → Nat := needF l (l.getD (n - 1) ev00) (n - 1) (racesAt l (n - 1))

set_option maxRecDepth 20000 in
set_option maxHeartbeats 8000000 in
theorem pneeds_calls {w : World} {a0 : Option Addr} {n c : Nat} {l : List Ev} (h : IsEvs w a0 n c l) :
    Calls Try.prog 35 #[.slice a0 n c] w (NdPost 69 w n (ndOk n l) (ndF n l) (ndErr n l)) := by
  have hnm : n ≤ 9223372036854775807 := by have := h.le; have := h.cap; unfold maxLen at *; omega
  have Hev := Lib.hid h
  have Ho := Lib.hid (order_calls h)
  clear h
  go_enter Try.func35, Try.ntmps35
  go_wp2_with fail
  refine Ho.out.mono ?_
  rintro e w1 ⟨hb1, ⟨hz, rfl⟩ | ⟨hz, hg, b, v, rfl, hO⟩⟩
  · have HB1 := Lib.hid hb1
    have hz' : (wrongS n l != 0) = true := by simpa [bne] using hz
    have Hq : Hid (NdPost 69 w n (ndOk n l) (ndF n l) (ndErr n l) (.returned (.tuple #[.slice none 0 0, .int .i64 (wrongS n l)])) w1) := by
      rw [Hid, show ndErr n l = wrongS n l from if_pos hz]
      exact NdPost.no (by unfold ndOk; rw [decide_eq_false hz]; rfl) HB1.out
    clear hb1 hz Ho
    generalize wrongS n l = z at *
    go_wp2
    go_returns
    exact Hq.out
  have HB1 := Lib.hid hb1
  have hn100 : n ≤ 100 := hg.le
  have Hz := Lib.hid hz
  clear hb1 hg hO hz Ho hnm
  by_cases hn0 : n = 0
  · have Hq : Hid (NdPost 69 w n (ndOk n l) (ndF n l) (ndErr n l) (.returned (.tuple #[.slice none 0 0, .int .i64 190])) w1) := by
      rw [Hid, show ndErr n l = 190 from if_neg (by rw [Hz.out]; simp)]
      exact NdPost.no (by unfold ndOk; rw [hn0]; simp) HB1.out
    have hnb : ((n : Int) == 0) = true := by simp; omega
    have hnb2 : (n == 0) = true := by simpa using hn0
    clear hn0
    go_wp2
    go_returns
    exact Hq.out
  have hnb : ((n : Int) == 0) = false := by simp; omega
  have hnb2 : (n == 0) = false := by simpa using hn0
  have Hok : Hid (ndOk n l = true) := by unfold Hid ndOk; rw [decide_eq_true Hz.out, decide_eq_true hn0]; rfl
  obtain ⟨N, hN⟩ : ∃ N, n = N + 1 := ⟨n - 1, by omega⟩
  have HF : Hid (ndF n l = needF l (l.getD N ev00) N (racesAt l N)) := by unfold Hid ndF; rw [hN, Nat.add_sub_cancel]
  have HRes : Hid (raceRes n l (N : Int) = (natsI (racesAt l N), 0)) := raceRes_in Hz.out (by omega)
  subst hN
  go_wp2_with fail
  refine (raceOf_calls (Hev.out.below HB1.out) (N : Int)).mono ?_
  rintro e w2 ⟨v', rfl, hown, hb⟩
  rw [HRes.out] at hown ⊢
  simp only at hown ⊢
  have HB2 := Lib.hid (HB1.out.trans (hb.mono HB1.out.size))
  obtain ⟨sa, sc, hu, hsc, _⟩ := hown.int_at
  rw [natsI_len] at hu hsc
  subst hu
  have HAt : Hid (AtR w2 sa (racesAt l N)) := OwnL.atR hown
  have HRn : Hid (∀ q ∈ racesAt l N, q < N) := fun q hq => racesAt_lt hq
  have hRl : (racesAt l N).length ≤ 100 := Nat.le_trans (by
    have := List.length_filter_le (maxP (rD l) (candB l N (l.getD N ev00).t (l.getD N ev00).k (l.getD N ev00).o) N) (List.range N)
    rw [List.length_range] at this; exact this) (show N ≤ 100 by omega)
  obtain ⟨bl, off, x, rfl, hx, hxw, d0, d1, d2, d3, d4⟩ := (Hev.out.below HB2.out).at (show N < N + 1 by omega)
  have HF2 : Hid (ndF (N + 1) l = needF l x N (racesAt l N)) := by rw [Hid, HF.out, getD_of hx]
  have Hxw := Lib.hid hxw
  have hlt : N < N + 1 := by omega
  clear hown hb hx hxw HRes HF
  revert HAt HRn hRl hsc HF2
  generalize racesAt l N = R
  intro hsc HAt HRn hRl HF2
  go_wp2_with fail
  refine (needs_calls (Hev.out.below HB2.out) Hz.out (Nat.le_succ N) HAt.out hsc HRn.out hRl Hxw.out).mono ?_
  rintro e w3 ⟨g, rfl, hg, hb⟩
  have Hq : Hid (NdPost 69 w (N + 1) (ndOk (N + 1) l) (ndF (N + 1) l) (ndErr (N + 1) l) (.returned (.tuple #[.slice (some ⟨g, 0, none⟩) (N + 1) (N + 1), .int .i64 0])) w3) := by
    rw [Hid, HF2.out]
    exact ⟨HB2.out.trans (hb.mono HB2.out.size), .inr ⟨Hok.out, g, rfl, hg⟩⟩
  clear hg hb
  go_wp2
  go_returns
  exact Hq.out

set_option maxRecDepth 20000 in
set_option maxHeartbeats 8000000 in
theorem revents_calls {w : World} {a0 pa : Option Addr} {n c pc : Nat} {l : List Ev} {P : List Nat} (h : IsEvs w a0 n c l) (hP : AtR w pa P) (hPc : P.length ≤ pc) (hPn : ∀ q ∈ P, q < n) (hPl : P.length ≤ 1000) (hn : n ≤ 100) :
    Calls Try.prog 69 #[.slice a0 n c, .slice pa P.length pc] w (OwnsPost eltEv w (evsAt l P)) := by
  have Hev := Lib.hid h
  have HP := Lib.hid hP
  have HPn := Lib.hid hPn
  clear h hP hPn
  go_enter Try.func69, Try.ntmps69
  go_wp2_with fail
  go_loopw [5, 6] (fun u y wr => ∃ p : Nat, p ≤ P.length ∧ y = .int .i64 p ∧ Hid (OwnL eltEv wr w.heap.size u (evsAt l (P.take p)) ∧ Below w.heap.size w wr)) (fun _ y _ => P.length - (intOf y).toNat)
  case atStart => exact ⟨0, Nat.zero_le _, by go_num, by rw [List.take_zero]; exact OwnL.nil .., Below.refl ..⟩
  case round =>
    obtain ⟨p, hp, rfl, HL⟩ := hrel
    by_cases hpl : p < P.length
    · obtain ⟨r, hr⟩ : ∃ r, P[p]? = some r := ⟨_, List.getElem?_eq_getElem hpl⟩
      have hrn : r < n := HPn.out r (List.mem_of_getElem? hr)
      obtain ⟨dg, rfl, cd⟩ := (HP.out.below HL.out.2) p r hr
      obtain ⟨bl, off, y, rfl, hy, _, c0, c1, c2, c3, c4⟩ := (Hev.out.below HL.out.2).at hrn
      have Hstep : Hid (evsAt l (P.take (p + 1)) = evsAt l (P.take p) ++ [y]) := evs_one hr hy
      obtain ⟨yt, yk, yo, yv, yb⟩ := y
      simp only at c0 c1 c2 c3 c4
      have Hlen : Hid ((evsAt l (P.take p)).length < 1000000) := by rw [Hid, evsAt_len, List.length_take]; omega
      clear hr hy
      go_wp2_with (at_builtin; go_loud (refine wpList_push eltEv rfl (.tmp 13) (.tmp 21) rfl ⟨yt, yk, yo, yv, yb⟩ rfl rfl rfl HL.out.1 HL.out.2.size Hlen.out ?_); intro v' wv hown hw hv; (have HL' := Lib.hid (And.intro (show OwnL eltEv wv w.heap.size v' (evsAt l (P.take (p + 1))) by rw [Hstep.out]; exact hown) (Wrote.below HL.out.2 hw HL.out.2.size (fun q hq => (HL.out.1.lt hq).1)))); clear hown hw hv)
      go_roundw
      case rel => exact ⟨p + 1, hpl, by go_num, HL'.out⟩
      case measure => exact meas hpl
    · have hpl : P.length = p := Nat.le_antisymm (Nat.le_of_not_lt hpl) hp
      subst hpl
      have HN := HL.out
      rw [List.take_length] at HN
      have HN := Lib.hid HN
      clear HL
      go_wp2
      go_ret
      exact ⟨_, rfl, HN.out⟩

set_option maxRecDepth 20000 in
set_option maxHeartbeats 16000000 in
theorem rneeds_calls {w : World} {a0 : Option Addr} {n c : Nat} {l : List Ev} (h : IsEvs w a0 n c l) :
    Calls Try.prog 36 #[.slice a0 n c] w (NdPost 68 w n (ndOk n l) (ndF n l) (ndErr n l)) := by
  have hnm : n ≤ 9223372036854775807 := by have := h.le; have := h.cap; unfold maxLen at *; omega
  have Hev := Lib.hid h
  have Ho := Lib.hid (rord_calls h)
  have Hwf := Lib.hid h.wf
  have Hl := Lib.hid h.len
  clear h
  go_enter Try.func36, Try.ntmps36
  go_wp2_with fail
  refine Ho.out.mono ?_
  rintro e w1 ⟨hb1, ⟨hz, rfl⟩ | ⟨hz, v1, v2, rfl, hM1, hM2⟩⟩
  · have HB1 := Lib.hid hb1
    have hz' : (wrongS n l != 0) = true := by simpa [bne] using hz
    have Hq : Hid (∀ x, NdPost 68 w n (ndOk n l) (ndF n l) (ndErr n l) (.returned (.tuple #[.slice none 0 0, .int .i64 (wrongS n l)])) (w1.alloc x)) := fun x => by
      rw [show ndErr n l = wrongS n l from if_pos hz]
      exact NdPost.no (by unfold ndOk; rw [decide_eq_false hz]; rfl) (HB1.out.alloc HB1.out.size _)
    clear hb1 hz Ho
    generalize wrongS n l = z at *
    go_wp2
    go_returns
    exact Hq.out _
  have hn100 : n ≤ 100 := wrong_le16 hz
  have HG : Hid (GoodL n l) := by obtain ⟨S, hS⟩ := wrong_ofS hz; exact good_of Hev.out hn100 hS
  have Hz := Lib.hid hz
  obtain ⟨sa, sp, sq, rfl⟩ := hM1.slice
  obtain ⟨ta, tp, tq, rfl⟩ := hM2.slice
  have hal : Below w1.heap.size w1 (w1.alloc (.cells #[.slice a0 n c, .slice sa sp sq, .slice ta tp tq] 93)) := (Below.refl _ w1).alloc (Nat.le_refl _) _
  have hR3 : ROrdAt (w1.alloc (.cells #[.slice a0 n c, .slice sa sp sq, .slice ta tp tq] 93)) w1.heap.size a0 n c (.slice sa sp sq) (.slice ta tp tq) l :=
    ⟨(MapKept.heap_alloc w1 _).1, ⟨_, hM1.below hal⟩, ⟨_, hM2.below hal⟩, (Hev.out.below hb1).below hal⟩
  have HX := Lib.hid (And.intro hR3 (hb1.trans (hal.mono hb1.size)))
  clear hb1 hal hR3 hM1 hM2 Ho hz hnm
  by_cases hn0 : n = 0
  · have Hq : Hid (NdPost 68 w n (ndOk n l) (ndF n l) (ndErr n l) (.returned (.tuple #[.slice none 0 0, .int .i64 190])) (w1.alloc (.cells #[.slice a0 n c, .slice sa sp sq, .slice ta tp tq] 93))) := by
      rw [Hid, show ndErr n l = 190 from if_neg (by rw [Hz.out]; simp)]
      exact NdPost.no (by unfold ndOk; rw [hn0]; simp) HX.out.2
    have hnb : ((n : Int) == 0) = true := by simp; omega
    have hnb2 : (n == 0) = true := by simpa using hn0
    clear hn0
    go_wp2
    go_returns
    exact Hq.out
  have hnb : ((n : Int) == 0) = false := by simp; omega
  have hnb2 : (n == 0) = false := by simpa using hn0
  have Hok : Hid (ndOk n l = true) := by unfold Hid ndOk; rw [decide_eq_true Hz.out, decide_eq_true hn0]; rfl
  obtain ⟨N, hN⟩ : ∃ N, n = N + 1 := ⟨n - 1, by omega⟩
  have HF : Hid (ndF n l = needF l (l.getD N ev00) N (racesAt l N)) := by unfold Hid ndF; rw [hN, Nat.add_sub_cancel]
  subst hN
  go_wp2_with fail
  revert HX
  generalize w1.alloc (.cells #[.slice a0 (N + 1) c, .slice sa sp sq, .slice ta tp tq] 93) = w2
  intro HX
  have HR := Lib.hid HX.out.1
  have HB2 := Lib.hid HX.out.2
  clear HX
  obtain ⟨rb, hrb⟩ : ∃ rb, rb = w1.heap.size := ⟨_, rfl⟩
  rw [← hrb] at HR ⊢
  clear hrb
  obtain ⟨bl, off, x, rfl, hx, hxw, d0, d1, d2, d3, d4⟩ := HR.out.evs.at (show N < N + 1 by omega)
  have hlt : N < N + 1 := by omega
  have hnc : N + 1 ≤ c := HR.out.evs.le
  have hI : (N : Int) < (N : Int) + 1 := by omega
  have Hre : Hid (racesAt l N = racesP (rD l) (candB l N x.t x.k x.o) N) := by unfold racesAt; rw [Hid, getD_of hx]
  have HF2 : Hid (ndF (N + 1) l = needF l x N (racesAt l N)) := by rw [Hid, HF.out, getD_of hx]
  have Hxw := Lib.hid hxw
  obtain ⟨xt, xk, xo, xv, xb⟩ := x
  simp only at d0 d1 d2 d3 d4 Hre
  have hc : ∀ W, Below w2.heap.size w2 W → Calls Try.prog 68 #[.pointer (some ⟨rb, 0, none⟩), .int .i64 (N : Int), .int .i64 xt, .agg #[.int .i64 xk, .int .i64 xo]] W fun e w' => ∃ v, e = .returned v ∧ OwnL eltI w' W.heap.size v (natsI (racesAt l N)) ∧ Below W.heap.size W w' := fun W hW => by rw [Hre.out]; exact rraces_calls (HR.out.below hW) HG.out (by omega) xt xk xo
  have Hc := Lib.hid hc
  clear hc hx hxw HF
  refine wp_plan_draw [0, 1, 2, 3, 4, 5, 6, 7, 8, 9, 10, 11, 12, 13, 14, 15, 16] [17, 18] (fun w' => w'.cell? ⟨bl, off + N * 5, none⟩ = some (.int .i64 xt) ∧ w'.cell? ⟨bl, off + N * 5 + 1, none⟩ = some (.int .i64 xk) ∧ w'.cell? ⟨bl, off + N * 5 + 2, none⟩ = some (.int .i64 xo)) mixed (by kernel_rfl) (fun c a d v w h => by cases d <;> exact h) ⟨d0, d1, d2⟩ ?_
  simp only [picks, List.map_cons, List.map_nil, List.getD_cons_zero, List.getD_cons_succ]
  repeat ((apply ReadRun.go rfl); (intro y1 hS; (obtain ⟨d0, d1, d2⟩ := hS); go_simp; first | done | exact rfl); (simp only [Act.put, List.setIfInBounds_toArray, List.set_cons_zero, List.set_cons_succ]))
  refine ReadRun.done ?_
  refine TailRun.go rfl (fun K hK => ?_)
  go_wp2_with fail
  refine (Hc.out _ (Below.refl ..).drew).mono ?_
  rintro e z3 ⟨u, rfl, hown, hb⟩
  have hbel : Below w2.heap.size w2 z3 := ((Below.refl w2.heap.size w2).drew).trans hb
  obtain ⟨ga, gc, hu, hgc, _⟩ := hown.int_at
  rw [natsI_len] at hu hgc
  subst hu
  have HAt : Hid (AtR z3 ga (racesAt l N)) := OwnL.atR hown
  have k0 := keep hbel d0
  have k1 := keep hbel d1
  have k2 := keep hbel d2
  have k3 := keep hbel d3
  have k4 := keep hbel d4
  have HB3 := Lib.hid (HB2.out.trans (hbel.mono HB2.out.size))
  have HR3 := Lib.hid (HR.out.below hbel)
  clear hown hb hbel
  refine hK _ _ ⟨⟨k0, k1, k2⟩, ?_⟩
  try simp only [Act.put, List.setIfInBounds_toArray, List.set_cons_zero, List.set_cons_succ]
  refine TailRun.go rfl (fun K hK => ?_)
  go_wp2_with fail
  refine ⟨⟨k0, k1, k2⟩, ?_⟩
  refine TailRun.done ?_
  have HX := Lib.hid (And.intro k0 (And.intro k1 (And.intro k2 (And.intro k3 k4))))
  clear k0 k1 k2 k3 k4 d0 d1 d2 d3 d4 Hc Hre HR HB2
  have HRn : Hid (∀ q ∈ racesAt l N, q < N) := fun q hq => racesAt_lt hq
  have hRl : (racesAt l N).length ≤ 100 := Nat.le_trans (by
    have := List.length_filter_le (maxP (rD l) (candB l N (l.getD N ev00).t (l.getD N ev00).k (l.getD N ev00).o) N) (List.range N)
    rw [List.length_range] at this; exact this) (show N ≤ 100 by omega)
  revert HF2 hgc HAt HRn hRl
  generalize racesAt l N = R
  intro HF2 hgc HAt HRn hRl
  clear hK
  go_wp2_with (refine wpList_makeU Try.underlying59 infoUint rfl (.tmp 45) (.tmp 45) rfl (N + 1) (by omega) rfl rfl ?_)
  have HS : RowU 68 (N + 1) (needF l ⟨xt, xk, xo, xv, xb⟩ N (R.take 0)) z3.heap.size z3 (z3.alloc (.cells (uintsA (N + 1) fun _ => 0) 68)) := ⟨by rw [uintsA_congr (f := needF l ⟨xt, xk, xo, xv, xb⟩ N (R.take 0)) (g := fun _ => 0) (fun i _ => by rw [List.take_zero, needF_nil])]; exact (MapKept.heap_alloc z3 _).1, (Below.refl _ z3).alloc (Nat.le_refl _) _⟩
  revert HS
  generalize z3.alloc (.cells (uintsA (N + 1) fun _ => 0) 68) = z4
  intro HS
  obtain ⟨gl, hgl⟩ : ∃ gl, gl = z3.heap.size := ⟨_, rfl⟩
  rw [← hgl] at HS ⊢
  have Hgl := Lib.hid hgl
  have HS2 := Lib.hid HS
  clear hgl HS
  go_wp2_with fail
  go_loopw [9, 10, 11] (fun y _ _ wr => ∃ m : Nat, m ≤ R.length ∧ y = .int .i64 m ∧ Hid (RowU 68 (N + 1) (needF l ⟨xt, xk, xo, xv, xb⟩ N (R.take m)) gl z3 wr)) (fun y _ _ _ => R.length - (intOf y).toNat)
  case atStart => exact ⟨0, Nat.zero_le _, by go_num, HS2.out⟩
  case round =>
    clear HS2
    obtain ⟨m, hm, rfl, HS⟩ := hrel
    have HBr := Lib.hid (HS.out.base Hgl.out)
    by_cases hmR : m < R.length
    · obtain ⟨q, hq⟩ : ∃ q, R[m]? = some q := ⟨_, List.getElem?_eq_getElem hmR⟩
      have hqN : q < N := HRn.out q (List.mem_of_getElem? hq)
      obtain ⟨rg, rfl, cq⟩ := (HAt.out.below HBr.out) m q hq
      have Hq := Lib.hid hq
      clear hq
      go_wp2_with fail
      refine (rrest_calls (HR3.out.below HBr.out) hn100 (Nat.le_succ N) hqN).mono ?_
      rintro e y1 ⟨ur, rfl, hown, hb⟩
      have HS1 := Lib.hid (HS.out.go hb)
      obtain ⟨da, dc, hu, hdc, _⟩ := hown.int_at
      rw [natsI_len] at hu hdc
      subst hu
      have HDa : Hid (AtR y1 da (restP (rD l) q N)) := OwnL.atR hown
      have hDl : (restP (rD l) q N).length ≤ 100 := Nat.le_trans (restP_len (rD l) q N) (by omega)
      have HDn : Hid (∀ p ∈ restP (rD l) q N, p < N + 1) := fun p hp => Nat.lt_succ_of_lt (restP_lt hp)
      have Hne : Hid (needX l ⟨xt, xk, xo, xv, xb⟩ N q = evsAt l (restP (rD l) q N) ++ [⟨xt, xk, xo, xv, xb⟩]) := rfl
      have Hput : Hid (∀ k, (if k = q then needN l ⟨xt, xk, xo, xv, xb⟩ N q else needF l ⟨xt, xk, xo, xv, xb⟩ N (R.take m) k) = needF l ⟨xt, xk, xo, xv, xb⟩ N (R.take (m + 1)) k) := fun k => needF_put Hq.out k
      clear hb hown HS HBr
      have HBr := Lib.hid (HS1.out.base Hgl.out)
      go_wp2_with fail
      refine (revents_calls (Hev.out.below (HB3.out.trans (HBr.out.mono HB3.out.size))) HDa.out hdc HDn.out (by omega) hn100).mono ?_
      rintro e y2 ⟨ux, rfl, hown, hb⟩
      have HS2 := Lib.hid (HS1.out.go hb)
      have HB2' := Lib.hid (HS2.out.base Hgl.out)
      have HO2 := Lib.hid hown
      have hX := keep HB2'.out HX.out.1
      have hX1 := keep HB2'.out HX.out.2.1
      have hX2 := keep HB2'.out HX.out.2.2.1
      have hX3 := keep HB2'.out HX.out.2.2.2.1
      have hX4 := keep HB2'.out HX.out.2.2.2.2
      have hsz : y1.heap.size ≤ y2.heap.size := hb.size
      have hgy : gl < y1.heap.size := HS1.out.lt
      have Hgy := Lib.hid hgy
      have Hlen : Hid ((evsAt l (restP (rD l) q N)).length < 1000000) := by rw [Hid, evsAt_len]; omega
      have HDw : Hid (∀ z ∈ needX l ⟨xt, xk, xo, xv, xb⟩ N q, z.wf) := fun z hz => by
        rw [Hne.out] at hz
        rcases List.mem_append.1 hz with hz | hz
        · exact evsAt_wf Hwf.out (fun j hj => by rw [Hl.out]; exact HDn.out j hj) z hz
        · rw [List.mem_singleton.1 hz]; exact Hxw.out
      clear hown hb HS1 HBr HDa hgy
      go_wp2_with (at_builtin; go_loud (refine wpList_push eltEv rfl (.tmp 62) (.tmp 67) rfl ⟨xt, xk, xo, xv, xb⟩ rfl rfl rfl HO2.out hsz Hlen.out ?_); intro v' wv hown hw hv; (have HN := Lib.hid (And.intro (HS2.out.wrote hw (fun z hz => Nat.lt_of_lt_of_le Hgy.out (HO2.out.lt hz).1)) (show OwnL eltEv wv y1.heap.size v' (needX l ⟨xt, xk, xo, xv, xb⟩ N q) by rw [Hne.out]; exact hown))); clear hown hw hv)
      obtain ⟨xa, xc, rfl, hE⟩ := HN.out.2.evs HDw.out
      have HE := Lib.hid hE
      obtain ⟨rg', he, cq⟩ := (HAt.out.below (HN.out.1.base Hgl.out)) m q Hq.out
      cases he
      have hqn : q < N + 1 := Nat.lt_succ_of_lt hqN
      have hst : ∀ W, Below wv.heap.size wv W → Calls Try.prog 70 #[.slice xa (needX l ⟨xt, xk, xo, xv, xb⟩ N q).length xc] W fun x' w' => x' = .returned (.int .u64 ((needN l ⟨xt, xk, xo, xv, xb⟩ N q : Nat) : Int)) ∧ Below W.heap.size W w' := fun W hW => rinit_calls (HE.out.below hW)
      have Hst := Lib.hid hst
      have HN1 := Lib.hid HN.out.1
      clear hE hst HN HO2 hX hX1 hX2 hX3 hX4 HS2 HB2' HE
      revert Hst Hput
      generalize needN l ⟨xt, xk, xo, xv, xb⟩ N q = V
      intro Hput Hst
      go_wp2_with fail
      refine wp_ext_draw 8 mixed (by kernel_rfl) ?_
      simp only [List.take_succ_cons, List.take_zero, List.drop_succ_cons, List.drop_zero]
      repeat ((first | ((apply TextRun.go rfl rfl rfl); (focus (intro w1 hS K hK; have hc := bcell hS; have hs := blt hS; have cq := keep hS cq; go_wp2_with ((with_reducible refine (Hst.out _ hS).mono ?_); rintro x' w4 ⟨rfl, hb⟩); first | done | exact hS | exact hS.trans (hb.mono hS.size)))) | (refine TextRun.skip rfl ?_) | ((refine TextRun.wantedT rfl rfl rfl ?_); (apply Exists.intro); (apply And.intro); (focus (intro w1 hS K hK; have hc := bcell hS; have hs := blt hS; have cq := keep hS cq; go_wp2_with ((with_reducible refine (Hst.out _ hS).mono ?_); rintro x' w4 ⟨rfl, hb⟩); first | done | exact hS | exact hS.trans (hb.mono hS.size))))); (simp only [Act.put, List.setIfInBounds_toArray, List.set_cons_zero, List.set_cons_succ]))
      refine TextRun.done ?_
      intro w6 hb
      have HSz := Lib.hid (HN1.out.go hb)
      obtain ⟨gc, gf⟩ := HSz.out.get hqn
      have HF : Hid (RowU 68 (N + 1) (needF l ⟨xt, xk, xo, xv, xb⟩ N (R.take (m + 1))) gl z3 (w6.setCell ⟨gl, q, none⟩ (.int .u64 (V : Int)))) := (HSz.out.put q V).of (fun k _ => Hput.out k)
      clear hb HSz HN1 cq Hst
      go_wp2
      go_roundw
      case rel => exact ⟨m + 1, hmR, by go_num, HF.out⟩
      case measure => exact meas hmR
    · have hmR : R.length = m := Nat.le_antisymm (Nat.le_of_not_lt hmR) hm
      subst hmR
      have Hq : Hid (NdPost 68 w (N + 1) (ndOk (N + 1) l) (ndF (N + 1) l) (ndErr (N + 1) l) (.returned (.tuple #[.slice (some ⟨gl, 0, none⟩) (N + 1) (N + 1), .int .i64 0])) wr) := by
        have := HS.out.row
        rw [List.take_length] at this
        rw [Hid, HF2.out]
        exact ⟨HB3.out.trans (HBr.out.mono HB3.out.size), .inr ⟨Hok.out, gl, rfl, this⟩⟩
      clear HS HBr
      go_wp2
      go_returns
      exact Hq.out
end Go.Proofs.Ytjhlehepnhbbaaa
