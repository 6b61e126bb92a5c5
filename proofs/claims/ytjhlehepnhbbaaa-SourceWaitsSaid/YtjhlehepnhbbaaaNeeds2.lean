/-
  Needs of both: what is to be tried for the races of the last event; the law.
-/
import Derived.Test.YtjhlehepnhbbaaaNeeds
set_option linter.unusedSimpArgs false
set_option linter.unusedVariables false
namespace Go.Proofs.Ytjhlehepnhbbaaa
open Go.ChangeShapes Go.WideShapes Go.ChangeAt Go.RowKit Go.Deep

/-- What both hand back: nothing and an error, or a row of sets. -/
def NdPost (t : TypeId) (w : World) (n : Nat) (ok : Bool) (f : Nat → Nat) (z : Int) (e : Ending) (w' : World) : Prop :=
  Below w.heap.size w w' ∧ ((ok = false ∧ e = .returned (.tuple #[.slice none 0 0, .int .i64 z])) ∨ (ok = true ∧ ∃ g, e = .returned (.tuple #[.slice (some ⟨g, 0, none⟩) n n, .int .i64 0]) ∧ w'.heap[g]? = some (.cells (uintsA n f) t (0, 0))))
theorem NdPost.no {t : TypeId} {w w' : World} {n : Nat} {ok : Bool} {f : Nat → Nat} {z : Int} (ho : ok = false) (hb : Below w.heap.size w w') : NdPost t w n ok f z (.returned (.tuple #[.slice none 0 0, .int .i64 z])) w' := ⟨hb, .inl ⟨ho, rfl⟩⟩
noncomputable def ndOk (n : Nat) (l : List Ev) : Bool := decide (wrongS n l = 0) && decide (n ≠ 0)
noncomputable def ndErr (n : Nat) (l : List Ev) : Int := if wrongS n l ≠ 0 then wrongS n l else 190
noncomputable def ndF (n : Nat) (l : List Ev) : Nat → Nat := needF l (l.getD (n - 1) ev00) (n - 1) (racesAt l (n - 1))

set_option maxRecDepth 20000 in
set_option maxHeartbeats 8000000 in
theorem pneeds_calls {w : World} {a0 : Option Addr} {n c : Nat} {l : List Ev} (h : IsEvs w a0 n c l) :
    Calls Try.prog 35 #[.slice a0 n c] w (NdPost 69 w n (ndOk n l) (ndF n l) (ndErr n l)) := by
  have hnm : n ≤ 9223372036854775807 := by have := h.le; have := h.cap; unfold maxLen at *; omega
  have Hev := Lib.hid h
  have Ho := Lib.hid (order_calls h)
  clear h
  go_enter Try.func35, Try.ntmps35
  go_wp2_with fail
  refine Ho.out.mono ?_
  rintro e w1 ⟨hb1, ⟨hz, rfl⟩ | ⟨hz, hg, b, v, rfl, hO⟩⟩
  · have HB1 := Lib.hid hb1
    have hz' : (wrongS n l != 0) = true := by simpa [bne] using hz
    have Hq : Hid (NdPost 69 w n (ndOk n l) (ndF n l) (ndErr n l) (.returned (.tuple #[.slice none 0 0, .int .i64 (wrongS n l)])) w1) := by
      rw [Hid, show ndErr n l = wrongS n l from if_pos hz]
      exact NdPost.no (by unfold ndOk; rw [decide_eq_false hz]; rfl) HB1.out
    clear hb1 hz Ho
    generalize wrongS n l = z at *
    go_wp2
    go_returns
    exact Hq.out
  have HB1 := Lib.hid hb1
  have hn100 : n ≤ 100 := hg.le
  have Hz := Lib.hid hz
  clear hb1 hg hO hz Ho hnm
  by_cases hn0 : n = 0
  · have Hq : Hid (NdPost 69 w n (ndOk n l) (ndF n l) (ndErr n l) (.returned (.tuple #[.slice none 0 0, .int .i64 190])) w1) := by
      rw [Hid, show ndErr n l = 190 from if_neg (by rw [Hz.out]; simp)]
      exact NdPost.no (by unfold ndOk; rw [hn0]; simp) HB1.out
    have hnb : ((n : Int) == 0) = true := by simp; omega
    have hnb2 : (n == 0) = true := by simpa using hn0
    clear hn0
    go_wp2
    go_returns
    exact Hq.out
  have hnb : ((n : Int) == 0) = false := by simp; omega
  have hnb2 : (n == 0) = false := by simpa using hn0
  have Hok : Hid (ndOk n l = true) := by unfold Hid ndOk; rw [decide_eq_true Hz.out, decide_eq_true hn0]; rfl
  obtain ⟨N, hN⟩ : ∃ N, n = N + 1 := ⟨n - 1, by omega⟩
  have HF : Hid (ndF n l = needF l (l.getD N ev00) N (racesAt l N)) := by unfold Hid ndF; rw [hN, Nat.add_sub_cancel]
  have HRes : Hid (raceRes n l (N : Int) = (natsI (racesAt l N), 0)) := raceRes_in Hz.out (by omega)
  subst hN
  go_wp2_with fail
  refine (raceOf_calls (Hev.out.below HB1.out) (N : Int)).mono ?_
  rintro e w2 ⟨v', rfl, hown, hb⟩
  rw [HRes.out] at hown ⊢
  simp only at hown ⊢
  have HB2 := Lib.hid (HB1.out.trans (hb.mono HB1.out.size))
  obtain ⟨sa, sc, hu, hsc, _⟩ := hown.int_at
  rw [natsI_len] at hu hsc
  subst hu
  have HAt : Hid (AtR w2 sa (racesAt l N)) := OwnL.atR hown
  have HRn : Hid (∀ q ∈ racesAt l N, q < N) := fun q hq => racesAt_lt hq
  have hRl : (racesAt l N).length ≤ 100 := Nat.le_trans (by
    have := List.length_filter_le (maxP (rD l) (candB l N (l.getD N ev00).t (l.getD N ev00).k (l.getD N ev00).o) N) (List.range N)
    rw [List.length_range] at this; exact this) (show N ≤ 100 by omega)
  obtain ⟨bl, off, x, rfl, hx, hxw, d0, d1, d2, d3, d4⟩ := (Hev.out.below HB2.out).at (show N < N + 1 by omega)
  have HF2 : Hid (ndF (N + 1) l = needF l x N (racesAt l N)) := by rw [Hid, HF.out, getD_of hx]
  have Hxw := Lib.hid hxw
  have hlt : N < N + 1 := by omega
  clear hown hb hx hxw HRes HF
  revert HAt HRn hRl hsc HF2
  generalize racesAt l N = R
  intro hsc HAt HRn hRl HF2
  go_wp2_with fail
  refine (needs_calls (Hev.out.below HB2.out) Hz.out (Nat.le_succ N) HAt.out hsc HRn.out hRl Hxw.out).mono ?_
  rintro e w3 ⟨g, rfl, hg, hb⟩
  have Hq : Hid (NdPost 69 w (N + 1) (ndOk (N + 1) l) (ndF (N + 1) l) (ndErr (N + 1) l) (.returned (.tuple #[.slice (some ⟨g, 0, none⟩) (N + 1) (N + 1), .int .i64 0])) w3) := by
    rw [Hid, HF2.out]
    exact ⟨HB2.out.trans (hb.mono HB2.out.size), .inr ⟨Hok.out, g, rfl, hg⟩⟩
  clear hg hb
  go_wp2
  go_returns
  exact Hq.out

set_option maxRecDepth 20000 in
set_option maxHeartbeats 8000000 in
theorem revents_calls {w : World} {a0 pa : Option Addr} {n c pc : Nat} {l : List Ev} {P : List Nat} (h : IsEvs w a0 n c l) (hP : AtR w pa P) (hPc : P.length ≤ pc) (hPn : ∀ q ∈ P, q < n) (hPl : P.length ≤ 1000) (hn : n ≤ 100) :
    Calls Try.prog 69 #[.slice a0 n c, .slice pa P.length pc] w (OwnsPost eltEv w (evsAt l P)) := by
  have Hev := Lib.hid h
  have HP := Lib.hid hP
  have HPn := Lib.hid hPn
  clear h hP hPn
  go_enter Try.func69, Try.ntmps69
  go_wp2_with fail
  go_loopw [5, 6] (fun u y wr => ∃ p : Nat, p ≤ P.length ∧ y = .int .i64 p ∧ Hid (OwnL eltEv wr w.heap.size u (evsAt l (P.take p)) ∧ Below w.heap.size w wr)) (fun _ y _ => P.length - (intOf y).toNat)
  case atStart => exact ⟨0, Nat.zero_le _, by go_num, by rw [List.take_zero]; exact OwnL.nil .., Below.refl ..⟩
  case round =>
    obtain ⟨p, hp, rfl, HL⟩ := hrel
    by_cases hpl : p < P.length
    · obtain ⟨r, hr⟩ : ∃ r, P[p]? = some r := ⟨_, List.getElem?_eq_getElem hpl⟩
      have hrn : r < n := HPn.out r (List.mem_of_getElem? hr)
      obtain ⟨dg, rfl, cd⟩ := (HP.out.below HL.out.2) p r hr
      obtain ⟨bl, off, y, rfl, hy, _, c0, c1, c2, c3, c4⟩ := (Hev.out.below HL.out.2).at hrn
      have Hstep : Hid (evsAt l (P.take (p + 1)) = evsAt l (P.take p) ++ [y]) := evs_one hr hy
      obtain ⟨yt, yk, yo, yv, yb⟩ := y
      simp only at c0 c1 c2 c3 c4
      have Hlen : Hid ((evsAt l (P.take p)).length < 1000000) := by rw [Hid, evsAt_len, List.length_take]; omega
      clear hr hy
      go_wp2_with (at_builtin; go_loud (refine wpList_push eltEv rfl (.tmp 13) (.tmp 21) rfl ⟨yt, yk, yo, yv, yb⟩ rfl rfl rfl HL.out.1 HL.out.2.size Hlen.out ?_); intro v' wv hown hw hv; (have HL' := Lib.hid (And.intro (show OwnL eltEv wv w.heap.size v' (evsAt l (P.take (p + 1))) by rw [Hstep.out]; exact hown) (Wrote.below HL.out.2 hw HL.out.2.size (fun q hq => (HL.out.1.lt hq).1)))); clear hown hw hv)
      go_roundw
      case rel => exact ⟨p + 1, hpl, by go_num, HL'.out⟩
      case measure => exact meas hpl
    · have hpl : P.length = p := Nat.le_antisymm (Nat.le_of_not_lt hpl) hp
      subst hpl
      have HN := HL.out
      rw [List.take_length] at HN
      have HN := Lib.hid HN
      clear HL
      go_wp2
      go_ret
      exact ⟨_, rfl, HN.out⟩

set_option maxRecDepth 20000 in
set_option maxHeartbeats 16000000 in
theorem rneeds_calls {w : World} {a0 : Option Addr} {n c : Nat} {l : List Ev} (h : IsEvs w a0 n c l) :
    Calls Try.prog 36 #[.slice a0 n c] w (NdPost 68 w n (ndOk n l) (ndF n l) (ndErr n l)) := by
  have hnm : n ≤ 9223372036854775807 := by have := h.le; have := h.cap; unfold maxLen at *; omega
  have Hev := Lib.hid h
  have Ho := Lib.hid (rord_calls h)
  have Hwf := Lib.hid h.wf
  have Hl := Lib.hid h.len
  clear h
  go_enter Try.func36, Try.ntmps36
  go_wp2_with fail
  refine Ho.out.mono ?_
  rintro e w1 ⟨hb1, ⟨hz, rfl⟩ | ⟨hz, v1, v2, rfl, hM1, hM2⟩⟩
  · have HB1 := Lib.hid hb1
    have hz' : (wrongS n l != 0) = true := by simpa [bne] using hz
    have Hq : Hid (∀ x, NdPost 68 w n (ndOk n l) (ndF n l) (ndErr n l) (.returned (.tuple #[.slice none 0 0, .int .i64 (wrongS n l)])) (w1.alloc x)) := fun x => by
      rw [show ndErr n l = wrongS n l from if_pos hz]
      exact NdPost.no (by unfold ndOk; rw [decide_eq_false hz]; rfl) (HB1.out.alloc HB1.out.size _)
    clear hb1 hz Ho
    generalize wrongS n l = z at *
    go_wp2
    go_returns
    exact Hq.out _
  have hn100 : n ≤ 100 := wrong_le16 hz
  have HG : Hid (GoodL n l) := by obtain ⟨S, hS⟩ := wrong_ofS hz; exact good_of Hev.out hn100 hS
  have Hz := Lib.hid hz
  obtain ⟨sa, sp, sq, rfl⟩ := hM1.slice
  obtain ⟨ta, tp, tq, rfl⟩ := hM2.slice
  have hal : Below w1.heap.size w1 (w1.alloc (.cells #[.slice a0 n c, .slice sa sp sq, .slice ta tp tq] 93)) := (Below.refl _ w1).alloc (Nat.le_refl _) _
  have hR3 : ROrdAt (w1.alloc (.cells #[.slice a0 n c, .slice sa sp sq, .slice ta tp tq] 93)) w1.heap.size a0 n c (.slice sa sp sq) (.slice ta tp tq) l :=
    ⟨(MapKept.heap_alloc w1 _).1, ⟨_, hM1.below hal⟩, ⟨_, hM2.below hal⟩, (Hev.out.below hb1).below hal⟩
  have HX := Lib.hid (And.intro hR3 (hb1.trans (hal.mono hb1.size)))
  clear hb1 hal hR3 hM1 hM2 Ho hz hnm
  by_cases hn0 : n = 0
  · have Hq : Hid (NdPost 68 w n (ndOk n l) (ndF n l) (ndErr n l) (.returned (.tuple #[.slice none 0 0, .int .i64 190])) (w1.alloc (.cells #[.slice a0 n c, .slice sa sp sq, .slice ta tp tq] 93))) := by
      rw [Hid, show ndErr n l = 190 from if_neg (by rw [Hz.out]; simp)]
      exact NdPost.no (by unfold ndOk; rw [hn0]; simp) HX.out.2
    have hnb : ((n : Int) == 0) = true := by simp; omega
    have hnb2 : (n == 0) = true := by simpa using hn0
    clear hn0
    go_wp2
    go_returns
    exact Hq.out
  have hnb : ((n : Int) == 0) = false := by simp; omega
  have hnb2 : (n == 0) = false := by simpa using hn0
  have Hok : Hid (ndOk n l = true) := by unfold Hid ndOk; rw [decide_eq_true Hz.out, decide_eq_true hn0]; rfl
  obtain ⟨N, hN⟩ : ∃ N, n = N + 1 := ⟨n - 1, by omega⟩
  have HF : Hid (ndF n l = needF l (l.getD N ev00) N (racesAt l N)) := by unfold Hid ndF; rw [hN, Nat.add_sub_cancel]
  subst hN
  go_wp2_with fail
  revert HX
  generalize w1.alloc (.cells #[.slice a0 (N + 1) c, .slice sa sp sq, .slice ta tp tq] 93) = w2
  intro HX
  have HR := Lib.hid HX.out.1
  have HB2 := Lib.hid HX.out.2
  clear HX
  obtain ⟨rb, hrb⟩ : ∃ rb, rb = w1.heap.size := ⟨_, rfl⟩
  rw [← hrb] at HR ⊢
  clear hrb
  obtain ⟨bl, off, x, rfl, hx, hxw, d0, d1, d2, d3, d4⟩ := HR.out.evs.at (show N < N + 1 by omega)
  have hlt : N < N + 1 := by omega
  have hnc : N + 1 ≤ c := HR.out.evs.le
  have hI : (N : Int) < (N : Int) + 1 := by omega
  have Hre : Hid (racesAt l N = racesP (rD l) (candB l N x.t x.k x.o) N) := by unfold racesAt; rw [Hid, getD_of hx]
  have HF2 : Hid (ndF (N + 1) l = needF l x N (racesAt l N)) := by rw [Hid, HF.out, getD_of hx]
  have Hxw := Lib.hid hxw
  obtain ⟨xt, xk, xo, xv, xb⟩ := x
  simp only at d0 d1 d2 d3 d4 Hre
  have hc : ∀ W, Below w2.heap.size w2 W → Calls Try.prog 68 #[.pointer (some ⟨rb, 0, none⟩), .int .i64 (N : Int), .int .i64 xt, .agg #[.int .i64 xk, .int .i64 xo]] W fun e w' => ∃ v, e = .returned v ∧ OwnL eltI w' W.heap.size v (natsI (racesAt l N)) ∧ Below W.heap.size W w' := fun W hW => by rw [Hre.out]; exact rraces_calls (HR.out.below hW) HG.out (by omega) xt xk xo
  have Hc := Lib.hid hc
  clear hc hx hxw HF
  refine wp_plan_draw [0, 1, 2, 3, 4, 5, 6, 7, 8, 9, 10, 11, 12, 13, 14, 15, 16] [17, 18] (fun w' => w'.cell? ⟨bl, off + N * 5, none⟩ = some (.int .i64 xt) ∧ w'.cell? ⟨bl, off + N * 5 + 1, none⟩ = some (.int .i64 xk) ∧ w'.cell? ⟨bl, off + N * 5 + 2, none⟩ = some (.int .i64 xo)) mixed (by kernel_rfl) (fun c a d v w h => by cases d <;> exact h) ⟨d0, d1, d2⟩ ?_
  simp only [picks, List.map_cons, List.map_nil, List.getD_cons_zero, List.getD_cons_succ]
  repeat ((apply ReadRun.go rfl); (intro y1 hS; (obtain ⟨d0, d1, d2⟩ := hS); go_simp; first | done | exact rfl); (simp only [Act.put, List.setIfInBounds_toArray, List.set_cons_zero, List.set_cons_succ]))
  refine ReadRun.done ?_
  refine TailRun.go rfl (fun K hK => ?_)
  go_wp2_with fail
  refine (Hc.out _ (Below.refl ..).drew).mono ?_
  rintro e z3 ⟨u, rfl, hown, hb⟩
  have hbel : Below w2.heap.size w2 z3 := ((Below.refl w2.heap.size w2).drew).trans hb
  obtain ⟨ga, gc, hu, hgc, _⟩ := hown.int_at
  rw [natsI_len] at hu hgc
  subst hu
  have HAt : Hid (AtR z3 ga (racesAt l N)) := OwnL.atR hown
  have k0 := keep hbel d0
  have k1 := keep hbel d1
  have k2 := keep hbel d2
  have k3 := keep hbel d3
  have k4 := keep hbel d4
  have HB3 := Lib.hid (HB2.out.trans (hbel.mono HB2.out.size))
  have HR3 := Lib.hid (HR.out.below hbel)
  clear hown hb hbel
  refine hK _ _ ⟨⟨k0, k1, k2⟩, ?_⟩
  try simp only [Act.put, List.setIfInBounds_toArray, List.set_cons_zero, List.set_cons_succ]
  refine TailRun.go rfl (fun K hK => ?_)
  go_wp2_with fail
  refine ⟨⟨k0, k1, k2⟩, ?_⟩
  refine TailRun.done ?_
  have HX := Lib.hid (And.intro k0 (And.intro k1 (And.intro k2 (And.intro k3 k4))))
  clear k0 k1 k2 k3 k4 d0 d1 d2 d3 d4 Hc Hre HR HB2
  have HRn : Hid (∀ q ∈ racesAt l N, q < N) := fun q hq => racesAt_lt hq
  have hRl : (racesAt l N).length ≤ 100 := Nat.le_trans (by
    have := List.length_filter_le (maxP (rD l) (candB l N (l.getD N ev00).t (l.getD N ev00).k (l.getD N ev00).o) N) (List.range N)
    rw [List.length_range] at this; exact this) (show N ≤ 100 by omega)
  revert HF2 hgc HAt HRn hRl
  generalize racesAt l N = R
  intro HF2 hgc HAt HRn hRl
  clear hK
  go_wp2_with (refine wpList_makeU Try.underlying59 infoUint rfl (.tmp 45) (.tmp 45) rfl (N + 1) (by omega) rfl rfl ?_)
  have HS : RowU 68 (N + 1) (needF l ⟨xt, xk, xo, xv, xb⟩ N (R.take 0)) z3.heap.size z3 (z3.alloc (.cells (uintsA (N + 1) fun _ => 0) 68)) := ⟨by rw [uintsA_congr (f := needF l ⟨xt, xk, xo, xv, xb⟩ N (R.take 0)) (g := fun _ => 0) (fun i _ => by rw [List.take_zero, needF_nil])]; exact (MapKept.heap_alloc z3 _).1, (Below.refl _ z3).alloc (Nat.le_refl _) _⟩
  revert HS
  generalize z3.alloc (.cells (uintsA (N + 1) fun _ => 0) 68) = z4
  intro HS
  obtain ⟨gl, hgl⟩ : ∃ gl, gl = z3.heap.size := ⟨_, rfl⟩
  rw [← hgl] at HS ⊢
  have Hgl := Lib.hid hgl
  have HS2 := Lib.hid HS
  clear hgl HS
  go_wp2_with fail
  go_loopw [9, 10, 11] (fun y _ _ wr => ∃ m : Nat, m ≤ R.length ∧ y = .int .i64 m ∧ Hid (RowU 68 (N + 1) (needF l ⟨xt, xk, xo, xv, xb⟩ N (R.take m)) gl z3 wr)) (fun y _ _ _ => R.length - (intOf y).toNat)
  case atStart => exact ⟨0, Nat.zero_le _, by go_num, HS2.out⟩
  case round =>
    clear HS2
    obtain ⟨m, hm, rfl, HS⟩ := hrel
    have HBr := Lib.hid (HS.out.base Hgl.out)
    by_cases hmR : m < R.length
    · obtain ⟨q, hq⟩ : ∃ q, R[m]? = some q := ⟨_, List.getElem?_eq_getElem hmR⟩
      have hqN : q < N := HRn.out q (List.mem_of_getElem? hq)
      obtain ⟨rg, rfl, cq⟩ := (HAt.out.below HBr.out) m q hq
      have Hq := Lib.hid hq
      clear hq
      go_wp2_with fail
      refine (rrest_calls (HR3.out.below HBr.out) hn100 (Nat.le_succ N) hqN).mono ?_
      rintro e y1 ⟨ur, rfl, hown, hb⟩
      have HS1 := Lib.hid (HS.out.go hb)
      obtain ⟨da, dc, hu, hdc, _⟩ := hown.int_at
      rw [natsI_len] at hu hdc
      subst hu
      have HDa : Hid (AtR y1 da (restP (rD l) q N)) := OwnL.atR hown
      have hDl : (restP (rD l) q N).length ≤ 100 := Nat.le_trans (restP_len (rD l) q N) (by omega)
      have HDn : Hid (∀ p ∈ restP (rD l) q N, p < N + 1) := fun p hp => Nat.lt_succ_of_lt (restP_lt hp)
      have Hne : Hid (needX l ⟨xt, xk, xo, xv, xb⟩ N q = evsAt l (restP (rD l) q N) ++ [⟨xt, xk, xo, xv, xb⟩]) := rfl
      have Hput : Hid (∀ k, (if k = q then needN l ⟨xt, xk, xo, xv, xb⟩ N q else needF l ⟨xt, xk, xo, xv, xb⟩ N (R.take m) k) = needF l ⟨xt, xk, xo, xv, xb⟩ N (R.take (m + 1)) k) := fun k => needF_put Hq.out k
      clear hb hown HS HBr
      have HBr := Lib.hid (HS1.out.base Hgl.out)
      go_wp2_with fail
      refine (revents_calls (Hev.out.below (HB3.out.trans (HBr.out.mono HB3.out.size))) HDa.out hdc HDn.out (by omega) hn100).mono ?_
      rintro e y2 ⟨ux, rfl, hown, hb⟩
      have HS2 := Lib.hid (HS1.out.go hb)
      have HB2' := Lib.hid (HS2.out.base Hgl.out)
      have HO2 := Lib.hid hown
      have hX := keep HB2'.out HX.out.1
      have hX1 := keep HB2'.out HX.out.2.1
      have hX2 := keep HB2'.out HX.out.2.2.1
      have hX3 := keep HB2'.out HX.out.2.2.2.1
      have hX4 := keep HB2'.out HX.out.2.2.2.2
      have hsz : y1.heap.size ≤ y2.heap.size := hb.size
      have hgy : gl < y1.heap.size := HS1.out.lt
      have Hgy := Lib.hid hgy
      have Hlen : Hid ((evsAt l (restP (rD l) q N)).length < 1000000) := by rw [Hid, evsAt_len]; omega
      have HDw : Hid (∀ z ∈ needX l ⟨xt, xk, xo, xv, xb⟩ N q, z.wf) := fun z hz => by
        rw [Hne.out] at hz
        rcases List.mem_append.1 hz with hz | hz
        · exact evsAt_wf Hwf.out (fun j hj => by rw [Hl.out]; exact HDn.out j hj) z hz
        · rw [List.mem_singleton.1 hz]; exact Hxw.out
      clear hown hb HS1 HBr HDa hgy
      go_wp2_with (at_builtin; go_loud (refine wpList_push eltEv rfl (.tmp 62) (.tmp 67) rfl ⟨xt, xk, xo, xv, xb⟩ rfl rfl rfl HO2.out hsz Hlen.out ?_); intro v' wv hown hw hv; (have HN := Lib.hid (And.intro (HS2.out.wrote hw (fun z hz => Nat.lt_of_lt_of_le Hgy.out (HO2.out.lt hz).1)) (show OwnL eltEv wv y1.heap.size v' (needX l ⟨xt, xk, xo, xv, xb⟩ N q) by rw [Hne.out]; exact hown))); clear hown hw hv)
      obtain ⟨xa, xc, rfl, hE⟩ := HN.out.2.evs HDw.out
      have HE := Lib.hid hE
      obtain ⟨rg', he, cq⟩ := (HAt.out.below (HN.out.1.base Hgl.out)) m q Hq.out
      cases he
      have hqn : q < N + 1 := Nat.lt_succ_of_lt hqN
      have hst : ∀ W, Below wv.heap.size wv W → Calls Try.prog 70 #[.slice xa (needX l ⟨xt, xk, xo, xv, xb⟩ N q).length xc] W fun x' w' => x' = .returned (.int .u64 ((needN l ⟨xt, xk, xo, xv, xb⟩ N q : Nat) : Int)) ∧ Below W.heap.size W w' := fun W hW => rinit_calls (HE.out.below hW)
      have Hst := Lib.hid hst
      have HN1 := Lib.hid HN.out.1
      clear hE hst HN HO2 hX hX1 hX2 hX3 hX4 HS2 HB2' HE
      revert Hst Hput
      generalize needN l ⟨xt, xk, xo, xv, xb⟩ N q = V
      intro Hput Hst
      go_wp2_with fail
      refine wp_ext_draw 8 mixed (by kernel_rfl) ?_
      simp only [List.take_succ_cons, List.take_zero, List.drop_succ_cons, List.drop_zero]
      repeat ((first | ((apply TextRun.go rfl rfl rfl); (focus (intro w1 hS K hK; have hc := bcell hS; have hs := blt hS; have cq := keep hS cq; go_wp2_with ((with_reducible refine (Hst.out _ hS).mono ?_); rintro x' w4 ⟨rfl, hb⟩); first | done | exact hS | exact hS.trans (hb.mono hS.size)))) | (refine TextRun.skip rfl ?_) | ((refine TextRun.wantedT rfl rfl rfl ?_); (apply Exists.intro); (apply And.intro); (focus (intro w1 hS K hK; have hc := bcell hS; have hs := blt hS; have cq := keep hS cq; go_wp2_with ((with_reducible refine (Hst.out _ hS).mono ?_); rintro x' w4 ⟨rfl, hb⟩); first | done | exact hS | exact hS.trans (hb.mono hS.size))))); (simp only [Act.put, List.setIfInBounds_toArray, List.set_cons_zero, List.set_cons_succ]))
      refine TextRun.done ?_
      intro w6 hb
      have HSz := Lib.hid (HN1.out.go hb)
      obtain ⟨gc, gf⟩ := HSz.out.get hqn
      have HF : Hid (RowU 68 (N + 1) (needF l ⟨xt, xk, xo, xv, xb⟩ N (R.take (m + 1))) gl z3 (w6.setCell ⟨gl, q, none⟩ (.int .u64 (V : Int)))) := (HSz.out.put q V).of (fun k _ => Hput.out k)
      clear hb HSz HN1 cq Hst
      go_wp2
      go_roundw
      case rel => exact ⟨m + 1, hmR, by go_num, HF.out⟩
      case measure => exact meas hmR
    · have hmR : R.length = m := Nat.le_antisymm (Nat.le_of_not_lt hmR) hm
      subst hmR
      have Hq : Hid (NdPost 68 w (N + 1) (ndOk (N + 1) l) (ndF (N + 1) l) (ndErr (N + 1) l) (.returned (.tuple #[.slice (some ⟨gl, 0, none⟩) (N + 1) (N + 1), .int .i64 0])) wr) := by
        have := HS.out.row
        rw [List.take_length] at this
        rw [Hid, HF2.out]
        exact ⟨HB3.out.trans (HBr.out.mono HB3.out.size), .inr ⟨Hok.out, gl, rfl, this⟩⟩
      clear HS HBr
      go_wp2
      go_returns
      exact Hq.out
end Go.Proofs.Ytjhlehepnhbbaaa
