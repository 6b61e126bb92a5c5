/-
  All of the program and of the document, of any list.
-/
import Derived.Test.YthooddkoldfebaaRaceC
set_option linter.unusedSimpArgs false
set_option linter.unusedVariables false
namespace Go.Proofs.Ythooddkoldfebaa
open Go.ChangeShapes Go.WideShapes Go.ChangeAt Go.RowKit Go.Deep

/-- What stands besides a list of one's own that grows. -/
theorem push_besides {w0 wr wv : World} {B' : Nat} {u v' v : Value} {xs : List (Int × Int)} {R : List Int} (h : OwnL eltP wr w0.heap.size u xs ∧ Below w0.heap.size w0 wr ∧ OwnL eltI wr B' v R ∧ ∀ g, u.ownBlock = some g → v.ownBlock ≠ some g)
    (hw : Wrote (fun q => u.ownBlock = some q) wr wv) (hv : ∀ q, v'.ownBlock = some q → u.ownBlock = some q ∨ wr.heap.size ≤ q) :
    Below w0.heap.size w0 wv ∧ OwnL eltI wv B' v R ∧ ∀ g, v'.ownBlock = some g → v.ownBlock ≠ some g := by
  obtain ⟨h1, h2, h3, h4⟩ := h
  refine ⟨Wrote.below h2 hw h2.size (fun q hq => (h1.lt hq).1), h3.wrote hw (fun g hg hu => h4 g hu hg), fun g hg he => ?_⟩
  rcases hv g hg with h | h
  · exact h4 g h he
  · have := (h3.lt he).2; omega

/-- A pair more. -/
theorem wpList_pushP {W0 : World} {ops : Array Oper} {rest : List Oper} {o : Oper} {a : Act} {Q : Exit → Act → World → Prop} {v : Value} {xs : List (Int × Int)} {B : Nat} {t : TypeId} (hgd : o.guard = none) (s x : Operand)
    (ho : o.op = .call { callee := .builtin .append, args := #[s, x], argTypes := #[57, 57] }) (p q : Int)
    (hs : a.eval s = v) (hx : a.eval x = .slice (some ⟨W0.heap.size, 0, none⟩) 1 1) (hown : OwnL eltP W0 B v xs) (hB : B ≤ W0.heap.size) (hcap : xs.length < 1000000)
    (h : ∀ v' w', OwnL eltP w' B v' (xs ++ [(p, q)]) → Wrote (fun q => v.ownBlock = some q) W0 w' → (∀ q, v'.ownBlock = some q → v.ownBlock = some q ∨ W0.heap.size ≤ q) → wpList Try.prog ops Q rest (a.put o.dst v') w') :
    wpList Try.prog ops Q (o :: rest) a (W0.alloc (.cells #[.int .i64 p, .int .i64 q] t)) :=
  wpList_push eltP hgd s x ho (p, q) rfl hs hx hown hB hcap h
set_option maxRecDepth 20000 in
set_option maxHeartbeats 8000000 in
theorem raceAll_calls {w : World} {a0 : Option Addr} {n c : Nat} {l : List Ev} (h : IsEvs w a0 n c l) :
    Calls Try.prog 43 #[.slice a0 n c] w (AllPost w (allRes n l)) := by
  have hnm : n ≤ 9223372036854775807 := by have := h.le; have := h.cap; unfold maxLen at *; omega
  have Hev := Lib.hid h
  have Ho := Lib.hid (order_calls h)
  clear h
  go_enter Try.func43, Try.ntmps43
  go_wp2_with fail
  refine Ho.out.mono ?_
  rintro e w1 ⟨hb1, ⟨hz, rfl⟩ | ⟨hz, hg, b, v, rfl, hO⟩⟩
  · have HB1 := Lib.hid hb1
    have hz' : (wrongS n l != 0) = true := by simpa [bne] using hz
    have Hq : Hid (AllPost w (allRes n l) (.returned (.tuple #[.slice none 0 0, .int .i64 (wrongS n l)])) w1) := by rw [Hid, allRes_bad hz]; exact AllPost.none HB1.out
    clear hb1 hz Ho
    generalize wrongS n l = z at *
    go_wp2
    go_returns
    exact Hq.out
  have HB1 := Lib.hid hb1
  have HT := Lib.hid (show TgAt w1 w.heap.size b v l n a0 c from ⟨Hev.out.below hb1, hO, hg, hz⟩)
  have hn100 : n ≤ 100 := hg.le
  have Hr := Lib.hid (allRes_good hz)
  clear hb1 hg hO hz Ho
  go_wp2_with fail
  go_loopw [6, 7, 9, 20] (fun u _ _ x wr => ∃ j : Nat, j ≤ n ∧ x = .int .i64 j ∧ Hid (OwnL eltP wr w1.heap.size u (natsP (allN l j)) ∧ Below w1.heap.size w1 wr)) (fun _ _ _ x _ => n - (intOf x).toNat)
  case atStart => exact ⟨0, Nat.zero_le _, by go_num, OwnL.nil .., Below.refl ..⟩
  case round =>
    obtain ⟨j, hj, rfl, HL⟩ := hrel
    by_cases hjn : j < n
    · obtain ⟨x, hx⟩ : ∃ x, l[j]? = some x := ⟨_, List.getElem?_eq_getElem (by have := HT.out.good.len; omega)⟩
      have Hx := Lib.hid hx
      clear hx
      go_wp2_with fail
      refine (tof_calls (HT.out.evs.below HL.out.2) hn100 b Hx.out hjn).mono ?_
      rintro e wy ⟨rfl, hb⟩
      have HL := Lib.hid (And.intro (HL.out.1.below hb) (HL.out.2.trans (hb.mono HL.out.2.size)))
      clear hb
      go_wp2_with fail
      have Hlt := Lib.hid (fun g (hg : u6.ownBlock = some g) => (HL.out.1.lt hg).2)
      refine (races_calls (HT.out.below HL.out.2) (show j ≤ n by omega) x.t x.k x.o).mono ?_
      rintro e wz ⟨ur, rfl, hown, hb⟩
      have HL := Lib.hid (And.intro (HL.out.1.below hb) (HL.out.2.trans (hb.mono HL.out.2.size)))
      have hown' : OwnL eltI wz wy.heap.size ur (natsI (racesAt l j)) := by unfold racesAt; rw [getD_of Hx.out]; exact ⟨hown.own⟩
      have hne : ∀ g, u6.ownBlock = some g → ur.ownBlock ≠ some g := fun g hg he => by have h1 := (Hlt.out g hg); have h2 := (hown'.lt he).1; omega
      obtain ⟨sa, sc, hu, _, _⟩ := hown'.int_at
      rw [natsI_len] at hu
      subst hu
      have hRl : (racesAt l j).length ≤ j := racesAt_len l j
      have HL2 : Hid (OwnL eltP wz w1.heap.size u6 (natsP (partN l j 0)) ∧ Below w1.heap.size w1 wz ∧ OwnL eltI wz wy.heap.size (.slice sa (racesAt l j).length sc) (natsI (racesAt l j)) ∧ ∀ g, u6.ownBlock = some g → (Value.slice sa (racesAt l j).length sc).ownBlock ≠ some g) := by rw [partN_zero]; exact ⟨HL.out.1, HL.out.2, hown', hne⟩
      have HPe : Hid (partN l j (racesAt l j).length = allN l (j + 1)) := partN_end l j
      have HPs : Hid (∀ m q, (racesAt l j)[m]? = some q → partN l j (m + 1) = partN l j m ++ [(q, j)]) := fun m q h => partN_succ h
      have HPl : Hid (∀ m, (partN l j m).length ≤ 10100) := fun m => partN_len l (by omega)
      clear hb hown hown' HL hne Hlt
      revert hRl HL2 HPe HPs
      generalize racesAt l j = R
      intro hRl HL2 HPe HPs
      have hRw : R.length ≤ 9223372036854775807 := by omega
      go_wp2_with fail
      go_loopw [6, 9, 29] (fun u _ x wr => ∃ m : Nat, m ≤ R.length ∧ x = .int .i64 m ∧ Hid (OwnL eltP wr w1.heap.size u (natsP (partN l j m)) ∧ Below w1.heap.size w1 wr ∧ OwnL eltI wr wy.heap.size (.slice sa R.length sc) (natsI R) ∧ ∀ g, u.ownBlock = some g → (Value.slice sa R.length sc).ownBlock ≠ some g)) (fun _ _ x _ => R.length - (intOf x).toNat)
      case atStart => exact ⟨0, Nat.zero_le _, by go_num, HL2.out⟩
      case round =>
        obtain ⟨m, hm, rfl, HQ⟩ := hrel
        clear HL2
        by_cases hmR : m < R.length
        · obtain ⟨q, hq⟩ : ∃ q, R[m]? = some q := ⟨_, List.getElem?_eq_getElem hmR⟩
          obtain ⟨g, rfl, cq⟩ := HQ.out.2.2.1.nat_at hq
          have HPm := Lib.hid (HPs.out m q hq)
          have Hcp : Hid ((natsP (partN l j m)).length < 1000000) := by rw [Hid, natsP_len]; have := HPl.out m; omega
          clear hq
          go_wp2_with (at_builtin; go_loud (refine wpList_pushP rfl (.tmp 33) (.tmp 37) rfl (q : Int) (j : Int) rfl rfl HQ.out.1 HQ.out.2.1.size Hcp.out ?_))
          intro v' wv hown hw hv
          have HQ' := Lib.hid (And.intro (show OwnL eltP wv w1.heap.size v' (natsP (partN l j (m + 1))) by rw [HPm.out, natsP_app]; exact hown) (push_besides HQ.out hw hv))
          clear hown hw hv
          go_wp2
          go_roundw
          case rel => exact ⟨m + 1, by omega, by go_num, HQ'.out⟩
          case measure => simp [intOf]; omega
        · have hmR : m = R.length := by omega
          subst hmR
          have HN : Hid (OwnL eltP wr w1.heap.size u6 (natsP (allN l (j + 1))) ∧ Below w1.heap.size w1 wr) := by rw [← HPe.out]; exact ⟨HQ.out.1, HQ.out.2.1⟩
          clear HQ
          go_wp2
          go_roundw
          case rel => exact ⟨j + 1, by omega, by go_num, HN.out⟩
          case measure => simp [intOf]; omega
    · have hjn : j = n := by omega
      subst hjn
      go_wp2_with fail
      refine (clipP_calls HL.out.1.sees).mono ?_
      rintro e wz ⟨v', rfl, hs, rfl⟩
      have Hq : Hid (AllPost w (allRes j l) (.returned (.tuple #[v', .int .i64 0])) wr) := by rw [Hid, Hr.out]; exact ⟨_, rfl, hs, HB1.out.trans (HL.out.2.mono HB1.out.size)⟩
      clear hs
      go_wp2
      go_returns
      exact Hq.out
set_option maxRecDepth 20000 in
set_option maxHeartbeats 8000000 in
theorem rall_calls {w : World} {a0 : Option Addr} {n c : Nat} {l : List Ev} (h : IsEvs w a0 n c l) :
    Calls Try.prog 44 #[.slice a0 n c] w (AllPost w (allRes n l)) := by
  have hnm : n ≤ 9223372036854775807 := by have := h.le; have := h.cap; unfold maxLen at *; omega
  have Hev := Lib.hid h
  have Ho := Lib.hid (rord_calls h)
  clear h
  go_enter Try.func44, Try.ntmps44
  go_wp2_with fail
  refine Ho.out.mono ?_
  rintro e w1 ⟨hb1, ⟨hz, rfl⟩ | ⟨hz, v1, v2, rfl, hM1, hM2⟩⟩
  · have HB1 := Lib.hid hb1
    have hz' : (wrongS n l != 0) = true := by simpa [bne] using hz
    have Hq : Hid (∀ x, AllPost w (allRes n l) (.returned (.tuple #[.slice none 0 0, .int .i64 (wrongS n l)])) (w1.alloc x)) := fun x => by rw [allRes_bad hz]; exact AllPost.none (HB1.out.alloc HB1.out.size _)
    clear hb1 hz Ho
    generalize wrongS n l = z at *
    go_wp2
    go_returns
    exact Hq.out _
  have Hr := Lib.hid (allRes_good hz)
  have hn100 : n ≤ 100 := wrong_le hz
  have Hz := Lib.hid hz
  have HG : Hid (GoodL n l) := by obtain ⟨S, hS⟩ := wrong_ofS hz; exact good_of Hev.out hn100 hS
  obtain ⟨sa, sp, sq, rfl⟩ := hM1.slice
  obtain ⟨ta, tp, tq, rfl⟩ := hM2.slice
  have hal : Below w1.heap.size w1 (w1.alloc (.cells #[.slice a0 n c, .slice sa sp sq, .slice ta tp tq] 27)) := (Below.refl _ w1).alloc (Nat.le_refl _) _
  have hR3 : ROrdAt (w1.alloc (.cells #[.slice a0 n c, .slice sa sp sq, .slice ta tp tq] 27)) w1.heap.size a0 n c (.slice sa sp sq) (.slice ta tp tq) l :=
    ⟨(MapKept.heap_alloc w1 _).1, ⟨_, hM1.below hal⟩, ⟨_, hM2.below hal⟩, (Hev.out.below hb1).below hal⟩
  have HX := Lib.hid (And.intro hR3 (hb1.trans (hal.mono hb1.size)))
  clear hb1 hal hR3 hM1 hM2 Ho hz
  go_wp2_with fail
  revert HX
  generalize w1.alloc (.cells #[.slice a0 n c, .slice sa sp sq, .slice ta tp tq] 27) = w2
  intro HX
  have HR := Lib.hid HX.out.1
  have HB2 := Lib.hid HX.out.2
  clear HX
  go_loopw [6, 7, 8, 9] (fun u x _ _ wr => ∃ j : Nat, j ≤ n ∧ x = .int .i64 j ∧ Hid (OwnL eltP wr w2.heap.size u (natsP (allN l j)) ∧ Below w2.heap.size w2 wr)) (fun _ x _ _ _ => n - (intOf x).toNat)
  case atStart => exact ⟨0, Nat.zero_le _, by go_num, OwnL.nil .., Below.refl ..⟩
  case round =>
    obtain ⟨j, hj, rfl, HL⟩ := hrel
    by_cases hjn : j < n
    · obtain ⟨bl, off, x, rfl, hx, _, d0, d1, d2, d3, d4⟩ := HR.out.evs.at hjn
      have Hre : Hid (racesAt l j = racesP (rD l) (candB l j x.t x.k x.o) j) := by unfold racesAt; rw [Hid, getD_of hx]
      obtain ⟨xt, xk, xo, xv, xb⟩ := x
      simp only at d0 d1 d2 d3 d4 Hre
      have d0 := keep HL.out.2 d0
      have d1 := keep HL.out.2 d1
      have d2 := keep HL.out.2 d2
      have hc : ∀ W, Below wr.heap.size wr W → Calls Try.prog 65 #[.pointer (some ⟨w1.heap.size, 0, none⟩), .int .i64 (j : Int), .int .i64 xt, .agg #[.int .i64 xk, .int .i64 xo]] W fun e w' => ∃ v, e = .returned v ∧ OwnL eltI w' W.heap.size v (natsI (racesAt l j)) ∧ Below W.heap.size W w' := fun W hW => by rw [Hre.out]; exact rraces_calls ((HR.out.below HL.out.2).below hW) HG.out (by omega) xt xk xo
      have Hc := Lib.hid hc
      have Hlt := Lib.hid (fun g (hg : u6.ownBlock = some g) => (HL.out.1.lt hg).2)
      clear hc hx d3 d4
      go_wp2_with fail
      refine wp_plan_draw [0, 1, 2, 3, 4, 5, 6, 7, 8, 9, 10, 11, 12, 13, 14, 15, 16] [17, 18] (fun w' => w'.cell? ⟨bl, off + j * 5, none⟩ = some (.int .i64 xt) ∧ w'.cell? ⟨bl, off + j * 5 + 1, none⟩ = some (.int .i64 xk) ∧ w'.cell? ⟨bl, off + j * 5 + 2, none⟩ = some (.int .i64 xo)) mixed (by kernel_rfl) (fun c a d v w h => by cases d <;> exact h) ⟨d0, d1, d2⟩ ?_
      simp only [picks, List.map_cons, List.map_nil, List.getD_cons_zero, List.getD_cons_succ]
      repeat ((apply ReadRun.go rfl); (intro y1 hS; (obtain ⟨d0, d1, d2⟩ := hS); go_simp; first | done | exact rfl); (simp only [Act.put, List.setIfInBounds_toArray, List.set_cons_zero, List.set_cons_succ]))
      refine ReadRun.done ?_
      refine TailRun.go rfl (fun K hK => ?_)
      go_wp2_with fail
      refine (Hc.out _ (Below.refl ..).drew).mono ?_
      rintro e z3 ⟨ur, rfl, hown, hb⟩
      have hbel : Below wr.heap.size wr z3 := ((Below.refl wr.heap.size wr).drew).trans hb
      have hown' : OwnL eltI z3 wr.heap.size ur (natsI (racesAt l j)) := ⟨hown.own⟩
      have hne : ∀ g, u6.ownBlock = some g → ur.ownBlock ≠ some g := fun g hg he => by have h1 := (Hlt.out g hg); have h2 := (hown'.lt he).1; omega
      obtain ⟨ra, rc, hu, _, _⟩ := hown'.int_at
      rw [natsI_len] at hu
      subst hu
      have hRl : (racesAt l j).length ≤ j := racesAt_len l j
      have HL2 : Hid (OwnL eltP z3 w2.heap.size u6 (natsP (partN l j 0)) ∧ Below w2.heap.size w2 z3 ∧ OwnL eltI z3 wr.heap.size (.slice ra (racesAt l j).length rc) (natsI (racesAt l j)) ∧ ∀ g, u6.ownBlock = some g → (Value.slice ra (racesAt l j).length rc).ownBlock ≠ some g) := by rw [partN_zero]; exact ⟨HL.out.1.below hbel, HL.out.2.trans (hbel.mono HL.out.2.size), hown', hne⟩
      have k0 := keep hbel d0
      have k1 := keep hbel d1
      have k2 := keep hbel d2
      have HPe : Hid (partN l j (racesAt l j).length = allN l (j + 1)) := partN_end l j
      have HPs : Hid (∀ m q, (racesAt l j)[m]? = some q → partN l j (m + 1) = partN l j m ++ [(q, j)]) := fun m q h => partN_succ h
      have HPl : Hid (∀ m, (partN l j m).length ≤ 10100) := fun m => partN_len l (by omega)
      clear hb hown hown' HL hne Hlt hbel
      refine hK _ _ ⟨⟨k0, k1, k2⟩, ?_⟩
      try simp only [Act.put, List.setIfInBounds_toArray, List.set_cons_zero, List.set_cons_succ]
      refine TailRun.go rfl (fun K hK => ?_)
      go_wp2_with fail
      refine ⟨⟨k0, k1, k2⟩, ?_⟩
      refine TailRun.done ?_
      clear k0 k1 k2 d0 d1 d2 Hc Hre hK
      revert hRl HL2 HPe HPs
      generalize racesAt l j = R
      intro hRl HL2 HPe HPs
      have hRw : R.length ≤ 9223372036854775807 := by omega
      obtain ⟨B', hB'⟩ : ∃ B', B' = wr.heap.size := ⟨_, rfl⟩
      rw [← hB'] at HL2
      clear hB'
      go_wp2_with fail
      clear wr
      go_loopw [6, 9] (fun u x wr => ∃ m : Nat, m ≤ R.length ∧ x = .int .i64 m ∧ Hid (OwnL eltP wr w2.heap.size u (natsP (partN l j m)) ∧ Below w2.heap.size w2 wr ∧ OwnL eltI wr B' (.slice ra R.length rc) (natsI R) ∧ ∀ g, u.ownBlock = some g → (Value.slice ra R.length rc).ownBlock ≠ some g)) (fun _ x _ => R.length - (intOf x).toNat)
      case atStart => exact ⟨0, Nat.zero_le _, by go_num, HL2.out⟩
      case round =>
        obtain ⟨m, hm, rfl, HQ⟩ := hrel
        clear HL2
        by_cases hmR : m < R.length
        · obtain ⟨q, hq⟩ : ∃ q, R[m]? = some q := ⟨_, List.getElem?_eq_getElem hmR⟩
          obtain ⟨g, rfl, cq⟩ := HQ.out.2.2.1.nat_at hq
          have HPm := Lib.hid (HPs.out m q hq)
          have Hcp : Hid ((natsP (partN l j m)).length < 1000000) := by rw [Hid, natsP_len]; have := HPl.out m; omega
          clear hq
          go_wp2_with (at_builtin; go_loud (refine wpList_pushP rfl (.tmp 48) (.tmp 55) rfl (q : Int) (j : Int) rfl rfl HQ.out.1 HQ.out.2.1.size Hcp.out ?_))
          intro v' wv hown hw hv
          have HQ' := Lib.hid (And.intro (show OwnL eltP wv w2.heap.size v' (natsP (partN l j (m + 1))) by rw [HPm.out, natsP_app]; exact hown) (push_besides HQ.out hw hv))
          clear hown hw hv
          go_wp2
          go_roundw
          case rel => exact ⟨m + 1, by omega, by go_num, HQ'.out⟩
          case measure => simp [intOf]; omega
        · have hmR : m = R.length := by omega
          subst hmR
          have HN : Hid (OwnL eltP wr w2.heap.size u6 (natsP (allN l (j + 1))) ∧ Below w2.heap.size w2 wr) := by rw [← HPe.out]; exact ⟨HQ.out.1, HQ.out.2.1⟩
          clear HQ
          go_wp2
          go_roundw
          case rel => exact ⟨j + 1, by omega, by go_num, HN.out⟩
          case measure => simp [intOf]; omega
    · have hjn : j = n := by omega
      subst hjn
      have Hq : Hid (AllPost w (allRes j l) (.returned (.tuple #[u6, .int .i64 0])) wr) := by rw [Hid, Hr.out]; exact ⟨_, rfl, HL.out.1.sees, HB2.out.trans (HL.out.2.mono HB2.out.size)⟩
      clear HL
      go_wp2
      go_returns
      exact Hq.out

set_option maxRecDepth 20000 in
set_option maxHeartbeats 4000000 in
theorem raceAll_law {w : World} {a0 : Option Addr} {n c : Nat} {l : List Ev} (h : IsEvs w a0 n c l) :
    Calls Try.prog 11 #[.slice a0 n c] w fun e w' => e = .returned (.bool true) ∧ Below w.heap.size w w' := by
  have Hev := Lib.hid h
  clear h
  go_enter Try.func11, Try.ntmps11
  go_wp2_with fail
  refine (rawake_calls _).mono ?_
  rintro e w1 ⟨rfl, hb⟩
  have HB1 := Lib.hid hb
  clear hb
  go_wp2_with fail
  refine (raceAll_calls (Hev.out.below HB1.out)).mono ?_
  rintro e w2 ⟨v, rfl, hs, hb⟩
  have HS2 := Lib.hid hs
  have HB2 := Lib.hid (HB1.out.trans (hb.mono HB1.out.size))
  clear hs hb
  go_wp2_with fail
  refine (rall_calls (Hev.out.below HB2.out)).mono ?_
  rintro e w3 ⟨u, rfl, hs, hb⟩
  have HS2 := Lib.hid (HS2.out.below hb)
  have HS3 := Lib.hid hs
  have HB3 := Lib.hid (HB2.out.trans (hb.mono HB2.out.size))
  clear hs hb
  revert HS2 HS3
  generalize allRes n l = r
  obtain ⟨xs, z⟩ := r
  intro HS2 HS3
  obtain ⟨a1, c1, rfl, _⟩ := HS2.out.ex
  obtain ⟨a2, c2, rfl, _⟩ := HS3.out.ex
  go_wp2_with fail
  refine (psame_calls HS2.out HS3.out).mono ?_
  rintro e w4 ⟨rfl, hb⟩
  have HB4 := Lib.hid (HB3.out.trans (hb.mono HB3.out.size))
  clear hb
  have hzz : (z == z) = true := by simp
  go_wp2
  go_ret
  exact ⟨rfl, HB4.out⟩
end Go.Proofs.Ythooddkoldfebaa
