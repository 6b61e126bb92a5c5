/-
  A log in memory; the functions that only read it.
-/
import Derived.Test.YtadngicebbnnlaaRight
import Derived.Test.YtadngicebbnnlaaAbout
import Derived.LoopN
set_option linter.unusedSimpArgs false
set_option linter.unusedVariables false
namespace Go.Proofs.Ytadngicebbnnlaa
open Go.ChangeShapes Go.WideShapes Go.ChangeAt Go.RowKit Go.Deep

/-- What a log knows: its events; of each thread the state and the place of its last event; of each mutex the owner. -/
structure LogS where
  l : List Ev
  st : Nat → Int
  la : Nat → Int
  ow : Nat → Int

def upd (f : Nat → Int) (i : Nat) (v : Int) : Nat → Int := fun j => if j = i then v else f j
def abVal (e : Ev) : Value := .iface (abOf e.t e.k e.o).ty (abOf e.t e.k e.o).body

structure LogAt (w : World) (B b : Nat) (vl va : Value) (S : LogS) : Prop where
  low : B ≤ b
  blk : ∃ cs, w.heap[b]? = some (.cells cs 132 (0, 0)) ∧ cs.size = 26 ∧ cs[0]? = some vl ∧ cs[1]? = some va ∧
    ∀ i, i < 8 → cs[2 + i * 2]? = some (.int .i64 (S.st i)) ∧ cs[2 + i * 2 + 1]? = some (.int .i64 (S.la i)) ∧ cs[18 + i]? = some (.int .i64 (S.ow i))
  ev : w.ownsRow B 38 5 vl S.l.length (evCells S.l)
  ab : w.ownsRow B 118 1 va S.l.length (S.l.map abVal)
  nl : S.l = [] → vl = .slice none 0 0 ∧ va = .slice none 0 0

section
variable {w w' : World} {B b : Nat} {vl va : Value} {S : LogS}
theorem LogAt.lt (h : LogAt w B b vl va S) : b < w.heap.size := by
  obtain ⟨cs, h1, _⟩ := h.blk; exact (Array.getElem?_eq_some_iff.1 h1).1
theorem LogAt.cl (h : LogAt w B b vl va S) : w.cell? ⟨b, 0, none⟩ = some vl := by
  obtain ⟨cs, h1, _, h2, _⟩ := h.blk; rw [show w.cell? ⟨b, 0, none⟩ = cs[0]? by simp [World.cell?, h1]]; exact h2
theorem LogAt.ca (h : LogAt w B b vl va S) : w.cell? ⟨b, 1, none⟩ = some va := by
  obtain ⟨cs, h1, _, _, h2, _⟩ := h.blk; rw [show w.cell? ⟨b, 1, none⟩ = cs[1]? by simp [World.cell?, h1]]; exact h2
theorem LogAt.cst (h : LogAt w B b vl va S) {i : Nat} (hi : i < 8) : w.cell? ⟨b, 2 + i * 2, none⟩ = some (.int .i64 (S.st i)) := by
  obtain ⟨cs, h1, _, _, _, h2⟩ := h.blk; rw [show w.cell? ⟨b, 2 + i * 2, none⟩ = cs[2 + i * 2]? by simp [World.cell?, h1]]; exact (h2 i hi).1
theorem LogAt.cla (h : LogAt w B b vl va S) {i : Nat} (hi : i < 8) : w.cell? ⟨b, 2 + i * 2 + 1, none⟩ = some (.int .i64 (S.la i)) := by
  obtain ⟨cs, h1, _, _, _, h2⟩ := h.blk; rw [show w.cell? ⟨b, 2 + i * 2 + 1, none⟩ = cs[2 + i * 2 + 1]? by simp [World.cell?, h1]]; exact (h2 i hi).2.1
theorem LogAt.cow (h : LogAt w B b vl va S) {i : Nat} (hi : i < 8) : w.cell? ⟨b, 18 + i, none⟩ = some (.int .i64 (S.ow i)) := by
  obtain ⟨cs, h1, _, _, _, h2⟩ := h.blk; rw [show w.cell? ⟨b, 18 + i, none⟩ = cs[18 + i]? by simp [World.cell?, h1]]; exact (h2 i hi).2.2
theorem LogAt.free (h : LogAt w B b vl va S) (o : Nat) : w.frozen? ⟨b, o, none⟩ = false := by
  obtain ⟨cs, h1, _⟩ := h.blk; simp [World.frozen?, h1]

theorem ownsRow_same {e : TypeId} {size : Nat} {v : Value} {n : Nat} {xs : List Value} (h : w.ownsRow B e size v n xs) (hs : ∀ g, v.ownBlock = some g → w'.heap[g]? = w.heap[g]?) : w'.ownsRow B e size v n xs := by
  refine ⟨h.1, ?_⟩
  rcases h.2 with hn | ⟨g, cap, cur, rfl, hb, hgg, rest⟩
  · exact .inl hn
  · exact .inr ⟨g, cap, cur, rfl, hb, by rw [hs g rfl]; exact hgg, rest⟩
theorem LogAt.frame (h : LogAt w B b vl va S) (hb : w'.heap[b]? = w.heap[b]?) (hl : ∀ g, vl.ownBlock = some g → w'.heap[g]? = w.heap[g]?) (ha : ∀ g, va.ownBlock = some g → w'.heap[g]? = w.heap[g]?) : LogAt w' B b vl va S := by
  obtain ⟨cs, h1, r⟩ := h.blk
  exact ⟨h.low, ⟨cs, by rw [hb]; exact h1, r⟩, ownsRow_same h.ev hl, ownsRow_same h.ab ha, h.nl⟩
theorem LogAt.below (h : LogAt w B b vl va S) (hb : Below w.heap.size w w') : LogAt w' B b vl va S :=
  h.frame (hb.block b h.lt) (fun g hg => hb.block g (h.ev.lt g hg).2) (fun g hg => hb.block g (h.ab.lt g hg).2)
end

/-! Number, state, owner, last. -/
def statB (S : LogS) (t : Int) : Int := if inB t then S.st t.toNat else 0
def ownB (S : LogS) (t : Int) : Int := if inB t then S.ow t.toNat else -1
def lastB (S : LogS) (t : Int) : Int := if inB t then S.la t.toNat else -1

theorem status_calls {w : World} {B b : Nat} {vl va : Value} {S : LogS} (h : LogAt w B b vl va S) (t : Int) :
    Calls Try.prog 100 #[.pointer (some ⟨b, 0, none⟩), .int .i64 t] w fun e w' => e = .returned (.int .i64 (statB S t)) ∧ Below w.heap.size w w' := by
  cases hi : inB t
  · have Hf : Hid (statB S t = 0) := by unfold Hid statB; rw [hi]; rfl
    go_enter Try.func100, Try.ntmps100
    go_wp2_with (go_at_call 114; refine (number_calls _ _).mono ?_; rintro e w' ⟨rfl, rfl⟩; rw [hi])
    go_ret
    exact ⟨by rw [Hf.out]; rfl, Below.refl _ _⟩
  · obtain ⟨h0, h8⟩ := inB_iff.1 hi
    obtain ⟨i, rfl⟩ := Int.eq_ofNat_of_zero_le h0
    have hi8 : i < 8 := by omega
    have c1 := h.cst hi8
    have Hf : Hid (statB S i = S.st i) := by unfold Hid statB; rw [hi]; rfl
    go_enter Try.func100, Try.ntmps100
    go_wp2_with (go_at_call 114; refine (number_calls _ _).mono ?_; rintro e w' ⟨rfl, rfl⟩; rw [hi])
    go_ret
    exact ⟨by rw [Hf.out]; rfl, Below.refl _ _⟩
/-! Can, bad. -/
def waitB (S : LogS) (k o : Int) : Bool := if k == 4 then !(decide (S.ow o.toNat < 0)) else if k == 7 then !(S.st o.toNat == 1 || S.st o.toNat == 3) else false
def canB (S : LogS) (t k o : Int) : Bool := rightB t k o (if k == 8 then 1 else 0) 0 && S.st t.toNat == 2 && !(waitB S k o)
def badB (S : LogS) (t k o : Int) : Int :=
  if k == 5 && S.ow o.toNat != t then 2 else if k == 6 && S.st o.toNat != 1 then 4 else if k == 7 && S.st o.toNat == 1 then 3 else 0

theorem right_in {t k o v b : Int} (h : rightB t k o v b = true) : inB t = true := by
  unfold rightB at h; simp only [Bool.and_eq_true] at h; exact h.1
theorem right_obj {t k o v b : Int} (h : rightB t k o v b = true) (hk : (k == 4 || k == 5 || k == 6 || k == 7) = true) : inB o = true := by
  unfold rightB at h; simp only [Bool.and_eq_true] at h
  have h2 := h.2
  simp only [Bool.or_eq_true, beq_iff_eq] at hk
  rcases hk with ((rfl | rfl) | rfl) | rfl <;> (simp [bodyB] at h2; exact h2.1.1)

set_option maxHeartbeats 2000000 in
theorem can_no {w : World} {B b : Nat} {vl va : Value} {S : LogS} (h : LogAt w B b vl va S) (t k o : Int) (hr : rightB t k o (if k == 8 then 1 else 0) 0 = false) :
    Calls Try.prog 94 #[.pointer (some ⟨b, 0, none⟩), .int .i64 t, .agg #[.int .i64 k, .int .i64 o]] w fun e w' => e = .returned (.bool (canB S t k o)) ∧ Below w.heap.size w w' := by
  have Hf : Hid (canB S t k o = false) := by unfold Hid canB; rw [hr]; rfl
  clear h
  cases h8 : (k == 8) <;> rw [h8] at hr <;> simp only [Bool.false_eq_true, if_false, if_true] at hr
  all_goals
    go_enter Try.func94, Try.ntmps94
    go_wp2_with fail
    refine (right_calls _ _ _ _ _ _).mono ?_
    rintro e w1 ⟨rfl, hb⟩
    have hc_w1 := bcell hb
    have hB_w1 : Below w.heap.size w w1 := Below.trans (by go_grown) (hb.mono (by first | omega | (simp <;> omega)))
    have hS_w1 := hb.size
    try simp at hS_w1
    have hA_w1_0 : ∀ x, x < w.heap.size + 2 → x < w1.heap.size := (fun x hx => by omega)
    have hL_w1 : ∀ x, x < w.heap.size → x < w1.heap.size := (fun x hx => by omega)
    clear hb
    rw [hr]
    go_wp2
    go_ret
    exact ⟨by rw [Hf.out]; rfl, hB_w1⟩

set_option maxHeartbeats 2000000 in
theorem can_yes {w : World} {B b : Nat} {vl va : Value} {S : LogS} (h : LogAt w B b vl va S) (t k o : Int) (hr : rightB t k o (if k == 8 then 1 else 0) 0 = true) :
    Calls Try.prog 94 #[.pointer (some ⟨b, 0, none⟩), .int .i64 t, .agg #[.int .i64 k, .int .i64 o]] w fun e w' => e = .returned (.bool (canB S t k o)) ∧ Below w.heap.size w w' := by
  obtain ⟨t0, t8⟩ := inB_iff.1 (right_in hr)
  obtain ⟨i, rfl⟩ := Int.eq_ofNat_of_zero_le t0
  have hi8 : i < 8 := by omega
  have c1 := h.cst hi8
  cases hs : (S.st i == 2)
  · have Hf : Hid (canB S i k o = false) := by unfold Hid canB; rw [hr, Int.toNat_natCast, hs]; rfl
    have hs' : (S.st i != 2) = true := by rw [bne, hs]; rfl
    cases h8 : (k == 8) <;> rw [h8] at hr <;> simp only [Bool.false_eq_true, if_false, if_true] at hr
    all_goals
      go_enter Try.func94, Try.ntmps94
      go_wp2_with fail
      refine (right_calls _ _ _ _ _ _).mono ?_
      rintro e w1 ⟨rfl, hb⟩
      have hc_w1 := bcell hb
      have hB_w1 : Below w.heap.size w w1 := Below.trans (by go_grown) (hb.mono (by first | omega | (simp <;> omega)))
      have hS_w1 := hb.size
      try simp at hS_w1
      have hA_w1_0 : ∀ x, x < w.heap.size + 2 → x < w1.heap.size := (fun x hx => by omega)
      have hL_w1 : ∀ x, x < w.heap.size → x < w1.heap.size := (fun x hx => by omega)
      clear hb
      have c1_w1 := keep hB_w1 c1
      rw [hr]
      go_wp2
      go_ret
      exact ⟨by rw [Hf.out]; rfl, hB_w1⟩
  · have Hf : Hid (canB S i k o = !(waitB S k o)) := by unfold Hid canB; rw [hr, Int.toNat_natCast, hs]; rfl
    have hs' : (S.st i != 2) = false := by rw [bne, hs]; rfl
    by_cases h47 : (k == 4 || k == 7) = true
    · obtain ⟨o0, o8⟩ := inB_iff.1 (right_obj hr (by simp only [Bool.or_eq_true] at h47 ⊢; rcases h47 with h | h <;> simp [h]))
      obtain ⟨j, rfl⟩ := Int.eq_ofNat_of_zero_le o0
      have hj8 : j < 8 := by omega
      have c2 := h.cow hj8
      have c3 := h.cst hj8
      simp only [Bool.or_eq_true, beq_iff_eq] at h47
      rcases h47 with rfl | rfl
      · go_enter Try.func94, Try.ntmps94
        go_wp2_with fail
        refine (right_calls _ _ _ _ _ _).mono ?_
        rintro e w1 ⟨rfl, hb⟩
        have hc_w1 := bcell hb
        have hB_w1 : Below w.heap.size w w1 := Below.trans (by go_grown) (hb.mono (by first | omega | (simp <;> omega)))
        have hS_w1 := hb.size
        try simp at hS_w1
        have hA_w1_0 : ∀ x, x < w.heap.size + 2 → x < w1.heap.size := (fun x hx => by omega)
        have hL_w1 : ∀ x, x < w.heap.size → x < w1.heap.size := (fun x hx => by omega)
        clear hb
        have c1_w1 := keep hB_w1 c1
        have c2_w1 := keep hB_w1 c2
        have hr' : rightB i 4 j 0 0 = true := hr
        rw [hr']
        go_wp2_with fail
        refine wp_ext_draw 9 mixed (by kernel_rfl) ?_
        simp only [List.take_succ_cons, List.take_zero, List.drop_succ_cons, List.drop_zero]
        repeat ((first | ((apply TextRun.go rfl rfl rfl); (focus (intro w1 hS K hK; have hc := bcell hS; have hs := blt hS; have c2_w1 := keep hS c2_w1; go_wp2_with (fail); first | done | exact hS | exact hS.trans (hb.mono hS.size)))) | (refine TextRun.skip rfl ?_) | ((refine TextRun.wantedT rfl rfl rfl ?_); (apply Exists.intro); (apply And.intro); (focus (intro w1 hS K hK; have hc := bcell hS; have hs := blt hS; have c2_w1 := keep hS c2_w1; go_wp2_with (fail); first | done | exact hS | exact hS.trans (hb.mono hS.size))))); (simp only [Act.put, List.setIfInBounds_toArray, List.set_cons_zero, List.set_cons_succ]))
        refine TextRun.done ?_
        intro w2 hb
        have hB_w2 := hB_w1.trans (hb.mono hB_w1.size)
        go_wp2
        go_ret
        exact ⟨by rw [Hf.out]; simp [waitB], hB_w2⟩
      · have hr' : rightB i 7 j 0 0 = true := hr
        go_enter Try.func94, Try.ntmps94
        go_wp2_with fail
        refine (right_calls _ _ _ _ _ _).mono ?_
        rintro e w1 ⟨rfl, hb⟩
        have hc_w1 := bcell hb
        have hB_w1 : Below w.heap.size w w1 := Below.trans (by go_grown) (hb.mono (by first | omega | (simp <;> omega)))
        have hS_w1 := hb.size
        try simp at hS_w1
        have hA_w1_0 : ∀ x, x < w.heap.size + 2 → x < w1.heap.size := (fun x hx => by omega)
        have hL_w1 : ∀ x, x < w.heap.size → x < w1.heap.size := (fun x hx => by omega)
        clear hb
        have c1_w1 := keep hB_w1 c1
        have c3_w1 := keep hB_w1 c3
        rw [hr']
        go_wp2_with fail
        refine wp_ext_draw 9 mixed (by kernel_rfl) ?_
        simp only [List.take_succ_cons, List.take_zero, List.drop_succ_cons, List.drop_zero]
        repeat ((first | ((apply TextRun.go rfl rfl rfl); (focus (intro w1 hS K hK; have hc := bcell hS; have hs := blt hS; have c3_w1 := keep hS c3_w1; go_wp2_with (fail); first | done | exact hS | exact hS.trans (hb.mono hS.size)))) | (refine TextRun.skip rfl ?_) | ((refine TextRun.wantedT rfl rfl rfl ?_); (apply Exists.intro); (apply And.intro); (focus (intro w1 hS K hK; have hc := bcell hS; have hs := blt hS; have c3_w1 := keep hS c3_w1; go_wp2_with (fail); first | done | exact hS | exact hS.trans (hb.mono hS.size))))); (simp only [Act.put, List.setIfInBounds_toArray, List.set_cons_zero, List.set_cons_succ]))
        refine TextRun.done ?_
        intro w2 hb
        have hB_w2 := hB_w1.trans (hb.mono hB_w1.size)
        have Hs := Lib.hid hs
        clear hs hs' c1 c1_w1
        cases h1 : (S.st j == 1) <;> cases h3 : (S.st j == 3)
        all_goals
          go_wp2
          go_ret
          exact ⟨by rw [Hf.out]; simp [waitB, h1, h3], hB_w2⟩
    · have h4 : (k == 4) = false := by cases h : (k == 4) <;> simp_all
      have h7 : (k == 7) = false := by cases h : (k == 7) <;> simp_all
      have Hw : Hid (waitB S k o = false) := by unfold Hid waitB; rw [h4, h7]; rfl
      clear h47
      cases h8 : (k == 8) <;> rw [h8] at hr <;> simp only [Bool.false_eq_true, if_false, if_true] at hr
      all_goals
        go_enter Try.func94, Try.ntmps94
        go_wp2_with fail
        refine (right_calls _ _ _ _ _ _).mono ?_
        rintro e w1 ⟨rfl, hb⟩
        have hc_w1 := bcell hb
        have hB_w1 : Below w.heap.size w w1 := Below.trans (by go_grown) (hb.mono (by first | omega | (simp <;> omega)))
        have hS_w1 := hb.size
        try simp at hS_w1
        have hA_w1_0 : ∀ x, x < w.heap.size + 2 → x < w1.heap.size := (fun x hx => by omega)
        have hL_w1 : ∀ x, x < w.heap.size → x < w1.heap.size := (fun x hx => by omega)
        clear hb
        have c1_w1 := keep hB_w1 c1
        rw [hr]
        go_wp2
        go_ret
        exact ⟨by rw [Hf.out, Hw.out]; rfl, hB_w1⟩
theorem can_calls {w : World} {B b : Nat} {vl va : Value} {S : LogS} (h : LogAt w B b vl va S) (t k o : Int) :
    Calls Try.prog 94 #[.pointer (some ⟨b, 0, none⟩), .int .i64 t, .agg #[.int .i64 k, .int .i64 o]] w fun e w' => e = .returned (.bool (canB S t k o)) ∧ Below w.heap.size w w' := by
  cases hr : rightB t k o (if k == 8 then 1 else 0) 0
  · exact can_no h t k o hr
  · exact can_yes h t k o hr

end Go.Proofs.Ytadngicebbnnlaa
