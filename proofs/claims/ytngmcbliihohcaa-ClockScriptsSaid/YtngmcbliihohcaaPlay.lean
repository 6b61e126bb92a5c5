/-
  One step of a script over two clocks.
-/
import Derived.Test.YtngmcbliihohcaaClock6
set_option linter.unusedSimpArgs false
set_option linter.unusedVariables false
namespace Go.Proofs.Ytngmcbliihohcaa
open Go.ChangeShapes Go.WideShapes Go.ChangeAt Go.RowKit Go.Deep

theorem IsInts.mod {w w' : World} {a0 : Option Addr} {n c g : Nat} {l : List Int} (h : IsInts w a0 n c l) (hm : w.grownBy w' (some g)) (hne : ∀ q off s, a0 = some ⟨q, off, s⟩ → q ≠ g) : IsInts w' a0 n c l := by
  refine ⟨⟨h.reads.1, fun hn => ?_⟩, h.len, h.le, h.cap, h.wf⟩
  obtain ⟨b, off, ha, hc⟩ := h.reads.2 hn
  exact ⟨b, off, ha, fun j u hu => hm.cell (hc j u hu) (by have := hne b off none ha; simpa using this)⟩

def playL (l m : List Int) (d a : Int) : List Int := if d == 0 then (tickS l a).1 else if d == 1 then (joinS l m).1 else l
def PlayPost (b g : Nat) (a0 : Option Addr) (n c : Nat) (l : List Int) (w : World) (x : Ending) (w' : World) : Prop :=
  ∃ a' n' c', x = .returned (.tuple #[.slice a' n' c', .bool true]) ∧ IsInts w' a' n' c' l ∧ ClockAt w' b g l ∧ w.grownBy w' (some g) ∧ ((a' = a0 ∧ n' = n ∧ c' = c) ∨ ∃ q, a' = some ⟨q, 0, none⟩ ∧ w.heap.size ≤ q)
/-- A step's value in a block of its own. -/
structure StBox (w : World) (q : Nat) (d h a b : Int) : Prop where
  s0 : w.cell? ⟨q, 0, none⟩ = some (.int .i64 d)
  s2 : w.cell? ⟨q, 2, none⟩ = some (.int .i64 a)
  s3 : w.cell? ⟨q, 3, none⟩ = some (.int .i64 b)
theorem StBox.mod {w w' : World} {q g : Nat} {d h a b : Int} (hs : StBox w q d h a b) (hm : w.grownBy w' (some g)) (hne : q ≠ g) : StBox w' q d h a b :=
  ⟨hm.cell hs.s0 (by simpa using hne), hm.cell hs.s2 (by simpa using hne), hm.cell hs.s3 (by simpa using hne)⟩
theorem StBox.new (w : World) (d h a b : Int) : StBox (w.alloc (.cells #[.int .i64 d, .int .i64 h, .int .i64 a, .int .i64 b] 52)) w.heap.size d h a b :=
  ⟨cell_new rfl, cell_new rfl, cell_new rfl⟩
theorem StBox.below {w w' : World} {q : Nat} {d h a b : Int} (hs : StBox w q d h a b) (hm : Below w.heap.size w w') : StBox w' q d h a b :=
  ⟨keep hm hs.s0, keep hm hs.s2, keep hm hs.s3⟩

section
variable {w : World} {b g b' g' : Nat} {a0 b0 : Option Addr} {n c m k : Nat} {l o : List Int}

set_option maxRecDepth 20000 in
set_option maxHeartbeats 1000000 in
theorem play0 (h : ClockAt w b g l) (h' : ClockAt w b' g' o) (hI : IsInts w a0 n c l) (hJ : IsInts w b0 m k o) (hbb : b' ≠ g) (hgg : g' ≠ g)
    (ha : ∀ q off s, a0 = some ⟨q, off, s⟩ → q ≠ g) (hb : ∀ q off s, b0 = some ⟨q, off, s⟩ → q ≠ g) (v x y : Int) :
    Calls Try.prog 25 #[.pointer (some ⟨b, 0, none⟩), .pointer (some ⟨b', 0, none⟩), .slice a0 n c, .slice b0 m k, .agg #[.int .i64 0, .int .i64 v, .int .i64 x, .int .i64 y]] w (PlayPost b g a0 n c ((tickS l x).1) w) := by
  have hA : Below w.heap.size w (w.alloc (.cells #[.int .i64 0, .int .i64 v, .int .i64 x, .int .i64 y] 52)) := (Below.refl _ w).alloc (Nat.le_refl _) _
  have h1 := h.below hA
  have h1' := h'.below hA
  have hI1 := hI.below hA
  have hJ1 := hJ.below hA
  have hS1 := StBox.new w 0 v x y
  have hgw : w.heap.size ≠ g := fun e => by have := h.lt.2; omega
  have h8 : n ≤ 8 := by rw [← hI.len]; exact h.le
  have hp1 : 1 ≤ n := by rw [← hI.len]; exact h.pos
  have hM1 := mod_of_below (some g) hA
  have H1 := Lib.hid h1
  have H1' := Lib.hid h1'
  have I1 := Lib.hid hI1
  have J1 := Lib.hid hJ1
  have M1 := Lib.hid hM1
  have S1 := Lib.hid hS1
  have hz : w.heap.size < (w.alloc (.cells #[.int .i64 0, .int .i64 v, .int .i64 x, .int .i64 y] 52)).heap.size := by simp
  have Hz := Lib.hid hz
  clear h h' hI hJ h1 h1' hI1 hJ1 hM1 hS1 hA hz
  go_enter Try.func25, Try.ntmps25
  obtain ⟨s0, s2, s3⟩ := S1.out
  go_wp2_with fail
  refine (tick_calls H1.out x).mono ?_
  rintro e w2 ⟨rfl, hc2, hm2⟩
  have hI2 := I1.out.mod hm2 ha
  have hJ2 := J1.out.mod hm2 hb
  have hS2 := S1.out.mod hm2 hgw
  have hM2 := mod_trans M1.out hm2
  have hz2 := Nat.le_trans (Nat.le_of_lt Hz.out) hm2.size
  obtain ⟨s0, s2, s3⟩ := hS2
  clear H1 H1' I1 J1 M1 S1 Hz
  clear hm2
  have Hc2 := Lib.hid hc2
  have HM2 := Lib.hid hM2
  have HI2 := Lib.hid hI2
  have HJ2 := Lib.hid hJ2
  clear hc2 hM2 hI2 hJ2
  go_wp2_with fail
  refine (rtick_calls HI2.out h8 x).mono ?_
  rintro e w3 ⟨a', n', c', rfl, hI3, hb3, hor⟩
  have hc3 := Hc2.out.below hb3
  have hM3 := mod_below HM2.out hb3
  have hor3 : (a' = a0 ∧ n' = n ∧ c' = c) ∨ ∃ q, a' = some ⟨q, 0, none⟩ ∧ w.heap.size ≤ q := hor.imp id (fun ⟨q, h1, h2⟩ => ⟨q, h1, Nat.le_trans hz2 h2⟩)
  have HF := Lib.hid (And.intro hI3 (And.intro hc3 (And.intro hM3 hor3)))
  clear hI3 hb3 hor hc3 hM3 hor3 s0 s2 s3 Hc2 HM2
  go_wp2
  go_returns
  exact ⟨_, _, _, rfl, HF.out.1, HF.out.2.1, HF.out.2.2.1, HF.out.2.2.2⟩

set_option maxRecDepth 20000 in
set_option maxHeartbeats 1000000 in
theorem play1 (h : ClockAt w b g l) (h' : ClockAt w b' g' o) (hI : IsInts w a0 n c l) (hJ : IsInts w b0 m k o) (hbb : b' ≠ g) (hgg : g' ≠ g)
    (ha : ∀ q off s, a0 = some ⟨q, off, s⟩ → q ≠ g) (hb : ∀ q off s, b0 = some ⟨q, off, s⟩ → q ≠ g) (v x y : Int) :
    Calls Try.prog 25 #[.pointer (some ⟨b, 0, none⟩), .pointer (some ⟨b', 0, none⟩), .slice a0 n c, .slice b0 m k, .agg #[.int .i64 1, .int .i64 v, .int .i64 x, .int .i64 y]] w (PlayPost b g a0 n c ((joinS l o).1) w) := by
  have hA : Below w.heap.size w (w.alloc (.cells #[.int .i64 1, .int .i64 v, .int .i64 x, .int .i64 y] 52)) := (Below.refl _ w).alloc (Nat.le_refl _) _
  have h1 := h.below hA
  have h1' := h'.below hA
  have hI1 := hI.below hA
  have hJ1 := hJ.below hA
  have hS1 := StBox.new w 1 v x y
  have hgw : w.heap.size ≠ g := fun e => by have := h.lt.2; omega
  have h8 : n ≤ 8 := by rw [← hI.len]; exact h.le
  have hp1 : 1 ≤ n := by rw [← hI.len]; exact h.pos
  have hM1 := mod_of_below (some g) hA
  have H1 := Lib.hid h1
  have H1' := Lib.hid h1'
  have I1 := Lib.hid hI1
  have J1 := Lib.hid hJ1
  have M1 := Lib.hid hM1
  have S1 := Lib.hid hS1
  have hz : w.heap.size < (w.alloc (.cells #[.int .i64 1, .int .i64 v, .int .i64 x, .int .i64 y] 52)).heap.size := by simp
  have Hz := Lib.hid hz
  clear h h' hI hJ h1 h1' hI1 hJ1 hM1 hS1 hA hz
  go_enter Try.func25, Try.ntmps25
  obtain ⟨s0, s2, s3⟩ := S1.out
  go_wp2_with fail
  refine (join_calls H1.out H1'.out hbb hgg).mono ?_
  rintro e w2 ⟨rfl, hc2, hm2⟩
  have hI2 := I1.out.mod hm2 ha
  have hJ2 := J1.out.mod hm2 hb
  have hS2 := S1.out.mod hm2 hgw
  have hM2 := mod_trans M1.out hm2
  have hz2 := Nat.le_trans (Nat.le_of_lt Hz.out) hm2.size
  obtain ⟨s0, s2, s3⟩ := hS2
  clear H1 H1' I1 J1 M1 S1 Hz
  clear hm2
  have Hc2 := Lib.hid hc2
  have HM2 := Lib.hid hM2
  have HI2 := Lib.hid hI2
  have HJ2 := Lib.hid hJ2
  clear hc2 hM2 hI2 hJ2
  go_wp2_with fail
  refine (rjoin_calls HI2.out HJ2.out hp1 h8).mono ?_
  rintro e w3 ⟨a', n', c', rfl, hI3, hb3, hor⟩
  have hc3 := Hc2.out.below hb3
  have hM3 := mod_below HM2.out hb3
  have hor3 : (a' = a0 ∧ n' = n ∧ c' = c) ∨ ∃ q, a' = some ⟨q, 0, none⟩ ∧ w.heap.size ≤ q := hor.imp id (fun ⟨q, h1, h2⟩ => ⟨q, h1, Nat.le_trans hz2 h2⟩)
  have HF := Lib.hid (And.intro hI3 (And.intro hc3 (And.intro hM3 hor3)))
  clear hI3 hb3 hor hc3 hM3 hor3 s0 s2 s3 Hc2 HM2
  go_wp2
  go_returns
  exact ⟨_, _, _, rfl, HF.out.1, HF.out.2.1, HF.out.2.2.1, HF.out.2.2.2⟩

set_option maxRecDepth 20000 in
set_option maxHeartbeats 1000000 in
theorem play2 (h : ClockAt w b g l) (h' : ClockAt w b' g' o) (hI : IsInts w a0 n c l) (hJ : IsInts w b0 m k o) (hbb : b' ≠ g) (hgg : g' ≠ g)
    (ha : ∀ q off s, a0 = some ⟨q, off, s⟩ → q ≠ g) (hb : ∀ q off s, b0 = some ⟨q, off, s⟩ → q ≠ g) (v x y : Int) :
    Calls Try.prog 25 #[.pointer (some ⟨b, 0, none⟩), .pointer (some ⟨b', 0, none⟩), .slice a0 n c, .slice b0 m k, .agg #[.int .i64 2, .int .i64 v, .int .i64 x, .int .i64 y]] w (PlayPost b g a0 n c (l) w) := by
  have hA : Below w.heap.size w (w.alloc (.cells #[.int .i64 2, .int .i64 v, .int .i64 x, .int .i64 y] 52)) := (Below.refl _ w).alloc (Nat.le_refl _) _
  have h1 := h.below hA
  have h1' := h'.below hA
  have hI1 := hI.below hA
  have hJ1 := hJ.below hA
  have hS1 := StBox.new w 2 v x y
  have hgw : w.heap.size ≠ g := fun e => by have := h.lt.2; omega
  have h8 : n ≤ 8 := by rw [← hI.len]; exact h.le
  have hp1 : 1 ≤ n := by rw [← hI.len]; exact h.pos
  have hM1 := mod_of_below (some g) hA
  have H1 := Lib.hid h1
  have H1' := Lib.hid h1'
  have I1 := Lib.hid hI1
  have J1 := Lib.hid hJ1
  have M1 := Lib.hid hM1
  have S1 := Lib.hid hS1
  have hz : w.heap.size < (w.alloc (.cells #[.int .i64 2, .int .i64 v, .int .i64 x, .int .i64 y] 52)).heap.size := by simp
  have Hz := Lib.hid hz
  clear h h' hI hJ h1 h1' hI1 hJ1 hM1 hS1 hA hz
  go_enter Try.func25, Try.ntmps25
  obtain ⟨s0, s2, s3⟩ := S1.out
  go_wp2_with fail
  refine (join_self H1.out).mono ?_
  rintro e w2 ⟨rfl, hc2, hm2⟩
  have hI2 := I1.out.mod hm2 ha
  have hJ2 := J1.out.mod hm2 hb
  have hS2 := S1.out.mod hm2 hgw
  have hM2 := mod_trans M1.out hm2
  have hz2 := Nat.le_trans (Nat.le_of_lt Hz.out) hm2.size
  obtain ⟨s0, s2, s3⟩ := hS2
  clear H1 H1' I1 J1 M1 S1 Hz
  clear hm2
  have Hc2 := Lib.hid hc2
  have HM2 := Lib.hid hM2
  have HI2 := Lib.hid hI2
  have HJ2 := Lib.hid hJ2
  clear hc2 hM2 hI2 hJ2
  go_wp2
  go_returns
  exact ⟨_, _, _, rfl, HI2.out, Hc2.out, HM2.out, .inl ⟨rfl, rfl, rfl⟩⟩

set_option maxRecDepth 20000 in
set_option maxHeartbeats 1000000 in
theorem play3 (h : ClockAt w b g l) (h' : ClockAt w b' g' o) (hI : IsInts w a0 n c l) (hJ : IsInts w b0 m k o) (hbb : b' ≠ g) (hgg : g' ≠ g)
    (ha : ∀ q off s, a0 = some ⟨q, off, s⟩ → q ≠ g) (hb : ∀ q off s, b0 = some ⟨q, off, s⟩ → q ≠ g) (v x y : Int) :
    Calls Try.prog 25 #[.pointer (some ⟨b, 0, none⟩), .pointer (some ⟨b', 0, none⟩), .slice a0 n c, .slice b0 m k, .agg #[.int .i64 3, .int .i64 v, .int .i64 x, .int .i64 y]] w (PlayPost b g a0 n c (l) w) := by
  have hA : Below w.heap.size w (w.alloc (.cells #[.int .i64 3, .int .i64 v, .int .i64 x, .int .i64 y] 52)) := (Below.refl _ w).alloc (Nat.le_refl _) _
  have h1 := h.below hA
  have h1' := h'.below hA
  have hI1 := hI.below hA
  have hJ1 := hJ.below hA
  have hS1 := StBox.new w 3 v x y
  have hgw : w.heap.size ≠ g := fun e => by have := h.lt.2; omega
  have h8 : n ≤ 8 := by rw [← hI.len]; exact h.le
  have hp1 : 1 ≤ n := by rw [← hI.len]; exact h.pos
  have hM1 := mod_of_below (some g) hA
  have H1 := Lib.hid h1
  have H1' := Lib.hid h1'
  have I1 := Lib.hid hI1
  have J1 := Lib.hid hJ1
  have M1 := Lib.hid hM1
  have S1 := Lib.hid hS1
  have hz : w.heap.size < (w.alloc (.cells #[.int .i64 3, .int .i64 v, .int .i64 x, .int .i64 y] 52)).heap.size := by simp
  have Hz := Lib.hid hz
  clear h h' hI hJ h1 h1' hI1 hJ1 hM1 hS1 hA hz
  go_enter Try.func25, Try.ntmps25
  obtain ⟨s0, s2, s3⟩ := S1.out
  go_wp2_with fail
  refine (at_calls H1.out x).mono ?_
  rintro e w2 ⟨rfl, rfl⟩
  go_wp2_with fail
  refine (rat_calls I1.out x).mono ?_
  rintro e w2 ⟨rfl, rfl⟩
  go_wp2
  go_returns
  exact ⟨_, _, _, by simp, I1.out, H1.out, M1.out, .inl ⟨rfl, rfl, rfl⟩⟩

set_option maxRecDepth 20000 in
set_option maxHeartbeats 1000000 in
theorem play4 (h : ClockAt w b g l) (h' : ClockAt w b' g' o) (hI : IsInts w a0 n c l) (hJ : IsInts w b0 m k o) (hbb : b' ≠ g) (hgg : g' ≠ g)
    (ha : ∀ q off s, a0 = some ⟨q, off, s⟩ → q ≠ g) (hb : ∀ q off s, b0 = some ⟨q, off, s⟩ → q ≠ g) (v x y : Int) :
    Calls Try.prog 25 #[.pointer (some ⟨b, 0, none⟩), .pointer (some ⟨b', 0, none⟩), .slice a0 n c, .slice b0 m k, .agg #[.int .i64 4, .int .i64 v, .int .i64 x, .int .i64 y]] w (PlayPost b g a0 n c (l) w) := by
  have hA : Below w.heap.size w (w.alloc (.cells #[.int .i64 4, .int .i64 v, .int .i64 x, .int .i64 y] 52)) := (Below.refl _ w).alloc (Nat.le_refl _) _
  have h1 := h.below hA
  have h1' := h'.below hA
  have hI1 := hI.below hA
  have hJ1 := hJ.below hA
  have hS1 := StBox.new w 4 v x y
  have hgw : w.heap.size ≠ g := fun e => by have := h.lt.2; omega
  have h8 : n ≤ 8 := by rw [← hI.len]; exact h.le
  have hp1 : 1 ≤ n := by rw [← hI.len]; exact h.pos
  have hM1 := mod_of_below (some g) hA
  have H1 := Lib.hid h1
  have H1' := Lib.hid h1'
  have I1 := Lib.hid hI1
  have J1 := Lib.hid hJ1
  have M1 := Lib.hid hM1
  have S1 := Lib.hid hS1
  have hz : w.heap.size < (w.alloc (.cells #[.int .i64 4, .int .i64 v, .int .i64 x, .int .i64 y] 52)).heap.size := by simp
  have Hz := Lib.hid hz
  clear h h' hI hJ h1 h1' hI1 hJ1 hM1 hS1 hA hz
  go_enter Try.func25, Try.ntmps25
  obtain ⟨s0, s2, s3⟩ := S1.out
  go_wp2_with fail
  refine (covers_calls H1.out x y).mono ?_
  rintro e w2 ⟨rfl, rfl⟩
  go_wp2_with fail
  refine (rcovers_calls I1.out x y).mono ?_
  rintro e w2 ⟨rfl, rfl⟩
  go_wp2
  go_returns
  exact ⟨_, _, _, by simp, I1.out, H1.out, M1.out, .inl ⟨rfl, rfl, rfl⟩⟩

set_option maxRecDepth 20000 in
set_option maxHeartbeats 1000000 in
theorem play5 (h : ClockAt w b g l) (h' : ClockAt w b' g' o) (hI : IsInts w a0 n c l) (hJ : IsInts w b0 m k o) (hbb : b' ≠ g) (hgg : g' ≠ g)
    (ha : ∀ q off s, a0 = some ⟨q, off, s⟩ → q ≠ g) (hb : ∀ q off s, b0 = some ⟨q, off, s⟩ → q ≠ g) (v x y : Int) :
    Calls Try.prog 25 #[.pointer (some ⟨b, 0, none⟩), .pointer (some ⟨b', 0, none⟩), .slice a0 n c, .slice b0 m k, .agg #[.int .i64 5, .int .i64 v, .int .i64 x, .int .i64 y]] w (PlayPost b g a0 n c (l) w) := by
  have hA : Below w.heap.size w (w.alloc (.cells #[.int .i64 5, .int .i64 v, .int .i64 x, .int .i64 y] 52)) := (Below.refl _ w).alloc (Nat.le_refl _) _
  have h1 := h.below hA
  have h1' := h'.below hA
  have hI1 := hI.below hA
  have hJ1 := hJ.below hA
  have hS1 := StBox.new w 5 v x y
  have hgw : w.heap.size ≠ g := fun e => by have := h.lt.2; omega
  have h8 : n ≤ 8 := by rw [← hI.len]; exact h.le
  have hp1 : 1 ≤ n := by rw [← hI.len]; exact h.pos
  have hM1 := mod_of_below (some g) hA
  have H1 := Lib.hid h1
  have H1' := Lib.hid h1'
  have I1 := Lib.hid hI1
  have J1 := Lib.hid hJ1
  have M1 := Lib.hid hM1
  have S1 := Lib.hid hS1
  have hz : w.heap.size < (w.alloc (.cells #[.int .i64 5, .int .i64 v, .int .i64 x, .int .i64 y] 52)).heap.size := by simp
  have Hz := Lib.hid hz
  clear h h' hI hJ h1 h1' hI1 hJ1 hM1 hS1 hA hz
  go_enter Try.func25, Try.ntmps25
  obtain ⟨s0, s2, s3⟩ := S1.out
  go_wp2_with fail
  refine (leq_calls H1.out H1'.out).mono ?_
  rintro e w2 ⟨rfl, hb2⟩
  have hI2 := I1.out.below hb2
  have hJ2 := J1.out.below hb2
  have hS2 := S1.out.below hb2
  have hM2 := mod_below M1.out hb2
  have hz2 := Nat.le_trans (Nat.le_of_lt Hz.out) hb2.size
  have hc2 := H1.out.below hb2
  obtain ⟨s0, s2, s3⟩ := hS2
  clear H1 H1' I1 J1 M1 S1 Hz
  clear hb2
  have Hc2 := Lib.hid hc2
  have HM2 := Lib.hid hM2
  have HI2 := Lib.hid hI2
  have HJ2 := Lib.hid hJ2
  clear hc2 hM2 hI2 hJ2
  go_wp2_with fail
  refine (rleq_calls HI2.out HJ2.out).mono ?_
  rintro e w3 ⟨rfl, hb3⟩
  have HF := Lib.hid (And.intro (HI2.out.below hb3) (And.intro (Hc2.out.below hb3) (mod_below HM2.out hb3)))
  clear hb3 s0 s2 s3 Hc2 HM2 HI2
  generalize leqB l o = q
  go_wp2
  go_returns
  exact ⟨_, _, _, by simp, HF.out.1, HF.out.2.1, HF.out.2.2, .inl ⟨rfl, rfl, rfl⟩⟩

set_option maxRecDepth 20000 in
set_option maxHeartbeats 1000000 in
theorem play6 (h : ClockAt w b g l) (h' : ClockAt w b' g' o) (hI : IsInts w a0 n c l) (hJ : IsInts w b0 m k o) (hbb : b' ≠ g) (hgg : g' ≠ g)
    (ha : ∀ q off s, a0 = some ⟨q, off, s⟩ → q ≠ g) (hb : ∀ q off s, b0 = some ⟨q, off, s⟩ → q ≠ g) (v x y : Int) :
    Calls Try.prog 25 #[.pointer (some ⟨b, 0, none⟩), .pointer (some ⟨b', 0, none⟩), .slice a0 n c, .slice b0 m k, .agg #[.int .i64 6, .int .i64 v, .int .i64 x, .int .i64 y]] w (PlayPost b g a0 n c (l) w) := by
  have hA : Below w.heap.size w (w.alloc (.cells #[.int .i64 6, .int .i64 v, .int .i64 x, .int .i64 y] 52)) := (Below.refl _ w).alloc (Nat.le_refl _) _
  have h1 := h.below hA
  have h1' := h'.below hA
  have hI1 := hI.below hA
  have hJ1 := hJ.below hA
  have hS1 := StBox.new w 6 v x y
  have hgw : w.heap.size ≠ g := fun e => by have := h.lt.2; omega
  have h8 : n ≤ 8 := by rw [← hI.len]; exact h.le
  have hp1 : 1 ≤ n := by rw [← hI.len]; exact h.pos
  have hM1 := mod_of_below (some g) hA
  have H1 := Lib.hid h1
  have H1' := Lib.hid h1'
  have I1 := Lib.hid hI1
  have J1 := Lib.hid hJ1
  have M1 := Lib.hid hM1
  have S1 := Lib.hid hS1
  have hz : w.heap.size < (w.alloc (.cells #[.int .i64 6, .int .i64 v, .int .i64 x, .int .i64 y] 52)).heap.size := by simp
  have Hz := Lib.hid hz
  clear h h' hI hJ h1 h1' hI1 hJ1 hM1 hS1 hA hz
  go_enter Try.func25, Try.ntmps25
  obtain ⟨s0, s2, s3⟩ := S1.out
  go_wp2_with fail
  refine (compare_calls H1.out H1'.out).mono ?_
  rintro e w2 ⟨rfl, hb2⟩
  have hI2 := I1.out.below hb2
  have hJ2 := J1.out.below hb2
  have hS2 := S1.out.below hb2
  have hM2 := mod_below M1.out hb2
  have hz2 := Nat.le_trans (Nat.le_of_lt Hz.out) hb2.size
  have hc2 := H1.out.below hb2
  obtain ⟨s0, s2, s3⟩ := hS2
  clear H1 H1' I1 J1 M1 S1 Hz
  clear hb2
  have Hc2 := Lib.hid hc2
  have HM2 := Lib.hid hM2
  have HI2 := Lib.hid hI2
  have HJ2 := Lib.hid hJ2
  clear hc2 hM2 hI2 hJ2
  go_wp2_with fail
  refine (rcompare_calls HI2.out HJ2.out).mono ?_
  rintro e w3 ⟨rfl, hb3⟩
  have HF := Lib.hid (And.intro (HI2.out.below hb3) (And.intro (Hc2.out.below hb3) (mod_below HM2.out hb3)))
  clear hb3 s0 s2 s3 Hc2 HM2 HI2
  generalize (cmpS l o).1 = q1; generalize (cmpS l o).2 = q2
  go_wp2
  go_returns
  exact ⟨_, _, _, by simp, HF.out.1, HF.out.2.1, HF.out.2.2, .inl ⟨rfl, rfl, rfl⟩⟩

set_option maxRecDepth 20000 in
set_option maxHeartbeats 1000000 in
theorem play7 (h : ClockAt w b g l) (h' : ClockAt w b' g' o) (hI : IsInts w a0 n c l) (hJ : IsInts w b0 m k o) (hbb : b' ≠ g) (hgg : g' ≠ g)
    (ha : ∀ q off s, a0 = some ⟨q, off, s⟩ → q ≠ g) (hb : ∀ q off s, b0 = some ⟨q, off, s⟩ → q ≠ g) (d v x y : Int) (d0 : (d == 0) = false) (d1 : (d == 1) = false) (d2 : (d == 2) = false) (d3 : (d == 3) = false) (d4 : (d == 4) = false) (d5 : (d == 5) = false) (d6 : (d == 6) = false) :
    Calls Try.prog 25 #[.pointer (some ⟨b, 0, none⟩), .pointer (some ⟨b', 0, none⟩), .slice a0 n c, .slice b0 m k, .agg #[.int .i64 d, .int .i64 v, .int .i64 x, .int .i64 y]] w (PlayPost b g a0 n c (l) w) := by
  have hA : Below w.heap.size w (w.alloc (.cells #[.int .i64 d, .int .i64 v, .int .i64 x, .int .i64 y] 52)) := (Below.refl _ w).alloc (Nat.le_refl _) _
  have h1 := h.below hA
  have h1' := h'.below hA
  have hI1 := hI.below hA
  have hJ1 := hJ.below hA
  have hS1 := StBox.new w d v x y
  have hgw : w.heap.size ≠ g := fun e => by have := h.lt.2; omega
  have h8 : n ≤ 8 := by rw [← hI.len]; exact h.le
  have hp1 : 1 ≤ n := by rw [← hI.len]; exact h.pos
  have hM1 := mod_of_below (some g) hA
  have H1 := Lib.hid h1
  have H1' := Lib.hid h1'
  have I1 := Lib.hid hI1
  have J1 := Lib.hid hJ1
  have M1 := Lib.hid hM1
  have S1 := Lib.hid hS1
  have hz : w.heap.size < (w.alloc (.cells #[.int .i64 d, .int .i64 v, .int .i64 x, .int .i64 y] 52)).heap.size := by simp
  have Hz := Lib.hid hz
  clear h h' hI hJ h1 h1' hI1 hJ1 hM1 hS1 hA hz
  go_enter Try.func25, Try.ntmps25
  obtain ⟨s0, s2, s3⟩ := S1.out
  go_wp2
  go_returns
  exact ⟨_, _, _, rfl, I1.out, H1.out, M1.out, .inl ⟨rfl, rfl, rfl⟩⟩

theorem play_calls (h : ClockAt w b g l) (h' : ClockAt w b' g' o) (hI : IsInts w a0 n c l) (hJ : IsInts w b0 m k o) (hbb : b' ≠ g) (hgg : g' ≠ g)
    (ha : ∀ q off s, a0 = some ⟨q, off, s⟩ → q ≠ g) (hb : ∀ q off s, b0 = some ⟨q, off, s⟩ → q ≠ g) (d v x y : Int) :
    Calls Try.prog 25 #[.pointer (some ⟨b, 0, none⟩), .pointer (some ⟨b', 0, none⟩), .slice a0 n c, .slice b0 m k, .agg #[.int .i64 d, .int .i64 v, .int .i64 x, .int .i64 y]] w (PlayPost b g a0 n c (playL l o d x) w) := by
  by_cases h0 : d = 0
  · subst h0; exact play0 h h' hI hJ hbb hgg ha hb v x y
  by_cases h1 : d = 1
  · subst h1; exact play1 h h' hI hJ hbb hgg ha hb v x y
  have hl : playL l o d x = l := by unfold playL; simp [h0, h1]
  rw [hl]
  by_cases h2 : d = 2
  · subst h2; exact play2 h h' hI hJ hbb hgg ha hb v x y
  by_cases h3 : d = 3
  · subst h3; exact play3 h h' hI hJ hbb hgg ha hb v x y
  by_cases h4 : d = 4
  · subst h4; exact play4 h h' hI hJ hbb hgg ha hb v x y
  by_cases h5 : d = 5
  · subst h5; exact play5 h h' hI hJ hbb hgg ha hb v x y
  by_cases h6 : d = 6
  · subst h6; exact play6 h h' hI hJ hbb hgg ha hb v x y
  exact play7 h h' hI hJ hbb hgg ha hb d v x y (by simpa using h0) (by simpa using h1) (by simpa using h2) (by simpa using h3) (by simpa using h4) (by simpa using h5) (by simpa using h6)
end
end Go.Proofs.Ytngmcbliihohcaa
