/-
  What an event is about, and whether two of them depend on one another: the program's text, function by function.
-/
import Derived.Test.YtobhandimolmhaaDoorData
import Derived.WalkKit
import Derived.WalkSpells
import Derived.WalkLawsBesides
import Derived.Handy
import Derived.Lib.Hide
import Derived.Stop.Asserts
set_option linter.unusedSimpArgs false
set_option linter.unusedVariables false
namespace Go.Proofs.YtobhandimolmhaaDoor
open Go.ChangeShapes Go.WideShapes Go.ChangeAt Go.RowKit Go.Deep

inductive Ab where
  | rd (c : Int)
  | wr (c : Int)
  | at (c : Int)
  | mu (m : Int)
  | bg (t : Int)
  | en (t : Int)
  | wt (t : Int)
  | no

/-- The dynamic type; the value. -/
def Ab.ty : Ab → TypeId
  | .rd _ => 68
  | .wr _ => 69
  | .at _ => 70
  | .mu _ => 72
  | .bg _ => 74
  | .en _ => 76
  | .wt _ => 75
  | .no => 78
def Ab.body : Ab → Value
  | .rd c => .agg #[.int .i64 c]
  | .wr c => .agg #[.int .i64 c]
  | .at c => .agg #[.int .i64 c]
  | .mu c => .agg #[.int .i64 c]
  | .bg c => .agg #[.int .i64 c]
  | .en c => .agg #[.int .i64 c]
  | .wt c => .agg #[.int .i64 c]
  | .no => .agg #[]
/-- The number of its method depends. -/
def Ab.fn : Ab → FuncId
  | .rd _ => 53
  | .wr _ => 56
  | .at _ => 58
  | .mu _ => 59
  | .bg _ => 60
  | .en _ => 62
  | .wt _ => 61
  | .no => 63
theorem Ab.ty_rd (c : Int) : (Ab.rd c).ty = 68 := rfl
theorem Ab.body_rd (c : Int) : (Ab.rd c).body = .agg #[.int .i64 c] := rfl
theorem Ab.ty_wr (c : Int) : (Ab.wr c).ty = 69 := rfl
theorem Ab.body_wr (c : Int) : (Ab.wr c).body = .agg #[.int .i64 c] := rfl
theorem Ab.ty_at (c : Int) : (Ab.at c).ty = 70 := rfl
theorem Ab.body_at (c : Int) : (Ab.at c).body = .agg #[.int .i64 c] := rfl
theorem Ab.ty_mu (c : Int) : (Ab.mu c).ty = 72 := rfl
theorem Ab.body_mu (c : Int) : (Ab.mu c).body = .agg #[.int .i64 c] := rfl
theorem Ab.ty_bg (c : Int) : (Ab.bg c).ty = 74 := rfl
theorem Ab.body_bg (c : Int) : (Ab.bg c).body = .agg #[.int .i64 c] := rfl
theorem Ab.ty_en (c : Int) : (Ab.en c).ty = 76 := rfl
theorem Ab.body_en (c : Int) : (Ab.en c).body = .agg #[.int .i64 c] := rfl
theorem Ab.ty_wt (c : Int) : (Ab.wt c).ty = 75 := rfl
theorem Ab.body_wt (c : Int) : (Ab.wt c).body = .agg #[.int .i64 c] := rfl
theorem Ab.ty_no : Ab.no.ty = 78 := rfl
theorem Ab.body_no : Ab.no.body = .agg #[] := rfl
attribute [go_sem] Ab.ty_rd Ab.body_rd Ab.ty_wr Ab.body_wr Ab.ty_at Ab.body_at Ab.ty_mu Ab.body_mu Ab.ty_bg Ab.body_bg Ab.ty_en Ab.body_en Ab.ty_wt Ab.body_wt Ab.ty_no Ab.body_no

def abOf (t k o : Int) : Ab :=
  if k == 1 then .rd o else if k == 2 then .wr o else if k == 3 then .at o else if k == 4 then .mu o else if k == 5 then .mu o else
  if k == 6 then .bg o else if k == 7 then .wt o else if k == 9 then .en t else .no

/-- What it does to a cell: the cell, whether it writes, whether it is atomic. -/
def Ab.acc : Ab → Option (Int × Bool × Bool)
  | .rd c => some (c, false, false)
  | .wr c => some (c, true, false)
  | .at c => some (c, true, true)
  | _ => none

def Ab.dep : Ab → Ab → Bool
  | .rd _, .rd _ => false
  | .rd c, .wr d => c == d
  | .rd c, .at d => c == d
  | .wr c, .rd d => c == d
  | .wr c, .wr d => c == d
  | .wr c, .at d => c == d
  | .at c, .rd d => c == d
  | .at c, .wr d => c == d
  | .at c, .at d => c == d
  | .mu c, .mu d => c == d
  | .bg c, .bg d => c == d
  | .bg c, .wt d => c == d
  | .en c, .wt d => c == d
  | .wt c, .bg d => c == d
  | .wt c, .en d => c == d
  | _, _ => false
def Ab.starts : Ab → Int → Bool
  | .bg c, t => c == t
  | _, _ => false

set_option maxHeartbeats 4000000 in
theorem of_calls (t k o v b : Int) (w : World) : Calls Tryd.prog 32 #[.agg #[.int .i64 t, .int .i64 k, .int .i64 o, .int .i64 v, .int .i64 b]] w fun e w' =>
    e = .returned (.iface (abOf t k o).ty (abOf t k o).body) ∧ Below w.heap.size w w' := by
  go_enter Tryd.func32, Tryd.ntmps32
  go_wp2
  all_goals (go_ret; exact ⟨by go_tidy; first | (simp_all [abOf, Ab.ty, Ab.body]; done) | (simp_all [abOf, Ab.ty, Ab.body]; omega) | (simp_all [abOf, Ab.ty, Ab.body]; intros; subst_vars; simp_all; done) | (simp [abOf, Ab.ty, Ab.body, *]; done) | (simp [abOf, Ab.ty, Ab.body, *]; omega), by go_grown⟩)

theorem racc_calls (c : Int) (w : World) : Calls Tryd.prog 52 #[.agg #[.int .i64 c]] w fun e w' =>
    e = .returned (.agg #[.int .i64 c, .bool false, .bool false]) ∧ Below w.heap.size w w' := by
  go_enter Tryd.func52, Tryd.ntmps52
  go_wp2
  go_returns
  exact ⟨rfl, by go_grown⟩
theorem wacc_calls (c : Int) (w : World) : Calls Tryd.prog 55 #[.agg #[.int .i64 c]] w fun e w' =>
    e = .returned (.agg #[.int .i64 c, .bool true, .bool false]) ∧ Below w.heap.size w w' := by
  go_enter Tryd.func55, Tryd.ntmps55
  go_wp2
  go_returns
  exact ⟨rfl, by go_grown⟩
theorem aacc_calls (c : Int) (w : World) : Calls Tryd.prog 57 #[.agg #[.int .i64 c]] w fun e w' =>
    e = .returned (.agg #[.int .i64 c, .bool true, .bool true]) ∧ Below w.heap.size w w' := by
  go_enter Tryd.func57, Tryd.ntmps57
  go_wp2
  go_returns
  exact ⟨rfl, by go_grown⟩

/-! Whether it is about a cell: the type assertion to accessor. -/
theorem acc_rd (v : Value) (w : World) : (Instr.typeAssert (.iface 68 v) 63 99 true).run Tryd.prog w = .ok (.tuple #[.iface 68 v, .bool true]) w :=
  run_typeAssert_hasB Tryd.underlying99 (by kernel_rfl) v _ w
theorem acc_wr (v : Value) (w : World) : (Instr.typeAssert (.iface 69 v) 63 99 true).run Tryd.prog w = .ok (.tuple #[.iface 69 v, .bool true]) w :=
  run_typeAssert_hasB Tryd.underlying99 (by kernel_rfl) v _ w
theorem acc_at (v : Value) (w : World) : (Instr.typeAssert (.iface 70 v) 63 99 true).run Tryd.prog w = .ok (.tuple #[.iface 70 v, .bool true]) w :=
  run_typeAssert_hasB Tryd.underlying99 (by kernel_rfl) v _ w
theorem acc_mu (v : Value) (w : World) : (Instr.typeAssert (.iface 72 v) 63 99 true).run Tryd.prog w = .ok (.tuple #[.nilIface, .bool false]) w :=
  run_typeAssert_lacksB Tryd.underlying99 (by kernel_rfl) (by kernel_rfl) v _ w
theorem acc_bg (v : Value) (w : World) : (Instr.typeAssert (.iface 74 v) 63 99 true).run Tryd.prog w = .ok (.tuple #[.nilIface, .bool false]) w :=
  run_typeAssert_lacksB Tryd.underlying99 (by kernel_rfl) (by kernel_rfl) v _ w
theorem acc_en (v : Value) (w : World) : (Instr.typeAssert (.iface 76 v) 63 99 true).run Tryd.prog w = .ok (.tuple #[.nilIface, .bool false]) w :=
  run_typeAssert_lacksB Tryd.underlying99 (by kernel_rfl) (by kernel_rfl) v _ w
theorem acc_wt (v : Value) (w : World) : (Instr.typeAssert (.iface 75 v) 63 99 true).run Tryd.prog w = .ok (.tuple #[.nilIface, .bool false]) w :=
  run_typeAssert_lacksB Tryd.underlying99 (by kernel_rfl) (by kernel_rfl) v _ w
theorem acc_no (v : Value) (w : World) : (Instr.typeAssert (.iface 78 v) 63 99 true).run Tryd.prog w = .ok (.tuple #[.nilIface, .bool false]) w :=
  run_typeAssert_lacksB Tryd.underlying99 (by kernel_rfl) (by kernel_rfl) v _ w
theorem as_rd_mu (v : Value) (w : World) : (Instr.typeAssert (.iface 68 v) 63 72 true).run Tryd.prog w = .ok (.tuple #[.agg #[.int .i64 0], .bool false]) w := by kernel_rfl
theorem as_wr_mu (v : Value) (w : World) : (Instr.typeAssert (.iface 69 v) 63 72 true).run Tryd.prog w = .ok (.tuple #[.agg #[.int .i64 0], .bool false]) w := by kernel_rfl
theorem as_at_mu (v : Value) (w : World) : (Instr.typeAssert (.iface 70 v) 63 72 true).run Tryd.prog w = .ok (.tuple #[.agg #[.int .i64 0], .bool false]) w := by kernel_rfl
theorem as_mu_mu (v : Value) (w : World) : (Instr.typeAssert (.iface 72 v) 63 72 true).run Tryd.prog w = .ok (.tuple #[v, .bool true]) w := by kernel_rfl
theorem as_bg_mu (v : Value) (w : World) : (Instr.typeAssert (.iface 74 v) 63 72 true).run Tryd.prog w = .ok (.tuple #[.agg #[.int .i64 0], .bool false]) w := by kernel_rfl
theorem as_en_mu (v : Value) (w : World) : (Instr.typeAssert (.iface 76 v) 63 72 true).run Tryd.prog w = .ok (.tuple #[.agg #[.int .i64 0], .bool false]) w := by kernel_rfl
theorem as_wt_mu (v : Value) (w : World) : (Instr.typeAssert (.iface 75 v) 63 72 true).run Tryd.prog w = .ok (.tuple #[.agg #[.int .i64 0], .bool false]) w := by kernel_rfl
theorem as_no_mu (v : Value) (w : World) : (Instr.typeAssert (.iface 78 v) 63 72 true).run Tryd.prog w = .ok (.tuple #[.agg #[.int .i64 0], .bool false]) w := by kernel_rfl
theorem as_rd_bg (v : Value) (w : World) : (Instr.typeAssert (.iface 68 v) 63 74 true).run Tryd.prog w = .ok (.tuple #[.agg #[.int .i64 0], .bool false]) w := by kernel_rfl
theorem as_wr_bg (v : Value) (w : World) : (Instr.typeAssert (.iface 69 v) 63 74 true).run Tryd.prog w = .ok (.tuple #[.agg #[.int .i64 0], .bool false]) w := by kernel_rfl
theorem as_at_bg (v : Value) (w : World) : (Instr.typeAssert (.iface 70 v) 63 74 true).run Tryd.prog w = .ok (.tuple #[.agg #[.int .i64 0], .bool false]) w := by kernel_rfl
theorem as_mu_bg (v : Value) (w : World) : (Instr.typeAssert (.iface 72 v) 63 74 true).run Tryd.prog w = .ok (.tuple #[.agg #[.int .i64 0], .bool false]) w := by kernel_rfl
theorem as_bg_bg (v : Value) (w : World) : (Instr.typeAssert (.iface 74 v) 63 74 true).run Tryd.prog w = .ok (.tuple #[v, .bool true]) w := by kernel_rfl
theorem as_en_bg (v : Value) (w : World) : (Instr.typeAssert (.iface 76 v) 63 74 true).run Tryd.prog w = .ok (.tuple #[.agg #[.int .i64 0], .bool false]) w := by kernel_rfl
theorem as_wt_bg (v : Value) (w : World) : (Instr.typeAssert (.iface 75 v) 63 74 true).run Tryd.prog w = .ok (.tuple #[.agg #[.int .i64 0], .bool false]) w := by kernel_rfl
theorem as_no_bg (v : Value) (w : World) : (Instr.typeAssert (.iface 78 v) 63 74 true).run Tryd.prog w = .ok (.tuple #[.agg #[.int .i64 0], .bool false]) w := by kernel_rfl
theorem as_rd_en (v : Value) (w : World) : (Instr.typeAssert (.iface 68 v) 63 76 true).run Tryd.prog w = .ok (.tuple #[.agg #[.int .i64 0], .bool false]) w := by kernel_rfl
theorem as_wr_en (v : Value) (w : World) : (Instr.typeAssert (.iface 69 v) 63 76 true).run Tryd.prog w = .ok (.tuple #[.agg #[.int .i64 0], .bool false]) w := by kernel_rfl
theorem as_at_en (v : Value) (w : World) : (Instr.typeAssert (.iface 70 v) 63 76 true).run Tryd.prog w = .ok (.tuple #[.agg #[.int .i64 0], .bool false]) w := by kernel_rfl
theorem as_mu_en (v : Value) (w : World) : (Instr.typeAssert (.iface 72 v) 63 76 true).run Tryd.prog w = .ok (.tuple #[.agg #[.int .i64 0], .bool false]) w := by kernel_rfl
theorem as_bg_en (v : Value) (w : World) : (Instr.typeAssert (.iface 74 v) 63 76 true).run Tryd.prog w = .ok (.tuple #[.agg #[.int .i64 0], .bool false]) w := by kernel_rfl
theorem as_en_en (v : Value) (w : World) : (Instr.typeAssert (.iface 76 v) 63 76 true).run Tryd.prog w = .ok (.tuple #[v, .bool true]) w := by kernel_rfl
theorem as_wt_en (v : Value) (w : World) : (Instr.typeAssert (.iface 75 v) 63 76 true).run Tryd.prog w = .ok (.tuple #[.agg #[.int .i64 0], .bool false]) w := by kernel_rfl
theorem as_no_en (v : Value) (w : World) : (Instr.typeAssert (.iface 78 v) 63 76 true).run Tryd.prog w = .ok (.tuple #[.agg #[.int .i64 0], .bool false]) w := by kernel_rfl
theorem as_rd_wt (v : Value) (w : World) : (Instr.typeAssert (.iface 68 v) 63 75 true).run Tryd.prog w = .ok (.tuple #[.agg #[.int .i64 0], .bool false]) w := by kernel_rfl
theorem as_wr_wt (v : Value) (w : World) : (Instr.typeAssert (.iface 69 v) 63 75 true).run Tryd.prog w = .ok (.tuple #[.agg #[.int .i64 0], .bool false]) w := by kernel_rfl
theorem as_at_wt (v : Value) (w : World) : (Instr.typeAssert (.iface 70 v) 63 75 true).run Tryd.prog w = .ok (.tuple #[.agg #[.int .i64 0], .bool false]) w := by kernel_rfl
theorem as_mu_wt (v : Value) (w : World) : (Instr.typeAssert (.iface 72 v) 63 75 true).run Tryd.prog w = .ok (.tuple #[.agg #[.int .i64 0], .bool false]) w := by kernel_rfl
theorem as_bg_wt (v : Value) (w : World) : (Instr.typeAssert (.iface 74 v) 63 75 true).run Tryd.prog w = .ok (.tuple #[.agg #[.int .i64 0], .bool false]) w := by kernel_rfl
theorem as_en_wt (v : Value) (w : World) : (Instr.typeAssert (.iface 76 v) 63 75 true).run Tryd.prog w = .ok (.tuple #[.agg #[.int .i64 0], .bool false]) w := by kernel_rfl
theorem as_wt_wt (v : Value) (w : World) : (Instr.typeAssert (.iface 75 v) 63 75 true).run Tryd.prog w = .ok (.tuple #[v, .bool true]) w := by kernel_rfl
theorem as_no_wt (v : Value) (w : World) : (Instr.typeAssert (.iface 78 v) 63 75 true).run Tryd.prog w = .ok (.tuple #[.agg #[.int .i64 0], .bool false]) w := by kernel_rfl
attribute [go_sem] as_rd_mu as_wr_mu as_at_mu as_mu_mu as_bg_mu as_en_mu as_wt_mu as_no_mu as_rd_bg as_wr_bg as_at_bg as_mu_bg as_bg_bg as_en_bg as_wt_bg as_no_bg as_rd_en as_wr_en as_at_en as_mu_en as_bg_en as_en_en as_wt_en as_no_en as_rd_wt as_wr_wt as_at_wt as_mu_wt as_bg_wt as_en_wt as_wt_wt as_no_wt
attribute [go_sem] acc_rd acc_wr acc_at acc_mu acc_bg acc_en acc_wt acc_no
set_option maxHeartbeats 4000000 in
theorem touch_rd (c : Int) (y : Ab) (w : World) : Calls Tryd.prog 54 #[.iface (Ab.rd c).ty (Ab.rd c).body, .iface y.ty y.body] w fun e w' =>
    e = .returned (.bool (Ab.dep (.rd c) y)) ∧ Below w.heap.size w w' := by
  cases y <;> simp only [Ab.ty, Ab.body] <;> (
    go_enter Tryd.func54, Tryd.ntmps54
    go_wp2
    all_goals (go_ret; exact ⟨by go_tidy; first | (simp_all [Ab.dep]; done) | (simp_all [Ab.dep]; omega) | (simp_all [Ab.dep]; intros; subst_vars; simp_all; done) | (simp [Ab.dep, *]; done) | (simp [Ab.dep, *]; omega), by go_grown⟩))
set_option maxHeartbeats 4000000 in
theorem touch_wr (c : Int) (y : Ab) (w : World) : Calls Tryd.prog 54 #[.iface (Ab.wr c).ty (Ab.wr c).body, .iface y.ty y.body] w fun e w' =>
    e = .returned (.bool (Ab.dep (.wr c) y)) ∧ Below w.heap.size w w' := by
  cases y <;> simp only [Ab.ty, Ab.body] <;> (
    go_enter Tryd.func54, Tryd.ntmps54
    go_wp2
    all_goals (go_ret; exact ⟨by go_tidy; first | (simp_all [Ab.dep]; done) | (simp_all [Ab.dep]; omega) | (simp_all [Ab.dep]; intros; subst_vars; simp_all; done) | (simp [Ab.dep, *]; done) | (simp [Ab.dep, *]; omega), by go_grown⟩))
set_option maxHeartbeats 4000000 in
theorem touch_at (c : Int) (y : Ab) (w : World) : Calls Tryd.prog 54 #[.iface (Ab.at c).ty (Ab.at c).body, .iface y.ty y.body] w fun e w' =>
    e = .returned (.bool (Ab.dep (.at c) y)) ∧ Below w.heap.size w w' := by
  cases y <;> simp only [Ab.ty, Ab.body] <;> (
    go_enter Tryd.func54, Tryd.ntmps54
    go_wp2
    all_goals (go_ret; exact ⟨by go_tidy; first | (simp_all [Ab.dep]; done) | (simp_all [Ab.dep]; omega) | (simp_all [Ab.dep]; intros; subst_vars; simp_all; done) | (simp [Ab.dep, *]; done) | (simp [Ab.dep, *]; omega), by go_grown⟩))
theorem dep_rd (c : Int) (y : Ab) (w : World) : Calls Tryd.prog 53 #[.agg #[.int .i64 c], (.iface y.ty y.body)] w fun e w' =>
    e = .returned (.bool (Ab.dep (.rd c) y)) ∧ Below w.heap.size w w' := by
  go_enter Tryd.func53, Tryd.ntmps53
  go_wp2_with fail
  refine (touch_rd c y _).mono ?_
  rintro e w1 ⟨rfl, hb⟩
  have hc_w1 := bcell hb
  have hB_w1 : Below w.heap.size w w1 := Below.trans (by go_grown) (hb.mono (by first | omega | (simp <;> omega)))
  have hS_w1 := hb.size
  try simp at hS_w1
  have hA_w1_0 : ∀ x, x < w.heap.size + 1 → x < w1.heap.size := (fun x hx => by omega)
  have hL_w1 : ∀ x, x < w.heap.size → x < w1.heap.size := (fun x hx => by omega)
  clear hb
  go_wp2_with fail
  go_ret
  exact ⟨rfl, hB_w1⟩
theorem dep_wr (c : Int) (y : Ab) (w : World) : Calls Tryd.prog 56 #[.agg #[.int .i64 c], (.iface y.ty y.body)] w fun e w' =>
    e = .returned (.bool (Ab.dep (.wr c) y)) ∧ Below w.heap.size w w' := by
  go_enter Tryd.func56, Tryd.ntmps56
  go_wp2_with fail
  refine (touch_wr c y _).mono ?_
  rintro e w1 ⟨rfl, hb⟩
  have hc_w1 := bcell hb
  have hB_w1 : Below w.heap.size w w1 := Below.trans (by go_grown) (hb.mono (by first | omega | (simp <;> omega)))
  have hS_w1 := hb.size
  try simp at hS_w1
  have hA_w1_0 : ∀ x, x < w.heap.size + 1 → x < w1.heap.size := (fun x hx => by omega)
  have hL_w1 : ∀ x, x < w.heap.size → x < w1.heap.size := (fun x hx => by omega)
  clear hb
  go_wp2_with fail
  go_ret
  exact ⟨rfl, hB_w1⟩
theorem dep_at (c : Int) (y : Ab) (w : World) : Calls Tryd.prog 58 #[.agg #[.int .i64 c], (.iface y.ty y.body)] w fun e w' =>
    e = .returned (.bool (Ab.dep (.at c) y)) ∧ Below w.heap.size w w' := by
  go_enter Tryd.func58, Tryd.ntmps58
  go_wp2_with fail
  refine (touch_at c y _).mono ?_
  rintro e w1 ⟨rfl, hb⟩
  have hc_w1 := bcell hb
  have hB_w1 : Below w.heap.size w w1 := Below.trans (by go_grown) (hb.mono (by first | omega | (simp <;> omega)))
  have hS_w1 := hb.size
  try simp at hS_w1
  have hA_w1_0 : ∀ x, x < w.heap.size + 1 → x < w1.heap.size := (fun x hx => by omega)
  have hL_w1 : ∀ x, x < w.heap.size → x < w1.heap.size := (fun x hx => by omega)
  clear hb
  go_wp2_with fail
  go_ret
  exact ⟨rfl, hB_w1⟩
set_option maxHeartbeats 4000000 in
theorem dep_mu (c : Int) (y : Ab) (w : World) : Calls Tryd.prog 59 #[.agg #[.int .i64 c], (.iface y.ty y.body)] w fun e w' =>
    e = .returned (.bool (Ab.dep (.mu c) y)) ∧ Below w.heap.size w w' := by
  cases y <;> simp only [Ab.ty, Ab.body] <;> (
    go_enter Tryd.func59, Tryd.ntmps59
    go_wp2
    all_goals (go_ret; exact ⟨by go_tidy; first | (simp_all [Ab.dep]; done) | (simp_all [Ab.dep]; omega) | (simp_all [Ab.dep]; intros; subst_vars; simp_all; done) | (simp [Ab.dep, *]; done) | (simp [Ab.dep, *]; omega), by go_grown⟩))
set_option maxHeartbeats 4000000 in
theorem dep_bg (c : Int) (y : Ab) (w : World) : Calls Tryd.prog 60 #[.agg #[.int .i64 c], (.iface y.ty y.body)] w fun e w' =>
    e = .returned (.bool (Ab.dep (.bg c) y)) ∧ Below w.heap.size w w' := by
  cases y <;> simp only [Ab.ty, Ab.body] <;> (
    go_enter Tryd.func60, Tryd.ntmps60
    go_wp2
    all_goals (go_ret; exact ⟨by go_tidy; first | (simp_all [Ab.dep]; done) | (simp_all [Ab.dep]; omega) | (simp_all [Ab.dep]; intros; subst_vars; simp_all; done) | (simp [Ab.dep, *]; done) | (simp [Ab.dep, *]; omega), by go_grown⟩))
set_option maxHeartbeats 4000000 in
theorem dep_en (c : Int) (y : Ab) (w : World) : Calls Tryd.prog 62 #[.agg #[.int .i64 c], (.iface y.ty y.body)] w fun e w' =>
    e = .returned (.bool (Ab.dep (.en c) y)) ∧ Below w.heap.size w w' := by
  cases y <;> simp only [Ab.ty, Ab.body] <;> (
    go_enter Tryd.func62, Tryd.ntmps62
    go_wp2
    all_goals (go_ret; exact ⟨by go_tidy; first | (simp_all [Ab.dep]; done) | (simp_all [Ab.dep]; omega) | (simp_all [Ab.dep]; intros; subst_vars; simp_all; done) | (simp [Ab.dep, *]; done) | (simp [Ab.dep, *]; omega), by go_grown⟩))
set_option maxHeartbeats 4000000 in
theorem dep_wt (c : Int) (y : Ab) (w : World) : Calls Tryd.prog 61 #[.agg #[.int .i64 c], (.iface y.ty y.body)] w fun e w' =>
    e = .returned (.bool (Ab.dep (.wt c) y)) ∧ Below w.heap.size w w' := by
  cases y <;> simp only [Ab.ty, Ab.body] <;> (
    go_enter Tryd.func61, Tryd.ntmps61
    go_wp2
    all_goals (go_ret; exact ⟨by go_tidy; first | (simp_all [Ab.dep]; done) | (simp_all [Ab.dep]; omega) | (simp_all [Ab.dep]; intros; subst_vars; simp_all; done) | (simp [Ab.dep, *]; done) | (simp [Ab.dep, *]; omega), by go_grown⟩))
theorem dep_no (y : Ab) (w : World) : Calls Tryd.prog 63 #[.agg #[], (.iface y.ty y.body)] w fun e w' =>
    e = .returned (.bool (Ab.dep .no y)) ∧ Below w.heap.size w w' := by
  go_enter Tryd.func63, Tryd.ntmps63
  go_wp2
  go_ret
  exact ⟨by cases y <;> rfl, by go_grown⟩
set_option maxHeartbeats 4000000 in
theorem starts_calls (x : Ab) (t : Int) (w : World) : Calls Tryd.prog 33 #[.iface x.ty x.body, .int .i64 t] w fun e w' =>
    e = .returned (.bool (x.starts t)) ∧ Below w.heap.size w w' := by
  cases x <;> simp only [Ab.ty, Ab.body] <;> (
    go_enter Tryd.func33, Tryd.ntmps33
    go_wp2
    all_goals (go_ret; exact ⟨by go_tidy; first | (simp_all [Ab.starts]; done) | (simp_all [Ab.starts]; omega) | (simp_all [Ab.starts]; intros; subst_vars; simp_all; done) | (simp [Ab.starts, *]; done) | (simp [Ab.starts, *]; omega), by go_grown⟩))
theorem dep_any (x y : Ab) (w : World) : Calls Tryd.prog x.fn #[x.body, .iface y.ty y.body] w fun e w' =>
    e = .returned (.bool (x.dep y)) ∧ Below w.heap.size w w' := by
  cases x
  · exact dep_rd _ y w
  · exact dep_wr _ y w
  · exact dep_at _ y w
  · exact dep_mu _ y w
  · exact dep_bg _ y w
  · exact dep_en _ y w
  · exact dep_wt _ y w
  · exact dep_no y w
/-- The method's name, as the program has it. -/
noncomputable def depName : String := match Tryd.prog.underlying 62 with
  | some (.interface ms) => ((ms[0]?).map (fun m => m.1)).getD ""
  | _ => ""
theorem method_dep (x : Ab) (n : Nat) (w : World) : (method (n + 1) x.ty x.body depName).run Tryd.prog w = .ok (x.fn, x.body) w := by
  cases x <;> kernel_rfl
theorem ahead_dep (x : Ab) (n : Nat) (w : World) : (nilAhead (n + 1) x.ty x.body depName).run Tryd.prog w = .ok (some false) w := by
  cases x <;> kernel_rfl
end Go.Proofs.YtobhandimolmhaaDoor
