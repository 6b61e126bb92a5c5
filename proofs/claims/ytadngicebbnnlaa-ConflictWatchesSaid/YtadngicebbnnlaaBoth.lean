/-
  Of, whatever the list; awake; both.
-/
import Derived.Test.YtadngicebbnnlaaBef
import Derived.Test.YtadngicebbnnlaaRBef
import Derived.Test.YtadngicebbnnlaaOrdOf
set_option linter.unusedSimpArgs false
set_option linter.unusedVariables false
namespace Go.Proofs.Ytadngicebbnnlaa
open Go.ChangeShapes Go.WideShapes Go.ChangeAt Go.RowKit Go.Deep

def ORPost (l : List Ev) (n : Nat) (w : World) (x : Ending) (w' : World) : Prop :=
  Below w.heap.size w w' ∧
  ((wrongS n l ≠ 0 ∧ x = .returned (.tuple #[.pointer none, .int .i64 (wrongS n l)])) ∨
   (wrongS n l = 0 ∧ GoodL n l ∧ ∃ b v, x = .returned (.tuple #[.pointer (some ⟨b, 0, none⟩), .int .i64 0]) ∧ OrdAt w' w.heap.size b v l n))
theorem good_of {w : World} {a0 : Option Addr} {n c : Nat} {l : List Ev} (h : IsEvs w a0 n c l) (hn : n ≤ 100) {S : LogS} (hR : ofS l = (S, 0, 0)) : GoodL n l :=
  ⟨h.len, hn, fun _ e he => goOf_right l log0 0 (by unfold ofS at hR; rw [hR]) e (List.mem_of_getElem? he)⟩
theorem order_calls {w : World} {a0 : Option Addr} {n c : Nat} {l : List Ev} (h : IsEvs w a0 n c l) :
    Calls Try.prog 15 #[.slice a0 n c] w (ORPost l n w) := by
  by_cases h100 : 100 < n
  · have hw : wrongS n l = 122 := if_pos h100
    refine (ord_long h h100).mono ?_
    rintro x w' ⟨hb, h1 | ⟨h1, _⟩ | ⟨h1, _⟩⟩
    · exact ⟨hb, .inl ⟨by rw [hw]; decide, by rw [hw]; exact h1.2⟩⟩
    · omega
    · omega
  · have hn : n ≤ 100 := by omega
    have hw : wrongS n l = (ofS l).2.1 := if_neg h100
    rcases ofS_cases l with ⟨S, hR, _, _⟩ | ⟨S, z, p, hR, hz⟩
    · have hw0 : wrongS n l = 0 := by rw [hw, hR]
      refine (ord_good h hn hR).mono ?_
      rintro x w' ⟨hb, h1 | ⟨_, h1, _⟩ | ⟨_, _, b, v, h1, h2⟩⟩
      · omega
      · rw [hR] at h1; exact absurd rfl h1
      · exact ⟨hb, .inr ⟨hw0, good_of h hn hR, b, v, h1, h2⟩⟩
    · have hw0 : wrongS n l = z := by rw [hw, hR]
      refine (ord_bad h hn hR hz).mono ?_
      rintro x w' ⟨hb, h1 | ⟨_, _, h1⟩ | ⟨_, h1, _⟩⟩
      · omega
      · exact ⟨hb, .inl ⟨by rw [hw0]; exact hz, by rw [hw]; exact h1⟩⟩
      · rw [hR] at h1; exact absurd h1 hz

def two0 : List Ev := [⟨0, 1, 0, 0, 0⟩, ⟨0, 1, 0, 0, 0⟩]
theorem two_wrong : wrongS 2 two0 = 0 := by decide
theorem two_bef : befB 2 (rD two0) 0 1 = true := by
  have : befB 2 (rD two0) ((0 : Nat) : Int) ((1 : Nat) : Int) = true := by
    rw [befB_nat (by omega) (by omega), hbB_iff]
    exact .one (by omega) (rD_same rfl)
  exact this
theorem two_evs (w : World) : IsEvs (w.alloc (.cells #[.int .i64 0, .int .i64 1, .int .i64 0, .int .i64 0, .int .i64 0, .int .i64 0, .int .i64 1, .int .i64 0, .int .i64 0, .int .i64 0] 38)) (some ⟨w.heap.size, 0, none⟩) 2 2 two0 := by
  refine ⟨⟨rfl, fun _ => ⟨w.heap.size, 0, rfl, fun j u hj => ?_⟩⟩, rfl, Nat.le_refl _, by unfold maxLen; omega, fun e he => ?_⟩
  · rw [Nat.zero_add]; exact cell_new (by rw [← Array.getElem?_toList]; exact hj)
  · simp only [two0, List.mem_cons, List.not_mem_nil, or_false, or_self] at he
    subst he
    exact ⟨Fit.of (by decide) (by decide), Fit.of (by decide) (by decide), Fit.of (by decide) (by decide), Fit.of (by decide) (by decide), Fit.of (by decide) (by decide)⟩
theorem ReadRun.wantedT {P : Program} {ops : Array Oper} {S : World → Prop} {F : Act → Prop} {o : Oper} {rest : List Oper} {a : Act} {v : Value} (hg : Region.wanted o (yielded ops a.tmps) = true)
    (h : ∀ w, S w → (execOp a.eval o).run P w = .ok (.value v) w) (hr : ReadRun P ops S F rest (a.put o.dst v)) : ReadRun P ops S F (o :: rest) a := ⟨v, .inl ⟨hg, h⟩, hr⟩
theorem ReadRun.skip {P : Program} {ops : Array Oper} {S : World → Prop} {F : Act → Prop} {o : Oper} {rest : List Oper} {a : Act} (hg : Region.wanted o (yielded ops a.tmps) = false)
    (hr : ReadRun P ops S F rest (a.put o.dst undef)) : ReadRun P ops S F (o :: rest) a := ⟨undef, .inr ⟨hg, rfl⟩, hr⟩

theorem results_row4 {P : Program} {fn : Func} {m p q r : Tmp} {ty : TypeId} (h : fn.results = #[.tmp m, .cell p ty, .tmp q, .tmp r]) (tmps : Array Value) (w : World) (g : Nat) (t : TypeId) (cs : Array Value) (fr : Nat × Nat) (d : TypeDesc)
    (hp : tmps.getD p undef = .pointer (some ⟨g, 0, none⟩)) (hg : w.heap[g]? = some (.cells cs t fr))
    (hu : P.underlying ty = some d) (hd : (match d with | .struct _ | .array _ _ => true | _ => false) = true) (hi : (P.info? ty).map (·.size) = some cs.size) :
    (results fn tmps).run P w = .ok (.tuple #[tmps.getD m undef, .agg cs, tmps.getD q undef, tmps.getD r undef]) w := by
  have hp' : tmps[p]?.getD undef = .pointer (some ⟨g, 0, none⟩) := by simpa using hp
  simp [results, h, hp', asAddr, run_loadVar_row w g t ty cs fr d hg hu hd hi]

theorem OrdAt.apart {w w' : World} {B B' b : Nat} {v : Value} {l : List Ev} {n y : Nat} (h : OrdAt w B b v l n) (hB : B' ≤ B) (hy : y < B) (hb : y ≠ b) (hw : ∀ x, x ≠ y → w'.heap[x]? = w.heap[x]?) : OrdAt w' B' b v l n :=
  ⟨(hw b (fun e => hb e.symm)).trans h.blk, ownsRow_base (ownsRow_at h.own (fun g hg => hw g (by have := (h.own.lt g hg).1; omega))) hB, h.ne⟩

/-- What both hands back. -/
def BothPost (a0 : Option Addr) (l : List Ev) (n c : Nat) (w : World) (x : Ending) (w' : World) : Prop :=
  Below w.heap.size w w' ∧
  ((wrongS n l ≠ 0 ∧ x = .returned (.tuple #[.pointer none, .agg #[.slice none 0 0, .slice none 0 0, .slice none 0 0], .bool false, .bool true])) ∨
   (wrongS n l = 0 ∧ GoodL n l ∧ ∃ b v v1 v2 B, x = .returned (.tuple #[.pointer (some ⟨b, 0, none⟩), .agg #[.slice a0 n c, v1, v2], .bool true, .bool true]) ∧ OrdAt w' w.heap.size b v l n ∧
     MatAt w' B v1 n n (fun j i => hbB (rD l) i j) ∧ MatAt w' B v2 n n (fun j i => hbB (rS l) i j)))

end Go.Proofs.Ytadngicebbnnlaa
