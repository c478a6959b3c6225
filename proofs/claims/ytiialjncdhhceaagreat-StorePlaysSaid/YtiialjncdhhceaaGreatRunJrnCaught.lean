/- What follows is 2 texts, one behind the other: JrnBase, JrnCaught. -/
import Derived.Test.YtiialjncdhhceaaGreatRunSecMore
import Derived.Test.YtiialjncdhhceaaGreatBits
import Derived.Defers
import Derived.Recover
import Derived.Deep.QuietTactic
import Derived.BigQuiet
/- The journal: where it lies, its smallest parts (length, space, must, ready, record). -/
namespace Go.Proofs.YtiialjncdhhceaaGreat
open Go.RowKit
set_option linter.unusedVariables false
set_option linter.unusedSimpArgs false

/-- The journal's own cells. -/
def jCells (d : Nat) (hd ar : Nat) (A : Option Addr) (n c : Nat) (C : Option Addr) (nc cc : Nat) (br : Bool) : Array Value := #[.pointer (some ⟨d, 0, none⟩), .int .i64 (hd : Int), .int .i64 (ar : Int), .slice A n c, .slice C nc cc, .bool br]
/-- How many sectors an area has. -/
def arL (n : Nat) : Nat := n / 2 - 4

set_option maxRecDepth 100000 in
theorem length_c (j d k m : Nat) (s : DSt) (w : World) (hj : w.cell? ⟨j, 0, none⟩ = some (.pointer (some ⟨d, 0, none⟩))) (hD : IsDisk w d k m s) :
    Calls Tryz.prog 62 #[.pointer (some ⟨j, 0, none⟩)] w fun e w' => e = .returned (.int .i64 (arL s.n : Int)) ∧ w' = w := by
  have hn := hD.ok.n_le
  have e : max ((s.n : Int) / 2 - 4) 0 = (arL s.n : Int) := by unfold arL; omega
  have e' := hid e
  clear e
  go_enter Tryz.func62, Tryz.ntmps62
  go_wp2_with fail
  refine (Len_c d k m s w hD).mono ?_
  rintro e w1 ⟨rfl, rfl⟩
  have e := e'.out
  go_wp2_with fail
  go_ret
  exact ⟨rfl, rfl⟩

set_option maxRecDepth 100000 in
theorem space_c (j d k m : Nat) (s : DSt) (w : World) (hj : w.cell? ⟨j, 0, none⟩ = some (.pointer (some ⟨d, 0, none⟩))) (hD : IsDisk w d k m s) :
    Calls Tryz.prog 61 #[.pointer (some ⟨j, 0, none⟩)] w fun e w' => e = .returned (.int .i64 (64 * (arL s.n : Int))) ∧ w' = w := by
  have hn := hD.ok.n_le
  have hl : arL s.n ≤ 1000 := by unfold arL; omega
  obtain ⟨q, hq⟩ : ∃ q, arL s.n = q := ⟨_, rfl⟩
  rw [hq] at hl
  rw [hq]
  replace hq := hid hq
  go_enter Tryz.func61, Tryz.ntmps61
  go_wp2_with fail
  refine (length_c j d k m s w hj hD).mono ?_
  rw [hq.out]
  rintro e w1 ⟨rfl, rfl⟩
  go_wp2_with fail
  go_ret
  exact ⟨rfl, rfl⟩

theorem must_ok (w : World) : Calls Tryz.prog 44 #[.int .i64 0] w fun e w' => e = .returned (.tuple #[]) ∧ w = w' := by
  go_enter Tryz.func44, Tryz.ntmps44
  go_wp2
  go_end0
  exact ⟨rfl, rfl⟩

/-- What a panic with an error is. -/
def errV (x : Int) : Value := .iface 24 (.int .i64 x)
theorem must_bad (x : Int) (hx : x ≠ 0) (w : World) : Calls Tryz.prog 44 #[.int .i64 x] w fun e w' => e = .panicked [{ v := errV x, recovered := false }] ∧ w' = w := by
  have hb : (x == 0) = false := by simp [hx]
  go_enter Tryz.func44, Tryz.ntmps44
  go_wp2
  exact ⟨rfl, rfl, rfl⟩

theorem ready_c (j : Nat) (w : World) (hj : w.cell? ⟨j, 5, none⟩ = some (.bool false)) :
    Calls Tryz.prog 66 #[.pointer (some ⟨j, 0, none⟩)] w fun e w' => e = .returned (.tuple #[]) ∧ w' = w := by
  go_enter Tryz.func66, Tryz.ntmps66
  go_wp2
  go_end0
  exact ⟨rfl, rfl⟩

/-- A record's bytes. -/
def recB (s : ByteArray) : List UInt8 := putB s.size 4 ++ bs s
theorem recB_len (s : ByteArray) : (recB s).length = s.size + 4 := by
  unfold recB
  rw [List.length_append, putB_length, bs_length]
  omega
set_option maxRecDepth 100000 in
theorem record_c (base : Nat) (s : ByteArray) (hs : s.size ≤ 70368744177664) (w : World) (hB : base ≤ w.heap.size) :
    Calls Tryz.prog 67 #[.string s] w fun e w' => ∃ v, e = .returned v ∧ OB w' base 5 v (recB s) ∧ Fr [] w w' ∧ Nw w (.slice none 0 0) v := by
  go_enter Tryz.func67, Tryz.ntmps67
  go_wp2_with (at_builtin; refine stop_append rfl ?_)
  refine (Put_c base (.slice none 0 0) [] s.size 4 4 (by omega) (by decide) w (OB.nil _ _ _) hB (by simp)).mono ?_
  rintro e w1 ⟨v1, rfl, ho1, hf1, hn1⟩
  rw [List.nil_append] at ho1
  go_wp2_with (at_builtin; refine stop_append rfl ?_)
  have hz := hf1.size
  refine Stop.go (appS base rfl _ _ 30 9 5 rfl Tryz.underlying30 Tryz.underlying9 infoByte ho1 rfl rfl (by omega) (by rw [putB_length]; omega) ?_)
  intro v2 w2 ho2 hf2 hn2
  go_wp2_with (at_builtin; refine stop_append rfl ?_)
  go_ret
  have hfr1 : Fr [] w w1 := hf1.mono (by simp [Value.ownBlock])
  refine ⟨v2, rfl, ho2, hfr1.trans hf2 (fun x hx => ?_), hn1.trans hz hn2⟩
  rcases hn1 x (by simpa using hx) with h1 | h1
  · simp [Value.ownBlock] at h1
  · exact .inr h1
end Go.Proofs.YtiialjncdhhceaaGreat

/- The journal's deferred 'caught': behind a call that returns, behind one that panics with an error. -/
namespace Go.Proofs.YtiialjncdhhceaaGreat
open Go.RowKit
set_option linter.unusedVariables false
set_option linter.unusedSimpArgs false

section
variable {P : Program} {Q : Exit → Act → List Frame → World → Prop} {a : Act} {cs cs' : List Frame} {w : World}
theorem run_recover (o : Oper) (hop : o.op = .call { callee := .builtin .recover, args := #[], argTypes := #[] }) : (execOp a.eval o).run P w = .ok .recover w := by
  obtain ⟨d, op, ty, pos, af, gd⟩ := o
  dsimp only at hop
  subst hop
  rfl
theorem wpS_recover {id : Nat} {o : Oper} (hop : o.op = .call { callee := .builtin .recover, args := #[], argTypes := #[] }) (hg : o.guard = none) {v : Value} (hr : recoverD cs = some (v, cs')) (h : Q .normal (a.put o.dst v) cs' w) : (Code.region id #[o] false).wpS P Q a cs w := by
  apply wpS_region
  show wpOpsS P #[o] Q [0] a cs w
  have hw : Region.wanted o (yielded #[o] a.tmps) = true := by
    obtain ⟨d, op, ty, pos, af, gd⟩ := o
    dsimp only at hg
    subst hg
    rfl
  unfold wpOpsS
  simp only [List.getElem?_toArray, List.getElem?_cons_zero, hw, if_true, run_recover o hop, hr]
  unfold wpOpsS
  exact h
theorem wpS_recover_none {id : Nat} {o : Oper} (hop : o.op = .call { callee := .builtin .recover, args := #[], argTypes := #[] }) (hg : o.guard = none) (hr : recoverD cs = none) (h : Q .normal (a.put o.dst .nilIface) cs w) : (Code.region id #[o] false).wpS P Q a cs w := by
  apply wpS_region
  show wpOpsS P #[o] Q [0] a cs w
  have hw : Region.wanted o (yielded #[o] a.tmps) = true := by
    obtain ⟨d, op, ty, pos, af, gd⟩ := o
    dsimp only at hg
    subst hg
    rfl
  unfold wpOpsS
  simp only [List.getElem?_toArray, List.getElem?_cons_zero, hw, if_true, run_recover o hop, hr]
  unfold wpOpsS
  exact h
theorem recoverD_idle {c : Frame} {cs : List Frame} (h : c.mode = .returning) : recoverD (c :: cs) = none := by
  obtain ⟨fn, tmps, todo, defers, mode, kind, ro⟩ := c
  dsimp only at h
  subst h
  rfl
theorem recoverD_panic {c : Frame} {cs : List Frame} {v : Value} {older : List PanicEntry} (h : c.mode = .panicking ({ v := v, recovered := false } :: older)) : recoverD (c :: cs) = some (v, { c with mode := .panicking ({ v := v, recovered := true } :: older) } :: cs) := by
  obtain ⟨fn, tmps, todo, defers, mode, kind, ro⟩ := c
  dsimp only at h
  subst h
  rfl
end

theorem ta_err (v : Value) (t : TypeId) (w : World) : (Instr.typeAssert (.iface 24 v) t 24 true).run Tryz.prog w = .ok (.tuple #[v, .bool true]) w := by
  unfold Instr.typeAssert
  rw [Sem.run_bind, run_underlying Tryz.underlying24 w, Result.andThen_ok]
  rfl

theorem caught_idle (j e : Nat) (w : World) :
    CallsD Tryz.prog 42 #[.pointer (some ⟨j, 0, none⟩), .pointer (some ⟨e, 0, none⟩)] .returning w fun x u' w' => x = .returned (.tuple #[]) ∧ u' = .returning ∧ w' = w := by
  refine callsD_of_wpS Tryz.func42 rfl fun c₀ cs hu => ?_
  refine wpS_seq (wpS_recover_none rfl rfl (recoverD_idle hu) ?_)
  refine wpS_of_wp ?_
  simp only [Tryz.ntmps42, List.size_toArray, List.length_cons, List.length_nil, Nat.reduceAdd, Nat.reduceSub, Array.replicate_succ,
     Array.replicate_zero, List.push_toArray, List.append_toArray, List.nil_append, List.cons_append]
  go_wp2
  refine ⟨rfl, .returning, ?_, _, results_none rfl _ _ _, rfl, rfl, rfl⟩
  obtain ⟨fn, tmps, todo, defers, mode, kind, ro⟩ := c₀
  dsimp only at hu
  subst hu
  rfl

set_option maxRecDepth 100000 in
theorem caught_panic (j e : Nat) (x x0 : Int) (br : Bool) (older : List PanicEntry) (w : World) (hj : w.cell? ⟨j, 5, none⟩ = some (.bool br)) (hjz : w.frozen? ⟨j, 5, none⟩ = false) (he : w.cell? ⟨e, 0, none⟩ = some (.int .i64 x0)) (hez : w.frozen? ⟨e, 0, none⟩ = false) (hje : e ≠ j) :
    CallsD Tryz.prog 42 #[.pointer (some ⟨j, 0, none⟩), .pointer (some ⟨e, 0, none⟩)] (.panicking ({ v := errV x, recovered := false } :: older)) w fun r u' w' => r = .returned (.tuple #[]) ∧ u' = .panicking ({ v := errV x, recovered := true } :: older) ∧
      w' = (w.setCell ⟨e, 0, none⟩ (.int .i64 x)).setCell ⟨j, 5, none⟩ (.bool (br || (x != 10 && x != 140))) := by
  refine callsD_of_wpS Tryz.func42 rfl fun c₀ cs hu => ?_
  refine wpS_seq (wpS_recover rfl rfl (recoverD_panic hu) ?_)
  refine wpS_of_wp ?_
  simp only [Tryz.ntmps42, List.size_toArray, List.length_cons, List.length_nil, Nat.reduceAdd, Nat.reduceSub, Array.replicate_succ,
     Array.replicate_zero, List.push_toArray, List.append_toArray, List.nil_append, List.cons_append]
  unfold errV
  have hta := ta_err (.int .i64 x)
  go_wp2
  all_goals refine ⟨rfl, _, rfl, _, results_none rfl _ _ _, rfl, rfl, ?_⟩
  all_goals simp_all
end Go.Proofs.YtiialjncdhhceaaGreat
