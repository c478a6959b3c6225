/- The journal's deferred 'caught': behind a call that returns, behind one that panics with an error. -/
import Derived.Test.YtiialjncdhhceaaJrnBase
namespace Go.Proofs.Ytiialjncdhhceaa
open Go.RowKit
set_option linter.unusedVariables false
set_option linter.unusedSimpArgs false

section
variable {P : Program} {Q : Exit → Act → List Frame → World → Prop} {a : Act} {cs cs' : List Frame} {w : World}
theorem run_recover (o : Oper) (hop : o.op = .call { callee := .builtin .recover, args := #[], argTypes := #[] }) : (execOp a.eval o).run P w = .ok .recover w := by
  obtain ⟨d, op, ty, pos, af, gd⟩ := o
  dsimp only at hop
  subst hop
  rfl
theorem wpS_recover {id : Nat} {o : Oper} (hop : o.op = .call { callee := .builtin .recover, args := #[], argTypes := #[] }) (hg : o.guard = none) {v : Value} (hr : recoverD cs = some (v, cs')) (h : Q .normal (a.put o.dst v) cs' w) : (Code.region id #[o] false).wpS P Q a cs w := by
  apply wpS_region
  show wpOpsS P #[o] Q [0] a cs w
  have hw : Region.wanted o (yielded #[o] a.tmps) = true := by
    obtain ⟨d, op, ty, pos, af, gd⟩ := o
    dsimp only at hg
    subst hg
    rfl
  unfold wpOpsS
  simp only [List.getElem?_toArray, List.getElem?_cons_zero, hw, if_true, run_recover o hop, hr]
  unfold wpOpsS
  exact h
theorem wpS_recover_none {id : Nat} {o : Oper} (hop : o.op = .call { callee := .builtin .recover, args := #[], argTypes := #[] }) (hg : o.guard = none) (hr : recoverD cs = none) (h : Q .normal (a.put o.dst .nilIface) cs w) : (Code.region id #[o] false).wpS P Q a cs w := by
  apply wpS_region
  show wpOpsS P #[o] Q [0] a cs w
  have hw : Region.wanted o (yielded #[o] a.tmps) = true := by
    obtain ⟨d, op, ty, pos, af, gd⟩ := o
    dsimp only at hg
    subst hg
    rfl
  unfold wpOpsS
  simp only [List.getElem?_toArray, List.getElem?_cons_zero, hw, if_true, run_recover o hop, hr]
  unfold wpOpsS
  exact h
theorem recoverD_idle {c : Frame} {cs : List Frame} (h : c.mode = .returning) : recoverD (c :: cs) = none := by
  obtain ⟨fn, tmps, todo, defers, mode, kind, ro⟩ := c
  dsimp only at h
  subst h
  rfl
theorem recoverD_panic {c : Frame} {cs : List Frame} {v : Value} {older : List PanicEntry} (h : c.mode = .panicking ({ v := v, recovered := false } :: older)) : recoverD (c :: cs) = some (v, { c with mode := .panicking ({ v := v, recovered := true } :: older) } :: cs) := by
  obtain ⟨fn, tmps, todo, defers, mode, kind, ro⟩ := c
  dsimp only at h
  subst h
  rfl
end

theorem ta_err (v : Value) (t : TypeId) (w : World) : (Instr.typeAssert (.iface 29 v) t 29 true).run Try.prog w = .ok (.tuple #[v, .bool true]) w := by
  unfold Instr.typeAssert
  rw [Sem.run_bind, run_underlying Try.underlying29 w, Result.andThen_ok]
  rfl

theorem caught_idle (j e : Nat) (w : World) :
    CallsD Try.prog 75 #[.pointer (some ⟨j, 0, none⟩), .pointer (some ⟨e, 0, none⟩)] .returning w fun x u' w' => x = .returned (.tuple #[]) ∧ u' = .returning ∧ w' = w := by
  refine callsD_of_wpS Try.func75 rfl fun c₀ cs hu => ?_
  refine wpS_seq (wpS_recover_none rfl rfl (recoverD_idle hu) ?_)
  refine wpS_of_wp ?_
  simp only [Try.ntmps75, List.size_toArray, List.length_cons, List.length_nil, Nat.reduceAdd, Nat.reduceSub, Array.replicate_succ,
     Array.replicate_zero, List.push_toArray, List.append_toArray, List.nil_append, List.cons_append]
  go_wp2
  refine ⟨rfl, .returning, ?_, _, results_none rfl _ _ _, rfl, rfl, rfl⟩
  obtain ⟨fn, tmps, todo, defers, mode, kind, ro⟩ := c₀
  dsimp only at hu
  subst hu
  rfl

set_option maxRecDepth 100000 in
theorem caught_panic (j e : Nat) (x x0 : Int) (br : Bool) (older : List PanicEntry) (w : World) (hj : w.cell? ⟨j, 5, none⟩ = some (.bool br)) (hjz : w.frozen? ⟨j, 5, none⟩ = false) (he : w.cell? ⟨e, 0, none⟩ = some (.int .i64 x0)) (hez : w.frozen? ⟨e, 0, none⟩ = false) (hje : e ≠ j) :
    CallsD Try.prog 75 #[.pointer (some ⟨j, 0, none⟩), .pointer (some ⟨e, 0, none⟩)] (.panicking ({ v := errV x, recovered := false } :: older)) w fun r u' w' => r = .returned (.tuple #[]) ∧ u' = .panicking ({ v := errV x, recovered := true } :: older) ∧
      w' = (w.setCell ⟨e, 0, none⟩ (.int .i64 x)).setCell ⟨j, 5, none⟩ (.bool (br || (x != 10 && x != 140))) := by
  refine callsD_of_wpS Try.func75 rfl fun c₀ cs hu => ?_
  refine wpS_seq (wpS_recover rfl rfl (recoverD_panic hu) ?_)
  refine wpS_of_wp ?_
  simp only [Try.ntmps75, List.size_toArray, List.length_cons, List.length_nil, Nat.reduceAdd, Nat.reduceSub, Array.replicate_succ,
     Array.replicate_zero, List.push_toArray, List.append_toArray, List.nil_append, List.cons_append]
  unfold errV
  have hta := ta_err (.int .i64 x)
  go_wp2
  all_goals refine ⟨rfl, _, rfl, _, results_none rfl _ _ _, rfl, rfl, ?_⟩
  all_goals simp_all
end Go.Proofs.Ytiialjncdhhceaa
