/- Arrays by value in variables, whatever their type: made, written, read; a function's array as a slice. -/
import Derived.Test.YtiialjncdhhceaaSecBase
namespace Go.Proofs.Ytiialjncdhhceaa
open Go.RowKit
set_option linter.unusedVariables false

section
variable {P : Program} {ops : Array Oper} {rest : List Oper} {o : Oper} {a : Act} {Q : Exit → Act → World → Prop} {w : World}

theorem al_arr (t : TypeId) {Z : Array Value} {n : Nat} (hinfo : (P.info? t).map (fun i => (i.zero, i.size)) = some (some (.agg Z), n)) (hg : o.guard = none) (hop : o.op = .alloc t)
    (h : ∀ w1, w1.heap[w.heap.size]? = some (.cells Z t (0, 0)) → w1.heap.size = w.heap.size + 1 → Fr [] w w1 → wpList P ops Q rest (a.put o.dst (.pointer (some ⟨w.heap.size, 0, none⟩))) w1) : wpList P ops Q (o :: rest) a w := by
  refine wpList_plain hg fun K hK => ?_
  have hz := (zero_of_info hinfo).1 w
  have hrun : (execOp a.eval o).run P w = .ok (.value (.pointer (some ⟨w.heap.size, 0, none⟩))) (w.alloc (.cells Z t)) := by
    have he : execOp a.eval o = (Instr.alloc t true (.tuple #[]) >>= fun x => pure (Next.value x)) := by
      obtain ⟨d, op, ty, pos, af, gd⟩ := o
      dsimp only at hop
      subst hop
      rfl
    rw [he]
    unfold Instr.alloc
    rw [Sem.run_bind, Sem.run_bind, hz, Result.andThen_ok]
    rfl
  unfold Oper.wp
  rw [hrun]
  exact hK _ _ (h (w.alloc (.cells Z t)) (MapKept.heap_alloc _ _).1 (by simp) ((Fr.refl [] w).alloc _))
theorem st_arr (t : TypeId) (cs : List Value) (hsz : (P.info? t).map (·.size) = some cs.length) (hone : ∀ v ∈ cs, v.oneCell' = true) (hg : o.guard = none) {x y : Operand} (hop : o.op = .store t x y) (b off : Nat)
    (hx : a.eval x = .pointer (some ⟨b, off, none⟩)) (hy : a.eval y = .agg cs.toArray) (ht : w.there b off cs.length)
    (h : ∀ w1, w1 = w.setCells b off cs → w1.rangeAt b off cs → Fr [b] w w1 → wpList P ops Q rest (a.put o.dst undef) w1) : wpList P ops Q (o :: rest) a w := by
  refine wpList_store_mid hg t x y hop b off cs.toArray hx hy (by simpa using ht) (by simpa using hsz) (all_oneCell_toArray hone) ?_
  exact h _ rfl (World.rangeAt_setCells_same w b off _ ht) (fr_setCells (Fr.refl _ _) b off _ (.inl (by simp)))
theorem ld_arr (t : TypeId) (cs : List Value) (d : TypeDesc) (hu : P.underlying t = some d) (hd : d.isRow = true) (hsz : (P.info? t).map (·.size) = some cs.length) (hg : o.guard = none) {x : Operand} (hop : o.op = .load t x) (b off : Nat)
    (hx : a.eval x = .pointer (some ⟨b, off, none⟩)) (hr : w.rangeAt b off cs)
    (h : wpList P ops Q rest (a.put o.dst (.agg cs.toArray)) w) : wpList P ops Q (o :: rest) a w :=
  wpList_load_mid hg t x hop b off hx cs d hr hu hd hsz h

theorem stop_al2 (t : TypeId) (hop : o.op = .alloc t) (h : Stop (wpList P ops Q (o :: rest) a w)) : wpList P ops Q (o :: rest) a w := h
theorem stop_st2 (t : TypeId) {x y : Operand} (hop : o.op = .store t x y) (h : Stop (wpList P ops Q (o :: rest) a w)) : wpList P ops Q (o :: rest) a w := h
theorem stop_ld2 (t : TypeId) {x : Operand} (hop : o.op = .load t x) (h : Stop (wpList P ops Q (o :: rest) a w)) : wpList P ops Q (o :: rest) a w := h
theorem encB_one {l : List UInt8} : ∀ v ∈ l.map encB, v.oneCell' = true := by
  intro v hv
  obtain ⟨x, _, rfl⟩ := List.mem_map.1 hv
  rfl
theorem bool_one {l : List Bool} : ∀ v ∈ l.map Value.bool, v.oneCell' = true := by
  intro v hv
  obtain ⟨x, _, rfl⟩ := List.mem_map.1 hv
  rfl
theorem range_cell {b off : Nat} {l : List UInt8} (h : w.rangeAt b off (l.map encB)) (j : Nat) (hj : j < l.length) : w.cell? ⟨b, off + j, none⟩ = some (.int .u8 (l[j].toNat : Int)) := by
  refine h j _ ?_
  rw [List.getElem?_map, List.getElem?_eq_getElem hj]
  rfl
theorem bool_cell {b off : Nat} {l : List Bool} (h : w.rangeAt b off (l.map Value.bool)) (j : Nat) (hj : j < l.length) : w.cell? ⟨b, off + j, none⟩ = some (.bool l[j]) := by
  refine h j _ ?_
  rw [List.getElem?_map, List.getElem?_eq_getElem hj]
  rfl
end
end Go.Proofs.Ytiialjncdhhceaa
