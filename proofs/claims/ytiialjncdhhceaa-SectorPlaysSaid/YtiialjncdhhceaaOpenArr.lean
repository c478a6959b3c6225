/- Array arguments of bytes and of bools as they come in. -/
import Derived.Test.YtiialjncdhhceaaOpen
import Derived.OpenShut
import Derived.ChangeArms
namespace Go.Proofs.Ytiialjncdhhceaa
open Go.ChangeShapes Go.WideShapes Go.ChangeAt Go.RowKit
set_option linter.unusedVariables false

theorem list_of_all {α : Type} (f : α → Value) : ∀ (cs : List Value), (∀ v ∈ cs, ∃ a, v = f a) → ∃ l : List α, cs = l.map f := by
  intro cs
  induction cs with
  | nil => exact fun _ => ⟨[], rfl⟩
  | cons c cs ih =>
    intro h
    obtain ⟨a, rfl⟩ := h c (by simp)
    obtain ⟨l, rfl⟩ := ih (fun v hv => h v (by simp [hv]))
    exact ⟨a :: l, rfl⟩

section
variable {H : Type} {enc : TypeId × Value → H} {P : Program} {W : World} {v : Value} {d : DataW H} {p : List MemPlace} {t e : TypeId} {n : Nat}
theorem okWide_arr (ht : P.underlying t = some (.array n e)) (h : Value.okWide P W .any 0 t v) : ∃ cs, v = .agg cs ∧ cs.size = P.cellsOf t := by
  simp only [Value.okWide, ht] at h
  obtain ⟨cs, h1, h2, _⟩ := h
  exact ⟨cs, h1, h2⟩
theorem arr_each (ht : P.underlying t = some (.array n e)) (hc : P.cellsOf e = 1) (hn : P.cellsOf t = n) {cs : Array Value} (h : DataW.Trod enc P W 0 (fun _ => true) true t (.agg cs) d p) :
    cs.toList.length = n ∧ ∀ v ∈ cs.toList, ∃ m y, DataW.trod enc P W 0 (fun _ => true) true m e [v] = some y := by
  obtain ⟨fuel, hf⟩ := h
  obtain ⟨xs, m, _, _, hl, hxl, hx⟩ := DataW.trod_array ht hf
  have hl2 : cs.toList.length = n := by rw [← hn]; exact hl
  refine ⟨hl2, fun v hv => ?_⟩
  obtain ⟨i, hi, rfl⟩ := List.getElem_of_mem hv
  have := hx i (by omega)
  rw [hc, Nat.mul_one, List.getElem?_eq_getElem (by omega)] at this
  have e1 : (((Value.agg cs).cells.toList).drop i).take 1 = [cs.toList[i]] := by
    show (cs.toList.drop i).take 1 = _
    rw [List.drop_eq_getElem_cons hi]
    rfl
  rw [e1] at this
  exact ⟨_, _, this⟩
theorem open_bytes_arr (ht : P.underlying t = some (.array n e)) (he : P.underlying e = some (.int .u8)) (hc : P.cellsOf e = 1) (hn : P.cellsOf t = n) (hval : Value.okWide P W .any 0 t v) (h : DataW.Trod enc P W 0 (fun _ => true) true t v d p) :
    ∃ l : List UInt8, v = .agg (l.map encB).toArray ∧ l.length = n := by
  obtain ⟨cs, rfl, _⟩ := okWide_arr ht hval
  obtain ⟨hl, hx⟩ := arr_each ht hc hn h
  obtain ⟨l, hcs⟩ := list_of_all encB cs.toList (fun v hv => by
    obtain ⟨m, y, hy⟩ := hx v hv
    obtain ⟨x, h1, _, hw⟩ := DataW.trod_int he hy
    injection h1 with h1 _
    subst h1
    have hx : 0 ≤ x ∧ x ≤ 255 := by simpa [Lit.wf, IntKind.min, IntKind.max, IntKind.signed, IntKind.bits] using hw
    refine ⟨UInt8.ofNat x.toNat, ?_⟩
    unfold encB
    rw [UInt8.toNat_ofNat']
    congr 1
    omega)
  refine ⟨l, ?_, by rw [hcs] at hl; simpa using hl⟩
  rw [← hcs]
theorem open_bools_arr (ht : P.underlying t = some (.array n e)) (he : P.underlying e = some .bool) (hc : P.cellsOf e = 1) (hn : P.cellsOf t = n) (hval : Value.okWide P W .any 0 t v) (h : DataW.Trod enc P W 0 (fun _ => true) true t v d p) :
    ∃ l : List Bool, v = .agg (l.map Value.bool).toArray ∧ l.length = n := by
  obtain ⟨cs, rfl, _⟩ := okWide_arr ht hval
  obtain ⟨hl, hx⟩ := arr_each ht hc hn h
  obtain ⟨l, hcs⟩ := list_of_all Value.bool cs.toList (fun v hv => by
    obtain ⟨m, y, hy⟩ := hx v hv
    obtain ⟨x, h1, _⟩ := DataW.trod_bool he hy
    injection h1 with h1 _
    exact ⟨x, h1⟩)
  refine ⟨l, ?_, by rw [hcs] at hl; simpa using hl⟩
  rw [← hcs]
end
end Go.Proofs.Ytiialjncdhhceaa
