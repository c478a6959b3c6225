/- A slice of steps (paddocklaw13) as it comes in. -/
import Derived.Test.YtiialjncdhhceaaOpenArr
import Derived.Test.YtiialjncdhhceaaProg
import Derived.Test.YtiialjncdhhceaaSecBase
import Derived.Deep.Slices
namespace Go.Proofs.Ytiialjncdhhceaa
open Go.ChangeShapes Go.WideShapes Go.ChangeAt Go.RowKit Go.Deep
set_option linter.unusedVariables false

structure StepV where
  what : Int
  i : Int
  A : Option Addr
  n : Nat
  c : Nat
  l : List UInt8
  at_ : Int
  C : Option Addr
  nc : Nat
  cc : Nat
  ch : List UInt8
def StepV.cells (v : StepV) : List Value := [.int .i64 v.what, .int .i64 v.i, .slice v.A v.n v.c, .int .i64 v.at_, .slice v.C v.nc v.cc]
structure StepV.Ok (w : World) (v : StepV) : Prop where
  nc1 : v.n ≤ v.c
  nc2 : v.nc ≤ v.cc
  b1 : RB w v.A v.n v.l
  b2 : RB w v.C v.nc v.ch
  at_le : v.at_ ≤ 9223372036854775807
/-- A slice of n steps reads as L. -/
def RS (w : World) (A : Option Addr) (n : Nat) (L : List StepV) : Prop := L.length = n ∧ (∀ v ∈ L, v.Ok w) ∧ (n = 0 ∨ ∃ b off, A = some ⟨b, off, none⟩ ∧ ∀ j (h : j < L.length), w.rangeAt b (off + j * 5) L[j].cells)

theorem cells3 : Try.prog.cellsOf 3 = 1 := by kernel_rfl
theorem cells22 : Try.prog.cellsOf 22 = 1 := by kernel_rfl
theorem cells5 : Try.prog.cellsOf 5 = 1 := by kernel_rfl
theorem cells72 : Try.prog.cellsOf 72 = 5 := by kernel_rfl
section
variable {H : Type} {enc : TypeId × Value → H} {W : World}
theorem cell_bytes {fuel : Nat} {c : Value} {x : DataW H × List MemPlace} (h : DataW.trod enc Try.prog W 0 (fun _ => true) true fuel 22 [c] = some x) : ∃ A n k l, c = .slice A n k ∧ n ≤ k ∧ RB W A n l := by
  rcases DataW.trod_slice Try.underlying22 h with ⟨hc, _⟩ | ⟨a, len, cap, _, _, _, _, hc, _⟩
  · injection hc with hc _
    subst hc
    exact ⟨none, 0, 0, [], rfl, Nat.le_refl _, RB.nil _ _⟩
  · injection hc with hc _
    subst hc
    obtain ⟨d, p⟩ := x
    obtain ⟨l, hr, hl⟩ := open_bytes (enc := enc) (a0 := some a) (len := len) (cap := cap) (d := d) (p := p) Try.underlying22 Try.underlying5 cells5 ⟨fuel, h⟩
    exact ⟨some a, len, cap, l, rfl, hl, hr⟩
theorem cell_int {fuel : Nat} {c : Value} {x : DataW H × List MemPlace} (h : DataW.trod enc Try.prog W 0 (fun _ => true) true fuel 3 [c] = some x) : ∃ n, c = .int .i64 n ∧ n ≤ 9223372036854775807 := by
  obtain ⟨n, hc, _, hw⟩ := DataW.trod_int Try.underlying3 h
  injection hc with hc _
  have : -9223372036854775808 ≤ n ∧ n ≤ 9223372036854775807 := by simpa [Lit.wf, IntKind.min, IntKind.max, IntKind.signed, IntKind.bits] using hw
  exact ⟨n, hc, this.2⟩
set_option maxRecDepth 100000 in
theorem open_step {fuel : Nat} {cs : List Value} {x : DataW H × List MemPlace} (h : DataW.trod enc Try.prog W 0 (fun _ => true) true fuel 72 cs = some x) : ∃ v : StepV, cs = v.cells ∧ v.Ok W := by
  obtain ⟨xs, n, _, _, hl, hxl, hf⟩ := DataW.trod_struct Try.underlying72 h
  rw [cells72] at hl
  match cs, hl with
  | [c0, c1, c2, c3, c4], _ =>
    have hxl5 : xs.length = 5 := hxl
    have e : ∀ i, i < 5 → ∃ y, xs[i]? = some y := fun i hi => ⟨_, List.getElem?_eq_getElem (by omega)⟩
    obtain ⟨y0, e0⟩ := e 0 (by omega)
    obtain ⟨y1, e1⟩ := e 1 (by omega)
    obtain ⟨y2, e2⟩ := e 2 (by omega)
    obtain ⟨y3, e3⟩ := e 3 (by omega)
    obtain ⟨y4, e4⟩ := e 4 (by omega)
    have h0 : DataW.trod enc Try.prog W 0 (fun _ => true) true n 3 (([c0, c1, c2, c3, c4].drop 0).take (Try.prog.cellsOf 3)) = some y0 := (hf 0 _ rfl).trans e0
    rw [cells3] at h0
    have h1 : DataW.trod enc Try.prog W 0 (fun _ => true) true n 3 (([c0, c1, c2, c3, c4].drop 1).take (Try.prog.cellsOf 3)) = some y1 := (hf 1 _ rfl).trans e1
    rw [cells3] at h1
    have h2 : DataW.trod enc Try.prog W 0 (fun _ => true) true n 22 (([c0, c1, c2, c3, c4].drop 2).take (Try.prog.cellsOf 22)) = some y2 := (hf 2 _ rfl).trans e2
    rw [cells22] at h2
    have h3 : DataW.trod enc Try.prog W 0 (fun _ => true) true n 3 (([c0, c1, c2, c3, c4].drop 3).take (Try.prog.cellsOf 3)) = some y3 := (hf 3 _ rfl).trans e3
    rw [cells3] at h3
    have h4 : DataW.trod enc Try.prog W 0 (fun _ => true) true n 22 (([c0, c1, c2, c3, c4].drop 4).take (Try.prog.cellsOf 22)) = some y4 := (hf 4 _ rfl).trans e4
    rw [cells22] at h4
    obtain ⟨n0, rfl, _⟩ := cell_int h0
    obtain ⟨n1, rfl, _⟩ := cell_int h1
    obtain ⟨A, m, k, l, rfl, hmk, hb⟩ := cell_bytes h2
    obtain ⟨n3, rfl, hn3⟩ := cell_int h3
    obtain ⟨A', m', k', l', rfl, hmk', hb'⟩ := cell_bytes h4
    exact ⟨⟨n0, n1, A, m, k, l, n3, A', m', k', l'⟩, rfl, ⟨hmk, hmk', hb, hb', hn3⟩⟩
theorem open_steps {a0 : Option Addr} {len cap : Nat} {d : DataW H} {p : List MemPlace} (h : DataW.Trod enc Try.prog W 0 (fun _ => true) true 68 (.slice a0 len cap) d p) : ∃ L, RS W a0 len L ∧ len ≤ cap := by
  obtain ⟨fuel, hf⟩ := h
  rcases open_slice Try.underlying68 hf with ⟨hc, _⟩ | ⟨a, len', cap', m, n, D, Pl, hc, _, hl, _, hm, _, hall⟩
  · simp [Value.cells] at hc
    obtain ⟨rfl, rfl, rfl⟩ := hc
    exact ⟨[], ⟨rfl, by simp, .inl rfl⟩, Nat.le_refl _⟩
  · simp [Value.cells] at hc
    obtain ⟨rfl, rfl, rfl⟩ := hc
    have hm' : m = cap := by simpa using hm
    subst hm'
    obtain ⟨V, hV⟩ := choose_lt (α := Option StepV) (n := len) (p := fun i v => ∃ s, v = some s ∧ W.cells? 0 (a.add (i * 5)) 5 = some s.cells ∧ s.Ok W) (fun i hi => by
      obtain ⟨cs', h1, h2⟩ := hall i (by omega)
      rw [cells72] at h1
      obtain ⟨v, rfl, hok⟩ := open_step h2
      exact ⟨some v, v, rfl, h1, hok⟩)
    refine ⟨(List.range len).map fun i => (V i).getD ⟨0, 0, none, 0, 0, [], 0, none, 0, 0, []⟩, ⟨by simp, fun v hv => ?_, ?_⟩, hl⟩
    · obtain ⟨i, hi, rfl⟩ := List.mem_map.1 hv
      obtain ⟨s, hs, _, hok⟩ := hV i (List.mem_range.1 hi)
      rw [hs]
      exact hok
    · rcases Nat.eq_zero_or_pos len with h0 | h0
      · exact .inl h0
      · obtain ⟨b, off, sp⟩ := a
        have key : ∀ i, i < len → ∀ j v, ((V i).getD ⟨0, 0, none, 0, 0, [], 0, none, 0, 0, []⟩).cells[j]? = some v → W.cell? ((⟨b, off, sp⟩ : Addr).add (i * 5 + j)) = some v := by
          intro i hi j v hv
          obtain ⟨s, hs, hc, _⟩ := hV i hi
          rw [hs] at hv
          obtain ⟨_, hlen, hcell⟩ := World.cells?_some hc
          have hj : j < 5 := by
            have := (List.getElem?_eq_some_iff.1 hv).1
            rwa [show ((some s).getD ⟨0, 0, none, 0, 0, [], 0, none, 0, 0, []⟩ : StepV).cells.length = 5 from rfl] at this
          have := hcell j hj
          rw [add_add] at this
          rw [this]
          exact hv
        have hsp : sp = none := by
          have := key 0 h0 0 _ rfl
          simpa [Addr.add] using World.cell?_spot this
        subst hsp
        refine .inr ⟨b, off, rfl, fun j hj => ?_⟩
        have hj' : j < len := by simpa using hj
        intro q v hv
        have := key j hj' q v (by simpa using hv)
        rw [Addr.add_mid] at this
        rw [← this]
        congr 2
        omega
end
end Go.Proofs.Ytiialjncdhhceaa
