/- A slice of steps (paddocklaw15) as it comes in. -/
import Derived.Test.YtiialjncdhhceaaGreatRunJrnLaw2
import Derived.Test.YtiialjncdhhceaaGreatProg
import Derived.Test.YtiialjncdhhceaaGreatRunStoRow
import Derived.Deep.Slices
namespace Go.Proofs.YtiialjncdhhceaaGreat
open Go.ChangeShapes Go.WideShapes Go.ChangeAt Go.RowKit Go.Deep
set_option linter.unusedVariables false

structure PlayV where
  A : Option Addr
  n : Nat
  c : Nat
  tx : List Wr
  power : Int
  crash : Bool
  C : Option Addr
  nc : Nat
  cc : Nat
  ch : List UInt8
def PlayV.cells (v : PlayV) : List Value := [.slice v.A v.n v.c, .int .i64 v.power, .bool v.crash, .slice v.C v.nc v.cc]
structure PlayV.Ok (w : World) (v : PlayV) : Prop where
  nc1 : v.n ≤ v.c
  nc2 : v.nc ≤ v.cc
  b1 : RW w v.A v.n v.tx
  sz : ∀ x ∈ v.tx, x.key.size ≤ 281474976710656 ∧ x.b.size ≤ 281474976710656
  b2 : RB w v.C v.nc v.ch
  pw : -9223372036854775808 ≤ v.power ∧ v.power ≤ 9223372036854775807
/-- A slice of n steps reads as L. -/
def RP (w : World) (A : Option Addr) (n : Nat) (L : List PlayV) : Prop := L.length = n ∧ (∀ v ∈ L, v.Ok w) ∧ (n = 0 ∨ ∃ b off, A = some ⟨b, off, none⟩ ∧ ∀ j (h : j < L.length), w.rangeAt b (off + j * 4) L[j].cells)

theorem cellsI : Tryz.prog.cellsOf 3 = 1 := by kernel_rfl
theorem cellsBs : Tryz.prog.cellsOf 30 = 1 := by kernel_rfl
theorem cellsB : Tryz.prog.cellsOf 5 = 1 := by kernel_rfl
theorem cellsBo : Tryz.prog.cellsOf 4 = 1 := by kernel_rfl
theorem cellsSt : Tryz.prog.cellsOf 9 = 1 := by kernel_rfl
theorem cellsWs : Tryz.prog.cellsOf 33 = 1 := by kernel_rfl
theorem cellsW : Tryz.prog.cellsOf 32 = 3 := by kernel_rfl
theorem cellsP : Tryz.prog.cellsOf 50 = 4 := by kernel_rfl
section
variable {H : Type} {enc : TypeId × Value → H} {W : World}
theorem cell_bytesP {fuel : Nat} {c : Value} {x : DataW H × List MemPlace} (h : DataW.trod enc Tryz.prog W 0 (fun _ => true) true fuel 30 [c] = some x) : ∃ A n k l, c = .slice A n k ∧ n ≤ k ∧ RB W A n l := by
  rcases DataW.trod_slice Tryz.underlying30 h with ⟨hc, _⟩ | ⟨a, len, cap, _, _, _, _, hc, _⟩
  · injection hc with hc _
    subst hc
    exact ⟨none, 0, 0, [], rfl, Nat.le_refl _, RB.nil _ _⟩
  · injection hc with hc _
    subst hc
    obtain ⟨d, p⟩ := x
    obtain ⟨l, hr, hl⟩ := open_bytes (enc := enc) (a0 := some a) (len := len) (cap := cap) (d := d) (p := p) Tryz.underlying30 Tryz.underlying5 cellsB ⟨fuel, h⟩
    exact ⟨some a, len, cap, l, rfl, hl, hr⟩
theorem cell_intP {fuel : Nat} {c : Value} {x : DataW H × List MemPlace} (h : DataW.trod enc Tryz.prog W 0 (fun _ => true) true fuel 3 [c] = some x) : ∃ n, c = .int .i64 n ∧ -9223372036854775808 ≤ n ∧ n ≤ 9223372036854775807 := by
  obtain ⟨n, hc, _, hw⟩ := DataW.trod_int Tryz.underlying3 h
  injection hc with hc _
  have : -9223372036854775808 ≤ n ∧ n ≤ 9223372036854775807 := by simpa [Lit.wf, IntKind.min, IntKind.max, IntKind.signed, IntKind.bits] using hw
  exact ⟨n, hc, this⟩
theorem cell_boolP {fuel : Nat} {c : Value} {x : DataW H × List MemPlace} (h : DataW.trod enc Tryz.prog W 0 (fun _ => true) true fuel 4 [c] = some x) : ∃ b, c = .bool b := by
  obtain ⟨b, hc, _⟩ := DataW.trod_bool Tryz.underlying4 h
  injection hc with hc _
  exact ⟨b, hc⟩
theorem cell_strP {fuel : Nat} {c : Value} {x : DataW H × List MemPlace} (h : DataW.trod enc Tryz.prog W 0 (fun _ => true) true fuel 9 [c] = some x) : ∃ s : ByteArray, c = .string s ∧ x.1 = .lit (.string s.data.toList) := by
  obtain ⟨s, hc, hx, _⟩ := DataW.trod_string Tryz.underlying9 h
  injection hc with hc _
  exact ⟨s, hc, by rw [hx]⟩
theorem size_lit {s : ByteArray} {t : TypeId} (hz : ∀ z ∈ (DataW.lit (.string s.data.toList) : DataW H).weights Tryz.prog t, z ≤ reachBytes) : s.size ≤ 281474976710656 := by
  have h1 := hz s.data.toList.length (by simp [DataW.weights])
  have h2 := reachBytes_lt
  rw [Array.length_toList] at h1
  have h3 : s.size = s.data.size := rfl
  omega
set_option maxRecDepth 100000 in
theorem open_write {fuel : Nat} {cs : List Value} {x : DataW H × List MemPlace} (h : DataW.trod enc Tryz.prog W 0 (fun _ => true) true fuel 32 cs = some x) (hz : ∀ z ∈ x.1.weights Tryz.prog 32, z ≤ reachBytes) :
    ∃ y : Wr, cs = y.cells ∧ y.key.size ≤ 281474976710656 ∧ y.b.size ≤ 281474976710656 := by
  obtain ⟨xs, n, _, hx, hl, hxl, hf⟩ := DataW.trod_struct Tryz.underlying32 h
  rw [cellsW] at hl
  match cs, hl with
  | [c0, c1, c2], _ =>
    have hxl3 : xs.length = 3 := hxl
    have e : ∀ i, i < 3 → ∃ y, xs[i]? = some y := fun i hi => ⟨_, List.getElem?_eq_getElem (by omega)⟩
    obtain ⟨y0, e0⟩ := e 0 (by omega)
    obtain ⟨y1, e1⟩ := e 1 (by omega)
    obtain ⟨y2, e2⟩ := e 2 (by omega)
    have h0 : DataW.trod enc Tryz.prog W 0 (fun _ => true) true n 9 (([c0, c1, c2].drop 0).take (Tryz.prog.cellsOf 9)) = some y0 := (hf 0 _ rfl).trans e0
    rw [cellsSt] at h0
    have h1 : DataW.trod enc Tryz.prog W 0 (fun _ => true) true n 9 (([c0, c1, c2].drop 1).take (Tryz.prog.cellsOf 9)) = some y1 := (hf 1 _ rfl).trans e1
    rw [cellsSt] at h1
    have h2 : DataW.trod enc Tryz.prog W 0 (fun _ => true) true n 4 (([c0, c1, c2].drop 2).take (Tryz.prog.cellsOf 4)) = some y2 := (hf 2 _ rfl).trans e2
    rw [cellsBo] at h2
    obtain ⟨s0, rfl, g0⟩ := cell_strP h0
    obtain ⟨s1, rfl, g1⟩ := cell_strP h1
    obtain ⟨b2, rfl⟩ := cell_boolP h2
    rw [hx] at hz
    simp only [DataW.weights, Tryz.underlying32] at hz
    refine ⟨⟨s0, s1, b2⟩, rfl, ?_, ?_⟩
    · exact size_lit (H := H) (t := 9) (fun z hzz => hz z (DataW.weights_mem_each (j := 0) (t := 9) rfl (by rw [List.getElem?_map, e0]; simp [g0]) z hzz))
    · exact size_lit (H := H) (t := 9) (fun z hzz => hz z (DataW.weights_mem_each (j := 1) (t := 9) rfl (by rw [List.getElem?_map, e1]; simp [g1]) z hzz))
theorem cell_writes {fuel : Nat} {c : Value} {x : DataW H × List MemPlace} (h : DataW.trod enc Tryz.prog W 0 (fun _ => true) true fuel 33 [c] = some x) (hz : ∀ z ∈ x.1.weights Tryz.prog 33, z ≤ reachBytes) :
    ∃ A n k tx, c = .slice A n k ∧ n ≤ k ∧ RW W A n tx ∧ ∀ y ∈ tx, y.key.size ≤ 281474976710656 ∧ y.b.size ≤ 281474976710656 := by
  rcases open_slice Tryz.underlying33 h with ⟨hc, _⟩ | ⟨a, len, cap, m, n, D, Pl, hc, _, hl, hcm, hm, hx, hall⟩
  · injection hc with hc _
    subst hc
    exact ⟨none, 0, 0, [], rfl, Nat.le_refl _, RW.nil _ _, by simp⟩
  · injection hc with hc _
    subst hc
    have hm' : m = cap := by simpa using hm
    subst hm'
    have hw : ∀ i, i < len → ∀ z ∈ (D i).weights Tryz.prog 32, z ≤ reachBytes := fun i hi z hzz => hz z (by
      rw [hx]
      simp only [DataW.weights, Tryz.underlying33, List.mem_cons, List.mem_append]
      exact .inr (.inl (weightsAll_mem (d := D i) (List.mem_map.2 ⟨i, List.mem_range.2 hi, rfl⟩) hzz)))
    obtain ⟨V, hV⟩ := choose_lt (α := Option Wr) (n := len) (p := fun i v => ∃ s : Wr, v = some s ∧ W.cells? 0 (a.add (i * 3)) 3 = some s.cells ∧ s.key.size ≤ 281474976710656 ∧ s.b.size ≤ 281474976710656) (fun i hi => by
      obtain ⟨cs', h1, h2⟩ := hall i (by omega)
      rw [cellsW] at h1
      obtain ⟨v, rfl, hok⟩ := open_write h2 (hw i hi)
      exact ⟨some v, v, rfl, h1, hok⟩)
    refine ⟨some a, len, m, (List.range len).map fun i => (V i).getD ⟨⟨#[]⟩, ⟨#[]⟩, false⟩, rfl, hl, ⟨by simp, by simp only [maxLen] at hcm; omega, ?_⟩, fun v hv => ?_⟩
    · rcases Nat.eq_zero_or_pos len with h0 | h0
      · exact .inl h0
      · obtain ⟨b, off, sp⟩ := a
        have key : ∀ i, i < len → ∀ j v, ((V i).getD ⟨⟨#[]⟩, ⟨#[]⟩, false⟩).cells[j]? = some v → W.cell? ((⟨b, off, sp⟩ : Addr).add (i * 3 + j)) = some v := by
          intro i hi j v hv
          obtain ⟨s, hs, hc, _⟩ := hV i hi
          rw [hs] at hv
          obtain ⟨_, hlen, hcell⟩ := World.cells?_some hc
          have hj : j < 3 := (List.getElem?_eq_some_iff.1 hv).1
          have := hcell j hj
          rw [add_add] at this
          rw [this]
          exact hv
        have hsp : sp = none := by
          have := key 0 h0 0 _ rfl
          simpa [Addr.add] using World.cell?_spot this
        subst hsp
        refine .inr ⟨b, off, rfl, fun j hj => ?_⟩
        have hj' : j < len := by simpa using hj
        intro q v hv
        have := key j hj' q v (by simpa using hv)
        rw [Addr.add_mid] at this
        rw [← this]
        congr 2
        omega
    · obtain ⟨i, hi, rfl⟩ := List.mem_map.1 hv
      obtain ⟨s, hs, _, hok⟩ := hV i (List.mem_range.1 hi)
      rw [hs]
      exact hok
set_option maxRecDepth 100000 in
theorem open_play {fuel : Nat} {cs : List Value} {x : DataW H × List MemPlace} (h : DataW.trod enc Tryz.prog W 0 (fun _ => true) true fuel 50 cs = some x) (hz : ∀ z ∈ x.1.weights Tryz.prog 50, z ≤ reachBytes) : ∃ v : PlayV, cs = v.cells ∧ v.Ok W := by
  obtain ⟨xs, n, _, hx, hl, hxl, hf⟩ := DataW.trod_struct Tryz.underlying50 h
  rw [cellsP] at hl
  match cs, hl with
  | [c0, c1, c2, c3], _ =>
    have hxl4 : xs.length = 4 := hxl
    have e : ∀ i, i < 4 → ∃ y, xs[i]? = some y := fun i hi => ⟨_, List.getElem?_eq_getElem (by omega)⟩
    obtain ⟨y0, e0⟩ := e 0 (by omega)
    obtain ⟨y1, e1⟩ := e 1 (by omega)
    obtain ⟨y2, e2⟩ := e 2 (by omega)
    obtain ⟨y3, e3⟩ := e 3 (by omega)
    have h0 : DataW.trod enc Tryz.prog W 0 (fun _ => true) true n 33 (([c0, c1, c2, c3].drop 0).take (Tryz.prog.cellsOf 33)) = some y0 := (hf 0 _ rfl).trans e0
    rw [cellsWs] at h0
    have h1 : DataW.trod enc Tryz.prog W 0 (fun _ => true) true n 3 (([c0, c1, c2, c3].drop 1).take (Tryz.prog.cellsOf 3)) = some y1 := (hf 1 _ rfl).trans e1
    rw [cellsI] at h1
    have h2 : DataW.trod enc Tryz.prog W 0 (fun _ => true) true n 4 (([c0, c1, c2, c3].drop 2).take (Tryz.prog.cellsOf 4)) = some y2 := (hf 2 _ rfl).trans e2
    rw [cellsBo] at h2
    have h3 : DataW.trod enc Tryz.prog W 0 (fun _ => true) true n 30 (([c0, c1, c2, c3].drop 3).take (Tryz.prog.cellsOf 30)) = some y3 := (hf 3 _ rfl).trans e3
    rw [cellsBs] at h3
    rw [hx] at hz
    simp only [DataW.weights, Tryz.underlying50] at hz
    obtain ⟨A, m, k, tx, rfl, hmk, hw, hsz⟩ := cell_writes h0 (fun z hzz => hz z (DataW.weights_mem_each (j := 0) (t := 33) rfl (by rw [List.getElem?_map, e0]; rfl) z hzz))
    obtain ⟨n1, rfl, hn1⟩ := cell_intP h1
    obtain ⟨b2, rfl⟩ := cell_boolP h2
    obtain ⟨A', m', k', l', rfl, hmk', hb'⟩ := cell_bytesP h3
    exact ⟨⟨A, m, k, tx, n1, b2, A', m', k', l'⟩, rfl, ⟨hmk, hmk', hw, hsz, hb', hn1⟩⟩
theorem open_plays {a0 : Option Addr} {len cap : Nat} {d : DataW H} {p : List MemPlace} (h : DataW.Trod enc Tryz.prog W 0 (fun _ => true) true 46 (.slice a0 len cap) d p) (hz : ∀ z ∈ d.weights Tryz.prog 46, z ≤ reachBytes) : ∃ L, RP W a0 len L ∧ len ≤ cap := by
  obtain ⟨fuel, hf⟩ := h
  rcases open_slice Tryz.underlying46 hf with ⟨hc, _⟩ | ⟨a, len', cap', m, n, D, Pl, hc, _, hl, _, hm, hx, hall⟩
  · simp [Value.cells] at hc
    obtain ⟨rfl, rfl, rfl⟩ := hc
    exact ⟨[], ⟨rfl, by simp, .inl rfl⟩, Nat.le_refl _⟩
  · simp [Value.cells] at hc
    obtain ⟨rfl, rfl, rfl⟩ := hc
    have hm' : m = cap := by simpa using hm
    subst hm'
    obtain ⟨rfl, _⟩ := Prod.mk.inj hx
    have hw : ∀ i, i < len → ∀ z ∈ (D i).weights Tryz.prog 50, z ≤ reachBytes := fun i hi z hzz => hz z (by
      simp only [DataW.weights, Tryz.underlying46, List.mem_cons, List.mem_append]
      exact .inr (.inl (weightsAll_mem (d := D i) (List.mem_map.2 ⟨i, List.mem_range.2 hi, rfl⟩) hzz)))
    obtain ⟨V, hV⟩ := choose_lt (α := Option PlayV) (n := len) (p := fun i v => ∃ s : PlayV, v = some s ∧ W.cells? 0 (a.add (i * 4)) 4 = some s.cells ∧ s.Ok W) (fun i hi => by
      obtain ⟨cs', h1, h2⟩ := hall i (by omega)
      rw [cellsP] at h1
      obtain ⟨v, rfl, hok⟩ := open_play h2 (hw i hi)
      exact ⟨some v, v, rfl, h1, hok⟩)
    refine ⟨(List.range len).map fun i => (V i).getD ⟨none, 0, 0, [], 0, false, none, 0, 0, []⟩, ⟨by simp, fun v hv => ?_, ?_⟩, hl⟩
    · obtain ⟨i, hi, rfl⟩ := List.mem_map.1 hv
      obtain ⟨s, hs, _, hok⟩ := hV i (List.mem_range.1 hi)
      rw [hs]
      exact hok
    · rcases Nat.eq_zero_or_pos len with h0 | h0
      · exact .inl h0
      · obtain ⟨b, off, sp⟩ := a
        have key : ∀ i, i < len → ∀ j v, ((V i).getD ⟨none, 0, 0, [], 0, false, none, 0, 0, []⟩).cells[j]? = some v → W.cell? ((⟨b, off, sp⟩ : Addr).add (i * 4 + j)) = some v := by
          intro i hi j v hv
          obtain ⟨s, hs, hc, _⟩ := hV i hi
          rw [hs] at hv
          obtain ⟨_, hlen, hcell⟩ := World.cells?_some hc
          have hj : j < 4 := by
            have := (List.getElem?_eq_some_iff.1 hv).1
            rwa [show ((some s).getD ⟨none, 0, 0, [], 0, false, none, 0, 0, []⟩ : PlayV).cells.length = 4 from rfl] at this
          have := hcell j hj
          rw [add_add] at this
          rw [this]
          exact hv
        have hsp : sp = none := by
          have := key 0 h0 0 _ rfl
          simpa [Addr.add] using World.cell?_spot this
        subst hsp
        refine .inr ⟨b, off, rfl, fun j hj => ?_⟩
        have hj' : j < len := by simpa using hj
        intro q v hv
        have := key j hj' q v (by simpa using hv)
        rw [Addr.add_mid] at this
        rw [← this]
        congr 2
        omega
end
end Go.Proofs.YtiialjncdhhceaaGreat
