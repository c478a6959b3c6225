/- The journal's Open of a disk that holds none. -/
import Derived.Test.YtiialjncdhhceaaGreatJrnOpen
namespace Go.Proofs.YtiialjncdhhceaaGreat
open Go.RowKit
set_option linter.unusedVariables false
set_option linter.unusedSimpArgs false

set_option maxHeartbeats 4000000 in
set_option maxRecDepth 100000 in
theorem Open_none (d k m : Nat) (f0 : UInt8) (sg : List UInt8) (s : DSt) (w : World) (hD : IsDisk w d k m s) (hoff : s.off = false) (hn8 : 8 ≤ s.n) (hf0 : f0.toNat ≤ 1) (h9 : (s.now 0).take 9 = f0 :: sg) (hsg : sg.length = 8) (hne : sg ≠ signB) :
    Calls Tryz.prog 36 #[.pointer (some ⟨d, 0, none⟩)] w fun e w' => e = .returned (.tuple #[.pointer none, .slice none 0 0, .int .i64 10]) ∧ Fr [] w w' := by
  have hnle := hD.ok.n_le
  have hlts := hD.lts
  have h0len := hD.ok.now_len 0
  have hn8I : ¬ (s.n : Int) < 8 := by omega
  go_enter_defers Tryz.func36, Tryz.ntmps36
  go_wp2_with fail
  have hf1 : Fr [] w (w.alloc (.cells #[.int .i64 0] 24)) := (Fr.refl [] w).alloc _
  have he1 : (w.alloc (.cells #[.int .i64 0] 24)).heap[w.heap.size]? = some (.cells #[.int .i64 0] 24 (0, 0)) := heap_alloc_new _ _
  have hz1 : (w.alloc (.cells #[.int .i64 0] 24)).heap.size = w.heap.size + 1 := by simp
  generalize w.alloc (.cells #[.int .i64 0] 24) = w1 at *
  refine (Len_c d k m s w1 (hD.fr hf1)).mono ?_
  rintro e w2 ⟨rfl, rfl⟩
  go_wp2_with fail
  obtain ⟨j, hj⟩ : ∃ j, j = w.heap.size + 1 := ⟨_, rfl⟩
  rw [← hj]
  have hblk2 : (w1.alloc (.cells (jCells d 0 0 none 0 0 none 0 0 false) 85)).heap[j]? = some (.cells (jCells d 0 0 none 0 0 none 0 0 false) 85 (0, 0)) := by
    have := heap_alloc_new w1 (.cells (jCells d 0 0 none 0 0 none 0 0 false) 85)
    rw [hz1, ← hj] at this
    exact this
  have hf2 : Fr [] w1 (w1.alloc (.cells (jCells d 0 0 none 0 0 none 0 0 false) 85)) := (Fr.refl [] w1).alloc _
  have hz2 : (w1.alloc (.cells (jCells d 0 0 none 0 0 none 0 0 false) 85)).heap.size = w.heap.size + 2 := by simp [hz1]
  have e12 := (hf2.block w.heap.size (by omega) (by simp)).trans he1
  have hw3 : (w1.alloc (Obj.cells #[Value.pointer (some { block := d, off := 0 }), Value.int IntKind.i64 0, Value.int IntKind.i64 0, Value.slice none 0 0, Value.slice none 0 0, Value.bool false] 85)) = w1.alloc (.cells (jCells d 0 0 none 0 0 none 0 0 false) 85) := rfl
  rw [hw3]
  clear hw3
  generalize w1.alloc (.cells (jCells d 0 0 none 0 0 none 0 0 false) 85) = w3 at *
  have hD3 := (hD.fr hf1).fr hf2
  have hjw : w.heap.size < j ∧ j < w3.heap.size ∧ d < w.heap.size ∧ k < w.heap.size ∧ m < w.heap.size := by omega
  replace hj := hid hj
  refine (read_c j d k m 0 1 s w3 (cell_of_row _ _ 0 _ _ _ hblk2) hD3 hoff (by omega)).mono ?_
  rw [sects_one]
  rintro e w4 ⟨v4, rfl, hO4, hf4⟩
  obtain ⟨g4, cp4, rfl, hcp4, hg4, hg4l, hc4, hz4⟩ := hO4.pos (by omega)
  rw [h0len] at hcp4
  rw [h0len]
  have hfirst : w4.cell? ⟨g4, 0, none⟩ = some (.int .u8 (f0.toNat : Int)) := by
    rw [hc4 0 (by omega)]
    have h1 : (s.now 0)[0]'(by omega) = f0 := by
      have := congrArg (fun x : List UInt8 => x[0]?) h9
      simpa [List.getElem?_take, List.getElem?_eq_getElem (show 0 < (s.now 0).length by omega)] using this
    rw [h1]
  have hsig : RB w4 (some ⟨g4, 1, none⟩) 8 sg := by
    refine ⟨hsg, by decide, .inr ⟨g4, 1, rfl, fun q hq => ?_⟩⟩
    have hq8 : q < 8 := by omega
    rw [Nat.add_comm 1 q, hc4 (q + 1) (by omega), head_get h9 (q + 1) (by omega) (by simp; omega)]
    rfl
  have hstr : (convert 30 9 (.slice (some ⟨g4, 1, none⟩) 8 (cp4 - 1))).run Tryz.prog w4 = .ok (.string ⟨sg.toArray⟩) w4 := run_str 30 5 9 Tryz.underlying30 Tryz.underlying5 Tryz.underlying9 hsig
  have hf04 := (hf1.then hf2).then hf4
  have e14 := (hf4.block w.heap.size (by omega) (by simp)).trans e12
  have hcp4I : (9 : Int) ≤ (cp4 : Int) := by omega
  have hcp1 : ¬ cp4 = 1 := by omega
  have hf0I : ¬ (1 : Int) < (f0.toNat : Int) := by omega
  have hneB : ((⟨sg.toArray⟩ : ByteArray) == ⟨#[112, 97, 100, 100, 111, 99, 107, 33]⟩) = false := by
    show (sg.toArray == #[112, 97, 100, 100, 111, 99, 107, 33]) = false
    rw [beq_eq_false_iff_ne]
    intro h
    exact hne (by
      have := congrArg Array.toList h
      simpa [signB] using this)
  have hneB2 : ((⟨sg.toArray⟩ : ByteArray) != ⟨#[112, 97, 100, 100, 111, 99, 107, 33]⟩) = true := by
    show (!((⟨sg.toArray⟩ : ByteArray) == ⟨#[112, 97, 100, 100, 111, 99, 107, 33]⟩)) = true
    rw [hneB]
    rfl
  have hneL : ¬ sg = [112, 97, 100, 100, 111, 99, 107, 33] := hne
  have hneLB : (sg == [112, 97, 100, 100, 111, 99, 107, 33]) = false := by
    rw [beq_eq_false_iff_ne]
    exact hneL
  have hneE : ¬ (⟨sg.toArray⟩ : ByteArray) = ⟨#[112, 97, 100, 100, 111, 99, 107, 33]⟩ := by
    intro h
    injection h with h
    exact hne (by
      have := congrArg Array.toList h
      simpa [signB] using this)
  have ez0 : w4.cell? ⟨w.heap.size, 0, none⟩ = some (.int .i64 0) := cell_of_row _ _ 0 _ _ _ e14
  have ezz : w4.frozen? ⟨w.heap.size, 0, none⟩ = false := frozen_of_row _ _ 0 _ _ e14
  have e18 := heap_setCell_same _ w.heap.size 0 _ _ (.int .i64 10) e14
  have r18 : (w4.setCell ⟨w.heap.size, 0, none⟩ (.int .i64 10)).cell? ⟨w.heap.size, 0, none⟩ = some (.int .i64 10) := cell_of_row _ _ 0 _ _ _ e18
  have hf18 : Fr [w.heap.size] w4 (w4.setCell ⟨w.heap.size, 0, none⟩ (.int .i64 10)) := (Fr.refl [w.heap.size] w4).setCell _ (.inl (by simp)) _
  replace r18 := hid r18
  clear e18 hc4 hz4 hO4 hsig
  go_wp2_with fail
  refine leaves_cons (f := 42) (args := #[.pointer (some ⟨j, 0, none⟩), .pointer (some ⟨w.heap.size, 0, none⟩)]) (by simp) (by simp [go_sem]) ?_
  refine (caught_idle j w.heap.size _).mono ?_
  rintro e u' w'' ⟨rfl, rfl, rfl⟩
  refine ⟨.tuple #[.pointer none, .slice none 0 0, .int .i64 10], ?_, rfl, hf04.past hf18 (by simp)⟩
  have := r18.out
  simp [results, Tryz.results36, go_sem, this]
end Go.Proofs.YtiialjncdhhceaaGreat
