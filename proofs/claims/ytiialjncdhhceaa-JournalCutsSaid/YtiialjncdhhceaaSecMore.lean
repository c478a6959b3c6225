/- A byte that is loaded, bytes that are made: as facts for a walk. -/
import Derived.Test.YtiialjncdhhceaaKnown13
namespace Go.Proofs.Ytiialjncdhhceaa
open Go.RowKit
set_option linter.unusedVariables false

theorem load_u8 {w : World} {b off : Nat} {x : Int} (h : w.cell? ⟨b, off, none⟩ = some (.int .u8 x)) : (Instr.loadAt 5 (.pointer (some ⟨b, off, none⟩))).run Try.prog w = .ok (.int .u8 x) w := by
  have hagg : (isAgg 5).run Try.prog w = .ok false w := by
    unfold isAgg
    rw [Sem.run_bind, run_underlying Try.underlying5 w]
    rfl
  simp [go_sem, Instr.loadAt, Instr.sureAddr, loadVar, hagg, h]

theorem load_cell {w : World} {b off : Nat} {v : Value} (t : TypeId) {d : TypeDesc} (hu : Try.prog.underlying t = some d) (hd : d.isRow = false) (h : w.cell? ⟨b, off, none⟩ = some v) : (Instr.loadAt t (.pointer (some ⟨b, off, none⟩))).run Try.prog w = .ok v w := by
  have hagg : (isAgg t).run Try.prog w = .ok false w := by
    unfold isAgg
    rw [Sem.run_bind, run_underlying hu w]
    cases d <;> simp_all [TypeDesc.isRow]
  simp [go_sem, Instr.loadAt, Instr.sureAddr, loadVar, hagg, h]

theorem infoB13' : (Try.prog.info? 5).map (fun i => (i.zero, i.size, i.bytes)) = some (some (.int .u8 0), 1, 1) := by kernel_rfl
theorem make_bytes (w : World) (n : Nat) (hn : n ≤ 1000000) : ∃ w1, (∀ V : Int, V = (n : Int) → (Instr.makeSlice 22 (.int .i64 V) (.int .i64 V)).run Try.prog w = .ok (.slice (some ⟨w.heap.size, 0, none⟩) n n) w1) ∧
    w1.rangeAt w.heap.size 0 ((List.replicate n (0 : UInt8)).map encB) ∧ w1.heap.size = w.heap.size + 1 ∧ Fr [] w w1 := by
  obtain ⟨i0, hi, hz0, hz1, hz2⟩ := info_parts infoB13'
  have hmk := run_make (P := Try.prog) w 22 5 i0 (.int .u8 0) Try.underlying22 hi hz0 .i64 .i64 (n : Int) (n : Int) (by omega) (Int.le_refl _) (by rw [hz2]; omega) (by omega)
  rw [hz1, Int.toNat_natCast] at hmk
  have hb := (MapKept.heap_alloc w (.cells (madeCells (Value.int .u8 0).cells (n * 1)) 5)).1
  refine ⟨w.alloc (.cells (madeCells (Value.int .u8 0).cells (n * 1)) 5), ?_, ?_, by simp, (Fr.refl [] w).alloc _⟩
  · rintro V rfl
    exact hmk
  · intro j v hv
    rw [cell_of_row _ _ _ _ _ _ hb]
    have hj : j < n := by
      have := (List.getElem?_eq_some_iff.1 hv).1
      simpa using this
    rw [← hv, Nat.zero_add, List.map_replicate, List.getElem?_replicate, if_pos hj]
    unfold madeCells
    rw [Array.getElem?_map, Array.getElem?_range, if_pos (by omega), Option.map_some]
    simp [Nat.mod_one, encB, Value.cells]
/-- Whatever it tells, Read leaves all as it was. -/
theorem Read_any (d k m : Nat) (s : DSt) (i : Int) (w : World) (h : IsDisk w d k m s) :
    Calls Try.prog 41 #[.pointer (some ⟨d, 0, none⟩), .int .i64 i] w fun e w' => ∃ v, e = .returned v ∧ Fr [] w w' := by
  refine (Read_c d k m s i w h).mono ?_
  intro e w' hp
  unfold ReadPost at hp
  split at hp
  · exact ⟨_, hp.1, by rw [hp.2]; exact (Fr.refl [] w).drew⟩
  · split at hp
    · exact ⟨_, hp.1, by rw [hp.2]; exact (Fr.refl [] w).drew⟩
    · obtain ⟨b, he, _, _, _, hf⟩ := hp
      exact ⟨_, he, hf⟩
end Go.Proofs.Ytiialjncdhhceaa
