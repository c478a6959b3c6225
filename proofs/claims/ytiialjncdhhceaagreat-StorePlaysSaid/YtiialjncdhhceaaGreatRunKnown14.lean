/- What follows is 2 texts, one behind the other: JrnFormat, Known14. -/
import Derived.Test.YtiialjncdhhceaaGreatJrnOpenNo
/- The journal's Format of a new disk. -/
namespace Go.Proofs.YtiialjncdhhceaaGreat
open Go.RowKit
set_option linter.unusedVariables false
set_option linter.unusedSimpArgs false

theorem form1_idle (e jv : Nat) (w : World) (he : w.cell? ⟨e, 0, none⟩ = some (.int .i64 0)) :
    CallsD Tryz.prog 41 #[.pointer (some ⟨e, 0, none⟩), .pointer (some ⟨jv, 0, none⟩)] .returning w fun x u' w' => u' = .returning ∧ (x = .returned (.tuple #[]) ∧ w' = w) := by
  go_enter_d Tryz.func41, Tryz.ntmps41
  go_wp2
  go_end0
  exact ⟨rfl, rfl⟩

/-- A new disk behind Format. -/
def formS (s : DSt) : DSt := ((((s.step.put 1 (0 :: putB 0 4)).step.put 2 (0 :: putB 0 4)).step.clean).step.put 0 (0 :: signB)).step.clean
theorem arL_zero (n : Nat) : 0 ≤ arL n := Nat.zero_le _
theorem formS_holds (s : DSt) (hs : 8 ≤ s.n) (h0 : ∀ i, s.now i = zeros64) : Holds (formS s) 0 0 [] := by
  refine ⟨hs, by omega, by omega, fun r hr => (by cases hr), Nat.zero_le _, ?_, ?_, fun p hp => absurd hp (Nat.not_lt_zero p), fun _ => rfl⟩
  · unfold formS
    rw [DSt.clean_now, DSt.step_now, DSt.put_now, if_pos rfl]
    rfl
  · unfold formS
    rw [DSt.clean_now, DSt.step_now, DSt.put_now, if_neg (by omega), DSt.step_now, DSt.clean_now, DSt.step_now, DSt.put_now, if_neg (by omega), DSt.step_now, DSt.put_now, if_pos rfl]
    rfl

set_option maxHeartbeats 4000000 in
set_option maxRecDepth 100000 in
theorem Format_new (B d k m : Nat) (s : DSt) (w : World) (hD : IsDisk w d k m s) (hoff : s.offAt = 0) (hn8 : 8 ≤ s.n) (h0 : ∀ i, s.now i = zeros64) (hst : s.steps ≤ 900000000) (hB : B ≤ d ∧ B ≤ k ∧ B ≤ m ∧ B ≤ w.heap.size) :
    Calls Tryz.prog 27 #[.pointer (some ⟨d, 0, none⟩)] w fun e w' => ∃ j, e = .returned (.tuple #[.pointer (some ⟨j, 0, none⟩), .int .i64 0]) ∧ IsJ w' B j d k m 0 0 [] ∧ IsDisk w' d k m (formS s) ∧ Fr [d, k, m] w w' := by
  have hnle := hD.ok.n_le
  have hlts := hD.lts
  have hn8I : ¬ (s.n : Int) < 8 := by omega
  have hmf : ∀ (fn : Fn) (first cap : Array Value) (w : World), (Instr.makeFunc fn first cap).run Tryz.prog w = .ok (.func fn first cap) w := fun _ _ _ _ => rfl
  go_enter_defers Tryz.func27, Tryz.ntmps27
  go_wp2_with fail
  have hf1 : Fr [] w ((w.alloc (.cells #[.pointer none] 56)).alloc (.cells #[.int .i64 0] 24)) := ((Fr.refl [] w).alloc _).alloc _
  have hz1 : ((w.alloc (.cells #[.pointer none] 56)).alloc (.cells #[.int .i64 0] 24)).heap.size = w.heap.size + 2 := by simp
  have jv1 : ((w.alloc (.cells #[.pointer none] 56)).alloc (.cells #[.int .i64 0] 24)).heap[w.heap.size]? = some (.cells #[.pointer none] 56 (0, 0)) := (Below.heap_alloc _ _ _ (by simp)).trans (heap_alloc_new _ _)
  have ev1 : ((w.alloc (.cells #[.pointer none] 56)).alloc (.cells #[.int .i64 0] 24)).heap[w.heap.size + 1]? = some (.cells #[.int .i64 0] 24 (0, 0)) := by
    have h1 := heap_alloc_new (w.alloc (.cells #[.pointer none] 56)) (.cells #[.int .i64 0] 24)
    simpa using h1
  generalize (w.alloc (.cells #[.pointer none] 56)).alloc (.cells #[.int .i64 0] 24) = w1 at *
  have hD1 := hD.fr hf1
  refine (Len_c d k m s w1 hD1).mono ?_
  rintro e w2 ⟨rfl, rfl⟩
  go_wp2_with fail
  refine (Open_none d k m 0 [0, 0, 0, 0, 0, 0, 0, 0] s w1 hD1 (DSt.off_zero hoff) hn8 (by decide) (by rw [h0]; rfl) rfl (by decide)).mono ?_
  rintro e w2 ⟨rfl, hf2⟩
  have jv2 := (hf2.block w.heap.size (by omega) (by simp)).trans jv1
  have ev2 := (hf2.block (w.heap.size + 1) (by omega) (by simp)).trans ev1
  have hD2 := hD1.fr hf2
  have hs2 := hf2.size
  go_wp2_with fail
  obtain ⟨j, hj⟩ : ∃ j, j = w2.heap.size := ⟨_, rfl⟩
  have hJC : (Obj.cells #[Value.pointer (some { block := d, off := 0 }), Value.int IntKind.i64 0, Value.int IntKind.i64 0, Value.slice none 0 0, Value.slice none 0 0, Value.bool false] 85) = .cells (jCells d 0 0 none 0 0 none 0 0 false) 85 := rfl
  rw [hJC]
  clear hJC
  have hblk3 := heap_alloc_new w2 (.cells (jCells d 0 0 none 0 0 none 0 0 false) 85)
  have hf3 : Fr [] w2 (w2.alloc (.cells (jCells d 0 0 none 0 0 none 0 0 false) 85)) := (Fr.refl [] w2).alloc _
  have hz3 : (w2.alloc (.cells (jCells d 0 0 none 0 0 none 0 0 false) 85)).heap.size = w2.heap.size + 1 := by simp
  have ho4 := ob_lit1 (w2.alloc (.cells (jCells d 0 0 none 0 0 none 0 0 false) 85)) w2.heap.size (by omega) 0 0 rfl
  rw [hz3] at ho4
  generalize w2.alloc (.cells (jCells d 0 0 none 0 0 none 0 0 false) 85) = w3 at *
  have hf4 : Fr [] w3 (w3.alloc (.cells #[.int .u8 0] 5)) := (Fr.refl [] w3).alloc _
  have hz4 : (w3.alloc (.cells #[.int .u8 0] 5)).heap.size = w3.heap.size + 1 := by simp
  generalize w3.alloc (.cells #[.int .u8 0] 5) = w4 at *
  rw [← hj] at hblk3
  have hf14 := (hf2.then hf3).then hf4
  have hblk4 := (hf4.block j (by omega) (by simp)).trans hblk3
  have jv4 := ((hf3.then hf4).block w.heap.size (by omega) (by simp)).trans jv2
  have ev4 := ((hf3.then hf4).block (w.heap.size + 1) (by omega) (by simp)).trans ev2
  refine (Put_c w2.heap.size (.slice (some ⟨w2.heap.size + 1, 0, none⟩) 1 1) [0] 0 4 4 (by decide) (by decide) w4 ho4 (by omega) (by simp)).mono ?_
  rintro e w5 ⟨v5, rfl, ho5, hf5, hn5⟩
  have hcons : ([0] : List UInt8) ++ putB 0 4 = 0 :: putB 0 4 := rfl
  rw [hcons] at ho5
  have hl5 : (0 :: putB 0 4 : List UInt8).length = 5 := rfl
  obtain ⟨A5, c5, rfl, hc5, hr5, hzz5⟩ := ho5.form
  have hlt5 := ho5.lt
  rw [hl5] at hr5 hc5 ⊢
  clear hl5 hcons
  have hf45 : Fr [w2.heap.size + 1] w4 w5 := hf5.mono (by simp [Value.ownBlock])
  have hD4 := hD2.fr (hf3.then hf4)
  have hD5 := hD4.away hf45 (by simp; omega)
  have hblk5 := (hf45.block j (by omega) (by simp; omega)).trans hblk4
  have jv5 := (hf45.block w.heap.size (by omega) (by simp; omega)).trans jv4
  have ev5 := (hf45.block (w.heap.size + 1) (by omega) (by simp; omega)).trans ev4
  have hA5 : ∀ x, A5 = some x → w2.heap.size < x.block ∧ x.block < w5.heap.size := fun x hx => by
    have h1 := hlt5 _ (hzz5 x hx).1
    have h2 : x.block ≠ w2.heap.size := by
      rcases hn5 x.block (hzz5 x hx).1 with h | h
      · simp [Value.ownBlock] at h
        omega
      · omega
    omega
  have hs45 := hf45.size
  have hjf : w.heap.size + 2 ≤ j ∧ j < w5.heap.size := by omega
  replace hj := hid hj
  go_wp2_with fail
  refine (Write_ok d k m s 1 A5 5 c5 (0 :: putB 0 4) w5 hD5 hr5 (by intro _ x hx; have := hA5 x hx; omega) (by omega) hoff (by omega) (by decide) 1 rfl).mono ?_
  rintro e w6 ⟨rfl, hD6, hf6⟩
  go_wp2_with fail
  refine (must_ok w6).mono ?_
  rintro e w7 ⟨rfl, rfl⟩
  have hr6 := hr5.kept' hf6 (by intro _ x hx; have := hA5 x hx; simp; omega)
  go_wp2_with fail
  refine (Write_ok d k m _ 2 A5 5 c5 (0 :: putB 0 4) w6 hD6 hr6 (by intro _ x hx; have := hA5 x hx; omega) (by show s.steps + 1 + 1 < _; omega) hoff (by show 2 < s.n; omega) (by decide) 2 rfl).mono ?_
  rintro e w7 ⟨rfl, hD7, hf7⟩
  go_wp2_with fail
  refine (must_ok w7).mono ?_
  rintro e w8 ⟨rfl, rfl⟩
  go_wp2_with fail
  refine (Flush_ok d k m _ w7 hD7 (by show s.steps + 1 + 1 + 1 < _; omega) hoff).mono ?_
  rintro e w8 ⟨rfl, hD8, hf8⟩
  go_wp2_with fail
  refine (must_ok w8).mono ?_
  rintro e w9 ⟨rfl, rfl⟩
  have hf58 : Fr [d, k, m] w5 w8 := ((hf6.mono (by simp)).trans hf7 (by simp)).trans hf8 (by simp)
  have hs58 := hf58.size
  have hlts8 := hD8.lts
  have ho9 := ob_lit1 w8 w8.heap.size (Nat.le_refl _) 0 0 rfl
  go_wp2_with (at_builtin; refine stop_append rfl ?_)
  have hf9 : Fr [] w8 (w8.alloc (.cells #[.int .u8 0] 5)) := (Fr.refl [] w8).alloc _
  generalize w8.alloc (.cells #[.int .u8 0] 5) = w9 at *
  refine Stop.go (appS w8.heap.size rfl _ _ 30 9 5 rfl Tryz.underlying30 Tryz.underlying9 infoByte ho9 rfl rfl hf9.size (by decide) ?_)
  intro v10 w10 ho10 hf10 hn10
  have hsg : ([0] : List UInt8) ++ bs ⟨#[112, 97, 100, 100, 111, 99, 107, 33]⟩ = 0 :: signB := rfl
  rw [hsg] at ho10
  obtain ⟨A10, c10, rfl, hc10, hr10, hz10⟩ := ho10.form
  have hl10 : (0 :: signB : List UInt8).length = 9 := rfl
  have hlt10 := ho10.lt
  rw [hl10] at hr10 hc10 ⊢
  clear hl10 hsg
  have hf810 : Fr [] w8 w10 := hf9.past hf10 (by simp [Value.ownBlock])
  have hD10 := hD8.fr hf810
  have hA10 : ∀ x, A10 = some x → w8.heap.size ≤ x.block := fun x hx => (hlt10 _ (hz10 x hx).1).1
  go_wp2_with fail
  refine (Write_ok d k m _ 0 A10 9 c10 (0 :: signB) w10 hD10 hr10 (by intro _ x hx; have := hA10 x hx; omega) (by show s.steps + 1 + 1 + 1 + 1 < _; omega) hoff (by show 0 < s.n; omega) (by decide) 0 rfl).mono ?_
  rintro e w11 ⟨rfl, hD11, hf11⟩
  go_wp2_with fail
  refine (must_ok w11).mono ?_
  rintro e w12 ⟨rfl, rfl⟩
  go_wp2_with fail
  refine (Flush_ok d k m _ w11 hD11 (by show s.steps + 1 + 1 + 1 + 1 + 1 < _; omega) hoff).mono ?_
  rintro e w12 ⟨rfl, hD12, hf12⟩
  go_wp2_with fail
  refine (must_ok w12).mono ?_
  rintro e w13 ⟨rfl, rfl⟩
  have hf512 : Fr [d, k, m] w5 w12 := (((hf58.then hf810)).trans hf11 (by simp)).trans hf12 (by simp)
  have hblk12 := (hf512.block j (by omega) (by simp; omega)).trans hblk5
  have jv12 := (hf512.block w.heap.size (by omega) (by simp; omega)).trans jv5
  have ev12 := (hf512.block (w.heap.size + 1) (by omega) (by simp; omega)).trans ev5
  have hj' := hj.out
  subst hj'
  clear hj
  have hs512 := hf512.size
  have b13 := heap_setCell_same w12 w.heap.size 0 _ _ (.pointer (some ⟨w2.heap.size, 0, none⟩)) jv12
  have hf13 : Fr [w.heap.size] w12 (w12.setCell ⟨w.heap.size, 0, none⟩ (.pointer (some ⟨w2.heap.size, 0, none⟩))) := (Fr.refl [w.heap.size] w12).setCell _ (.inl (by simp)) _
  have ev13 := (hf13.block (w.heap.size + 1) (by omega) (by simp)).trans ev12
  have hf14' : Fr [w.heap.size + 1] (w12.setCell ⟨w.heap.size, 0, none⟩ (.pointer (some ⟨w2.heap.size, 0, none⟩))) ((w12.setCell ⟨w.heap.size, 0, none⟩ (.pointer (some ⟨w2.heap.size, 0, none⟩))).setCell ⟨w.heap.size + 1, 0, none⟩ (.int .i64 0)) := (Fr.refl [w.heap.size + 1] _).setCell _ (.inl (by simp)) _
  have b14 := heap_setCell_same _ (w.heap.size + 1) 0 _ _ (.int .i64 0) ev13
  have r1 : ((w12.setCell ⟨w.heap.size, 0, none⟩ (.pointer (some ⟨w2.heap.size, 0, none⟩))).setCell ⟨w.heap.size + 1, 0, none⟩ (.int .i64 0)).cell? ⟨w.heap.size + 1, 0, none⟩ = some (.int .i64 0) := cell_of_row _ _ 0 _ _ _ b14
  have r2 : ((w12.setCell ⟨w.heap.size, 0, none⟩ (.pointer (some ⟨w2.heap.size, 0, none⟩))).setCell ⟨w.heap.size + 1, 0, none⟩ (.int .i64 0)).cell? ⟨w.heap.size, 0, none⟩ = some (.pointer (some ⟨w2.heap.size, 0, none⟩)) :=
    cell_of_row _ _ 0 _ _ _ ((hf14'.block w.heap.size (by have := hf13.size; omega) (by simp)).trans (b13.trans rfl))
  have x1 : w12.cell? ⟨w.heap.size, 0, none⟩ = some (.pointer none) := cell_of_row _ _ 0 _ _ _ jv12
  have x1z : w12.frozen? ⟨w.heap.size, 0, none⟩ = false := frozen_of_row _ _ 0 _ _ jv12
  have x2 : w12.cell? ⟨w.heap.size + 1, 0, none⟩ = some (.int .i64 0) := cell_of_row _ _ 0 _ _ _ ev12
  have x2z : w12.frozen? ⟨w.heap.size + 1, 0, none⟩ = false := frozen_of_row _ _ 0 _ _ ev12
  replace r1 := hid r1
  replace r2 := hid r2
  replace b13 := hid b13
  replace ev13 := hid ev13
  replace b14 := hid b14
  clear jv12 ev12 jv1 ev1 jv2 ev2 jv4 ev4 jv5 ev5
  go_wp2_with fail
  refine leaves_cons (f := 42) (args := #[.pointer (some ⟨w2.heap.size, 0, none⟩), .pointer (some ⟨w.heap.size + 1, 0, none⟩)]) (by simp) (by simp [go_sem]) ?_
  refine (caught_idle w2.heap.size (w.heap.size + 1) _).mono ?_
  rintro e u' w'' ⟨rfl, rfl, rfl⟩
  refine leaves_cons (f := 41) (args := #[.pointer (some ⟨w.heap.size + 1, 0, none⟩), .pointer (some ⟨w.heap.size, 0, none⟩)]) (by simp [settle]) (by simp [go_sem]) ?_
  refine (form1_idle (w.heap.size + 1) w.heap.size _ r1.out).mono ?_
  rintro e u' w'' ⟨rfl, rfl, rfl⟩
  refine ⟨.tuple #[.pointer (some ⟨w2.heap.size, 0, none⟩), .int .i64 0], ?_, w2.heap.size, rfl, ?_, ?_, ?_⟩
  · have e1 := r1.out
    have e2 := r2.out
    simp [results, Tryz.results27, go_sem, e1, e2]
  · have hb := ((hf14'.block w2.heap.size (by have := hf13.size; omega) (by simp; omega)).trans (hf13.block w2.heap.size (by omega) (by simp; omega))).trans hblk12
    refine ⟨⟨none, 0, 0, none, 0, 0, hb, RB.nil _ _, Nat.le_refl _, OSs.nil _ _, by simp, by simp [Value.ownBlock]⟩, by omega, by omega, by omega, by omega, by omega, ?_⟩
    have h1 := hf13.size
    have h2 := hf14'.size
    omega
  · exact (hD12.away hf13 (by simp; omega)).away hf14' (by simp; omega)
  · have hFa : Fr [] w w4 := hf1.then hf14
    have hFb : Fr [] w w5 := hFa.past hf45 (by simp; omega)
    exact ((hFb.mono (S' := [d, k, m]) (by simp)).trans hf512 (by simp)).trans ((hf13.mono (S' := [w.heap.size, w.heap.size + 1]) (by simp)).trans hf14' (by simp)) (by simp)
end Go.Proofs.YtiialjncdhhceaaGreat

/- What package paddocklaw14 asks of itself first ('known'): it is so. -/
namespace Go.Proofs.YtiialjncdhhceaaGreat
open Go.RowKit
set_option linter.unusedVariables false
set_option linter.unusedSimpArgs false

set_option maxRecDepth 100000 in
theorem Format_small (d k m : Nat) (s : DSt) (w : World) (hD : IsDisk w d k m s) (hn : s.n < 8) :
    Calls Tryz.prog 27 #[.pointer (some ⟨d, 0, none⟩)] w fun e w' => e = .returned (.tuple #[.pointer none, .int .i64 140]) ∧ Fr [] w w' := by
  have hnI : (s.n : Int) < 8 := by omega
  go_enter_defers Tryz.func27, Tryz.ntmps27
  go_wp2_with fail
  have hf1 : Fr [] w ((w.alloc (.cells #[.pointer none] 56)).alloc (.cells #[.int .i64 0] 24)) := ((Fr.refl [] w).alloc _).alloc _
  have jv1 : ((w.alloc (.cells #[.pointer none] 56)).alloc (.cells #[.int .i64 0] 24)).heap[w.heap.size]? = some (.cells #[.pointer none] 56 (0, 0)) := (Below.heap_alloc _ _ _ (by simp)).trans (heap_alloc_new _ _)
  have ev1 : ((w.alloc (.cells #[.pointer none] 56)).alloc (.cells #[.int .i64 0] 24)).heap[w.heap.size + 1]? = some (.cells #[.int .i64 0] 24 (0, 0)) := by
    have h1 := heap_alloc_new (w.alloc (.cells #[.pointer none] 56)) (.cells #[.int .i64 0] 24)
    simpa using h1
  have hz1 : ((w.alloc (.cells #[.pointer none] 56)).alloc (.cells #[.int .i64 0] 24)).heap.size = w.heap.size + 2 := by simp
  generalize (w.alloc (.cells #[.pointer none] 56)).alloc (.cells #[.int .i64 0] 24) = w1 at *
  refine (Len_c d k m s w1 (hD.fr hf1)).mono ?_
  rintro e w2 ⟨rfl, rfl⟩
  have x1 : w1.cell? ⟨w.heap.size, 0, none⟩ = some (.pointer none) := cell_of_row _ _ 0 _ _ _ jv1
  have x1z : w1.frozen? ⟨w.heap.size, 0, none⟩ = false := frozen_of_row _ _ 0 _ _ jv1
  have x2 : w1.cell? ⟨w.heap.size + 1, 0, none⟩ = some (.int .i64 0) := cell_of_row _ _ 0 _ _ _ ev1
  have x2z : w1.frozen? ⟨w.heap.size + 1, 0, none⟩ = false := frozen_of_row _ _ 0 _ _ ev1
  have b13 := heap_setCell_same w1 w.heap.size 0 _ _ (.pointer none) jv1
  have hf13 : Fr [w.heap.size] w1 (w1.setCell ⟨w.heap.size, 0, none⟩ (.pointer none)) := (Fr.refl [w.heap.size] w1).setCell _ (.inl (by simp)) _
  have ev13 := (hf13.block (w.heap.size + 1) (by omega) (by simp)).trans ev1
  have hf14' : Fr [w.heap.size + 1] (w1.setCell ⟨w.heap.size, 0, none⟩ (.pointer none)) ((w1.setCell ⟨w.heap.size, 0, none⟩ (.pointer none)).setCell ⟨w.heap.size + 1, 0, none⟩ (.int .i64 140)) := (Fr.refl [w.heap.size + 1] _).setCell _ (.inl (by simp)) _
  have b14 := heap_setCell_same _ (w.heap.size + 1) 0 _ _ (.int .i64 140) ev13
  have r1 : ((w1.setCell ⟨w.heap.size, 0, none⟩ (.pointer none)).setCell ⟨w.heap.size + 1, 0, none⟩ (.int .i64 140)).cell? ⟨w.heap.size + 1, 0, none⟩ = some (.int .i64 140) := cell_of_row _ _ 0 _ _ _ b14
  have r2 : ((w1.setCell ⟨w.heap.size, 0, none⟩ (.pointer none)).setCell ⟨w.heap.size + 1, 0, none⟩ (.int .i64 140)).cell? ⟨w.heap.size, 0, none⟩ = some (.pointer none) :=
    cell_of_row _ _ 0 _ _ _ ((hf14'.block w.heap.size (by have := hf13.size; omega) (by simp)).trans (b13.trans rfl))
  replace r1 := hid r1
  replace r2 := hid r2
  clear b13 ev13 b14 jv1 ev1
  go_wp2_with fail
  refine ⟨.tuple #[.pointer none, .int .i64 140], ?_, rfl, (hf1.past hf13 (by simp)).past hf14' (by simp)⟩
  have e1 := r1.out
  have e2 := r2.out
  simp [results, Tryz.results27, go_sem, e1, e2]

theorem Broken_c (B j d k m hd ar : Nat) (recs : List ByteArray) (w : World) (hJ : IsJ w B j d k m hd ar recs) :
    Calls Tryz.prog 39 #[.pointer (some ⟨j, 0, none⟩)] w fun e w' => e = .returned (.bool false) ∧ w = w' := by
  obtain ⟨A, n, c, C, nc, cc, hblk, _⟩ := hJ.ex
  have j5 : w.cell? ⟨j, 5, none⟩ = some (.bool false) := cell_of_row _ _ 5 _ _ _ hblk
  clear hblk
  go_enter Tryz.func39, Tryz.ntmps39
  go_wp2
  go_ret
  exact ⟨rfl, rfl⟩

end Go.Proofs.YtiialjncdhhceaaGreat
