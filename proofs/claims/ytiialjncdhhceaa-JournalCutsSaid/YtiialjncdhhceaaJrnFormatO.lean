/- The journal's Format of a disk that holds one, where the power may go; what a crash leaves of Format of a new disk. -/
import Derived.Test.YtiialjncdhhceaaJrnFormatP
import Derived.Test.YtiialjncdhhceaaJrnOpen
namespace Go.Proofs.Ytiialjncdhhceaa
open Go.RowKit
set_option linter.unusedVariables false
set_option linter.unusedSimpArgs false

theorem JFr.stays {w w' : World} {j d k m : Nat} (h : JFr w w' j d k m) {b : Nat} {o : Obj} (hb : w.heap[b]? = some o) (hne : b ≠ j ∧ b ≠ d ∧ b ≠ k ∧ b ≠ m) (ho : ∀ cs, o ≠ .cells cs 9 (0, 0)) : w'.heap[b]? = some o := by
  obtain ⟨S, hf, hS⟩ := h
  refine (hf.block b (Array.getElem?_eq_some_iff.1 hb).1 (fun hx => ?_)).trans hb
  rcases hS b hx with h | h | h | h | ⟨cs, h⟩
  · exact hne.1 h
  · exact hne.2.1 h
  · exact hne.2.2.1 h
  · exact hne.2.2.2 h
  · rw [hb] at h
    injection h with h
    exact ho cs h
theorem two_vars (w : World) (jv : Nat) (x : Value) (y : Value) {p q : Value} {J E : TypeId} (hj : w.heap[jv]? = some (.cells #[p] J (0, 0))) (he : w.heap[jv + 1]? = some (.cells #[q] E (0, 0))) :
    ((w.setCell ⟨jv, 0, none⟩ x).setCell ⟨jv + 1, 0, none⟩ y).cell? ⟨jv + 1, 0, none⟩ = some y ∧ ((w.setCell ⟨jv, 0, none⟩ x).setCell ⟨jv + 1, 0, none⟩ y).cell? ⟨jv, 0, none⟩ = some x ∧ (w.setCell ⟨jv, 0, none⟩ x).cell? ⟨jv, 0, none⟩ = some x ∧ Fr [jv, jv + 1] w ((w.setCell ⟨jv, 0, none⟩ x).setCell ⟨jv + 1, 0, none⟩ y) := by
  have b13 := heap_setCell_same w jv 0 _ _ x hj
  have hf13 : Fr [jv] w (w.setCell ⟨jv, 0, none⟩ x) := (Fr.refl [jv] w).setCell _ (.inl (by simp)) _
  have ev13 := (hf13.block (jv + 1) (Array.getElem?_eq_some_iff.1 he).1 (by simp)).trans he
  generalize w.setCell ⟨jv, 0, none⟩ x = w1 at *
  have hf14 : Fr [jv + 1] w1 (w1.setCell ⟨jv + 1, 0, none⟩ y) := (Fr.refl [jv + 1] _).setCell _ (.inl (by simp)) _
  have b14 := heap_setCell_same _ (jv + 1) 0 _ _ y ev13
  have r2 := (hf14.block jv (Array.getElem?_eq_some_iff.1 b13).1 (by simp)).trans b13
  exact ⟨(cell_of_row _ _ 0 _ _ _ b14).trans rfl, (cell_of_row _ _ 0 _ _ _ r2).trans rfl, (cell_of_row _ _ 0 _ _ _ b13).trans rfl, (hf13.mono (by simp)).trans hf14 (by simp)⟩

set_option maxHeartbeats 4000000 in
set_option maxRecDepth 100000 in
theorem Format_old_p (B d k m hd ar : Nat) (recs : List ByteArray) (s : DSt) (w : World) (hD : IsDisk w d k m s) (hH : Holds s hd ar recs) (hoff : s.off = false) (hst : s.steps ≤ 800000000) (hB : B ≤ d ∧ B ≤ k ∧ B ≤ m ∧ B ≤ w.heap.size) :
    Calls Try.prog 55 #[.pointer (some ⟨d, 0, none⟩)] w fun e w' => (∃ j s', e = .returned (.tuple #[.pointer (some ⟨j, 0, none⟩), .int .i64 0]) ∧ IsDisk w' d k m s' ∧ Holds s' (1 - hd) (1 - ar) [] ∧ s'.n = s.n ∧ Below B w w') ∨
      (e = .returned (.tuple #[.pointer none, .int .i64 131]) ∧ ∃ s', IsDisk w' d k m s' ∧ s'.n = s.n ∧ (∀ ch, Holds (s'.crash ch) hd ar recs ∨ Holds (s'.crash ch) (1 - hd) (1 - ar) []) ∧ Below B w w') := by
  have hn8 := hH.n8
  have hnI : ¬ (s.n : Int) < 8 := by omega
  have hlts := hD.lts
  go_enter_defers Try.func55, Try.ntmps55
  go_wp2_with fail
  have hf1 : Fr [] w ((w.alloc (.cells #[.pointer none] 80)).alloc (.cells #[.int .i64 0] 29)) := ((Fr.refl [] w).alloc _).alloc _
  have jv1 : ((w.alloc (.cells #[.pointer none] 80)).alloc (.cells #[.int .i64 0] 29)).heap[w.heap.size]? = some (.cells #[.pointer none] 80 (0, 0)) := (Below.heap_alloc _ _ _ (by simp)).trans (heap_alloc_new _ _)
  have ev1 : ((w.alloc (.cells #[.pointer none] 80)).alloc (.cells #[.int .i64 0] 29)).heap[w.heap.size + 1]? = some (.cells #[.int .i64 0] 29 (0, 0)) := by
    have h1 := heap_alloc_new (w.alloc (.cells #[.pointer none] 80)) (.cells #[.int .i64 0] 29)
    simpa using h1
  have hz1 : ((w.alloc (.cells #[.pointer none] 80)).alloc (.cells #[.int .i64 0] 29)).heap.size = w.heap.size + 2 := by simp
  generalize (w.alloc (.cells #[.pointer none] 80)).alloc (.cells #[.int .i64 0] 29) = w1 at *
  refine (Len_c d k m s w1 (hD.fr hf1)).mono ?_
  rintro e w2 ⟨rfl, rfl⟩
  go_wp2_with fail
  refine (Open_ok B d k m hd ar recs s w1 (hD.fr hf1) hH hoff (by omega)).mono ?_
  rintro e w2 ⟨j, v, rfl, hJ2, hO2, hf2⟩
  obtain ⟨Av, cv, rfl, _, _, _⟩ := hO2.form
  have jv2 := (hf2.block w.heap.size (by omega) (by simp)).trans jv1
  have ev2 := (hf2.block (w.heap.size + 1) (by omega) (by simp)).trans ev1
  have hD2 := (hD.fr hf1).fr hf2
  have hf02 := hf1.then hf2
  have hz2 := hf2.size
  have hjt : j ≠ w.heap.size ∧ j ≠ w.heap.size + 1 := by
    obtain ⟨_, _, _, _, _, _, h, _⟩ := hJ2.ex
    constructor
    · rintro rfl
      rw [jv2] at h
      injection h with h
      injection h with _ h
      revert h
      decide
    · rintro rfl
      rw [ev2] at h
      injection h with h
      injection h with _ h
      revert h
      decide
  generalize recs.length = rn at *
  clear hO2
  go_wp2_with fail
  refine (Replace_p B j d k m hd ar recs none 0 0 [] s w2 hJ2 hD2 hH (by omega) (RSs.nil _ _) (by intro h; exact absurd rfl h) (by intro r hr; cases hr) (by simp [weightL])).mono ?_
  rintro e w5 (⟨rfl, s5, hJ5, hD5, hH5, q51, q5o, q52, q53, hb5, hj5⟩ | ⟨rfl, s5, hjd, hD5, q52, q53, hcr, hb5, hj5⟩)
  · have jv5 := hj5.stays jv2 (by omega) (fun cs h => by injection h with h1 h2; revert h2; decide)
    have ev5 := hj5.stays ev2 (by omega) (fun cs h => by injection h with h1 h2; revert h2; decide)
    have hz5 : w.heap.size + 1 < w5.heap.size := (Array.getElem?_eq_some_iff.1 ev5).1
    have t1 := cell_of_row _ _ 0 _ _ _ jv5
    have t1z := frozen_of_row _ _ 0 _ _ jv5
    have t2 := cell_of_row _ _ 0 _ _ _ ev5
    have t2z := frozen_of_row _ _ 0 _ _ ev5
    have htv := two_vars w5 w.heap.size (.pointer (some ⟨j, 0, none⟩)) (.int .i64 0) jv5 ev5
    have x1 : w5.cell? ⟨w.heap.size, 0, none⟩ = some (.pointer none) := t1
    have x1z : w5.frozen? ⟨w.heap.size, 0, none⟩ = false := t1z
    have x2 : w5.cell? ⟨w.heap.size + 1, 0, none⟩ = some (.int .i64 0) := t2
    have x2z : w5.frozen? ⟨w.heap.size + 1, 0, none⟩ = false := t2z
    replace htv := hid htv
    clear t1 t1z t2 t2z jv5 ev5 jv2 ev2 jv1 ev1
    go_wp2_with fail
    obtain ⟨r1, r2, r3, r4⟩ := htv.out
    refine ⟨.tuple #[.pointer (some ⟨j, 0, none⟩), .int .i64 0], ?_, .inl ⟨j, s5, rfl, hD5.away r4 (by simp; omega), hH5, q52, ?_⟩⟩
    · simp [results, Try.results55, go_sem, r1, r2, r3]
    · exact ((hf02.below hB.2.2.2 (by simp)).trans hb5).trans (r4.below (by omega) (by simp; omega))
  · have jv5 := hj5.stays jv2 (by omega) (fun cs h => by injection h with h1 h2; revert h2; decide)
    have ev5 := hj5.stays ev2 (by omega) (fun cs h => by injection h with h1 h2; revert h2; decide)
    have hz5 : w.heap.size + 1 < w5.heap.size := (Array.getElem?_eq_some_iff.1 ev5).1
    have t1 := cell_of_row _ _ 0 _ _ _ jv5
    have t1z := frozen_of_row _ _ 0 _ _ jv5
    have t2 := cell_of_row _ _ 0 _ _ _ ev5
    have t2z := frozen_of_row _ _ 0 _ _ ev5
    have htv := two_vars w5 w.heap.size (.pointer none) (.int .i64 131) jv5 ev5
    have x1 : w5.cell? ⟨w.heap.size, 0, none⟩ = some (.pointer none) := t1
    have x1z : w5.frozen? ⟨w.heap.size, 0, none⟩ = false := t1z
    have x2 : w5.cell? ⟨w.heap.size + 1, 0, none⟩ = some (.int .i64 0) := t2
    have x2z : w5.frozen? ⟨w.heap.size + 1, 0, none⟩ = false := t2z
    replace htv := hid htv
    clear t1 t1z t2 t2z jv5 ev5 jv2 ev2 jv1 ev1
    go_wp2_with fail
    obtain ⟨r1, r2, r3, r4⟩ := htv.out
    refine ⟨.tuple #[.pointer none, .int .i64 131], ?_, .inr ⟨rfl, s5, hD5.away r4 (by simp; omega), q52, hcr, ?_⟩⟩
    · simp [results, Try.results55, go_sem, r1, r2, r3]
    · exact ((hf02.below hB.2.2.2 (by simp)).trans hb5).trans (r4.below (by omega) (by simp; omega))

/-- A disk that holds no journal. -/
def NoJ (t : DSt) : Prop := 8 ≤ t.n ∧ ∃ (f0 : UInt8) (sg : List UInt8), f0.toNat ≤ 1 ∧ (t.now 0).take 9 = f0 :: sg ∧ sg.length = 8 ∧ sg ≠ signB
theorem form_torn : ∀ n, n ≤ 64 → (9 ≤ n → ((0 :: signB) ++ zeros64.drop 9).take n ++ zeros64.drop n = (0 :: signB) ++ zeros64.drop 9) ∧
    (n < 9 → ∃ sg : List UInt8, (((0 :: signB) ++ zeros64.drop 9).take n ++ zeros64.drop n).take 9 = 0 :: sg ∧ sg.length = 8 ∧ sg ≠ signB) := by
  have h : ∀ n, n ≤ 64 → (9 ≤ n → ((0 :: signB) ++ zeros64.drop 9).take n ++ zeros64.drop n = (0 :: signB) ++ zeros64.drop 9) ∧
      (n < 9 → (((0 :: signB) ++ zeros64.drop 9).take n ++ zeros64.drop n).take 9 = 0 :: ((((0 :: signB) ++ zeros64.drop 9).take n ++ zeros64.drop n).take 9).drop 1 ∧ ((((((0 :: signB) ++ zeros64.drop 9).take n ++ zeros64.drop n).take 9).drop 1).length = 8 ∧ ((((0 :: signB) ++ zeros64.drop 9).take n ++ zeros64.drop n).take 9).drop 1 ≠ signB)) := by decide +kernel
  intro n hn
  exact ⟨(h n hn).1, fun h9 => ⟨_, (h n hn).2 h9⟩⟩
theorem form_off {s t : DSt} (hcl : ∀ i, s.pend i = none) (h0 : ∀ i, s.now i = zeros64) (hn8 : 8 ≤ s.n) (hF : FormOff s t) (ch : List UInt8) : NoJ (t.crash ch) ∨ Holds (t.crash ch) 0 0 [] := by
  have hk0 : ∀ i, s.kept i = zeros64 := fun i => by rw [← clean_now hcl]; exact h0 i
  have hzero : ∀ t : DSt, t.n = s.n → t.pend 0 = none → t.kept 0 = zeros64 → NoJ (t.crash ch) := by
    intro t h1 h2 h3
    refine ⟨by show 8 ≤ t.n; rw [h1]; exact hn8, 0, [0, 0, 0, 0, 0, 0, 0, 0], by decide, ?_, rfl, by decide⟩
    rw [DSt.crash_now]
    unfold DSt.tornAt
    rw [h2]
    show (t.kept 0).take 9 = _
    rw [h3]
    rfl
  have hp : ∀ (u : DSt) (i : Nat) (l : List UInt8), i ≠ 0 → (u.put i l).pend 0 = u.pend 0 := by
    intro u i l hi
    unfold DSt.put
    dsimp only
    rw [if_neg (by omega)]
  have hnow : ∀ i, ((s.step.put 1 (0 :: putB 0 4)).step.put 2 (0 :: putB 0 4)).now i = zeros64 := by
    intro i
    rw [DSt.put_now]
    split
    · rw [DSt.step_now, DSt.put_now]
      split
      · omega
      · rw [DSt.step_now, h0]; rfl
    · rw [DSt.step_now, DSt.put_now]
      split
      · rw [DSt.step_now, h0]; rfl
      · rw [DSt.step_now, h0]
  cases hF with
  | a => exact .inl (hzero _ rfl (hcl 0) (hk0 0))
  | b => exact .inl (hzero _ rfl ((hp s.step 1 (0 :: putB 0 4) (by decide)).trans (hcl 0)) (hk0 0))
  | c => exact .inl (hzero _ rfl ((hp (s.step.put 1 (0 :: putB 0 4)).step 2 (0 :: putB 0 4) (by decide)).trans ((hp s.step 1 (0 :: putB 0 4) (by decide)).trans (hcl 0))) (hk0 0))
  | d => exact .inl (hzero _ rfl rfl (hnow 0))
  | e =>
    generalize hu : ((s.step.put 1 (0 :: putB 0 4)).step.put 2 (0 :: putB 0 4)).step.clean = u at *
    have hun : ∀ i, u.now i = zeros64 := by rw [← hu]; exact hnow
    have huc : ∀ i, u.pend i = none := by rw [← hu]; exact fun _ => rfl
    have huk : ∀ i, u.kept i = zeros64 := by rw [← hu]; exact hnow
    have hu8 : 8 ≤ u.n := by rw [← hu]; exact hn8
    have hv0 : ((u.step.put 0 (0 :: signB)).step).pend 0 = some ((0 :: signB) ++ zeros64.drop 9) := by
      show some ((0 :: signB) ++ (u.step.now 0).drop 9) = _
      rw [DSt.step_now, hun]
    have hvi : ∀ i, i ≠ 0 → ((u.step.put 0 (0 :: signB)).step).pend i = none := fun i hi => by
      show (if i = 0 then _ else u.pend i) = none
      rw [if_neg hi, huc]
    have c0 : (((u.step.put 0 (0 :: signB)).step).crash ch).now 0 = torn (ch.getD (((u.step.put 0 (0 :: signB)).step).rank 0) 0) ((0 :: signB) ++ zeros64.drop 9) zeros64 := by
      rw [DSt.crash_now]
      unfold DSt.tornAt
      rw [hv0]
      show torn _ _ (u.kept 0) = _
      rw [huk]
    have ci : ∀ i, i ≠ 0 → (((u.step.put 0 (0 :: signB)).step).crash ch).now i = zeros64 := by
      intro i hi
      rw [DSt.crash_now]
      unfold DSt.tornAt
      rw [hvi i hi]
      exact huk i
    generalize ch.getD (((u.step.put 0 (0 :: signB)).step).rank 0) 0 = c at c0
    obtain ⟨f1, f2⟩ := form_torn (tornN c) (tornN_le c)
    by_cases h9 : 9 ≤ tornN c
    · right
      have hf := formS_holds s hn8 h0
      refine hf.congr ?_ (fun i => ?_) (fun _ => rfl)
      · rw [← hu]
        rfl
      · by_cases hi : i = 0
        · subst hi
          rw [c0]
          unfold torn
          rw [f1 h9]
          unfold formS
          rw [DSt.clean_now, DSt.step_now, DSt.put_now, if_pos rfl, hu, DSt.step_now, hun]
          rfl
        · rw [ci i hi]
          unfold formS
          rw [DSt.clean_now, DSt.step_now, DSt.put_now, if_neg hi, hu, DSt.step_now, hun]
    · left
      obtain ⟨sg, g1, g2, g3⟩ := f2 (by omega)
      exact ⟨hu8, 0, sg, by decide, by rw [c0]; exact g1, g2, g3⟩
end Go.Proofs.Ytiialjncdhhceaa
