/- A store in the course of a play: its blocks are none of those that must stay (F). -/
import Derived.Test.YtiialjncdhhceaaGreatStoDoP
import Derived.Test.YtiialjncdhhceaaGreatStoOpenN
import Derived.Test.YtiialjncdhhceaaGreatStoGood
namespace Go.Proofs.YtiialjncdhhceaaGreat
open Go.RowKit
set_option linter.unusedVariables false
set_option linter.unusedSimpArgs false

/-- A store over its disk, the power on (z: and it will not go); F: blocks that are none of its own. -/
def Run (w : World) (B st d k m n T : Nat) (L : List KV) (z : Bool) (F : List Nat) : Prop :=
  ∃ j mp hd ar recs s, IsSt w B st j d k m mp hd ar recs L ∧ IsDisk w d k m s ∧ Holds s hd ar recs ∧ Tells recs L ∧ s.off = false ∧ (z = true → s.offAt = 0) ∧ s.n = n ∧ s.steps ≤ T ∧ L.length ≤ 40 ∧ 32 ≤ n ∧
    ∀ x, (x = st ∨ x = j ∨ x = d ∨ x = k ∨ x = m ∨ jRow w j x) → x ∉ F ∧ x < w.heap.size
/-- A store that is broken. -/
def DeadSt (w : World) (st : Nat) : Prop := ∃ d j mp hd ar A n c C nc cc, w.heap[st]? = some (.cells (sCells d j mp) 61 (0, 0)) ∧ w.heap[j]? = some (.cells (jCells d hd ar A n c C nc cc true) 85 (0, 0))
/-- A disk that holds the rows L. -/
def DiskR (w : World) (d k m n T : Nat) (L : List KV) (F : List Nat) : Prop :=
  ∃ hd ar recs s, IsDisk w d k m s ∧ Holds s hd ar recs ∧ Tells recs L ∧ s.offAt = 0 ∧ s.n = n ∧ s.steps ≤ T ∧ L.length ≤ 40 ∧ 32 ≤ n ∧ d ∉ F ∧ k ∉ F ∧ m ∉ F
/-- The blocks of F stay. -/
def Stays (w w' : World) (F : List Nat) : Prop := ∃ S, Fr S w w' ∧ ∀ x ∈ S, x ∉ F
theorem Stays.of {w w' : World} {F S : List Nat} (hf : Fr S w w') (h : ∀ x ∈ S, x ∉ F) : Stays w w' F := ⟨S, hf, h⟩
theorem Stays.block {w w' : World} {F : List Nat} (h : Stays w w' F) {b : Nat} (hb : b < w.heap.size) (hF : b ∈ F) : w'.heap[b]? = w.heap[b]? := by
  obtain ⟨S, hf, hS⟩ := h
  exact hf.block b hb (fun hm => hS b hm hF)
theorem Stays.size {w w' : World} {F : List Nat} (h : Stays w w' F) : w.heap.size ≤ w'.heap.size := by
  obtain ⟨S, hf, hS⟩ := h
  exact hf.size
theorem Stays.trans {a b c : World} {F : List Nat} (h : Stays a b F) (h' : Stays b c F) : Stays a c F := by
  obtain ⟨S, hf, hS⟩ := h
  obtain ⟨S', hf', hS'⟩ := h'
  refine ⟨S ++ S', (hf.mono (fun x hx => by simp [hx])).trans hf' (fun x hx => .inl (by simp [hx])), fun x hx => ?_⟩
  rcases List.mem_append.1 hx with h | h
  · exact hS x h
  · exact hS' x h
theorem OSs.stays {w w' : World} {base : Nat} {v : Value} {l : List ByteArray} {F : List Nat} (h : OSs w base v l) (hs : Stays w w' F) (hF : ∀ b, v.ownBlock = some b → b ∈ F) : OSs w' base v l := by
  obtain ⟨S, hf, hS⟩ := hs
  exact h.kept hf (fun b hb hm => hS b hm (hF b hb))

theorem Run.good {w : World} {B st d k m n T : Nat} {L : List KV} {F : List Nat} (h : Run w B st d k m n T L true F) : Good w B st d k m n T L := by
  obtain ⟨j, mp, hd, ar, recs, s, h1, h2, h3, h4, h5, h6, h7, h8, h9, h10, h11⟩ := h
  exact ⟨j, mp, hd, ar, recs, s, h1, h2, h3, h4, h6 rfl, h7, h8, h9, h10⟩
theorem Run.good' {w : World} {B st d k m n T : Nat} {L : List KV} {z : Bool} {F : List Nat} (h : Run w B st d k m n T L z F) : Small L ∧ L.length ≤ 40 ∧ Srt L := by
  obtain ⟨j, mp, hd, ar, recs, s, h1, h2, h3, h4, h5, h6, h7, h8, h9, h10, h11⟩ := h
  exact ⟨h4.small, h9, h1.map.2⟩
theorem Run.fr {w w' : World} {B st d k m n T : Nat} {L : List KV} {z : Bool} {F : List Nat} (h : Run w B st d k m n T L z F) (hf : Fr [] w w') : Run w' B st d k m n T L z F := by
  obtain ⟨j, mp, hd, ar, recs, s, h1, h2, h3, h4, h5, h6, h7, h8, h9, h10, h11⟩ := h
  refine ⟨j, mp, hd, ar, recs, s, h1.fr hf, h2.fr hf, h3, h4, h5, h6, h7, h8, h9, h10, fun x hx => ?_⟩
  have hs := hf.size
  have hj := (h11 j (by simp)).2
  have h12 := h11 x (by
    rcases hx with h | h | h | h | h | ⟨v, hv, ho⟩
    · exact .inl h
    · exact .inr (.inl h)
    · exact .inr (.inr (.inl h))
    · exact .inr (.inr (.inr (.inl h)))
    · exact .inr (.inr (.inr (.inr (.inl h))))
    · exact .inr (.inr (.inr (.inr (.inr ⟨v, (cell_fr hf hj (by simp) 4).symm.trans hv, ho⟩)))))
  exact ⟨h12.1, by omega⟩
theorem Run.add {w : World} {B st d k m n T : Nat} {L : List KV} {z : Bool} {F F' : List Nat} (h : Run w B st d k m n T L z F) (hF : ∀ x ∈ F', x ∈ F ∨ w.heap.size ≤ x) : Run w B st d k m n T L z F' := by
  obtain ⟨j, mp, hd, ar, recs, s, h1, h2, h3, h4, h5, h6, h7, h8, h9, h10, h11⟩ := h
  refine ⟨j, mp, hd, ar, recs, s, h1, h2, h3, h4, h5, h6, h7, h8, h9, h10, fun x hx => ?_⟩
  have h12 := h11 x hx
  refine ⟨fun hm => ?_, h12.2⟩
  rcases hF x hm with h | h
  · exact h12.1 h
  · omega
theorem Run.le {w : World} {B st d k m n T T' : Nat} {L : List KV} {z : Bool} {F : List Nat} (h : Run w B st d k m n T L z F) (hT : T ≤ T') : Run w B st d k m n T' L z F := by
  obtain ⟨j, mp, hd, ar, recs, s, h1, h2, h3, h4, h5, h6, h7, h8, h9⟩ := h
  exact ⟨j, mp, hd, ar, recs, s, h1, h2, h3, h4, h5, h6, h7, Nat.le_trans h8 hT, h9⟩
theorem Run.size {w : World} {B st d k m n T : Nat} {L : List KV} {z : Bool} {F : List Nat} (h : Run w B st d k m n T L z F) : B ≤ w.heap.size := by
  obtain ⟨j, mp, hd, ar, recs, s, h1, _⟩ := h
  exact h1.size
theorem Run.lo {w : World} {B st d k m n T : Nat} {L : List KV} {z : Bool} {F : List Nat} (h : Run w B st d k m n T L z F) : B ≤ d ∧ B ≤ k ∧ B ≤ m ∧ B ≤ st := by
  obtain ⟨j, mp, hd, ar, recs, s, h1, _⟩ := h
  exact ⟨h1.jr.lo.2.1, h1.jr.lo.2.2.1, h1.jr.lo.2.2.2.1, h1.lo.1⟩
/-- The disk alone turned. -/
theorem rows_turn {w w' : World} {B st j d k m mp hd ar : Nat} {recs : List ByteArray} {L : List KV} {F : List Nat} (h1 : IsSt w B st j d k m mp hd ar recs L) (hf : Fr [d, k, m] w w') (h11 : ∀ x, (x = st ∨ x = j ∨ x = d ∨ x = k ∨ x = m ∨ jRow w j x) → x ∉ F ∧ x < w.heap.size) :
    ∀ x, (x = st ∨ x = j ∨ x = d ∨ x = k ∨ x = m ∨ jRow w' j x) → x ∉ F ∧ x < w'.heap.size := by
  have ha := h1.jr.apart
  intro x hx
  have hz := hf.size
  have hj := (h11 j (by simp)).2
  have h12 := h11 x (by
    rcases hx with h | h | h | h | h | ⟨v, hv, ho⟩
    · exact .inl h
    · exact .inr (.inl h)
    · exact .inr (.inr (.inl h))
    · exact .inr (.inr (.inr (.inl h)))
    · exact .inr (.inr (.inr (.inr (.inl h))))
    · exact .inr (.inr (.inr (.inr (.inr ⟨v, (cell_fr hf hj (by simp; omega) 4).symm.trans hv, ho⟩)))))
  exact ⟨h12.1, by omega⟩
theorem Run.dkm {w : World} {B st d k m n T : Nat} {L : List KV} {z : Bool} {F : List Nat} (h : Run w B st d k m n T L z F) : d ∉ F ∧ k ∉ F ∧ m ∉ F ∧ d < w.heap.size ∧ k < w.heap.size ∧ m < w.heap.size := by
  obtain ⟨j, mp, hd, ar, recs, s, h1, h2, h3, h4, h5, h6, h7, h8, h9, h10, h11⟩ := h
  have a := h11 d (by simp)
  have b := h11 k (by simp)
  have c := h11 m (by simp)
  exact ⟨a.1, b.1, c.1, a.2, b.2, c.2⟩

theorem power_at {s : DSt} (h0 : s.offAt = 0) (P : Int) (hP : 1 ≤ P) : (s.power P).off = false ∧ (s.power P).n = s.n ∧ (s.power P).steps = s.steps ∧ (s.power P).pend = s.pend ∧ (s.power P).kept = s.kept := by
  have e : s.power P = { s with offAt := s.steps + (min P 1099511627776).toNat } := by
    unfold DSt.power
    rw [if_neg (by rw [DSt.off_zero h0]; simp), if_neg (by omega)]
  rw [e]
  refine ⟨?_, rfl, rfl, rfl, rfl⟩
  unfold DSt.off
  simp
  omega
theorem power_no {s : DSt} (h0 : s.off = false) : (s.power 0).offAt = 0 ∧ (s.power 0).n = s.n ∧ (s.power 0).steps = s.steps ∧ (s.power 0).pend = s.pend ∧ (s.power 0).kept = s.kept := by
  have e : s.power 0 = { s with offAt := 0 } := by
    unfold DSt.power
    rw [if_neg (by rw [h0]; simp), if_pos (by omega)]
  rw [e]
  exact ⟨rfl, rfl, rfl, rfl, rfl⟩
theorem Power_on_r {B st d k m n T : Nat} {L : List KV} {F : List Nat} (w : World) (h : Run w B st d k m n T L true F) (P : Int) (hP : 1 ≤ P) :
    Calls Tryz.prog 20 #[.pointer (some ⟨d, 0, none⟩), .int .i64 P] w fun e w' => e = .returned (.tuple #[]) ∧ Run w' B st d k m n T L false F ∧ Fr [d, k, m] w w' := by
  obtain ⟨j, mp, hd, ar, recs, s, h1, h2, h3, h4, h5, h6, h7, h8, h9, h10, h11⟩ := h
  refine Calls.mono (Power_c d k m s P w h2) ?_
  rintro e w' ⟨rfl, hD, hf⟩
  have hf' : Fr [d, k, m] w w' := hf.mono (by simp)
  obtain ⟨p1, p2, p3, p4, p5⟩ := power_at (h6 rfl) P hP
  exact ⟨rfl, ⟨j, mp, hd, ar, recs, s.power P, h1.disk hf', hD, h3.congr p2 (fun i => by unfold DSt.now; rw [p4, p5]) (fun i => by rw [p4]; exact h3.clean i), h4, p1, (fun h => by cases h), by omega, by omega, h9, h10, rows_turn h1 hf' h11⟩, hf'⟩
theorem Power_no_r {B st d k m n T : Nat} {L : List KV} {z : Bool} {F : List Nat} (w : World) (h : Run w B st d k m n T L z F) :
    Calls Tryz.prog 20 #[.pointer (some ⟨d, 0, none⟩), .int .i64 0] w fun e w' => e = .returned (.tuple #[]) ∧ Run w' B st d k m n T L true F ∧ Fr [d, k, m] w w' := by
  obtain ⟨j, mp, hd, ar, recs, s, h1, h2, h3, h4, h5, h6, h7, h8, h9, h10, h11⟩ := h
  refine Calls.mono (Power_c d k m s 0 w h2) ?_
  rintro e w' ⟨rfl, hD, hf⟩
  have hf' : Fr [d, k, m] w w' := hf.mono (by simp)
  obtain ⟨p1, p2, p3, p4, p5⟩ := power_no h5
  exact ⟨rfl, ⟨j, mp, hd, ar, recs, s.power 0, h1.disk hf', hD, h3.congr p2 (fun i => by unfold DSt.now; rw [p4, p5]) (fun i => by rw [p4]; exact h3.clean i), h4, DSt.off_zero p1, (fun _ => p1), by omega, by omega, h9, h10, rows_turn h1 hf' h11⟩, hf'⟩
theorem Crash_r {B st d k m n T : Nat} {L : List KV} {z : Bool} {F : List Nat} (C : Option Addr) (nc cc : Nat) (ch : List UInt8) (w : World) (h : Run w B st d k m n T L z F) (hC : RB w C nc ch) (hcc : nc ≤ cc) (hd : nc ≠ 0 → ∀ a, C = some a → a.block < B) :
    Calls Tryz.prog 16 #[.pointer (some ⟨d, 0, none⟩), .slice C nc cc] w fun e w' => e = .returned (.tuple #[]) ∧ DiskR w' d k m n T L F ∧ Fr [d, k, m] w w' := by
  have hdkm := h.dkm
  have hlo := h.lo
  obtain ⟨j, mp, hd', ar, recs, s, h1, h2, h3, h4, h5, h6, h7, h8, h9, h10, h11⟩ := h
  refine Calls.mono (Crash_c d k m s C nc cc ch w h2 hC hcc (fun h a ha => by have := hd h a ha; omega)) ?_
  rintro e w' ⟨rfl, hD, hf⟩
  exact ⟨rfl, ⟨hd', ar, recs, s.crash ch, hD, h3.crash ch, h4, rfl, h7, h8, h9, h10, hdkm.1, hdkm.2.1, hdkm.2.2.1⟩, hf⟩
theorem DiskR.fr {w w' : World} {d k m n T : Nat} {L : List KV} {F : List Nat} (h : DiskR w d k m n T L F) (hf : Fr [] w w') : DiskR w' d k m n T L F := by
  obtain ⟨hd, ar, recs, s, h1, h2⟩ := h
  exact ⟨hd, ar, recs, s, h1.fr hf, h2⟩
theorem Open_r {B d k m n T : Nat} {L : List KV} {F : List Nat} (w : World) (h : DiskR w d k m n T L F) (hF : ∀ x ∈ F, x < w.heap.size) (hB : B ≤ d ∧ B ≤ k ∧ B ≤ m ∧ B ≤ w.heap.size) :
    Calls Tryz.prog 17 #[.pointer (some ⟨d, 0, none⟩)] w fun e w' => ∃ st, e = .returned (.tuple #[.pointer (some ⟨st, 0, none⟩), .int .i64 0]) ∧ Run w' B st d k m n T L true F ∧ Fr [] w w' := by
  obtain ⟨hd, ar, recs, s, h1, h2, h3, h4, h5, h6, h7, h8, q1, q2, q3⟩ := h
  have hlts := h1.lts
  refine Calls.mono (Open_stN B d k m hd ar recs L s w h1 h2 h3 (DSt.off_zero h4) hB) ?_
  rintro e w' ⟨st, j, mp, rfl, g1, hf, hrow, hmp, hst, hjn⟩
  have hz := hf.size
  have hnew : ∀ x, w.heap.size ≤ x → x ∉ F := fun x hx hm => by have := hF x hm; omega
  refine ⟨st, rfl, ⟨j, mp, hd, ar, recs, s, g1, h1.fr hf, h2, h3, DSt.off_zero h4, (fun _ => h4), h5, h6, h7, h8, fun x hx => ?_⟩, hf⟩
  have hjl : j < w'.heap.size := by
    obtain ⟨_, _, _, _, _, _, h, _⟩ := g1.jr.ex
    exact (Array.getElem?_eq_some_iff.1 h).1
  have hsl := (Array.getElem?_eq_some_iff.1 g1.blk).1
  rcases hx with rfl | rfl | rfl | rfl | rfl | hx
  · exact ⟨hnew _ hst, hsl⟩
  · exact ⟨hnew _ hjn, hjl⟩
  · exact ⟨q1, by omega⟩
  · exact ⟨q2, by omega⟩
  · exact ⟨q3, by omega⟩
  · obtain ⟨cs, h⟩ := g1.jr.row hx
    exact ⟨hnew _ (hrow x hx), (Array.getElem?_eq_some_iff.1 h).1⟩
set_option maxHeartbeats 2000000 in
set_option maxRecDepth 100000 in
theorem Broken_dead (st : Nat) (w : World) (h : DeadSt w st) :
    Calls Tryz.prog 24 #[.pointer (some ⟨st, 0, none⟩)] w fun e w' => e = .returned (.bool true) ∧ w = w' := by
  obtain ⟨d, j, mp, hd, ar, A, n, c, C, nc, cc, hs, hj⟩ := h
  have c1 : w.cell? ⟨st, 1, none⟩ = some (.pointer (some ⟨j, 0, none⟩)) := cell_of_row _ _ 1 _ _ _ hs
  have j5 : w.cell? ⟨j, 5, none⟩ = some (.bool true) := cell_of_row _ _ 5 _ _ _ hj
  clear hs hj
  have hB : Calls Tryz.prog 39 #[.pointer (some ⟨j, 0, none⟩)] w fun e w' => e = .returned (.bool true) ∧ w = w' := by
    go_enter Tryz.func39, Tryz.ntmps39
    go_wp2
    go_ret
    exact ⟨rfl, rfl⟩
  clear j5
  go_enter Tryz.func24, Tryz.ntmps24
  go_wp2_with fail
  refine hB.mono ?_
  rintro e w1 ⟨rfl, rfl⟩
  go_wp2_with fail
  go_ret
  exact ⟨rfl, rfl⟩
set_option maxHeartbeats 2000000 in
set_option maxRecDepth 100000 in
theorem Do_dead (st : Nat) (A : Option Addr) (n c : Nat) (w : World) (h : DeadSt w st) :
    Calls Tryz.prog 13 #[.pointer (some ⟨st, 0, none⟩), .slice A n c] w fun e w' => e = .returned (.int .i64 131) ∧ w = w' := by
  go_enter Tryz.func13, Tryz.ntmps13
  go_wp2_with fail
  refine (Broken_dead st w h).mono ?_
  rintro e w1 ⟨rfl, rfl⟩
  go_wp2_with fail
  go_ret
  exact ⟨rfl, rfl⟩
theorem DeadSt.fr {w w' : World} {st : Nat} (h : DeadSt w st) (hf : Fr [] w w') : DeadSt w' st := by
  obtain ⟨d, j, mp, hd, ar, A, n, c, C, nc, cc, hs, hj⟩ := h
  exact ⟨d, j, mp, hd, ar, A, n, c, C, nc, cc, (hf.block _ (Array.getElem?_eq_some_iff.1 hs).1 (by simp)).trans hs, (hf.block _ (Array.getElem?_eq_some_iff.1 hj).1 (by simp)).trans hj⟩
theorem Do_form_r {B st d k m n T : Nat} {L : List KV} {z : Bool} {F : List Nat} (A : Option Addr) (nn c : Nat) (tx : List Wr) (w : World) (h : Run w B st d k m n T L z F) (hR : RW w A nn tx) (hno : rightB tx = false) :
    Calls Tryz.prog 13 #[.pointer (some ⟨st, 0, none⟩), .slice A nn c] w fun e w' => e = .returned (.int .i64 10) ∧ Fr [] w w' := by
  obtain ⟨j, mp, hd, ar, recs, s, h1, h2⟩ := h
  exact Do_form B st j d k m mp hd ar recs L A nn c tx w h1 hR hno
theorem SFr.stays {w w' : World} {st j d k m : Nat} {F : List Nat} (h : SFr w w' st j d k m) (h11 : ∀ x, (x = st ∨ x = j ∨ x = d ∨ x = k ∨ x = m ∨ jRow w j x) → x ∉ F ∧ x < w.heap.size) : Stays w w' F := by
  obtain ⟨⟨S, hf, hS⟩, _⟩ := h
  exact ⟨S, hf, fun x hx => (h11 x (hS x hx)).1⟩
/-- What is left of a transaction in which the power went. -/
def LostR (w : World) (d k m n T st : Nat) (L L' : List KV) (F : List Nat) : Prop :=
  DeadSt w st ∧ ∃ s, IsDisk w d k m s ∧ s.n = n ∧ s.steps ≤ T ∧ (∀ ch, ∃ hd' ar' recs', Holds (s.crash ch) hd' ar' recs' ∧ (Tells recs' L ∨ Tells recs' L')) ∧ 32 ≤ n ∧ L.length ≤ 40 ∧ L'.length ≤ 40 ∧ d ∉ F ∧ k ∉ F ∧ m ∉ F
theorem Do_r {B st d k m n T : Nat} {L : List KV} {z : Bool} {F : List Nat} (A : Option Addr) (nn c : Nat) (tx : List Wr) (w : World) (h : Run w B st d k m n T L z F) (hR : RW w A nn tx) (hyes : rightB tx = true) (hF : ∀ x ∈ F, x < w.heap.size) (hT : T ≤ 800000000) :
    Calls Tryz.prog 13 #[.pointer (some ⟨st, 0, none⟩), .slice A nn c] w fun e w' =>
      (¬ ((applyTx L tx).length ≤ 40 ∧ sizeL (applyTx L tx) ≤ 16 * n) → e = .returned (.int .i64 140) ∧ Fr [] w w') ∧
      ((applyTx L tx).length ≤ 40 ∧ sizeL (applyTx L tx) ≤ 16 * n → Below B w w' ∧ Stays w w' F ∧ ((e = .returned (.int .i64 0) ∧ Run w' B st d k m n (T + 1004) (applyTx L tx) z F) ∨ (z = false ∧ e = .returned (.int .i64 131) ∧ LostR w' d k m n (T + 1004) st L (applyTx L tx) F))) := by
  have hdkm := h.dkm
  obtain ⟨j, mp, hd, ar, recs, s, h1, h2, h3, h4, h5, h6, h7, h8, h9, h10, h11⟩ := h
  refine Calls.mono (Do_p B st j d k m mp hd ar recs L A nn c tx s w h1 hR hyes h2 h3 h4 (by omega) (by omega) h9) ?_
  rintro e w' ⟨hno, hyes'⟩
  rw [h7] at hno hyes'
  refine ⟨hno, fun hfit => ?_⟩
  rcases hyes' hfit with ⟨rfl, mp', hd', ar', recs', s', g1, g2, g3, g4, g5, g6, g7, g8, hb, hsf⟩ | ⟨rfl, ⟨hnz, j', mp', s', q1, q2, q3, q4, q5, q6⟩, hb, hsf⟩
  · refine ⟨hb, hsf.stays h11, .inl ⟨rfl, j, mp', hd', ar', recs', s', g1, g2, g3, g4, g6, (fun hz => by rw [g5]; exact h6 hz), by omega, by omega, hfit.1, h10, fun x hx => ?_⟩⟩
    have hz := hb.size
    by_cases hr : jRow w' j x
    · obtain ⟨cs, hcs⟩ := g1.jr.row hr
      refine ⟨?_, (Array.getElem?_eq_some_iff.1 hcs).1⟩
      rcases hsf.2 x hr with h | h
      · exact (h11 x (by simp [h])).1
      · exact fun hm => by have := hF x hm; omega
    · have h12 := h11 x (by
        rcases hx with h | h | h | h | h | h
        · exact .inl h
        · exact .inr (.inl h)
        · exact .inr (.inr (.inl h))
        · exact .inr (.inr (.inr (.inl h)))
        · exact .inr (.inr (.inr (.inr (.inl h))))
        · exact absurd h hr)
      exact ⟨h12.1, by omega⟩
  · refine ⟨hb, hsf.stays h11, .inr ⟨?_, rfl, ?_, s', q3, by omega, by omega, q6, h10, h9, hfit.1, hdkm.1, hdkm.2.1, hdkm.2.2.1⟩⟩
    · cases z with
      | false => rfl
      | true => exact absurd (h6 rfl) hnz
    · obtain ⟨hd', ar', A', n', c', C', nc', cc', q2⟩ := q2
      exact ⟨d, j', mp', hd', ar', A', n', c', C', nc', cc', q1, q2⟩
theorem Crash_lost {d k m n T st : Nat} {L L' : List KV} {F : List Nat} (B : Nat) (C : Option Addr) (nc cc : Nat) (ch : List UInt8) (w : World) (h : LostR w d k m n T st L L' F) (hC : RB w C nc ch) (hcc : nc ≤ cc) (hB : B ≤ d ∧ B ≤ k ∧ B ≤ m) (hd : nc ≠ 0 → ∀ a, C = some a → a.block < B) :
    Calls Tryz.prog 16 #[.pointer (some ⟨d, 0, none⟩), .slice C nc cc] w fun e w' => e = .returned (.tuple #[]) ∧ (DiskR w' d k m n T L F ∨ DiskR w' d k m n T L' F) ∧ Fr [d, k, m] w w' := by
  obtain ⟨_, s, h1, h2, h3, h4, h5, h6, h7, q1, q2, q3⟩ := h
  refine Calls.mono (Crash_c d k m s C nc cc ch w h1 hC hcc (fun h a ha => by have := hd h a ha; omega)) ?_
  rintro e w' ⟨rfl, hD, hf⟩
  obtain ⟨hd', ar', recs', g1, g2⟩ := h4 ch
  refine ⟨rfl, ?_, hf⟩
  rcases g2 with g2 | g2
  · exact .inl ⟨hd', ar', recs', s.crash ch, hD, g1, g2, rfl, h2, h3, h6, h5, q1, q2, q3⟩
  · exact .inr ⟨hd', ar', recs', s.crash ch, hD, g1, g2, rfl, h2, h3, h7, h5, q1, q2, q3⟩
theorem Make_r (B d k m n : Nat) (w : World) (hD : IsDisk w d k m (DSt.new n)) (hn : 32 ≤ n) (hB : B ≤ d ∧ B ≤ k ∧ B ≤ m ∧ B ≤ w.heap.size) :
    Calls Tryz.prog 11 #[.pointer (some ⟨d, 0, none⟩)] w fun e w' => ∃ st, e = .returned (.tuple #[.pointer (some ⟨st, 0, none⟩), .int .i64 0]) ∧ Run w' B st d k m n 5 [] true [] ∧ Fr [d, k, m] w w' := by
  refine Calls.mono (Make_new B d k m (DSt.new n) w hD rfl hn (fun _ => rfl) (by show 0 ≤ 900000000; decide) hB) ?_
  rintro e w' ⟨st, j, mp, rfl, h1, h2, h3⟩
  refine ⟨st, rfl, ⟨j, mp, 0, 0, [], _, h1, h2, formS_holds _ (by show 8 ≤ n; omega) (fun _ => rfl), Tells.nil, DSt.off_zero rfl, (fun _ => rfl), rfl, Nat.le_refl _, by simp, hn, fun x hx => ⟨by simp, ?_⟩⟩, h3⟩
  have hl := h2.lts
  rcases hx with rfl | rfl | rfl | rfl | rfl | hx
  · exact (Array.getElem?_eq_some_iff.1 h1.blk).1
  · obtain ⟨_, _, _, _, _, _, h, _⟩ := h1.jr.ex
    exact (Array.getElem?_eq_some_iff.1 h).1
  · omega
  · omega
  · omega
  · obtain ⟨cs, h⟩ := h1.jr.row hx
    exact (Array.getElem?_eq_some_iff.1 h).1
end Go.Proofs.YtiialjncdhhceaaGreat
