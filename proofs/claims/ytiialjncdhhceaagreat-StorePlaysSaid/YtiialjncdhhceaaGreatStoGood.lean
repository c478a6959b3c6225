/- A store that is in order: its functions in handy forms. -/
import Derived.Test.YtiialjncdhhceaaGreatStoOpen
namespace Go.Proofs.YtiialjncdhhceaaGreat
open Go.RowKit
set_option linter.unusedVariables false
set_option linter.unusedSimpArgs false

/-- The store st over the disk d, k, m (n sectors, at most T steps so far, the power on) holds the rows L. -/
def Good (w : World) (B st d k m n T : Nat) (L : List KV) : Prop :=
  ∃ j mp hd ar recs s, IsSt w B st j d k m mp hd ar recs L ∧ IsDisk w d k m s ∧ Holds s hd ar recs ∧ Tells recs L ∧ s.offAt = 0 ∧ s.n = n ∧ s.steps ≤ T ∧ L.length ≤ 40 ∧ 32 ≤ n
theorem Good.fr {w w' : World} {B st d k m n T : Nat} {L : List KV} (h : Good w B st d k m n T L) (hf : Fr [] w w') : Good w' B st d k m n T L := by
  obtain ⟨j, mp, hd, ar, recs, s, h1, h2, h3, h4, h5, h6, h7, h8⟩ := h
  exact ⟨j, mp, hd, ar, recs, s, h1.fr hf, h2.fr hf, h3, h4, h5, h6, h7, h8⟩
theorem Good.le {w : World} {B st d k m n T T' : Nat} {L : List KV} (h : Good w B st d k m n T L) (hT : T ≤ T') : Good w B st d k m n T' L := by
  obtain ⟨j, mp, hd, ar, recs, s, h1, h2, h3, h4, h5, h6, h7, h8⟩ := h
  exact ⟨j, mp, hd, ar, recs, s, h1, h2, h3, h4, h5, h6, Nat.le_trans h7 hT, h8⟩
theorem Good.size {w : World} {B st d k m n T : Nat} {L : List KV} (h : Good w B st d k m n T L) : B ≤ w.heap.size := by
  obtain ⟨j, mp, hd, ar, recs, s, h1, _⟩ := h
  exact h1.size
theorem Good.lo {w : World} {B st d k m n T : Nat} {L : List KV} (h : Good w B st d k m n T L) : B ≤ d ∧ B ≤ k ∧ B ≤ m ∧ B ≤ st := by
  obtain ⟨j, mp, hd, ar, recs, s, h1, _⟩ := h
  exact ⟨h1.jr.lo.2.1, h1.jr.lo.2.2.1, h1.jr.lo.2.2.2.1, h1.lo.1⟩
theorem Good.srt {w : World} {B st d k m n T : Nat} {L : List KV} (h : Good w B st d k m n T L) : Srt L := by
  obtain ⟨j, mp, hd, ar, recs, s, h1, _⟩ := h
  exact h1.map.2
theorem Good.small {w : World} {B st d k m n T : Nat} {L : List KV} (h : Good w B st d k m n T L) : Small L := by
  obtain ⟨j, mp, hd, ar, recs, s, _, _, _, h4, _⟩ := h
  exact h4.small
theorem Good.le40 {w : World} {B st d k m n T : Nat} {L : List KV} (h : Good w B st d k m n T L) : L.length ≤ 40 := by
  obtain ⟨j, mp, hd, ar, recs, s, _, _, _, _, _, _, _, h8, _⟩ := h
  exact h8
theorem small_size {L : List KV} (h : Small L) : sizeL L ≤ 6044 * L.length := by
  induction L with
  | nil => exact Nat.zero_le _
  | cons p r ih =>
    have h2 := h p (by simp)
    have h3 := ih (fun x hx => h x (by simp [hx]))
    simp only [sizeL, List.length_cons]
    omega

theorem Make_g (B d k m n : Nat) (w : World) (hD : IsDisk w d k m (DSt.new n)) (hn : 32 ≤ n) (hB : B ≤ d ∧ B ≤ k ∧ B ≤ m ∧ B ≤ w.heap.size) :
    Calls Tryz.prog 11 #[.pointer (some ⟨d, 0, none⟩)] w fun e w' => ∃ st, e = .returned (.tuple #[.pointer (some ⟨st, 0, none⟩), .int .i64 0]) ∧ Good w' B st d k m n 5 [] ∧ Fr [d, k, m] w w' := by
  refine Calls.mono (Make_new B d k m (DSt.new n) w hD rfl hn (fun _ => rfl) (by show 0 ≤ 900000000; decide) hB) ?_
  rintro e w' ⟨st, j, mp, rfl, h1, h2, h3⟩
  exact ⟨st, rfl, ⟨j, mp, 0, 0, [], _, h1, h2, formS_holds _ (by show 8 ≤ n; omega) (fun _ => rfl), Tells.nil, rfl, rfl, Nat.le_refl _, by simp, hn⟩, h3⟩

theorem Do_gk (B st d k m n T : Nat) (L : List KV) (A : Option Addr) (nn c : Nat) (tx : List Wr) (w : World) (h : Good w B st d k m n T L) (hR : RW w A nn tx) (hyes : rightB tx = true) (hT : T ≤ 800000000) (hfit : (applyTx L tx).length ≤ 40 ∧ sizeL (applyTx L tx) ≤ 16 * n) :
    Calls Tryz.prog 13 #[.pointer (some ⟨st, 0, none⟩), .slice A nn c] w fun e w' => e = .returned (.int .i64 0) ∧ Good w' B st d k m n (T + 1004) (applyTx L tx) ∧ Below B w w' ∧ WrKept w w' k := by
  obtain ⟨j, mp, hd, ar, recs, s, h1, h2, h3, h4, h5, h6, h7, h8, h9⟩ := h
  refine Calls.mono (Do_main B st j d k m mp hd ar recs L A nn c tx s w h1 hR hyes h2 h3 h4 h5 (by omega) (by omega) h8) ?_
  rintro e w' ⟨_, hf⟩
  obtain ⟨he, mp', hd', ar', recs', s', g1, g2, g3, g4, g5, g6, g7, g8, g9⟩ := hf (by rw [h6]; exact hfit)
  exact ⟨he, ⟨j, mp', hd', ar', recs', s', g1, g2, g3, g4, g5, by omega, by omega, hfit.1, h9⟩, g8, g9⟩
theorem Do_g (B st d k m n T : Nat) (L : List KV) (A : Option Addr) (nn c : Nat) (tx : List Wr) (w : World) (h : Good w B st d k m n T L) (hR : RW w A nn tx) (hyes : rightB tx = true) (hT : T ≤ 800000000) (hfit : (applyTx L tx).length ≤ 40 ∧ sizeL (applyTx L tx) ≤ 16 * n) :
    Calls Tryz.prog 13 #[.pointer (some ⟨st, 0, none⟩), .slice A nn c] w fun e w' => e = .returned (.int .i64 0) ∧ Good w' B st d k m n (T + 1004) (applyTx L tx) ∧ Below B w w' := by
  refine Calls.mono (Do_gk B st d k m n T L A nn c tx w h hR hyes hT hfit) ?_
  rintro e w' ⟨h1, h2, h3, _⟩
  exact ⟨h1, h2, h3⟩
theorem Do_room_g (B st d k m n T : Nat) (L : List KV) (A : Option Addr) (nn c : Nat) (tx : List Wr) (w : World) (h : Good w B st d k m n T L) (hR : RW w A nn tx) (hyes : rightB tx = true) (hT : T ≤ 800000000) (hno : ¬ ((applyTx L tx).length ≤ 40 ∧ sizeL (applyTx L tx) ≤ 16 * n)) :
    Calls Tryz.prog 13 #[.pointer (some ⟨st, 0, none⟩), .slice A nn c] w fun e w' => e = .returned (.int .i64 140) ∧ Fr [] w w' := by
  obtain ⟨j, mp, hd, ar, recs, s, h1, h2, h3, h4, h5, h6, h7, h8, h9⟩ := h
  refine Calls.mono (Do_main B st j d k m mp hd ar recs L A nn c tx s w h1 hR hyes h2 h3 h4 h5 (by omega) (by omega) h8) ?_
  rintro e w' ⟨hf, _⟩
  exact hf (by rw [h6]; exact hno)
theorem Do_form_g (B st d k m n T : Nat) (L : List KV) (A : Option Addr) (nn c : Nat) (tx : List Wr) (w : World) (h : Good w B st d k m n T L) (hR : RW w A nn tx) (hno : rightB tx = false) :
    Calls Tryz.prog 13 #[.pointer (some ⟨st, 0, none⟩), .slice A nn c] w fun e w' => e = .returned (.int .i64 10) ∧ Fr [] w w' := by
  obtain ⟨j, mp, hd, ar, recs, s, h1, _⟩ := h
  exact Do_form B st j d k m mp hd ar recs L A nn c tx w h1 hR hno
theorem Keys_g (B st d k m n T : Nat) (L : List KV) (w : World) (h : Good w B st d k m n T L) :
    Calls Tryz.prog 14 #[.pointer (some ⟨st, 0, none⟩)] w fun e w' => ∃ v, e = .returned v ∧ OSs w' w.heap.size v (L.map fun p => stB p.1) ∧ Fr [] w w' := by
  obtain ⟨j, mp, hd, ar, recs, s, h1, h2, h3, h4, h5, h6, h7, h8, h9⟩ := h
  exact Keys_c' st d j mp L w h1.blk h1.map (by omega)
theorem Get_g (B st d k m n T : Nat) (L : List KV) (x : ByteArray) (hx : x.size ≤ 1000000000000000) (w : World) (h : Good w B st d k m n T L) :
    Calls Tryz.prog 15 #[.pointer (some ⟨st, 0, none⟩), .string x] w fun e w' => e = .returned (.tuple #[.string (elS (getL (bs x) L)), .bool (getL (bs x) L).isSome]) ∧ w = w' := by
  obtain ⟨j, mp, hd, ar, recs, s, h1, _⟩ := h
  exact Get_c' st d j mp L x hx w h1.blk h1.map
theorem Size_g (B st d k m n T : Nat) (L : List KV) (w : World) (h : Good w B st d k m n T L) :
    Calls Tryz.prog 18 #[.pointer (some ⟨st, 0, none⟩)] w fun e w' => e = .returned (.int .i64 (sizeL L : Int)) ∧ Fr [] w w' := by
  have h0 := small_size h.small
  obtain ⟨j, mp, hd, ar, recs, s, h1, h2, h3, h4, h5, h6, h7, h8, h9⟩ := h
  exact Size_c st d j mp L w h1.blk h1.map (by omega)
theorem Broken_g (B st d k m n T : Nat) (L : List KV) (w : World) (h : Good w B st d k m n T L) :
    Calls Tryz.prog 24 #[.pointer (some ⟨st, 0, none⟩)] w fun e w' => e = .returned (.bool false) ∧ w = w' := by
  obtain ⟨j, mp, hd, ar, recs, s, h1, _⟩ := h
  exact Broken_s st d j mp B k m hd ar recs w h1.blk h1.jr
theorem Crash_g (B st d k m n T : Nat) (L : List KV) (C : Option Addr) (nc cc : Nat) (ch : List UInt8) (w : World) (h : Good w B st d k m n T L) (hC : RB w C nc ch) (hcc : nc ≤ cc) (hd : nc ≠ 0 → ∀ a, C = some a → a.block ≠ d ∧ a.block ≠ k ∧ a.block ≠ m) :
    Calls Tryz.prog 16 #[.pointer (some ⟨d, 0, none⟩), .slice C nc cc] w fun e w' => e = .returned (.tuple #[]) ∧ Good w' B st d k m n T L ∧ Fr [d, k, m] w w' := by
  obtain ⟨j, mp, hd', ar, recs, s, h1, h2, h3, h4, h5, h6, h7, h8, h9⟩ := h
  refine Calls.mono (Crash_c d k m s C nc cc ch w h2 hC hcc hd) ?_
  rintro e w' ⟨rfl, hD, hf⟩
  exact ⟨rfl, ⟨j, mp, hd', ar, recs, s.crash ch, h1.disk hf, hD, h3.crash ch, h4, rfl, h6, h7, h8, h9⟩, hf⟩
theorem Open_g (B st d k m n T : Nat) (L : List KV) (w : World) (h : Good w B st d k m n T L) :
    Calls Tryz.prog 17 #[.pointer (some ⟨d, 0, none⟩)] w fun e w' => ∃ st', e = .returned (.tuple #[.pointer (some ⟨st', 0, none⟩), .int .i64 0]) ∧ Good w' B st' d k m n T L ∧ Good w' B st d k m n T L ∧ Fr [] w w' := by
  have hg := h
  obtain ⟨j, mp, hd', ar, recs, s, h1, h2, h3, h4, h5, h6, h7, h8, h9⟩ := h
  have hlo := h1.jr.lo
  refine Calls.mono (Open_st B d k m hd' ar recs L s w h2 h3 h4 (DSt.off_zero h5) ⟨hlo.2.1, hlo.2.2.1, hlo.2.2.2.1, hlo.2.2.2.2⟩) ?_
  rintro e w' ⟨st', j', mp', rfl, g1, hf⟩
  exact ⟨st', rfl, ⟨j', mp', hd', ar, recs, s, g1, h2.fr hf, h3, h4, h5, h6, h7, h8, h9⟩, hg.fr hf, hf⟩

/-- Writes that are written out. -/
theorem rw_lit {w : World} {b : Nat} {E : TypeId} {fr : Nat × Nat} {cs : Array Value} (tx : List Wr) (h : w.heap[b]? = some (.cells cs E fr)) (hcs : cs = (tx.flatMap Wr.cells).toArray) (hn : tx.length ≤ 1000000) : RW w (some ⟨b, 0, none⟩) tx.length tx := by
  subst hcs
  refine ⟨rfl, by omega, .inr ⟨b, 0, rfl, fun i hi q v hq => ?_⟩⟩
  have key : ∀ (tx : List Wr) (i : Nat) (hi : i < tx.length) (q : Nat) (v : Value), tx[i].cells[q]? = some v → (tx.flatMap Wr.cells)[i * 3 + q]? = some v := by
    intro tx
    induction tx with
    | nil => intro i hi; cases hi
    | cons x r ih =>
      intro i hi q v hq
      have hl : x.cells.length = 3 := rfl
      rw [List.flatMap_cons]
      cases i with
      | zero =>
        have hq3 : q < 3 := by
          have := (List.getElem?_eq_some_iff.1 hq).1
          exact this
        rw [List.getElem?_append_left (by omega), Nat.zero_mul, Nat.zero_add]
        exact hq
      | succ i =>
        rw [List.getElem?_append_right (by omega), hl, show (i + 1) * 3 + q - 3 = i * 3 + q by omega]
        exact ih i (by simpa using hi) q v hq
  have := key tx i hi q v hq
  simp only [World.cell?, h, Nat.zero_add]
  simpa using this

/-- A transaction that is written out. -/
theorem Do_lit (B st d k m n T : Nat) (L : List KV) (nn : Nat) (tx : List Wr) (cs : Array Value) (E : TypeId) (w : World) (h : Good w B st d k m n T L) (hcs : cs = (tx.flatMap Wr.cells).toArray) (hnn : tx.length = nn) (hn : nn ≤ 1000000) (hyes : rightB tx = true) (hT : T ≤ 800000000) (L' : List KV) (hL' : applyTx L tx = L') (hfit : L'.length ≤ 40 ∧ sizeL L' ≤ 16 * n) :
    Calls Tryz.prog 13 #[.pointer (some ⟨st, 0, none⟩), .slice (some ⟨w.heap.size, 0, none⟩) nn nn] (w.alloc (.cells cs E)) fun e w' => e = .returned (.int .i64 0) ∧ Good w' B st d k m n (T + 1004) L' ∧ Below B w w' := by
  subst hnn hL'
  have hf : Fr [] w (w.alloc (.cells cs E)) := (Fr.refl [] w).alloc _
  refine Calls.mono (Do_g B st d k m n T L _ tx.length tx.length tx _ (h.fr hf) (rw_lit tx (heap_alloc_new w (.cells cs E)) hcs hn) hyes hT hfit) ?_
  rintro e w' ⟨he, hg, hb⟩
  exact ⟨he, hg, (hf.below h.size (by simp)).trans hb⟩
theorem Do_lit_room (B st d k m n T : Nat) (L : List KV) (nn : Nat) (tx : List Wr) (cs : Array Value) (E : TypeId) (w : World) (h : Good w B st d k m n T L) (hcs : cs = (tx.flatMap Wr.cells).toArray) (hnn : tx.length = nn) (hn : nn ≤ 1000000) (hyes : rightB tx = true) (hT : T ≤ 800000000) (hno : ¬ ((applyTx L tx).length ≤ 40 ∧ sizeL (applyTx L tx) ≤ 16 * n)) :
    Calls Tryz.prog 13 #[.pointer (some ⟨st, 0, none⟩), .slice (some ⟨w.heap.size, 0, none⟩) nn nn] (w.alloc (.cells cs E)) fun e w' => e = .returned (.int .i64 140) ∧ Fr [] w w' := by
  subst hnn
  have hf : Fr [] w (w.alloc (.cells cs E)) := (Fr.refl [] w).alloc _
  refine Calls.mono (Do_room_g B st d k m n T L _ tx.length tx.length tx _ (h.fr hf) (rw_lit tx (heap_alloc_new w (.cells cs E)) hcs hn) hyes hT hno) ?_
  rintro e w' ⟨he, hg⟩
  exact ⟨he, hf.then hg⟩
theorem Do_lit_form (B st d k m n T : Nat) (L : List KV) (nn : Nat) (tx : List Wr) (cs : Array Value) (E : TypeId) (w : World) (h : Good w B st d k m n T L) (hcs : cs = (tx.flatMap Wr.cells).toArray) (hnn : tx.length = nn) (hn : nn ≤ 1000000) (hno : rightB tx = false) :
    Calls Tryz.prog 13 #[.pointer (some ⟨st, 0, none⟩), .slice (some ⟨w.heap.size, 0, none⟩) nn nn] (w.alloc (.cells cs E)) fun e w' => e = .returned (.int .i64 10) ∧ Fr [] w w' := by
  subst hnn
  have hf : Fr [] w (w.alloc (.cells cs E)) := (Fr.refl [] w).alloc _
  refine Calls.mono (Do_form_g B st d k m n T L _ tx.length tx.length tx _ (h.fr hf) (rw_lit tx (heap_alloc_new w (.cells cs E)) hcs hn) hno) ?_
  rintro e w' ⟨he, hg⟩
  exact ⟨he, hf.then hg⟩
theorem Crash_lit (B st d k m n T : Nat) (L : List KV) (nn : Nat) (ch : List UInt8) (cs : Array Value) (E : TypeId) (w : World) (h : Good w B st d k m n T L) (hcs : cs = (ch.map encB).toArray) (hnn : ch.length = nn) (hn : nn ≤ 1000000) :
    Calls Tryz.prog 16 #[.pointer (some ⟨d, 0, none⟩), .slice (some ⟨w.heap.size, 0, none⟩) nn nn] (w.alloc (.cells cs E)) fun e w' => e = .returned (.tuple #[]) ∧ Good w' B st d k m n T L ∧ Below B w w' ∧ Fr [d, k, m] w w' := by
  subst hcs hnn
  have hf : Fr [] w (w.alloc (.cells (ch.map encB).toArray E)) := (Fr.refl [] w).alloc _
  have hlt : d < w.heap.size ∧ k < w.heap.size ∧ m < w.heap.size := by
    obtain ⟨j, mp, hd', ar, recs, s, h1, h2, _⟩ := h
    exact h2.lts
  have hlo := h.lo
  refine Calls.mono (Crash_g B st d k m n T L _ ch.length ch.length ch _ (h.fr hf) ⟨rfl, by omega, .inr ⟨w.heap.size, 0, rfl, fun j hj => ?_⟩⟩ (Nat.le_refl _) (by intro _ a ha; cases ha; simp only; omega)) ?_
  · have h1 := heap_alloc_new w (.cells (ch.map encB).toArray E)
    rw [Nat.zero_add]
    simp only [World.cell?, h1]
    simp [hj, encB]
  · rintro e w' ⟨he, hg, hfr⟩
    have hf2 : Fr [d, k, m] w w' := (hf.mono (by simp)).trans hfr (fun x hx => .inl hx)
    exact ⟨he, hg, hf2.below h.size (by simp; omega), hf2⟩
theorem elS_some (v : List UInt8) : elS (some v) = stB v := rfl
theorem elS_none : elS none = ⟨#[]⟩ := rfl
end Go.Proofs.YtiialjncdhhceaaGreat
