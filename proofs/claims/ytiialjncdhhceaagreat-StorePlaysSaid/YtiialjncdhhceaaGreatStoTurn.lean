/- The boxes of the law's own model beside a store in the course of a play; what a transaction leaves. -/
import Derived.Test.YtiialjncdhhceaaGreatStoHolds
import Derived.Test.YtiialjncdhhceaaGreatStoPlay
namespace Go.Proofs.YtiialjncdhhceaaGreat
open Go.RowKit
set_option linter.unusedVariables false
set_option linter.unusedSimpArgs false

/-- A guarded load of many cells, where it is wanted. -/
theorem ld_arr_w {P : Program} {ops : Array Oper} {rest : List Oper} {o : Oper} {a : Act} {Q : Exit → Act → World → Prop} {w : World} (t : TypeId) (cs : List Value) (d : TypeDesc) (hu : P.underlying t = some d) (hd : d.isRow = true) (hsz : (P.info? t).map (·.size) = some cs.length) (hg : Region.wanted o (yielded ops a.tmps) = true) {x : Operand} (hop : o.op = .load t x) (b off : Nat)
    (hx : a.eval x = .pointer (some ⟨b, off, none⟩)) (hr : w.rangeAt b off cs) (h : wpList P ops Q rest (a.put o.dst (.agg cs.toArray)) w) : wpList P ops Q (o :: rest) a w := by
  refine wpList_step fun K hK => ?_
  rw [if_pos hg]
  exact Go.wp_load_mid t x hop b off hx cs d hr hu hd hsz (hK _ _ h)
theorem rb_not_two {w : World} {A : Option Addr} {n : Nat} {l : List UInt8} {b : Nat} {u v : Value} {t : TypeId} (h : RB w A n l) (hb : w.heap[b]? = some (.cells #[u, v] t (0, 0))) (hu : ∃ a m c, u = .slice a m c) (hv : ∃ a m c, v = .slice a m c) (h0 : n ≠ 0) :
    ∀ a, A = some a → a.block ≠ b := by
  intro a ha hab
  obtain ⟨h1, h2, h3⟩ := h
  obtain ⟨a1, m1, c1, rfl⟩ := hu
  obtain ⟨a2, m2, c2, rfl⟩ := hv
  rcases h3 with h3 | ⟨b', off, hA, hc⟩
  · exact h0 h3
  · rw [hA] at ha
    cases ha
    simp only at hab
    subst hab
    have h4 := hc 0 (by omega)
    rw [Nat.add_zero, cell_of_row w _ off _ _ _ hb] at h4
    match off, h4 with
    | 0, h4 => simp at h4
    | 1, h4 => simp at h4
    | _ + 2, h4 => simp at h4
theorem MRow.form {w : World} {base : Nat} {u v : Value} {L : List KV} (h : MRow w base u v L) : ∃ A c C c2, u = .slice A L.length c ∧ v = .slice C L.length c2 ∧ MR w A C L.length L := by
  obtain ⟨A, c, h1, _, h2, _⟩ := h.1.form
  obtain ⟨C, c2, h3, _, h4, _⟩ := h.2.1.form
  rw [List.length_map] at h1 h2 h3 h4
  exact ⟨A, c, C, c2, h1, h3, h2, h4⟩
theorem own_ne {w : World} {base : Nat} {v : Value} {l : List ByteArray} {b : Nat} {cs : Array Value} {t : TypeId} (h : OSs w base v l) (hb : w.heap[b]? = some (.cells cs t (0, 0))) (ht : t ≠ 9) : v.ownBlock ≠ some b := by
  intro he
  obtain ⟨cs', hc⟩ := h.cells b (by rw [he]; simp)
  rw [hb] at hc
  injection hc with hc
  injection hc with _ h2
  exact ht h2
theorem Run.put {w w' : World} {B st d k m n T : Nat} {L : List KV} {z : Bool} {F : List Nat} {b : Nat} {u v : Value} {t : TypeId} (h : Run w B st d k m n T L z F) (hb : b ∈ F) (hc : w.heap[b]? = some (.cells #[u, v] t (0, 0))) (hu : ∃ a m c, u = .slice a m c) (hv : ∃ a m c, v = .slice a m c)
    (hf : Fr [b] w w') : Run w' B st d k m n T L z F := by
  obtain ⟨j, mp, hd, ar, recs, s, h1, h2, h3, h4, h5, h6, h7, h8, h9, h10, h11⟩ := h
  have nb : ∀ x, (x = st ∨ x = j ∨ x = d ∨ x = k ∨ x = m ∨ jRow w j x) → x ∉ [b] := fun x hx hm => (h11 x hx).1 (by rw [List.mem_singleton.1 hm]; exact hb)
  have hj := nb j (by simp)
  have hmp : mp ∉ [b] := by
    obtain ⟨es, cl, he⟩ := h1.map.block
    intro hm
    rw [List.mem_singleton.1 hm, hc] at he
    cases he
  have hjl := (h11 j (by simp)).2
  have hcj : ∀ x, jRow w' j x → jRow w j x := fun x ⟨v, hv, ho⟩ => ⟨v, (cell_fr hf hjl hj 4).symm.trans hv, ho⟩
  have g1 : IsSt w' B st j d k m mp hd ar recs L := by
    obtain ⟨A, nA, c, C, nc, cc, j1, j2, j3, j4, j5, j6⟩ := h1.jr.ex
    refine ⟨(hf.block st (h11 st (by simp)).2 (nb st (by simp))).trans h1.blk, h1.map.kept hf hmp, ⟨⟨A, nA, c, C, nc, cc, (hf.block j hjl hj).trans j1, ?_, j3, j4.kept hf (fun x e => nb x ?_), j5, j6⟩, h1.jr.apart, ⟨h1.jr.lo.1, h1.jr.lo.2.1, h1.jr.lo.2.2.1, h1.jr.lo.2.2.2.1, Nat.le_trans h1.jr.lo.2.2.2.2 hf.size⟩⟩, h1.lo, h1.ap⟩
    · exact j2.kept' hf (fun h0 a e => by have := rb_not_two j2 hc hu hv h0 a e; simpa using this)
    · exact .inr (.inr (.inr (.inr (.inr ⟨.slice C nc cc, cell_of_row _ _ 4 _ _ _ j1, e⟩))))
  refine ⟨j, mp, hd, ar, recs, s, g1, h2.kept hf (nb d (by simp)) (nb k (by simp)) (nb m (by simp)), h3, h4, h5, h6, h7, h8, h9, h10, fun x hx => ?_⟩
  have hs := hf.size
  have h12 := h11 x (by
    rcases hx with h | h | h | h | h | h
    · exact .inl h
    · exact .inr (.inl h)
    · exact .inr (.inr (.inl h))
    · exact .inr (.inr (.inr (.inl h)))
    · exact .inr (.inr (.inr (.inr (.inl h))))
    · exact .inr (.inr (.inr (.inr (.inr (hcj x h))))))
  exact ⟨h12.1, by omega⟩

/-- A box b that holds a model's two rows, L; it and its rows are among F. -/
structure Box (B b : Nat) (F : List Nat) (u v : Value) (L : List KV) (w : World) : Prop where
  c : w.heap[b]? = some (.cells #[u, v] 48 (0, 0))
  r : MRow w B u v L
  i : b ∈ F
  o : ∀ z, (u.ownBlock = some z ∨ v.ownBlock = some z) → z ∈ F
theorem Box.lt {B b : Nat} {F : List Nat} {u v : Value} {L : List KV} {w : World} (h : Box B b F u v L w) : b < w.heap.size := (Array.getElem?_eq_some_iff.1 h.c).1
theorem Box.stays {B b : Nat} {F : List Nat} {u v : Value} {L : List KV} {w w' : World} (h : Box B b F u v L w) (hS : Stays w w' F) : Box B b F u v L w' :=
  ⟨(hS.block h.lt h.i).trans h.c, ⟨h.r.1.stays hS (fun z hz => h.o z (.inl hz)), h.r.2.1.stays hS (fun z hz => h.o z (.inr hz)), h.r.2.2⟩, h.i, h.o⟩
theorem Box.fr {B b : Nat} {F : List Nat} {u v : Value} {L : List KV} {w w' : World} (h : Box B b F u v L w) (hf : Fr [] w w') : Box B b F u v L w' := h.stays (.of hf (by simp))
theorem Box.sl {B b : Nat} {F : List Nat} {u v : Value} {L : List KV} {w : World} (h : Box B b F u v L w) : (∃ a m c, u = .slice a m c) ∧ (∃ a m c, v = .slice a m c) := ⟨OSs.slice h.r.1, OSs.slice h.r.2.1⟩
theorem Box.one {B b : Nat} {F : List Nat} {u v : Value} {L : List KV} {w : World} (h : Box B b F u v L w) : ∀ z ∈ [u, v], z.oneCell' = true := by
  obtain ⟨⟨_, _, _, h1⟩, ⟨_, _, _, h2⟩⟩ := h.sl
  intro z hz
  simp only [List.mem_cons, List.not_mem_nil, or_false] at hz
  rcases hz with rfl | rfl
  · rw [h1]; rfl
  · rw [h2]; rfl
/-- One box into the other. -/
theorem Box.put {B b b' : Nat} {F : List Nat} {u v u' v' : Value} {L L' : List KV} {w w' : World} (h : Box B b F u v L w) (h' : Box B b' F u' v' L' w) (hne : b ≠ b') (hw : w' = w.setCells b' 0 [u, v]) : Fr [b'] w w' ∧ Box B b F u v L w' ∧ Box B b' F u v L w' := by
  subst hw
  have hf : Fr [b'] w (w.setCells b' 0 [u, v]) := fr_setCells (Fr.refl _ _) b' 0 _ (.inl (by simp))
  have hM : MRow (w.setCells b' 0 [u, v]) B u v L := ⟨h.r.1.kept hf (fun z hz hm => own_ne h.r.1 h'.c (by decide) (List.mem_singleton.1 hm ▸ hz)), h.r.2.1.kept hf (fun z hz hm => own_ne h.r.2.1 h'.c (by decide) (List.mem_singleton.1 hm ▸ hz)), h.r.2.2⟩
  exact ⟨hf, ⟨(hf.block b h.lt (by simpa using hne)).trans h.c, hM, h.i, h.o⟩, ⟨set_two u v h'.c, hM, h'.i, h.o⟩⟩
/-- The step's own box. -/
structure XRow (b : Nat) (F : List Nat) (xs : List Value) (w : World) : Prop where
  x : w.rangeAt b 0 xs
  l : b < w.heap.size
  i : b ∈ F
  fl : ∀ x ∈ F, x < w.heap.size
theorem XRow.stays {b : Nat} {F : List Nat} {xs : List Value} {w w' : World} (h : XRow b F xs w) (hS : Stays w w' F) : XRow b F xs w' := by
  obtain ⟨S, hf, hS⟩ := hS
  have hz := hf.size
  exact ⟨range_fr hf h.x h.l (fun hm => hS _ hm h.i), by have := h.l; omega, h.i, fun x hx => by have := h.fl x hx; omega⟩
theorem XRow.fr {b : Nat} {F : List Nat} {xs : List Value} {w w' : World} (h : XRow b F xs w) (hf : Fr [] w w') : XRow b F xs w' := h.stays (.of hf (by simp))
theorem XRow.put {b b' : Nat} {F : List Nat} {xs : List Value} {w w' : World} (h : XRow b F xs w) (hf : Fr [b'] w w') (hne : b ≠ b') : XRow b F xs w' :=
  ⟨range_fr hf h.x h.l (by simpa using hne), by have := h.l; have := hf.size; omega, h.i, fun x hx => by have := h.fl x hx; have := hf.size; omega⟩
theorem Run.stays {w w' : World} {B st d k m n T : Nat} {L : List KV} {z : Bool} {F : List Nat} (h : Run w B st d k m n T L z F) (hf : Fr [d, k, m] w w') : Stays w w' F := by
  have hd := h.dkm
  refine .of hf (fun x hx => ?_)
  simp only [List.mem_cons, List.not_mem_nil, or_false] at hx
  rcases hx with rfl | rfl | rfl
  · exact hd.1
  · exact hd.2.1
  · exact hd.2.2.1
theorem LostR.stays {w w' : World} {d k m n T st : Nat} {L L' : List KV} {F : List Nat} (h : LostR w d k m n T st L L' F) (hf : Fr [d, k, m] w w') : Stays w w' F := by
  obtain ⟨_, s, _, _, _, _, _, _, _, q1, q2, q3⟩ := h
  refine .of hf (fun x hx => ?_)
  simp only [List.mem_cons, List.not_mem_nil, or_false] at hx
  rcases hx with rfl | rfl | rfl
  · exact q1
  · exact q2
  · exact q3
theorem LostR.fr {w w' : World} {d k m n T st : Nat} {L L' : List KV} {F : List Nat} (h : LostR w d k m n T st L L' F) (hf : Fr [] w w') : LostR w' d k m n T st L L' F := by
  obtain ⟨h1, s, h2, h3⟩ := h
  exact ⟨h1.fr hf, s, h2.fr hf, h3⟩

def fitsB (n : Nat) (L : List KV) : Bool := decide (L.length ≤ 40) && decide (sizeL L ≤ 16 * n)
theorem fitsB_iff {n : Nat} {L : List KV} : fitsB n L = true ↔ L.length ≤ 40 ∧ sizeL L ≤ 16 * n := by
  unfold fitsB
  simp
theorem apply_size (tx : List Wr) : ∀ L : List KV, sizeL (applyTx L tx) ≤ sizeL L + sumW tx + 24 * tx.length := by
  induction tx with
  | nil => intro L; simp [applyTx, doAll]
  | cons x r ih =>
    intro L
    have h1 := ih (doLn L x.ln)
    have h2 := doLn_size L x.ln
    have h3 : applyTx L (x :: r) = applyTx (doLn L x.ln) r := rfl
    have h4 : sumW (x :: r) = x.b.size + x.key.size + sumW r := rfl
    have h5 : x.ln.key = x.key := rfl
    have h6 : x.ln.x = x.b := rfl
    rw [h5, h6] at h2
    rw [h3, h4, List.length_cons]
    omega
/-- A transaction, whatever it is, wherever the power goes. -/
theorem Do_any {B st d k m n T : Nat} {L : List KV} {z : Bool} {F : List Nat} (A : Option Addr) (nn c : Nat) (tx : List Wr) (w : World) (h : Run w B st d k m n T L z F) (hR : RW w A nn tx) (hF : ∀ x ∈ F, x < w.heap.size) (hT : T ≤ 800000000) (hB : B ≤ w.heap.size) :
    Calls Tryz.prog 13 #[.pointer (some ⟨st, 0, none⟩), .slice A nn c] w fun e w' => ∃ f : Int, e = .returned (.int .i64 f) ∧ Below B w w' ∧ Stays w w' F ∧
      ((rightB tx = false ∧ f = 10 ∧ Run w' B st d k m n (T + 1004) L z F) ∨ (rightB tx = true ∧ fitsB n (applyTx L tx) = false ∧ f = 140 ∧ Run w' B st d k m n (T + 1004) L z F) ∨
       (rightB tx = true ∧ fitsB n (applyTx L tx) = true ∧ ((f = 0 ∧ Run w' B st d k m n (T + 1004) (applyTx L tx) z F) ∨ (z = false ∧ f = 131 ∧ LostR w' d k m n (T + 1004) st L (applyTx L tx) F)))) := by
  cases hr : rightB tx with
  | false =>
    refine (Do_form_r A nn c tx w h hR hr).mono ?_
    rintro e w' ⟨rfl, hf⟩
    exact ⟨10, rfl, hf.below hB (by simp), .of hf (by simp), .inl ⟨rfl, rfl, (h.fr hf).le (by omega)⟩⟩
  | true =>
    refine (Do_r A nn c tx w h hR hr hF hT).mono ?_
    rintro e w' ⟨h1, h2⟩
    cases hfi : fitsB n (applyTx L tx) with
    | false =>
      obtain ⟨rfl, hf⟩ := h1 (fun hc => by rw [fitsB_iff.2 hc] at hfi; cases hfi)
      exact ⟨140, rfl, hf.below hB (by simp), .of hf (by simp), .inr (.inl ⟨rfl, rfl, rfl, (h.fr hf).le (by omega)⟩)⟩
    | true =>
      obtain ⟨hb, hs, hc⟩ := h2 (fitsB_iff.1 hfi)
      rcases hc with ⟨rfl, hr'⟩ | ⟨hz, rfl, hl⟩
      · exact ⟨0, rfl, hb, hs, .inr (.inr ⟨rfl, rfl, .inl ⟨rfl, hr'⟩⟩)⟩
      · exact ⟨131, rfl, hb, hs, .inr (.inr ⟨rfl, rfl, .inr ⟨hz, rfl, hl⟩⟩)⟩

/-- Behind the switch. -/
def SwA (w0 : World) (b9 bn bx st d k m n T : Nat) (F : List Nat) (u v un vn : Value) (L Ln : List KV) (xs : List Value) (z : Bool) (f : Int) (w : World) : Prop :=
  Below w0.heap.size w0 w ∧ XRow bx F xs w ∧ Box w0.heap.size b9 F u v L w ∧
    (((f = 10 ∨ f = 140) ∧ (∃ ub vb Lb, Box w0.heap.size bn F ub vb Lb w) ∧ Run w w0.heap.size st d k m n T L z F) ∨
      (Box w0.heap.size bn F un vn Ln w ∧ ((f = 0 ∧ Run w w0.heap.size st d k m n T Ln z F) ∨ (f = 131 ∧ LostR w d k m n T st L Ln F))))
/-- Behind 'm = now'. -/
def SwB (w0 : World) (b9 bn bx st d k m n T : Nat) (F : List Nat) (u v un vn : Value) (L Ln : List KV) (xs : List Value) (z : Bool) (f : Int) (w : World) : Prop :=
  Below w0.heap.size w0 w ∧ XRow bx F xs w ∧
    ((f ≠ 131 ∧ ∃ u0 v0 L0, Box w0.heap.size b9 F u0 v0 L0 w ∧ Run w w0.heap.size st d k m n T L0 z F) ∨
      (f = 131 ∧ Box w0.heap.size b9 F u v L w ∧ Box w0.heap.size bn F un vn Ln w ∧ LostR w d k m n T st L Ln F))
/-- Behind the crash. -/
def SwC (w0 : World) (b9 d k m n T : Nat) (F : List Nat) (sv : Value) (w : World) : Prop :=
  ∃ st z u0 v0 L0, sv = .pointer (some ⟨st, 0, none⟩) ∧ Below w0.heap.size w0 w ∧ Box w0.heap.size b9 F u0 v0 L0 w ∧ Run w w0.heap.size st d k m n T L0 z F
end Go.Proofs.YtiialjncdhhceaaGreat
