/- The law's own model of a store: rows of keys and of bytes; one write; its size. -/
import Derived.Test.YtiialjncdhhceaaGreatRunStoRow
import Derived.Test.YtiialjncdhhceaaGreatTextO
import Derived.Deep.CutRange
namespace Go.Proofs.YtiialjncdhhceaaGreat
open Go.RowKit
set_option linter.unusedVariables false
set_option linter.unusedSimpArgs false

/-! ### plain laws -/
def wStep (k v : List UInt8) (acc : List KV × Bool) (p : KV) : List KV × Bool :=
  let a1 := if !acc.2 && bytesBefore k p.1 then (acc.1 ++ [(k, v)], true) else acc
  (if p.1 = k then a1.1 else a1.1 ++ [p], a1.2)
def wEnd (k v : List UInt8) (acc : List KV × Bool) : List KV := if acc.2 then acc.1 else acc.1 ++ [(k, v)]
theorem wStep_done (k v : List UInt8) (L : List KV) : ∀ acc, wEnd k v (L.foldl (wStep k v) (acc, true)) = acc ++ delL k L := by
  induction L with
  | nil => intro acc; simp [wEnd, delL]
  | cons y r ih =>
    intro acc
    rw [List.foldl_cons]
    by_cases h : y.1 = k
    · have : wStep k v (acc, true) y = (acc, true) := by simp [wStep, h]
      rw [this, ih]
      simp [delL, h]
    · have : wStep k v (acc, true) y = (acc ++ [y], true) := by simp [wStep, h]
      rw [this, ih]
      simp [delL, h]
theorem wStep_put (k v : List UInt8) (L : List KV) : ∀ acc, wEnd k v (L.foldl (wStep k v) (acc, false)) = acc ++ putL k v L := by
  induction L with
  | nil => intro acc; simp [wEnd, putL, delL, insL]
  | cons y r ih =>
    intro acc
    rw [List.foldl_cons]
    by_cases hb : bytesBefore k y.1 = true
    · have h : ¬ y.1 = k := by
        intro e
        rw [e, WideAt.bytes_irrefl] at hb
        cases hb
      have : wStep k v (acc, false) y = (acc ++ [(k, v)] ++ [y], true) := by simp [wStep, h, hb]
      rw [this, wStep_done]
      simp [putL, delL, insL, h, hb]
    · by_cases h : y.1 = k
      · have : wStep k v (acc, false) y = (acc, false) := by rw [wStep]; simp only [h, if_true]; rw [h] at hb; simp [hb]
        rw [this, ih]
        simp [putL, delL, h]
      · have : wStep k v (acc, false) y = (acc ++ [y], false) := by simp [wStep, h, hb]
        rw [this, ih]
        simp [putL, delL, insL, h, hb]
theorem wStep_apply (L : List KV) (x : Wr) : wEnd (bs x.key) (bs x.b) (L.foldl (wStep (bs x.key) (bs x.b)) ([], x.drop)) = applyW L x := by
  cases h : x.drop with
  | false => rw [wStep_put, apply_put _ _ h]; rfl
  | true => rw [wStep_done, apply_drop _ _ h]; rfl
theorem wStep_len (k v : List UInt8) (L : List KV) (n : Nat) : ∀ acc, (L.foldl (wStep k v) acc).1.length ≤ acc.1.length + 2 * L.length := by
  induction L with
  | nil => intro acc; exact Nat.le_refl _
  | cons y r ih =>
    intro acc
    rw [List.foldl_cons]
    have h1 := ih (wStep k v acc y)
    have h2 : (wStep k v acc y).1.length ≤ acc.1.length + 2 := by
      unfold wStep
      dsimp only
      split <;> split <;> simp <;> omega
    simp only [List.length_cons]
    omega
theorem less_bs (x y : ByteArray) : Op.bytesLess x.toList y.toList = bytesBefore (bs x) (bs y) := by
  have key : ∀ a b : List UInt8, Op.bytesLess a b = bytesBefore a b := by
    intro a
    induction a with
    | nil => intro b; cases b <;> simp [Op.bytesLess, bytesBefore]
    | cons x a ih =>
      intro b
      cases b with
      | nil => simp [Op.bytesLess, bytesBefore]
      | cons y b =>
        rw [Op.bytesLess, bytesBefore, ih]
  rw [key, ByteArray.toList_eq, ByteArray.toList_eq]
  rfl
theorem same_bs (x y : ByteArray) : (x.toList == y.toList) = (bs x == bs y) := by
  rw [ByteArray.toList_eq, ByteArray.toList_eq]
  rfl

/-- The model's rows in memory, of the call's own. -/
def MRow (w : World) (base : Nat) (u v : Value) (L : List KV) : Prop := OSs w base u (L.map fun p => stB p.1) ∧ OSs w base v (L.map fun p => stB p.2) ∧ ∀ k, u.ownBlock = some k → v.ownBlock ≠ some k
/-- The model's rows, read. -/
def MR (w : World) (A C : Option Addr) (n : Nat) (L : List KV) : Prop := RSs w A n (L.map fun p => stB p.1) ∧ RSs w C n (L.map fun p => stB p.2)
theorem MR.fr {w w' : World} {A C : Option Addr} {n : Nat} {L : List KV} (h : MR w A C n L) (hf : Fr [] w w') : MR w' A C n L := ⟨h.1.fr hf, h.2.fr hf⟩

def nilS : Value := .slice none 0 0
theorem infoMo : (Tryz.prog.info? 48).map (fun i => (i.zero, i.size)) = some (some (.agg #[nilS, nilS]), 2) := by kernel_rfl
theorem set_two {w : World} {b : Nat} {p q : Value} {t : TypeId} (u v : Value) (h : w.heap[b]? = some (.cells #[p, q] t (0, 0))) : (w.setCells b 0 [u, v]).heap[b]? = some (.cells #[u, v] t (0, 0)) := by
  have h1 := heap_setCell_same w b 0 _ _ u h
  have h2 := heap_setCell_same _ b 1 _ _ v h1
  simpa [World.setCells] using h2

/-- The blocks of a call of 'with': the model, the write, the new model. -/
def SM (N : Nat) (u v : Value) (x : Wr) (vA vC : Value) (w' : World) : Prop := w'.heap[N + 2 + 1]? = some (.cells #[u, v] 48 (0, 0)) ∧ w'.heap[N + 1]? = some (.cells x.cells.toArray 32 (0, 0)) ∧ w'.heap[N]? = some (.cells #[vA, vC] 48 (0, 0))
theorem SM.kept {N : Nat} {u v : Value} {x : Wr} {vA vC : Value} {w w' : World} (h : SM N u v x vA vC w) {T : List Nat} (hf : Fr T w w') (hT : ∀ z ∈ T, N + 4 ≤ z) : SM N u v x vA vC w' := by
  have key : ∀ {b : Nat} {o : Obj}, b ≤ N + 3 → w.heap[b]? = some o → w'.heap[b]? = some o := fun hb h => (hf.block _ (Array.getElem?_eq_some_iff.1 h).1 (fun hm => by have := hT _ hm; omega)).trans h
  exact ⟨key (by omega) h.1, key (by omega) h.2.1, key (by omega) h.2.2⟩
section
variable {N : Nat} {u v : Value} {x : Wr} {vA vC : Value} {w : World}
theorem SM.c20 (h : SM N u v x vA vC w) : w.cell? ⟨N, 0, none⟩ = some vA := cell_of_row _ _ 0 _ _ _ h.2.2
theorem SM.c21 (h : SM N u v x vA vC w) : w.cell? ⟨N, 1, none⟩ = some vC := cell_of_row _ _ 1 _ _ _ h.2.2
theorem SM.c30 (h : SM N u v x vA vC w) : w.cell? ⟨N + 1, 0, none⟩ = some (.string x.key) := cell_of_row _ _ 0 _ _ _ h.2.1
theorem SM.c31 (h : SM N u v x vA vC w) : w.cell? ⟨N + 1, 1, none⟩ = some (.string x.b) := cell_of_row _ _ 1 _ _ _ h.2.1
theorem SM.c50 (h : SM N u v x vA vC w) : w.cell? ⟨N + 2 + 1, 0, none⟩ = some u := cell_of_row _ _ 0 _ _ _ h.1
theorem SM.c51 (h : SM N u v x vA vC w) : w.cell? ⟨N + 2 + 1, 1, none⟩ = some v := cell_of_row _ _ 1 _ _ _ h.1
theorem SM.z50 (h : SM N u v x vA vC w) : w.frozen? ⟨N + 2 + 1, 0, none⟩ = false := frozen_of_row _ _ 0 _ _ h.1
theorem SM.z51 (h : SM N u v x vA vC w) : w.frozen? ⟨N + 2 + 1, 1, none⟩ = false := frozen_of_row _ _ 1 _ _ h.1
theorem SM.set0 (h : SM N u v x vA vC w) (u1 : Value) : SM N u1 v x vA vC (w.setCell ⟨N + 2 + 1, 0, none⟩ u1) :=
  ⟨heap_setCell_same w (N + 2 + 1) 0 _ _ u1 h.1, (heap_setCell_other w _ (N + 1) _ (by show N + 1 ≠ N + 2 + 1; omega)).trans h.2.1, (heap_setCell_other w _ N _ (by show N ≠ N + 2 + 1; omega)).trans h.2.2⟩
theorem SM.set1 (h : SM N u v x vA vC w) (v1 : Value) : SM N u v1 x vA vC (w.setCell ⟨N + 2 + 1, 1, none⟩ v1) :=
  ⟨heap_setCell_same w (N + 2 + 1) 1 _ _ v1 h.1, (heap_setCell_other w _ (N + 1) _ (by show N + 1 ≠ N + 2 + 1; omega)).trans h.2.1, (heap_setCell_other w _ N _ (by show N ≠ N + 2 + 1; omega)).trans h.2.2⟩
end
theorem OSs.slice {w : World} {base : Nat} {v : Value} {l : List ByteArray} (h : OSs w base v l) : ∃ A n c, v = .slice A n c := by
  obtain ⟨A, c, rfl, _⟩ := h.form
  exact ⟨_, _, _, rfl⟩
theorem range_of_two {w : World} {b : Nat} {u v : Value} {t : TypeId} (h : w.heap[b]? = some (.cells #[u, v] t (0, 0))) : w.rangeAt b 0 [u, v] := by
  intro j z hj
  have hj2 : j < 2 := by have := (List.getElem?_eq_some_iff.1 hj).1; simpa using this
  rw [Nat.zero_add]
  rcases Nat.lt_or_ge j 1 with h1 | h1
  · have : j = 0 := by omega
    subst this
    cases hj
    exact cell_of_row _ _ 0 _ _ _ h
  · have : j = 1 := by omega
    subst this
    cases hj
    exact cell_of_row _ _ 1 _ _ _ h
theorem own_step {w w1 : World} {base : Nat} {u v u1 : Value} {l2 : List ByteArray} (hv : OSs w base v l2) (hap : ∀ k, u.ownBlock = some k → v.ownBlock ≠ some k) (hf : Fr u.ownBlock.toList w w1) (hn : Nw w u u1) : OSs w1 base v l2 ∧ (∀ k, u1.ownBlock = some k → v.ownBlock ≠ some k) := by
  refine ⟨hv.kept hf (fun k hk hm => hap k (by simpa using hm) hk), fun k hk hvk => ?_⟩
  rcases hn k hk with h | h
  · exact hap k h hvk
  · have := (hv.lt k hvk).2
    omega

theorem results_cell1 {fn : Func} {c : Tmp} {t : TypeId} (h : fn.results = #[.cell c t]) (tmps : Array Value) (P : Program) (w : World) {b : Nat} {v : Value} (hp : tmps.getD c undef = .pointer (some ⟨b, 0, none⟩)) (hv : (loadVar t ⟨b, 0, none⟩).run P w = .ok v w) :
    (results fn tmps).run P w = .ok v w := by
  have hp' : tmps[c]?.getD undef = .pointer (some ⟨b, 0, none⟩) := by rw [← hp]; simp
  simp [results, h, asAddr, hp', hv]
/-- A fact of the world that stays where only blocks from base on turn. -/
def Keeps (base : Nat) (E : World → Prop) : Prop := ∀ (T : List Nat) (w w' : World), Fr T w w' → (∀ z ∈ T, base ≤ z) → E w → E w'
theorem Keeps.top (base : Nat) : Keeps base (fun _ => True) := fun _ _ _ _ _ _ => trivial
theorem Keeps.cells {base bA oA bC oC : Nat} {s t : ByteArray} (hA : bA < base) (hC : bC < base) : Keeps base (fun w => w.cell? ⟨bA, oA, none⟩ = some (.string s) ∧ w.cell? ⟨bC, oC, none⟩ = some (.string t)) :=
  fun T w w' hf hT h => ⟨hf.cell h.1 (fun hm => by have h1 : base ≤ bA := hT bA hm; omega), hf.cell h.2 (fun hm => by have h1 : base ≤ bC := hT bC hm; omega)⟩
theorem keep_set {N bA oA bC oC : Nat} {s t : ByteArray} (hA : bA < N) (hC : bC < N) : ∀ (w : World) (i : Nat) (z : Value), (w.cell? ⟨bA, oA, none⟩ = some (.string s) ∧ w.cell? ⟨bC, oC, none⟩ = some (.string t)) → ((w.setCell ⟨N + 2 + 1, i, none⟩ z).cell? ⟨bA, oA, none⟩ = some (.string s) ∧ (w.setCell ⟨N + 2 + 1, i, none⟩ z).cell? ⟨bC, oC, none⟩ = some (.string t)) := by
  intro w i z h
  have hf : Fr [N + 2 + 1] w (w.setCell ⟨N + 2 + 1, i, none⟩ z) := (Fr.refl _ _).setCell _ (.inl (by simp)) _
  exact ⟨hf.cell h.1 (by simp; omega), hf.cell h.2 (by simp; omega)⟩
/-- Amid the two appends of a round. u, v: what the new model's fields hold; u', v': how far the appends have come. -/
structure Tw (E : World → Prop) (N : Nat) (u v : Value) (x : Wr) (vA vC u' v' : Value) (lu lv : List ByteArray) (w0 w : World) : Prop where
  sm : SM N u v x vA vC w
  el : E w
  ou : OSs w w0.heap.size u' lu
  ov : OSs w w0.heap.size v' lv
  ap : ∀ k, u'.ownBlock = some k → v'.ownBlock ≠ some k
  fr : Fr [N + 2 + 1] w0 w
/-- A row of one string that was made for an append. -/
def Lt (w : World) (b : Nat) (s : ByteArray) (u' v' : Value) (base : Nat) : Prop := w.heap[b]? = some (.cells #[.string s] 9 (0, 0)) ∧ base ≤ b ∧ u'.ownBlock ≠ some b ∧ v'.ownBlock ≠ some b
section
variable {E : World → Prop} {N : Nat} {u v : Value} {x : Wr} {vA vC u' v' u1 : Value} {lu lv l1 : List ByteArray} {w0 w w1 : World}
theorem Tw.frs (h : Tw E N u v x vA vC u' v' lu lv w0 w) (hE : Keeps w0.heap.size E) (hN : N + 4 ≤ w0.heap.size) (hf : Fr [] w w1) : Tw E N u v x vA vC u' v' lu lv w0 w1 :=
  ⟨h.sm.kept hf (by simp), hE [] _ _ hf (by simp) h.el, h.ou.kept hf (by simp), h.ov.kept hf (by simp), h.ap, h.fr.trans hf (by simp)⟩
theorem Tw.appU (h : Tw E N u v x vA vC u' v' lu lv w0 w) (hE : Keeps w0.heap.size E) (hN : N + 4 ≤ w0.heap.size) (hO : OSs w1 w0.heap.size u1 l1) (hf : Fr u'.ownBlock.toList w w1) (hn : Nw w u' u1) : Tw E N u v x vA vC u1 v' l1 lv w0 w1 := by
  have hT : ∀ z ∈ u'.ownBlock.toList, w0.heap.size ≤ z := fun z hz => (h.ou.lt z (by simpa using hz)).1
  have h2 := own_step h.ov h.ap hf hn
  exact ⟨h.sm.kept hf (fun z hz => by have := hT z hz; omega), hE _ _ _ hf hT h.el, hO, h2.1, h2.2, h.fr.trans hf (fun z hz => .inr (hT z hz))⟩
theorem Tw.appV (h : Tw E N u v x vA vC u' v' lu lv w0 w) (hE : Keeps w0.heap.size E) (hN : N + 4 ≤ w0.heap.size) (hO : OSs w1 w0.heap.size u1 l1) (hf : Fr v'.ownBlock.toList w w1) (hn : Nw w v' u1) : Tw E N u v x vA vC u' u1 lu l1 w0 w1 := by
  have hT : ∀ z ∈ v'.ownBlock.toList, w0.heap.size ≤ z := fun z hz => (h.ov.lt z (by simpa using hz)).1
  have h2 := own_step h.ou (fun k hk hk2 => h.ap k hk2 hk) hf hn
  exact ⟨h.sm.kept hf (fun z hz => by have := hT z hz; omega), hE _ _ _ hf hT h.el, h2.1, hO, fun k hk hk2 => h2.2 k hk2 hk, h.fr.trans hf (fun z hz => .inr (hT z hz))⟩
theorem Lt.new (h : Tw E N u v x vA vC u' v' lu lv w0 w) (s : ByteArray) : Lt (w.alloc (.cells #[.string s] 9)) w.heap.size s u' v' w0.heap.size :=
  ⟨heap_alloc_new _ _, h.fr.size, fun hk => by have := (h.ou.lt _ hk).2; omega, fun hk => by have := (h.ov.lt _ hk).2; omega⟩
theorem Lt.frs {b : Nat} {s : ByteArray} {base : Nat} (h : Lt w b s u' v' base) (hf : Fr [] w w1) : Lt w1 b s u' v' base := ⟨(hf.block b (Array.getElem?_eq_some_iff.1 h.1).1 (by simp)).trans h.1, h.2⟩
theorem Lt.appU {b : Nat} {s : ByteArray} {base : Nat} (h : Lt w b s u' v' base) (hf : Fr u'.ownBlock.toList w w1) (hn : Nw w u' u1) : Lt w1 b s u1 v' base := by
  have hb := (Array.getElem?_eq_some_iff.1 h.1).1
  refine ⟨(hf.block b hb (fun hm => h.2.2.1 (by simpa using hm))).trans h.1, h.2.1, fun hk => ?_, h.2.2.2⟩
  rcases hn b hk with h1 | h1
  · exact h.2.2.1 h1
  · omega
/-- The fields are written. -/
theorem Tw.done (h : Tw E N u v x vA vC u' v' lu lv w0 w) (hN : N + 4 ≤ w0.heap.size) (hEs : ∀ (w : World) (i : Nat) (z : Value), E w → E (w.setCell ⟨N + 2 + 1, i, none⟩ z)) :
    Tw E N u' v' x vA vC u' v' lu lv w0 ((w.setCell ⟨N + 2 + 1, 0, none⟩ u').setCell ⟨N + 2 + 1, 1, none⟩ v') := by
  have hf : Fr [N + 2 + 1] w ((w.setCell ⟨N + 2 + 1, 0, none⟩ u').setCell ⟨N + 2 + 1, 1, none⟩ v') := ((Fr.refl _ _).setCell _ (.inl (by simp)) _).setCell _ (.inl (by simp)) _
  exact ⟨(h.sm.set0 u').set1 v', hEs _ _ _ (hEs _ _ _ h.el), h.ou.kept hf (fun k hk => by have := (h.ou.lt k hk).1; simp; omega), h.ov.kept hf (fun k hk => by have := (h.ov.lt k hk).1; simp; omega), h.ap, h.fr.trans hf (by simp)⟩
variable {ops : Array Oper} {rest : List Oper} {o : Oper} {a : Act} {Q : Exit → Act → World → Prop}
/-- append(v, s): one string, its row made before. -/
theorem appStrAt {W : World} (base : Nat) (hgd : o.guard = none) (s x : Operand)
    (ho : o.op = .call { callee := .builtin .append, args := #[s, x], argTypes := #[34, 34] })
    {v : Value} {l : List ByteArray} (HO : OSs W base v l) (y : ByteArray) {b : Nat} (hb : W.heap[b]? = some (.cells #[.string y] 9 (0, 0))) (hs : a.eval s = v) (hx : a.eval x = .slice (some ⟨b, 0, none⟩) 1 1)
    (hbase : base ≤ W.heap.size) (hl : l.length + 1 ≤ 1000000)
    (h : ∀ v1 w1, OSs w1 base v1 (l ++ [y]) → Fr v.ownBlock.toList W w1 → Nw W v v1 → wpList Tryz.prog ops Q rest (a.put o.dst v1) w1) :
    wpList Tryz.prog ops Q (o :: rest) a W := by
  obtain ⟨i0, hi, hz0, hz1, hz2⟩ := info_parts infoStr
  refine wpList_append_own_at W hgd s x 34 ho base 9 i0 (.string ByteArray.empty) 1 16 Tryz.underlying34 hi hz0 hz1 hz2 rfl (by omega) v l.length (l.map Value.string) hs HO ⟨b, 0, none⟩ 1 1 [.string y] hx rfl
    (World.news_of_block (cs := #[.string y]) (t := 9) (fr := (0, 0)) hb) (by simp [Value.oneCell']) (by simp only [maxLen]; omega) (by omega) hbase ?_
  intro v1 w1 hown hg _ hat
  refine h v1 w1 ?_ ((Fr.refl _ _).grown hg (by intro k hk; simp [hk])) ?_
  · unfold OSs
    simpa using hown
  · intro k hk
    rcases hat with hat | hat
    · exact .inl (hat ▸ hk)
    · rw [hat] at hk
      simp at hk
      exact .inr (by omega)
end

set_option maxHeartbeats 4000000 in
set_option maxRecDepth 100000 in
theorem with_c (A C : Option Addr) (n c c2 : Nat) (L : List KV) (x : Wr) (w : World) (hR : MR w A C n L) (hn : n ≤ 1000) (hz : L.length = n) :
    Calls Tryz.prog 21 #[.agg #[.slice A n c, .slice C n c2], .agg x.cells.toArray] w fun e w' => ∃ u v, e = .returned (.agg #[u, v]) ∧ MRow w' w.heap.size u v (applyW L x) ∧ Fr [] w w' := by
  have hA0 := hid (fun h a ha => hR.1.lt (A := A) (n := n) h a ha)
  have hC0 := hid (fun h a ha => hR.2.lt (A := C) (n := n) h a ha)
  go_enter Tryz.func21, Tryz.ntmps21
  go_wp2_with (first | (with_reducible refine stop_ld2 48 rfl ?_) | (with_reducible refine stop_al2 48 rfl ?_) | (with_reducible refine stop_st2 48 rfl ?_))
  have hA1 : Fr [] w (w.alloc (.cells #[.slice A n c, .slice C n c2] 48)) := (Fr.refl [] w).alloc _
  have hA2 : Fr [] (w.alloc (.cells #[.slice A n c, .slice C n c2] 48)) ((w.alloc (.cells #[.slice A n c, .slice C n c2] 48)).alloc (.cells x.cells.toArray 32)) := (Fr.refl [] _).alloc _
  have hm1 := heap_alloc_new w (.cells #[.slice A n c, .slice C n c2] 48)
  have hm2 := heap_alloc_new (w.alloc (.cells #[.slice A n c, .slice C n c2] 48)) (.cells x.cells.toArray 32)
  have hs1 : (w.alloc (.cells #[.slice A n c, .slice C n c2] 48)).heap.size = w.heap.size + 1 := by simp
  have hs2 : ((w.alloc (.cells #[.slice A n c, .slice C n c2] 48)).alloc (.cells x.cells.toArray 32)).heap.size = w.heap.size + 2 := by simp
  rw [hs1] at hm2
  have hb2 := (hA2.block w.heap.size (by omega) (by simp)).trans hm1
  have hf2 := hA1.then hA2
  clear hA1 hA2 hm1 hs1
  generalize (w.alloc (.cells #[.slice A n c, .slice C n c2] 48)).alloc (.cells x.cells.toArray 32) = w2 at *
  refine Stop.go (al_arr 48 infoMo rfl rfl ?_)
  intro w3 hb3 hs3 hf3
  rw [hs2] at hb3 hs3
  go_wp2_with (first | (with_reducible refine stop_ld2 48 rfl ?_) | (with_reducible refine stop_al2 48 rfl ?_) | (with_reducible refine stop_st2 48 rfl ?_))
  refine Stop.go (al_arr 48 infoMo rfl rfl ?_)
  intro w4 hb4 hs4 hf4
  rw [hs3] at hb4 hs4
  go_wp2_with (first | (with_reducible refine stop_ld2 48 rfl ?_) | (with_reducible refine stop_al2 48 rfl ?_) | (with_reducible refine stop_st2 48 rfl ?_))
  refine Stop.go (st_arr 48 [nilS, nilS] (zero_of_info infoMo).2 (by intro v hv; simp at hv; subst hv; rfl) rfl rfl (w.heap.size + 2 + 1) 0 rfl rfl (there_of_block hb4 (by simp)) ?_)
  intro w5 hw5 hr5 hf5
  obtain ⟨N, hN⟩ : ∃ N, w.heap.size = N := ⟨_, rfl⟩
  rw [hN] at hb2 hb3 hb4 hm2 hs2 hs3 hs4 hw5 hr5 hf5 ⊢
  have hb5 := set_two nilS nilS hb4
  rw [← hw5] at hb5
  have hf25 : Fr [] w2 w5 := (hf3.then hf4).trans hf5 (by intro z hz; simp at hz; omega)
  have hz5 : N + 4 ≤ w5.heap.size := by have := hf5.size; omega
  have k2 := (hf25.block N (by omega) (by simp)).trans hb2
  have k3 := (hf25.block (N + 1) (by omega) (by simp)).trans hm2
  have k4 := ((hf4.trans hf5 (by intro z hz; simp at hz; omega)).block (S := []) (N + 2) (by omega) (by simp)).trans hb3
  have hR5 := hR.fr (hf2.then hf25)
  have hf05 := hf2.then hf25
  clear hb2 hb3 hb4 hm2 hs2 hs3 hs4 hw5 hr5 hf5 hf4 hf3 hf25 hf2 w2 w3 w4
  replace hN := hid hN
  have p32 : w5.cell? ⟨N + 1, 2, none⟩ = some (.bool x.drop) := cell_of_row _ _ 2 _ _ _ k3
  go_wp2_with fail
  clear p32
  go_loopw [6, 7] (fun dv iv wr => ∃ (i : Nat) (done : Bool) (acc : List KV) (u v : Value), i ≤ n ∧ iv = .int .i64 i ∧ dv = .bool done ∧ (L.take i).foldl (wStep (bs x.key) (bs x.b)) ([], x.drop) = (acc, done) ∧ wr.heap[N + 2 + 1]? = some (.cells #[u, v] 48 (0, 0)) ∧
    OSs wr w5.heap.size u (acc.map fun p => stB p.1) ∧ OSs wr w5.heap.size v (acc.map fun p => stB p.2) ∧ (∀ k, u.ownBlock = some k → v.ownBlock ≠ some k) ∧ Fr [N + 2 + 1] w5 wr) (fun _ iv _ => n - (intOf iv).toNat)
  case atStart => exact ⟨0, x.drop, [], nilS, nilS, by omega, rfl, rfl, rfl, hb5, OSs.nil _ _, OSs.nil _ _, (by intro k hk; cases hk), Fr.refl _ _⟩
  case round =>
    obtain ⟨i, done, acc, u, v, hi, rfl, rfl, hacc, hbr, hO, hP, hap, hfr⟩ := hrel
    have hzr := hfr.size
    have k2r := (hfr.block N (by omega) (by simp; omega)).trans k2
    have k3r := (hfr.block (N + 1) (by omega) (by simp)).trans k3
    have hM : SM N u v x (.slice A n c) (.slice C n c2) wr := ⟨hbr, k3r, k2r⟩
    clear hbr k2r k3r
    have c20 := hM.c20
    have hal : acc.length ≤ 2 * i := by
      have h1 := wStep_len (bs x.key) (bs x.b) (L.take i) i ([], x.drop)
      rw [hacc, List.length_take] at h1
      simp at h1
      omega
    by_cases hin : i < n
    · have hiL : i < L.length := by omega
      have htk : (L.take (i + 1)).foldl (wStep (bs x.key) (bs x.b)) ([], x.drop) = wStep (bs x.key) (bs x.b) (acc, done) L[i] := by
        rw [List.take_add_one, List.getElem?_eq_getElem hiL, List.foldl_append, hacc]; rfl
      have hRr : MR wr A C n L := ⟨hR5.1.kept' hfr (fun h0 a ha => by have := hA0.out h0 a ha; have := hN.out; simp; omega), hR5.2.kept' hfr (fun h0 a ha => by have := hC0.out h0 a ha; have := hN.out; simp; omega)⟩
      obtain ⟨bA, oA, rfl, hkA⟩ := str_cell hRr.1 i hin
      obtain ⟨bC, oC, rfl, hkC⟩ := str_cell hRr.2 i hin
      have hbA : bA < N := by have := hA0.out (by omega) _ rfl; have := hN.out; simp only at *; omega
      have hbC : bC < N := by have := hC0.out (by omega) _ rfl; have := hN.out; simp only at *; omega
      rw [List.getElem_map] at hkA hkC
      generalize L[i] = p at *
      obtain ⟨pk, pv⟩ := p
      dsimp only at hkA hkC
      replace htk := hid htk
      replace hacc := hid hacc
      clear hR hR5 hRr
      go_wp2_with fail
      clear c20
      cases done with
      | true =>
        have hbf : True := trivial
        refine wp_region_textS' (fun w' => SM N u v x (.slice (some ⟨bA, oA, none⟩) n c) (.slice (some ⟨bC, oC, none⟩) n c2) w') [4] [] [] [] (by kernel_rfl) (by kernel_rfl) (by kernel_rfl) hM ?_
        intro K6 hK6
        simp only [cutAt, List.take_succ_cons, List.take_zero, List.drop_succ_cons, List.drop_zero, List.take_nil, List.drop_nil, wpSegs, List.map_cons, List.map_nil, List.nil_append, List.cons_append]
        have hfd6 : Fr [] wr wr.drew := (Fr.refl [] wr).drew
        have hM60 := hM.kept hfd6 (by simp)
        have hO60 := hO.kept hfd6 (by simp)
        have hP60 := hP.kept hfd6 (by simp)
        have eA60 := hfd6.cell hkA (by simp)
        have eC60 := hfd6.cell hkC (by simp)
        have hfr60 := hfr.trans hfd6 (by simp)
        generalize wr.drew = w60 at *
        have b20 := hM60.c20
        have b30 := hM60.c30
        have hz60 := hfd6.size
        go_wp2_with fail
        refine ⟨trivial, hK6 _ _ (by kernel_rfl) ⟨fun o ho => ?_, trivial⟩ ?_⟩
        · cases ho
          exact gives_idle rfl
        go_wp2_with fail
        clear b20 b30
        by_cases hpk : pk = bs x.key
        · have hse : stB pk = x.key := by rw [hpk, stB_bs]
          have hq := eA60
          rw [hse] at hq
          refine wp_region_textS' (fun w' => SM N u v x (.slice (some ⟨bA, oA, none⟩) n c) (.slice (some ⟨bC, oC, none⟩) n c2) w') [6] [] [] [] (by kernel_rfl) (by kernel_rfl) (by kernel_rfl) hM60 ?_
          intro K8ta hK8ta
          simp only [cutAt, List.take_succ_cons, List.take_zero, List.drop_succ_cons, List.drop_zero, List.take_nil, List.drop_nil, wpSegs, List.map_cons, List.map_nil, List.nil_append, List.cons_append]
          have hfd8ta : Fr [] w60 w60.drew := (Fr.refl [] w60).drew
          have hM80ta := hM60.kept hfd8ta (by simp)
          have hO80ta := hO60.kept hfd8ta (by simp)
          have hP80ta := hP60.kept hfd8ta (by simp)
          have eA80ta := hfd8ta.cell hq (by simp)
          have eC80ta := hfd8ta.cell eC60 (by simp)
          have hfr80ta := hfr60.trans hfd8ta (by simp)
          generalize w60.drew = w80ta at *
          have b20ta := hM80ta.c20
          have b30ta := hM80ta.c30
          have hz80ta := hfd8ta.size
          go_wp2_with fail
          refine ⟨trivial, hK8ta _ _ (by kernel_rfl) ⟨fun o ho => ?_, trivial⟩ ?_⟩
          · cases ho
            exact gives_load rfl (fun w' h => load_cell 9 Tryz.underlying9 rfl h.c30)
          go_wp2_with fail
          clear b20ta b30ta
          go_wp2_with fail
          try go_frame
          go_roundw
          case rel => exact ⟨i + 1, true, acc, u, v, by omega, rfl, rfl, by rw [htk.out]; unfold wStep; first | (simp only [hbf]; simp [hpk]; done) | (simp [hpk]; done), hM80ta.1, by simpa [stB_bs] using hO80ta, by simpa [stB_bs] using hP80ta, hap, hfr80ta⟩
          case measure => simp [intOf]; omega
        · have hq : ((stB pk).toList == x.key.toList) = false := by rw [same_bs, bs_stB]; simpa using hpk
          refine wp_region_textS' (fun w' => SM N u v x (.slice (some ⟨bA, oA, none⟩) n c) (.slice (some ⟨bC, oC, none⟩) n c2) w') [6] [] [] [] (by kernel_rfl) (by kernel_rfl) (by kernel_rfl) hM60 ?_
          intro K8tb hK8tb
          simp only [cutAt, List.take_succ_cons, List.take_zero, List.drop_succ_cons, List.drop_zero, List.take_nil, List.drop_nil, wpSegs, List.map_cons, List.map_nil, List.nil_append, List.cons_append]
          have hfd8tb : Fr [] w60 w60.drew := (Fr.refl [] w60).drew
          have hM80tb := hM60.kept hfd8tb (by simp)
          have hO80tb := hO60.kept hfd8tb (by simp)
          have hP80tb := hP60.kept hfd8tb (by simp)
          have eA80tb := hfd8tb.cell eA60 (by simp)
          have eC80tb := hfd8tb.cell eC60 (by simp)
          have hfr80tb := hfr60.trans hfd8tb (by simp)
          generalize w60.drew = w80tb at *
          have b20tb := hM80tb.c20
          have b30tb := hM80tb.c30
          have hz80tb := hfd8tb.size
          go_wp2_with fail
          refine ⟨trivial, hK8tb _ _ (by kernel_rfl) ⟨fun o ho => ?_, trivial⟩ ?_⟩
          · cases ho
            exact gives_load rfl (fun w' h => load_cell 9 Tryz.underlying9 rfl h.c30)
          go_wp2_with fail
          clear b20tb b30tb
          have hEtb : Keeps w5.heap.size (fun w' => w'.cell? ⟨bA, oA + i, none⟩ = some (.string (stB pk)) ∧ w'.cell? ⟨bC, oC + i, none⟩ = some (.string (stB pv))) := Keeps.cells (by omega) (by omega)
          have hTtb : Tw (fun w' => w'.cell? ⟨bA, oA + i, none⟩ = some (.string (stB pk)) ∧ w'.cell? ⟨bC, oC + i, none⟩ = some (.string (stB pv))) N u v x (.slice (some ⟨bA, oA, none⟩) n c) (.slice (some ⟨bC, oC, none⟩) n c2) u v _ _ w5 w80tb := ⟨hM80tb, ⟨eA80tb, eC80tb⟩, hO80tb, hP80tb, hap, hfr80tb⟩
          refine wp_region_textO (fun w' => SM N u v x (.slice (some ⟨bA, oA, none⟩) n c) (.slice (some ⟨bC, oC, none⟩) n c2) w' ∧ (fun w' => w'.cell? ⟨bA, oA + i, none⟩ = some (.string (stB pk)) ∧ w'.cell? ⟨bC, oC + i, none⟩ = some (.string (stB pv))) w') [1, 3, 6, 10, 12, 15] [0, 1, 2, 3, 4, 5, 6, 9, 10, 11, 12, 13, 14, 15] 19 8 (by kernel_rfl) rfl (by kernel_rfl) ⟨hM80tb, ⟨eA80tb, eC80tb⟩⟩ ?_
          intro Ktb hKtb
          simp only [List.filterMap_cons, List.filterMap_nil, List.getElem?_toArray, List.getElem?_cons_succ, List.getElem?_cons_zero]
          have hTdtb := hTtb.frs hEtb hz5 (Fr.refl [] w80tb).drew
          clear hTtb
          generalize w80tb.drew = wdtb at *
          have a50tb := hTdtb.sm.c50
          have a51tb := hTdtb.sm.c51
          have a30tb := hTdtb.sm.c30
          have a31tb := hTdtb.sm.c31
          have a20tb := hTdtb.sm.c20
          have a21tb := hTdtb.sm.c21
          have eAtb := hTdtb.el.1
          have eCtb := hTdtb.el.2
          go_wp2_with fail
          refine hKtb _ _ (by kernel_rfl) ⟨fun o ho => ?_, fun o ho => ?_, fun o ho => ?_, fun o ho => ?_, fun o ho => ?_, fun o ho => ?_, trivial⟩ ?_
          · cases ho
            exact gives_load rfl (fun w' h => load_cell 34 Tryz.underlying34 rfl h.1.c50)
          · cases ho
            exact gives_load rfl (fun w' h => load_cell 34 Tryz.underlying34 rfl h.1.c20)
          · cases ho
            exact gives_load rfl (fun w' h => load_cell 9 Tryz.underlying9 rfl h.2.1)
          · cases ho
            exact gives_load rfl (fun w' h => load_cell 34 Tryz.underlying34 rfl h.1.c51)
          · cases ho
            exact gives_load rfl (fun w' h => load_cell 34 Tryz.underlying34 rfl h.1.c21)
          · cases ho
            exact gives_load rfl (fun w' h => load_cell 9 Tryz.underlying9 rfl h.2.2)
          clear a50tb a51tb a30tb a31tb a20tb a21tb eAtb eCtb
          refine orders_all [7, 16] (by kernel_rfl) (by kernel_rfl) ?_
          intro i hi
          simp only [List.mem_cons, List.not_mem_nil, or_false] at hi
          rcases hi with rfl | rfl
          · refine st_one (by kernel_rfl) ?_
            simp only [List.filterMap_cons, List.filterMap_nil, List.getElem?_toArray, List.getElem?_cons_succ, List.getElem?_cons_zero]
            go_wp2_with fail
            have hLtb7 := Lt.new hTdtb (stB pk)
            have hTtb7 := hTdtb.frs hEtb hz5 ((Fr.refl [] wdtb).alloc (.cells #[.string (stB pk)] 9))
            obtain ⟨btb7, hbtb7⟩ : ∃ b, b = wdtb.heap.size := ⟨_, rfl⟩
            rw [← hbtb7] at hLtb7 ⊢
            clear hbtb7
            generalize wdtb.alloc (.cells #[.string (stB pk)] 9) = wtb7 at *
            refine ⟨fun _ => ⟨hTtb7.sm, hTtb7.el⟩, ?_⟩
            refine orders_all [8, 16] (by kernel_rfl) (by kernel_rfl) ?_
            intro i hi
            simp only [List.mem_cons, List.not_mem_nil, or_false] at hi
            rcases hi with rfl | rfl
            · refine st_one (by kernel_rfl) ?_
              simp only [List.filterMap_cons, List.filterMap_nil, List.getElem?_toArray, List.getElem?_cons_succ, List.getElem?_cons_zero]
              refine appStrAt w5.heap.size rfl _ _ rfl hTtb7.ou (stB pk) hLtb7.1 rfl rfl hTtb7.fr.size (by simp only [List.length_map, List.length_append, List.length_singleton]; omega) ?_
              intro utb7_8 wtb7_8 hOtb7_8 hftb7_8 hntb7_8
              have hTtb7_8 := hTtb7.appU hEtb hz5 hOtb7_8 hftb7_8 hntb7_8
              go_wp2_with fail
              refine ⟨fun _ => ⟨hTtb7_8.sm, hTtb7_8.el⟩, ?_⟩
              refine orders_all [16, 18] (by kernel_rfl) (by kernel_rfl) ?_
              intro i hi
              simp only [List.mem_cons, List.not_mem_nil, or_false] at hi
              rcases hi with rfl | rfl
              · refine st_one (by kernel_rfl) ?_
                simp only [List.filterMap_cons, List.filterMap_nil, List.getElem?_toArray, List.getElem?_cons_succ, List.getElem?_cons_zero]
                go_wp2_with fail
                have hLtb7_8_16 := Lt.new hTtb7_8 (stB pv)
                have hTtb7_8_16 := hTtb7_8.frs hEtb hz5 ((Fr.refl [] wtb7_8).alloc (.cells #[.string (stB pv)] 9))
                obtain ⟨btb7_8_16, hbtb7_8_16⟩ : ∃ b, b = wtb7_8.heap.size := ⟨_, rfl⟩
                rw [← hbtb7_8_16] at hLtb7_8_16 ⊢
                clear hbtb7_8_16
                generalize wtb7_8.alloc (.cells #[.string (stB pv)] 9) = wtb7_8_16 at *
                refine ⟨fun _ => ⟨hTtb7_8_16.sm, hTtb7_8_16.el⟩, ?_⟩
                refine orders_all [17, 18] (by kernel_rfl) (by kernel_rfl) ?_
                intro i hi
                simp only [List.mem_cons, List.not_mem_nil, or_false] at hi
                rcases hi with rfl | rfl
                · refine st_one (by kernel_rfl) ?_
                  simp only [List.filterMap_cons, List.filterMap_nil, List.getElem?_toArray, List.getElem?_cons_succ, List.getElem?_cons_zero]
                  refine appStrAt w5.heap.size rfl _ _ rfl hTtb7_8_16.ov (stB pv) hLtb7_8_16.1 rfl rfl hTtb7_8_16.fr.size (by simp only [List.length_map, List.length_append, List.length_singleton]; omega) ?_
                  intro vtb7_8_16_17 wtb7_8_16_17 hPtb7_8_16_17 hftb7_8_16_17 hntb7_8_16_17
                  have hTtb7_8_16_17 := hTtb7_8_16.appV hEtb hz5 hPtb7_8_16_17 hftb7_8_16_17 hntb7_8_16_17
                  go_wp2_with fail
                  refine ⟨fun _ => ⟨hTtb7_8_16_17.sm, hTtb7_8_16_17.el⟩, ?_⟩
                  refine orders_all [18] (by kernel_rfl) (by kernel_rfl) ?_
                  intro i hi
                  simp only [List.mem_cons, List.not_mem_nil, or_false] at hi
                  subst hi
                  refine st_one (by kernel_rfl) ?_
                  simp only [List.filterMap_cons, List.filterMap_nil, List.getElem?_toArray, List.getElem?_cons_succ, List.getElem?_cons_zero]
                  go_wp2_with fail
                  refine ⟨fun _ => ⟨hTtb7_8_16_17.sm, hTtb7_8_16_17.el⟩, ?_⟩
                  refine orders_seq [19, 20, 21] _ _ _ (by kernel_rfl) (by kernel_rfl) (by kernel_rfl) ?_
                  simp only [List.filterMap_cons, List.filterMap_nil, List.getElem?_toArray, List.getElem?_cons_succ, List.getElem?_cons_zero]
                  obtain ⟨Au, nu, cu, hue⟩ := OSs.slice hTtb7_8_16_17.ou
                  obtain ⟨Av, nv, cv, hve⟩ := OSs.slice hTtb7_8_16_17.ov
                  subst hue hve
                  have hT9 := hTtb7_8_16_17.done hz5 (keep_set (by omega) (by omega))
                  have b50 := hTtb7_8_16_17.sm.c50
                  have y50 := hTtb7_8_16_17.sm.z50
                  have b51 := (hTtb7_8_16_17.sm.set0 (Value.slice Au nu cu)).c51
                  have y51 := (hTtb7_8_16_17.sm.set0 (Value.slice Au nu cu)).z51
                  go_wp2_with fail
                  generalize (wtb7_8_16_17.setCell ⟨N + 2 + 1, 0, none⟩ (Value.slice Au nu cu)).setCell ⟨N + 2 + 1, 1, none⟩ (Value.slice Av nv cv) = w9 at *
                  clear b50 y50 b51 y51 hTtb7_8_16_17
                  go_wp2_with fail
                  try go_frame
                  go_roundw
                  case rel => exact ⟨i + 1, true, (acc ++ [(pk, pv)]), (Value.slice Au nu cu), (Value.slice Av nv cv), by omega, rfl, rfl, by rw [htk.out]; unfold wStep; first | (simp only [hbf]; simp [hpk]; done) | (simp [hpk]; done), hT9.sm.1, by simpa [stB_bs] using hT9.ou, by simpa [stB_bs] using hT9.ov, hT9.ap, hT9.fr⟩
                  case measure => simp [intOf]; omega
                · refine st_one (by kernel_rfl) ?_
                  simp only [List.filterMap_cons, List.filterMap_nil, List.getElem?_toArray, List.getElem?_cons_succ, List.getElem?_cons_zero]
                  go_wp2_with fail
                  refine ⟨fun _ => ⟨hTtb7_8_16.sm, hTtb7_8_16.el⟩, ?_⟩
                  refine orders_all [17] (by kernel_rfl) (by kernel_rfl) ?_
                  intro i hi
                  simp only [List.mem_cons, List.not_mem_nil, or_false] at hi
                  subst hi
                  refine st_one (by kernel_rfl) ?_
                  simp only [List.filterMap_cons, List.filterMap_nil, List.getElem?_toArray, List.getElem?_cons_succ, List.getElem?_cons_zero]
                  refine appStrAt w5.heap.size rfl _ _ rfl hTtb7_8_16.ov (stB pv) hLtb7_8_16.1 rfl rfl hTtb7_8_16.fr.size (by simp only [List.length_map, List.length_append, List.length_singleton]; omega) ?_
                  intro vtb7_8_16_18_17 wtb7_8_16_18_17 hPtb7_8_16_18_17 hftb7_8_16_18_17 hntb7_8_16_18_17
                  have hTtb7_8_16_18_17 := hTtb7_8_16.appV hEtb hz5 hPtb7_8_16_18_17 hftb7_8_16_18_17 hntb7_8_16_18_17
                  go_wp2_with fail
                  refine ⟨fun _ => ⟨hTtb7_8_16_18_17.sm, hTtb7_8_16_18_17.el⟩, ?_⟩
                  refine orders_seq [19, 20, 21] _ _ _ (by kernel_rfl) (by kernel_rfl) (by kernel_rfl) ?_
                  simp only [List.filterMap_cons, List.filterMap_nil, List.getElem?_toArray, List.getElem?_cons_succ, List.getElem?_cons_zero]
                  obtain ⟨Au, nu, cu, hue⟩ := OSs.slice hTtb7_8_16_18_17.ou
                  obtain ⟨Av, nv, cv, hve⟩ := OSs.slice hTtb7_8_16_18_17.ov
                  subst hue hve
                  have hT9 := hTtb7_8_16_18_17.done hz5 (keep_set (by omega) (by omega))
                  have b50 := hTtb7_8_16_18_17.sm.c50
                  have y50 := hTtb7_8_16_18_17.sm.z50
                  have b51 := (hTtb7_8_16_18_17.sm.set0 (Value.slice Au nu cu)).c51
                  have y51 := (hTtb7_8_16_18_17.sm.set0 (Value.slice Au nu cu)).z51
                  go_wp2_with fail
                  generalize (wtb7_8_16_18_17.setCell ⟨N + 2 + 1, 0, none⟩ (Value.slice Au nu cu)).setCell ⟨N + 2 + 1, 1, none⟩ (Value.slice Av nv cv) = w9 at *
                  clear b50 y50 b51 y51 hTtb7_8_16_18_17
                  go_wp2_with fail
                  try go_frame
                  go_roundw
                  case rel => exact ⟨i + 1, true, (acc ++ [(pk, pv)]), (Value.slice Au nu cu), (Value.slice Av nv cv), by omega, rfl, rfl, by rw [htk.out]; unfold wStep; first | (simp only [hbf]; simp [hpk]; done) | (simp [hpk]; done), hT9.sm.1, by simpa [stB_bs] using hT9.ou, by simpa [stB_bs] using hT9.ov, hT9.ap, hT9.fr⟩
                  case measure => simp [intOf]; omega
              · refine st_one (by kernel_rfl) ?_
                simp only [List.filterMap_cons, List.filterMap_nil, List.getElem?_toArray, List.getElem?_cons_succ, List.getElem?_cons_zero]
                go_wp2_with fail
                refine ⟨fun _ => ⟨hTtb7_8.sm, hTtb7_8.el⟩, ?_⟩
                refine orders_all [16] (by kernel_rfl) (by kernel_rfl) ?_
                intro i hi
                simp only [List.mem_cons, List.not_mem_nil, or_false] at hi
                subst hi
                refine st_one (by kernel_rfl) ?_
                simp only [List.filterMap_cons, List.filterMap_nil, List.getElem?_toArray, List.getElem?_cons_succ, List.getElem?_cons_zero]
                go_wp2_with fail
                have hLtb7_8_18_16 := Lt.new hTtb7_8 (stB pv)
                have hTtb7_8_18_16 := hTtb7_8.frs hEtb hz5 ((Fr.refl [] wtb7_8).alloc (.cells #[.string (stB pv)] 9))
                obtain ⟨btb7_8_18_16, hbtb7_8_18_16⟩ : ∃ b, b = wtb7_8.heap.size := ⟨_, rfl⟩
                rw [← hbtb7_8_18_16] at hLtb7_8_18_16 ⊢
                clear hbtb7_8_18_16
                generalize wtb7_8.alloc (.cells #[.string (stB pv)] 9) = wtb7_8_18_16 at *
                refine ⟨fun _ => ⟨hTtb7_8_18_16.sm, hTtb7_8_18_16.el⟩, ?_⟩
                refine orders_all [17] (by kernel_rfl) (by kernel_rfl) ?_
                intro i hi
                simp only [List.mem_cons, List.not_mem_nil, or_false] at hi
                subst hi
                refine st_one (by kernel_rfl) ?_
                simp only [List.filterMap_cons, List.filterMap_nil, List.getElem?_toArray, List.getElem?_cons_succ, List.getElem?_cons_zero]
                refine appStrAt w5.heap.size rfl _ _ rfl hTtb7_8_18_16.ov (stB pv) hLtb7_8_18_16.1 rfl rfl hTtb7_8_18_16.fr.size (by simp only [List.length_map, List.length_append, List.length_singleton]; omega) ?_
                intro vtb7_8_18_16_17 wtb7_8_18_16_17 hPtb7_8_18_16_17 hftb7_8_18_16_17 hntb7_8_18_16_17
                have hTtb7_8_18_16_17 := hTtb7_8_18_16.appV hEtb hz5 hPtb7_8_18_16_17 hftb7_8_18_16_17 hntb7_8_18_16_17
                go_wp2_with fail
                refine ⟨fun _ => ⟨hTtb7_8_18_16_17.sm, hTtb7_8_18_16_17.el⟩, ?_⟩
                refine orders_seq [19, 20, 21] _ _ _ (by kernel_rfl) (by kernel_rfl) (by kernel_rfl) ?_
                simp only [List.filterMap_cons, List.filterMap_nil, List.getElem?_toArray, List.getElem?_cons_succ, List.getElem?_cons_zero]
                obtain ⟨Au, nu, cu, hue⟩ := OSs.slice hTtb7_8_18_16_17.ou
                obtain ⟨Av, nv, cv, hve⟩ := OSs.slice hTtb7_8_18_16_17.ov
                subst hue hve
                have hT9 := hTtb7_8_18_16_17.done hz5 (keep_set (by omega) (by omega))
                have b50 := hTtb7_8_18_16_17.sm.c50
                have y50 := hTtb7_8_18_16_17.sm.z50
                have b51 := (hTtb7_8_18_16_17.sm.set0 (Value.slice Au nu cu)).c51
                have y51 := (hTtb7_8_18_16_17.sm.set0 (Value.slice Au nu cu)).z51
                go_wp2_with fail
                generalize (wtb7_8_18_16_17.setCell ⟨N + 2 + 1, 0, none⟩ (Value.slice Au nu cu)).setCell ⟨N + 2 + 1, 1, none⟩ (Value.slice Av nv cv) = w9 at *
                clear b50 y50 b51 y51 hTtb7_8_18_16_17
                go_wp2_with fail
                try go_frame
                go_roundw
                case rel => exact ⟨i + 1, true, (acc ++ [(pk, pv)]), (Value.slice Au nu cu), (Value.slice Av nv cv), by omega, rfl, rfl, by rw [htk.out]; unfold wStep; first | (simp only [hbf]; simp [hpk]; done) | (simp [hpk]; done), hT9.sm.1, by simpa [stB_bs] using hT9.ou, by simpa [stB_bs] using hT9.ov, hT9.ap, hT9.fr⟩
                case measure => simp [intOf]; omega
            · refine st_one (by kernel_rfl) ?_
              simp only [List.filterMap_cons, List.filterMap_nil, List.getElem?_toArray, List.getElem?_cons_succ, List.getElem?_cons_zero]
              go_wp2_with fail
              have hLtb7_16 := Lt.new hTtb7 (stB pv)
              have hTtb7_16 := hTtb7.frs hEtb hz5 ((Fr.refl [] wtb7).alloc (.cells #[.string (stB pv)] 9))
              have hL7tb7_16 := hLtb7.frs ((Fr.refl [] wtb7).alloc (.cells #[.string (stB pv)] 9))
              obtain ⟨btb7_16, hbtb7_16⟩ : ∃ b, b = wtb7.heap.size := ⟨_, rfl⟩
              rw [← hbtb7_16] at hLtb7_16 ⊢
              clear hbtb7_16
              generalize wtb7.alloc (.cells #[.string (stB pv)] 9) = wtb7_16 at *
              refine ⟨fun _ => ⟨hTtb7_16.sm, hTtb7_16.el⟩, ?_⟩
              refine orders_all [8] (by kernel_rfl) (by kernel_rfl) ?_
              intro i hi
              simp only [List.mem_cons, List.not_mem_nil, or_false] at hi
              subst hi
              refine st_one (by kernel_rfl) ?_
              simp only [List.filterMap_cons, List.filterMap_nil, List.getElem?_toArray, List.getElem?_cons_succ, List.getElem?_cons_zero]
              refine appStrAt w5.heap.size rfl _ _ rfl hTtb7_16.ou (stB pk) hL7tb7_16.1 rfl rfl hTtb7_16.fr.size (by simp only [List.length_map, List.length_append, List.length_singleton]; omega) ?_
              intro utb7_16_8 wtb7_16_8 hOtb7_16_8 hftb7_16_8 hntb7_16_8
              have hTtb7_16_8 := hTtb7_16.appU hEtb hz5 hOtb7_16_8 hftb7_16_8 hntb7_16_8
              have hL16tb7_16_8 := hLtb7_16.appU hftb7_16_8 hntb7_16_8
              go_wp2_with fail
              refine ⟨fun _ => ⟨hTtb7_16_8.sm, hTtb7_16_8.el⟩, ?_⟩
              refine orders_all [17, 18] (by kernel_rfl) (by kernel_rfl) ?_
              intro i hi
              simp only [List.mem_cons, List.not_mem_nil, or_false] at hi
              rcases hi with rfl | rfl
              · refine st_one (by kernel_rfl) ?_
                simp only [List.filterMap_cons, List.filterMap_nil, List.getElem?_toArray, List.getElem?_cons_succ, List.getElem?_cons_zero]
                refine appStrAt w5.heap.size rfl _ _ rfl hTtb7_16_8.ov (stB pv) hL16tb7_16_8.1 rfl rfl hTtb7_16_8.fr.size (by simp only [List.length_map, List.length_append, List.length_singleton]; omega) ?_
                intro vtb7_16_8_17 wtb7_16_8_17 hPtb7_16_8_17 hftb7_16_8_17 hntb7_16_8_17
                have hTtb7_16_8_17 := hTtb7_16_8.appV hEtb hz5 hPtb7_16_8_17 hftb7_16_8_17 hntb7_16_8_17
                go_wp2_with fail
                refine ⟨fun _ => ⟨hTtb7_16_8_17.sm, hTtb7_16_8_17.el⟩, ?_⟩
                refine orders_all [18] (by kernel_rfl) (by kernel_rfl) ?_
                intro i hi
                simp only [List.mem_cons, List.not_mem_nil, or_false] at hi
                subst hi
                refine st_one (by kernel_rfl) ?_
                simp only [List.filterMap_cons, List.filterMap_nil, List.getElem?_toArray, List.getElem?_cons_succ, List.getElem?_cons_zero]
                go_wp2_with fail
                refine ⟨fun _ => ⟨hTtb7_16_8_17.sm, hTtb7_16_8_17.el⟩, ?_⟩
                refine orders_seq [19, 20, 21] _ _ _ (by kernel_rfl) (by kernel_rfl) (by kernel_rfl) ?_
                simp only [List.filterMap_cons, List.filterMap_nil, List.getElem?_toArray, List.getElem?_cons_succ, List.getElem?_cons_zero]
                obtain ⟨Au, nu, cu, hue⟩ := OSs.slice hTtb7_16_8_17.ou
                obtain ⟨Av, nv, cv, hve⟩ := OSs.slice hTtb7_16_8_17.ov
                subst hue hve
                have hT9 := hTtb7_16_8_17.done hz5 (keep_set (by omega) (by omega))
                have b50 := hTtb7_16_8_17.sm.c50
                have y50 := hTtb7_16_8_17.sm.z50
                have b51 := (hTtb7_16_8_17.sm.set0 (Value.slice Au nu cu)).c51
                have y51 := (hTtb7_16_8_17.sm.set0 (Value.slice Au nu cu)).z51
                go_wp2_with fail
                generalize (wtb7_16_8_17.setCell ⟨N + 2 + 1, 0, none⟩ (Value.slice Au nu cu)).setCell ⟨N + 2 + 1, 1, none⟩ (Value.slice Av nv cv) = w9 at *
                clear b50 y50 b51 y51 hTtb7_16_8_17
                go_wp2_with fail
                try go_frame
                go_roundw
                case rel => exact ⟨i + 1, true, (acc ++ [(pk, pv)]), (Value.slice Au nu cu), (Value.slice Av nv cv), by omega, rfl, rfl, by rw [htk.out]; unfold wStep; first | (simp only [hbf]; simp [hpk]; done) | (simp [hpk]; done), hT9.sm.1, by simpa [stB_bs] using hT9.ou, by simpa [stB_bs] using hT9.ov, hT9.ap, hT9.fr⟩
                case measure => simp [intOf]; omega
              · refine st_one (by kernel_rfl) ?_
                simp only [List.filterMap_cons, List.filterMap_nil, List.getElem?_toArray, List.getElem?_cons_succ, List.getElem?_cons_zero]
                go_wp2_with fail
                refine ⟨fun _ => ⟨hTtb7_16_8.sm, hTtb7_16_8.el⟩, ?_⟩
                refine orders_all [17] (by kernel_rfl) (by kernel_rfl) ?_
                intro i hi
                simp only [List.mem_cons, List.not_mem_nil, or_false] at hi
                subst hi
                refine st_one (by kernel_rfl) ?_
                simp only [List.filterMap_cons, List.filterMap_nil, List.getElem?_toArray, List.getElem?_cons_succ, List.getElem?_cons_zero]
                refine appStrAt w5.heap.size rfl _ _ rfl hTtb7_16_8.ov (stB pv) hL16tb7_16_8.1 rfl rfl hTtb7_16_8.fr.size (by simp only [List.length_map, List.length_append, List.length_singleton]; omega) ?_
                intro vtb7_16_8_18_17 wtb7_16_8_18_17 hPtb7_16_8_18_17 hftb7_16_8_18_17 hntb7_16_8_18_17
                have hTtb7_16_8_18_17 := hTtb7_16_8.appV hEtb hz5 hPtb7_16_8_18_17 hftb7_16_8_18_17 hntb7_16_8_18_17
                go_wp2_with fail
                refine ⟨fun _ => ⟨hTtb7_16_8_18_17.sm, hTtb7_16_8_18_17.el⟩, ?_⟩
                refine orders_seq [19, 20, 21] _ _ _ (by kernel_rfl) (by kernel_rfl) (by kernel_rfl) ?_
                simp only [List.filterMap_cons, List.filterMap_nil, List.getElem?_toArray, List.getElem?_cons_succ, List.getElem?_cons_zero]
                obtain ⟨Au, nu, cu, hue⟩ := OSs.slice hTtb7_16_8_18_17.ou
                obtain ⟨Av, nv, cv, hve⟩ := OSs.slice hTtb7_16_8_18_17.ov
                subst hue hve
                have hT9 := hTtb7_16_8_18_17.done hz5 (keep_set (by omega) (by omega))
                have b50 := hTtb7_16_8_18_17.sm.c50
                have y50 := hTtb7_16_8_18_17.sm.z50
                have b51 := (hTtb7_16_8_18_17.sm.set0 (Value.slice Au nu cu)).c51
                have y51 := (hTtb7_16_8_18_17.sm.set0 (Value.slice Au nu cu)).z51
                go_wp2_with fail
                generalize (wtb7_16_8_18_17.setCell ⟨N + 2 + 1, 0, none⟩ (Value.slice Au nu cu)).setCell ⟨N + 2 + 1, 1, none⟩ (Value.slice Av nv cv) = w9 at *
                clear b50 y50 b51 y51 hTtb7_16_8_18_17
                go_wp2_with fail
                try go_frame
                go_roundw
                case rel => exact ⟨i + 1, true, (acc ++ [(pk, pv)]), (Value.slice Au nu cu), (Value.slice Av nv cv), by omega, rfl, rfl, by rw [htk.out]; unfold wStep; first | (simp only [hbf]; simp [hpk]; done) | (simp [hpk]; done), hT9.sm.1, by simpa [stB_bs] using hT9.ou, by simpa [stB_bs] using hT9.ov, hT9.ap, hT9.fr⟩
                case measure => simp [intOf]; omega
          · refine st_one (by kernel_rfl) ?_
            simp only [List.filterMap_cons, List.filterMap_nil, List.getElem?_toArray, List.getElem?_cons_succ, List.getElem?_cons_zero]
            go_wp2_with fail
            have hLtb16 := Lt.new hTdtb (stB pv)
            have hTtb16 := hTdtb.frs hEtb hz5 ((Fr.refl [] wdtb).alloc (.cells #[.string (stB pv)] 9))
            obtain ⟨btb16, hbtb16⟩ : ∃ b, b = wdtb.heap.size := ⟨_, rfl⟩
            rw [← hbtb16] at hLtb16 ⊢
            clear hbtb16
            generalize wdtb.alloc (.cells #[.string (stB pv)] 9) = wtb16 at *
            refine ⟨fun _ => ⟨hTtb16.sm, hTtb16.el⟩, ?_⟩
            refine orders_all [7] (by kernel_rfl) (by kernel_rfl) ?_
            intro i hi
            simp only [List.mem_cons, List.not_mem_nil, or_false] at hi
            subst hi
            refine st_one (by kernel_rfl) ?_
            simp only [List.filterMap_cons, List.filterMap_nil, List.getElem?_toArray, List.getElem?_cons_succ, List.getElem?_cons_zero]
            go_wp2_with fail
            have hLtb16_7 := Lt.new hTtb16 (stB pk)
            have hTtb16_7 := hTtb16.frs hEtb hz5 ((Fr.refl [] wtb16).alloc (.cells #[.string (stB pk)] 9))
            have hL16tb16_7 := hLtb16.frs ((Fr.refl [] wtb16).alloc (.cells #[.string (stB pk)] 9))
            obtain ⟨btb16_7, hbtb16_7⟩ : ∃ b, b = wtb16.heap.size := ⟨_, rfl⟩
            rw [← hbtb16_7] at hLtb16_7 ⊢
            clear hbtb16_7
            generalize wtb16.alloc (.cells #[.string (stB pk)] 9) = wtb16_7 at *
            refine ⟨fun _ => ⟨hTtb16_7.sm, hTtb16_7.el⟩, ?_⟩
            refine orders_all [8] (by kernel_rfl) (by kernel_rfl) ?_
            intro i hi
            simp only [List.mem_cons, List.not_mem_nil, or_false] at hi
            subst hi
            refine st_one (by kernel_rfl) ?_
            simp only [List.filterMap_cons, List.filterMap_nil, List.getElem?_toArray, List.getElem?_cons_succ, List.getElem?_cons_zero]
            refine appStrAt w5.heap.size rfl _ _ rfl hTtb16_7.ou (stB pk) hLtb16_7.1 rfl rfl hTtb16_7.fr.size (by simp only [List.length_map, List.length_append, List.length_singleton]; omega) ?_
            intro utb16_7_8 wtb16_7_8 hOtb16_7_8 hftb16_7_8 hntb16_7_8
            have hTtb16_7_8 := hTtb16_7.appU hEtb hz5 hOtb16_7_8 hftb16_7_8 hntb16_7_8
            have hL16tb16_7_8 := hL16tb16_7.appU hftb16_7_8 hntb16_7_8
            go_wp2_with fail
            refine ⟨fun _ => ⟨hTtb16_7_8.sm, hTtb16_7_8.el⟩, ?_⟩
            refine orders_all [17, 18] (by kernel_rfl) (by kernel_rfl) ?_
            intro i hi
            simp only [List.mem_cons, List.not_mem_nil, or_false] at hi
            rcases hi with rfl | rfl
            · refine st_one (by kernel_rfl) ?_
              simp only [List.filterMap_cons, List.filterMap_nil, List.getElem?_toArray, List.getElem?_cons_succ, List.getElem?_cons_zero]
              refine appStrAt w5.heap.size rfl _ _ rfl hTtb16_7_8.ov (stB pv) hL16tb16_7_8.1 rfl rfl hTtb16_7_8.fr.size (by simp only [List.length_map, List.length_append, List.length_singleton]; omega) ?_
              intro vtb16_7_8_17 wtb16_7_8_17 hPtb16_7_8_17 hftb16_7_8_17 hntb16_7_8_17
              have hTtb16_7_8_17 := hTtb16_7_8.appV hEtb hz5 hPtb16_7_8_17 hftb16_7_8_17 hntb16_7_8_17
              go_wp2_with fail
              refine ⟨fun _ => ⟨hTtb16_7_8_17.sm, hTtb16_7_8_17.el⟩, ?_⟩
              refine orders_all [18] (by kernel_rfl) (by kernel_rfl) ?_
              intro i hi
              simp only [List.mem_cons, List.not_mem_nil, or_false] at hi
              subst hi
              refine st_one (by kernel_rfl) ?_
              simp only [List.filterMap_cons, List.filterMap_nil, List.getElem?_toArray, List.getElem?_cons_succ, List.getElem?_cons_zero]
              go_wp2_with fail
              refine ⟨fun _ => ⟨hTtb16_7_8_17.sm, hTtb16_7_8_17.el⟩, ?_⟩
              refine orders_seq [19, 20, 21] _ _ _ (by kernel_rfl) (by kernel_rfl) (by kernel_rfl) ?_
              simp only [List.filterMap_cons, List.filterMap_nil, List.getElem?_toArray, List.getElem?_cons_succ, List.getElem?_cons_zero]
              obtain ⟨Au, nu, cu, hue⟩ := OSs.slice hTtb16_7_8_17.ou
              obtain ⟨Av, nv, cv, hve⟩ := OSs.slice hTtb16_7_8_17.ov
              subst hue hve
              have hT9 := hTtb16_7_8_17.done hz5 (keep_set (by omega) (by omega))
              have b50 := hTtb16_7_8_17.sm.c50
              have y50 := hTtb16_7_8_17.sm.z50
              have b51 := (hTtb16_7_8_17.sm.set0 (Value.slice Au nu cu)).c51
              have y51 := (hTtb16_7_8_17.sm.set0 (Value.slice Au nu cu)).z51
              go_wp2_with fail
              generalize (wtb16_7_8_17.setCell ⟨N + 2 + 1, 0, none⟩ (Value.slice Au nu cu)).setCell ⟨N + 2 + 1, 1, none⟩ (Value.slice Av nv cv) = w9 at *
              clear b50 y50 b51 y51 hTtb16_7_8_17
              go_wp2_with fail
              try go_frame
              go_roundw
              case rel => exact ⟨i + 1, true, (acc ++ [(pk, pv)]), (Value.slice Au nu cu), (Value.slice Av nv cv), by omega, rfl, rfl, by rw [htk.out]; unfold wStep; first | (simp only [hbf]; simp [hpk]; done) | (simp [hpk]; done), hT9.sm.1, by simpa [stB_bs] using hT9.ou, by simpa [stB_bs] using hT9.ov, hT9.ap, hT9.fr⟩
              case measure => simp [intOf]; omega
            · refine st_one (by kernel_rfl) ?_
              simp only [List.filterMap_cons, List.filterMap_nil, List.getElem?_toArray, List.getElem?_cons_succ, List.getElem?_cons_zero]
              go_wp2_with fail
              refine ⟨fun _ => ⟨hTtb16_7_8.sm, hTtb16_7_8.el⟩, ?_⟩
              refine orders_all [17] (by kernel_rfl) (by kernel_rfl) ?_
              intro i hi
              simp only [List.mem_cons, List.not_mem_nil, or_false] at hi
              subst hi
              refine st_one (by kernel_rfl) ?_
              simp only [List.filterMap_cons, List.filterMap_nil, List.getElem?_toArray, List.getElem?_cons_succ, List.getElem?_cons_zero]
              refine appStrAt w5.heap.size rfl _ _ rfl hTtb16_7_8.ov (stB pv) hL16tb16_7_8.1 rfl rfl hTtb16_7_8.fr.size (by simp only [List.length_map, List.length_append, List.length_singleton]; omega) ?_
              intro vtb16_7_8_18_17 wtb16_7_8_18_17 hPtb16_7_8_18_17 hftb16_7_8_18_17 hntb16_7_8_18_17
              have hTtb16_7_8_18_17 := hTtb16_7_8.appV hEtb hz5 hPtb16_7_8_18_17 hftb16_7_8_18_17 hntb16_7_8_18_17
              go_wp2_with fail
              refine ⟨fun _ => ⟨hTtb16_7_8_18_17.sm, hTtb16_7_8_18_17.el⟩, ?_⟩
              refine orders_seq [19, 20, 21] _ _ _ (by kernel_rfl) (by kernel_rfl) (by kernel_rfl) ?_
              simp only [List.filterMap_cons, List.filterMap_nil, List.getElem?_toArray, List.getElem?_cons_succ, List.getElem?_cons_zero]
              obtain ⟨Au, nu, cu, hue⟩ := OSs.slice hTtb16_7_8_18_17.ou
              obtain ⟨Av, nv, cv, hve⟩ := OSs.slice hTtb16_7_8_18_17.ov
              subst hue hve
              have hT9 := hTtb16_7_8_18_17.done hz5 (keep_set (by omega) (by omega))
              have b50 := hTtb16_7_8_18_17.sm.c50
              have y50 := hTtb16_7_8_18_17.sm.z50
              have b51 := (hTtb16_7_8_18_17.sm.set0 (Value.slice Au nu cu)).c51
              have y51 := (hTtb16_7_8_18_17.sm.set0 (Value.slice Au nu cu)).z51
              go_wp2_with fail
              generalize (wtb16_7_8_18_17.setCell ⟨N + 2 + 1, 0, none⟩ (Value.slice Au nu cu)).setCell ⟨N + 2 + 1, 1, none⟩ (Value.slice Av nv cv) = w9 at *
              clear b50 y50 b51 y51 hTtb16_7_8_18_17
              go_wp2_with fail
              try go_frame
              go_roundw
              case rel => exact ⟨i + 1, true, (acc ++ [(pk, pv)]), (Value.slice Au nu cu), (Value.slice Av nv cv), by omega, rfl, rfl, by rw [htk.out]; unfold wStep; first | (simp only [hbf]; simp [hpk]; done) | (simp [hpk]; done), hT9.sm.1, by simpa [stB_bs] using hT9.ou, by simpa [stB_bs] using hT9.ov, hT9.ap, hT9.fr⟩
              case measure => simp [intOf]; omega
      | false =>
        cases hbf : bytesBefore (bs x.key) pk with
        | false =>
          have hless : Op.bytesLess x.key.toList (stB pk).toList = false := by rw [less_bs, bs_stB]; exact hbf
          refine wp_region_textS' (fun w' => SM N u v x (.slice (some ⟨bA, oA, none⟩) n c) (.slice (some ⟨bC, oC, none⟩) n c2) w') [4] [] [] [] (by kernel_rfl) (by kernel_rfl) (by kernel_rfl) hM ?_
          intro K6 hK6
          simp only [cutAt, List.take_succ_cons, List.take_zero, List.drop_succ_cons, List.drop_zero, List.take_nil, List.drop_nil, wpSegs, List.map_cons, List.map_nil, List.nil_append, List.cons_append]
          have hfd6 : Fr [] wr wr.drew := (Fr.refl [] wr).drew
          have hM60 := hM.kept hfd6 (by simp)
          have hO60 := hO.kept hfd6 (by simp)
          have hP60 := hP.kept hfd6 (by simp)
          have eA60 := hfd6.cell hkA (by simp)
          have eC60 := hfd6.cell hkC (by simp)
          have hfr60 := hfr.trans hfd6 (by simp)
          generalize wr.drew = w60 at *
          have b20 := hM60.c20
          have b30 := hM60.c30
          have hz60 := hfd6.size
          go_wp2_with fail
          refine ⟨trivial, hK6 _ _ (by kernel_rfl) ⟨fun o ho => ?_, trivial⟩ ?_⟩
          · cases ho
            exact gives_load rfl (fun w' h => load_cell 9 Tryz.underlying9 rfl h.c30)
          go_wp2_with fail
          clear b20 b30
          by_cases hpk : pk = bs x.key
          · have hse : stB pk = x.key := by rw [hpk, stB_bs]
            have hq := eA60
            rw [hse] at hq
            refine wp_region_textS' (fun w' => SM N u v x (.slice (some ⟨bA, oA, none⟩) n c) (.slice (some ⟨bC, oC, none⟩) n c2) w') [6] [] [] [] (by kernel_rfl) (by kernel_rfl) (by kernel_rfl) hM60 ?_
            intro K8fa hK8fa
            simp only [cutAt, List.take_succ_cons, List.take_zero, List.drop_succ_cons, List.drop_zero, List.take_nil, List.drop_nil, wpSegs, List.map_cons, List.map_nil, List.nil_append, List.cons_append]
            have hfd8fa : Fr [] w60 w60.drew := (Fr.refl [] w60).drew
            have hM80fa := hM60.kept hfd8fa (by simp)
            have hO80fa := hO60.kept hfd8fa (by simp)
            have hP80fa := hP60.kept hfd8fa (by simp)
            have eA80fa := hfd8fa.cell hq (by simp)
            have eC80fa := hfd8fa.cell eC60 (by simp)
            have hfr80fa := hfr60.trans hfd8fa (by simp)
            generalize w60.drew = w80fa at *
            have b20fa := hM80fa.c20
            have b30fa := hM80fa.c30
            have hz80fa := hfd8fa.size
            go_wp2_with fail
            refine ⟨trivial, hK8fa _ _ (by kernel_rfl) ⟨fun o ho => ?_, trivial⟩ ?_⟩
            · cases ho
              exact gives_load rfl (fun w' h => load_cell 9 Tryz.underlying9 rfl h.c30)
            go_wp2_with fail
            clear b20fa b30fa
            go_wp2_with fail
            try go_frame
            go_roundw
            case rel => exact ⟨i + 1, false, acc, u, v, by omega, rfl, rfl, by rw [htk.out]; unfold wStep; first | (simp only [hbf]; simp [hpk]; done) | (simp [hpk]; done), hM80fa.1, by simpa [stB_bs] using hO80fa, by simpa [stB_bs] using hP80fa, hap, hfr80fa⟩
            case measure => simp [intOf]; omega
          · have hq : ((stB pk).toList == x.key.toList) = false := by rw [same_bs, bs_stB]; simpa using hpk
            refine wp_region_textS' (fun w' => SM N u v x (.slice (some ⟨bA, oA, none⟩) n c) (.slice (some ⟨bC, oC, none⟩) n c2) w') [6] [] [] [] (by kernel_rfl) (by kernel_rfl) (by kernel_rfl) hM60 ?_
            intro K8fb hK8fb
            simp only [cutAt, List.take_succ_cons, List.take_zero, List.drop_succ_cons, List.drop_zero, List.take_nil, List.drop_nil, wpSegs, List.map_cons, List.map_nil, List.nil_append, List.cons_append]
            have hfd8fb : Fr [] w60 w60.drew := (Fr.refl [] w60).drew
            have hM80fb := hM60.kept hfd8fb (by simp)
            have hO80fb := hO60.kept hfd8fb (by simp)
            have hP80fb := hP60.kept hfd8fb (by simp)
            have eA80fb := hfd8fb.cell eA60 (by simp)
            have eC80fb := hfd8fb.cell eC60 (by simp)
            have hfr80fb := hfr60.trans hfd8fb (by simp)
            generalize w60.drew = w80fb at *
            have b20fb := hM80fb.c20
            have b30fb := hM80fb.c30
            have hz80fb := hfd8fb.size
            go_wp2_with fail
            refine ⟨trivial, hK8fb _ _ (by kernel_rfl) ⟨fun o ho => ?_, trivial⟩ ?_⟩
            · cases ho
              exact gives_load rfl (fun w' h => load_cell 9 Tryz.underlying9 rfl h.c30)
            go_wp2_with fail
            clear b20fb b30fb
            have hEfb : Keeps w5.heap.size (fun w' => w'.cell? ⟨bA, oA + i, none⟩ = some (.string (stB pk)) ∧ w'.cell? ⟨bC, oC + i, none⟩ = some (.string (stB pv))) := Keeps.cells (by omega) (by omega)
            have hTfb : Tw (fun w' => w'.cell? ⟨bA, oA + i, none⟩ = some (.string (stB pk)) ∧ w'.cell? ⟨bC, oC + i, none⟩ = some (.string (stB pv))) N u v x (.slice (some ⟨bA, oA, none⟩) n c) (.slice (some ⟨bC, oC, none⟩) n c2) u v _ _ w5 w80fb := ⟨hM80fb, ⟨eA80fb, eC80fb⟩, hO80fb, hP80fb, hap, hfr80fb⟩
            refine wp_region_textO (fun w' => SM N u v x (.slice (some ⟨bA, oA, none⟩) n c) (.slice (some ⟨bC, oC, none⟩) n c2) w' ∧ (fun w' => w'.cell? ⟨bA, oA + i, none⟩ = some (.string (stB pk)) ∧ w'.cell? ⟨bC, oC + i, none⟩ = some (.string (stB pv))) w') [1, 3, 6, 10, 12, 15] [0, 1, 2, 3, 4, 5, 6, 9, 10, 11, 12, 13, 14, 15] 19 8 (by kernel_rfl) rfl (by kernel_rfl) ⟨hM80fb, ⟨eA80fb, eC80fb⟩⟩ ?_
            intro Kfb hKfb
            simp only [List.filterMap_cons, List.filterMap_nil, List.getElem?_toArray, List.getElem?_cons_succ, List.getElem?_cons_zero]
            have hTdfb := hTfb.frs hEfb hz5 (Fr.refl [] w80fb).drew
            clear hTfb
            generalize w80fb.drew = wdfb at *
            have a50fb := hTdfb.sm.c50
            have a51fb := hTdfb.sm.c51
            have a30fb := hTdfb.sm.c30
            have a31fb := hTdfb.sm.c31
            have a20fb := hTdfb.sm.c20
            have a21fb := hTdfb.sm.c21
            have eAfb := hTdfb.el.1
            have eCfb := hTdfb.el.2
            go_wp2_with fail
            refine hKfb _ _ (by kernel_rfl) ⟨fun o ho => ?_, fun o ho => ?_, fun o ho => ?_, fun o ho => ?_, fun o ho => ?_, fun o ho => ?_, trivial⟩ ?_
            · cases ho
              exact gives_load rfl (fun w' h => load_cell 34 Tryz.underlying34 rfl h.1.c50)
            · cases ho
              exact gives_load rfl (fun w' h => load_cell 34 Tryz.underlying34 rfl h.1.c20)
            · cases ho
              exact gives_load rfl (fun w' h => load_cell 9 Tryz.underlying9 rfl h.2.1)
            · cases ho
              exact gives_load rfl (fun w' h => load_cell 34 Tryz.underlying34 rfl h.1.c51)
            · cases ho
              exact gives_load rfl (fun w' h => load_cell 34 Tryz.underlying34 rfl h.1.c21)
            · cases ho
              exact gives_load rfl (fun w' h => load_cell 9 Tryz.underlying9 rfl h.2.2)
            clear a50fb a51fb a30fb a31fb a20fb a21fb eAfb eCfb
            refine orders_all [7, 16] (by kernel_rfl) (by kernel_rfl) ?_
            intro i hi
            simp only [List.mem_cons, List.not_mem_nil, or_false] at hi
            rcases hi with rfl | rfl
            · refine st_one (by kernel_rfl) ?_
              simp only [List.filterMap_cons, List.filterMap_nil, List.getElem?_toArray, List.getElem?_cons_succ, List.getElem?_cons_zero]
              go_wp2_with fail
              have hLfb7 := Lt.new hTdfb (stB pk)
              have hTfb7 := hTdfb.frs hEfb hz5 ((Fr.refl [] wdfb).alloc (.cells #[.string (stB pk)] 9))
              obtain ⟨bfb7, hbfb7⟩ : ∃ b, b = wdfb.heap.size := ⟨_, rfl⟩
              rw [← hbfb7] at hLfb7 ⊢
              clear hbfb7
              generalize wdfb.alloc (.cells #[.string (stB pk)] 9) = wfb7 at *
              refine ⟨fun _ => ⟨hTfb7.sm, hTfb7.el⟩, ?_⟩
              refine orders_all [8, 16] (by kernel_rfl) (by kernel_rfl) ?_
              intro i hi
              simp only [List.mem_cons, List.not_mem_nil, or_false] at hi
              rcases hi with rfl | rfl
              · refine st_one (by kernel_rfl) ?_
                simp only [List.filterMap_cons, List.filterMap_nil, List.getElem?_toArray, List.getElem?_cons_succ, List.getElem?_cons_zero]
                refine appStrAt w5.heap.size rfl _ _ rfl hTfb7.ou (stB pk) hLfb7.1 rfl rfl hTfb7.fr.size (by simp only [List.length_map, List.length_append, List.length_singleton]; omega) ?_
                intro ufb7_8 wfb7_8 hOfb7_8 hffb7_8 hnfb7_8
                have hTfb7_8 := hTfb7.appU hEfb hz5 hOfb7_8 hffb7_8 hnfb7_8
                go_wp2_with fail
                refine ⟨fun _ => ⟨hTfb7_8.sm, hTfb7_8.el⟩, ?_⟩
                refine orders_all [16, 18] (by kernel_rfl) (by kernel_rfl) ?_
                intro i hi
                simp only [List.mem_cons, List.not_mem_nil, or_false] at hi
                rcases hi with rfl | rfl
                · refine st_one (by kernel_rfl) ?_
                  simp only [List.filterMap_cons, List.filterMap_nil, List.getElem?_toArray, List.getElem?_cons_succ, List.getElem?_cons_zero]
                  go_wp2_with fail
                  have hLfb7_8_16 := Lt.new hTfb7_8 (stB pv)
                  have hTfb7_8_16 := hTfb7_8.frs hEfb hz5 ((Fr.refl [] wfb7_8).alloc (.cells #[.string (stB pv)] 9))
                  obtain ⟨bfb7_8_16, hbfb7_8_16⟩ : ∃ b, b = wfb7_8.heap.size := ⟨_, rfl⟩
                  rw [← hbfb7_8_16] at hLfb7_8_16 ⊢
                  clear hbfb7_8_16
                  generalize wfb7_8.alloc (.cells #[.string (stB pv)] 9) = wfb7_8_16 at *
                  refine ⟨fun _ => ⟨hTfb7_8_16.sm, hTfb7_8_16.el⟩, ?_⟩
                  refine orders_all [17, 18] (by kernel_rfl) (by kernel_rfl) ?_
                  intro i hi
                  simp only [List.mem_cons, List.not_mem_nil, or_false] at hi
                  rcases hi with rfl | rfl
                  · refine st_one (by kernel_rfl) ?_
                    simp only [List.filterMap_cons, List.filterMap_nil, List.getElem?_toArray, List.getElem?_cons_succ, List.getElem?_cons_zero]
                    refine appStrAt w5.heap.size rfl _ _ rfl hTfb7_8_16.ov (stB pv) hLfb7_8_16.1 rfl rfl hTfb7_8_16.fr.size (by simp only [List.length_map, List.length_append, List.length_singleton]; omega) ?_
                    intro vfb7_8_16_17 wfb7_8_16_17 hPfb7_8_16_17 hffb7_8_16_17 hnfb7_8_16_17
                    have hTfb7_8_16_17 := hTfb7_8_16.appV hEfb hz5 hPfb7_8_16_17 hffb7_8_16_17 hnfb7_8_16_17
                    go_wp2_with fail
                    refine ⟨fun _ => ⟨hTfb7_8_16_17.sm, hTfb7_8_16_17.el⟩, ?_⟩
                    refine orders_all [18] (by kernel_rfl) (by kernel_rfl) ?_
                    intro i hi
                    simp only [List.mem_cons, List.not_mem_nil, or_false] at hi
                    subst hi
                    refine st_one (by kernel_rfl) ?_
                    simp only [List.filterMap_cons, List.filterMap_nil, List.getElem?_toArray, List.getElem?_cons_succ, List.getElem?_cons_zero]
                    go_wp2_with fail
                    refine ⟨fun _ => ⟨hTfb7_8_16_17.sm, hTfb7_8_16_17.el⟩, ?_⟩
                    refine orders_seq [19, 20, 21] _ _ _ (by kernel_rfl) (by kernel_rfl) (by kernel_rfl) ?_
                    simp only [List.filterMap_cons, List.filterMap_nil, List.getElem?_toArray, List.getElem?_cons_succ, List.getElem?_cons_zero]
                    obtain ⟨Au, nu, cu, hue⟩ := OSs.slice hTfb7_8_16_17.ou
                    obtain ⟨Av, nv, cv, hve⟩ := OSs.slice hTfb7_8_16_17.ov
                    subst hue hve
                    have hT9 := hTfb7_8_16_17.done hz5 (keep_set (by omega) (by omega))
                    have b50 := hTfb7_8_16_17.sm.c50
                    have y50 := hTfb7_8_16_17.sm.z50
                    have b51 := (hTfb7_8_16_17.sm.set0 (Value.slice Au nu cu)).c51
                    have y51 := (hTfb7_8_16_17.sm.set0 (Value.slice Au nu cu)).z51
                    go_wp2_with fail
                    generalize (wfb7_8_16_17.setCell ⟨N + 2 + 1, 0, none⟩ (Value.slice Au nu cu)).setCell ⟨N + 2 + 1, 1, none⟩ (Value.slice Av nv cv) = w9 at *
                    clear b50 y50 b51 y51 hTfb7_8_16_17
                    go_wp2_with fail
                    try go_frame
                    go_roundw
                    case rel => exact ⟨i + 1, false, (acc ++ [(pk, pv)]), (Value.slice Au nu cu), (Value.slice Av nv cv), by omega, rfl, rfl, by rw [htk.out]; unfold wStep; first | (simp only [hbf]; simp [hpk]; done) | (simp [hpk]; done), hT9.sm.1, by simpa [stB_bs] using hT9.ou, by simpa [stB_bs] using hT9.ov, hT9.ap, hT9.fr⟩
                    case measure => simp [intOf]; omega
                  · refine st_one (by kernel_rfl) ?_
                    simp only [List.filterMap_cons, List.filterMap_nil, List.getElem?_toArray, List.getElem?_cons_succ, List.getElem?_cons_zero]
                    go_wp2_with fail
                    refine ⟨fun _ => ⟨hTfb7_8_16.sm, hTfb7_8_16.el⟩, ?_⟩
                    refine orders_all [17] (by kernel_rfl) (by kernel_rfl) ?_
                    intro i hi
                    simp only [List.mem_cons, List.not_mem_nil, or_false] at hi
                    subst hi
                    refine st_one (by kernel_rfl) ?_
                    simp only [List.filterMap_cons, List.filterMap_nil, List.getElem?_toArray, List.getElem?_cons_succ, List.getElem?_cons_zero]
                    refine appStrAt w5.heap.size rfl _ _ rfl hTfb7_8_16.ov (stB pv) hLfb7_8_16.1 rfl rfl hTfb7_8_16.fr.size (by simp only [List.length_map, List.length_append, List.length_singleton]; omega) ?_
                    intro vfb7_8_16_18_17 wfb7_8_16_18_17 hPfb7_8_16_18_17 hffb7_8_16_18_17 hnfb7_8_16_18_17
                    have hTfb7_8_16_18_17 := hTfb7_8_16.appV hEfb hz5 hPfb7_8_16_18_17 hffb7_8_16_18_17 hnfb7_8_16_18_17
                    go_wp2_with fail
                    refine ⟨fun _ => ⟨hTfb7_8_16_18_17.sm, hTfb7_8_16_18_17.el⟩, ?_⟩
                    refine orders_seq [19, 20, 21] _ _ _ (by kernel_rfl) (by kernel_rfl) (by kernel_rfl) ?_
                    simp only [List.filterMap_cons, List.filterMap_nil, List.getElem?_toArray, List.getElem?_cons_succ, List.getElem?_cons_zero]
                    obtain ⟨Au, nu, cu, hue⟩ := OSs.slice hTfb7_8_16_18_17.ou
                    obtain ⟨Av, nv, cv, hve⟩ := OSs.slice hTfb7_8_16_18_17.ov
                    subst hue hve
                    have hT9 := hTfb7_8_16_18_17.done hz5 (keep_set (by omega) (by omega))
                    have b50 := hTfb7_8_16_18_17.sm.c50
                    have y50 := hTfb7_8_16_18_17.sm.z50
                    have b51 := (hTfb7_8_16_18_17.sm.set0 (Value.slice Au nu cu)).c51
                    have y51 := (hTfb7_8_16_18_17.sm.set0 (Value.slice Au nu cu)).z51
                    go_wp2_with fail
                    generalize (wfb7_8_16_18_17.setCell ⟨N + 2 + 1, 0, none⟩ (Value.slice Au nu cu)).setCell ⟨N + 2 + 1, 1, none⟩ (Value.slice Av nv cv) = w9 at *
                    clear b50 y50 b51 y51 hTfb7_8_16_18_17
                    go_wp2_with fail
                    try go_frame
                    go_roundw
                    case rel => exact ⟨i + 1, false, (acc ++ [(pk, pv)]), (Value.slice Au nu cu), (Value.slice Av nv cv), by omega, rfl, rfl, by rw [htk.out]; unfold wStep; first | (simp only [hbf]; simp [hpk]; done) | (simp [hpk]; done), hT9.sm.1, by simpa [stB_bs] using hT9.ou, by simpa [stB_bs] using hT9.ov, hT9.ap, hT9.fr⟩
                    case measure => simp [intOf]; omega
                · refine st_one (by kernel_rfl) ?_
                  simp only [List.filterMap_cons, List.filterMap_nil, List.getElem?_toArray, List.getElem?_cons_succ, List.getElem?_cons_zero]
                  go_wp2_with fail
                  refine ⟨fun _ => ⟨hTfb7_8.sm, hTfb7_8.el⟩, ?_⟩
                  refine orders_all [16] (by kernel_rfl) (by kernel_rfl) ?_
                  intro i hi
                  simp only [List.mem_cons, List.not_mem_nil, or_false] at hi
                  subst hi
                  refine st_one (by kernel_rfl) ?_
                  simp only [List.filterMap_cons, List.filterMap_nil, List.getElem?_toArray, List.getElem?_cons_succ, List.getElem?_cons_zero]
                  go_wp2_with fail
                  have hLfb7_8_18_16 := Lt.new hTfb7_8 (stB pv)
                  have hTfb7_8_18_16 := hTfb7_8.frs hEfb hz5 ((Fr.refl [] wfb7_8).alloc (.cells #[.string (stB pv)] 9))
                  obtain ⟨bfb7_8_18_16, hbfb7_8_18_16⟩ : ∃ b, b = wfb7_8.heap.size := ⟨_, rfl⟩
                  rw [← hbfb7_8_18_16] at hLfb7_8_18_16 ⊢
                  clear hbfb7_8_18_16
                  generalize wfb7_8.alloc (.cells #[.string (stB pv)] 9) = wfb7_8_18_16 at *
                  refine ⟨fun _ => ⟨hTfb7_8_18_16.sm, hTfb7_8_18_16.el⟩, ?_⟩
                  refine orders_all [17] (by kernel_rfl) (by kernel_rfl) ?_
                  intro i hi
                  simp only [List.mem_cons, List.not_mem_nil, or_false] at hi
                  subst hi
                  refine st_one (by kernel_rfl) ?_
                  simp only [List.filterMap_cons, List.filterMap_nil, List.getElem?_toArray, List.getElem?_cons_succ, List.getElem?_cons_zero]
                  refine appStrAt w5.heap.size rfl _ _ rfl hTfb7_8_18_16.ov (stB pv) hLfb7_8_18_16.1 rfl rfl hTfb7_8_18_16.fr.size (by simp only [List.length_map, List.length_append, List.length_singleton]; omega) ?_
                  intro vfb7_8_18_16_17 wfb7_8_18_16_17 hPfb7_8_18_16_17 hffb7_8_18_16_17 hnfb7_8_18_16_17
                  have hTfb7_8_18_16_17 := hTfb7_8_18_16.appV hEfb hz5 hPfb7_8_18_16_17 hffb7_8_18_16_17 hnfb7_8_18_16_17
                  go_wp2_with fail
                  refine ⟨fun _ => ⟨hTfb7_8_18_16_17.sm, hTfb7_8_18_16_17.el⟩, ?_⟩
                  refine orders_seq [19, 20, 21] _ _ _ (by kernel_rfl) (by kernel_rfl) (by kernel_rfl) ?_
                  simp only [List.filterMap_cons, List.filterMap_nil, List.getElem?_toArray, List.getElem?_cons_succ, List.getElem?_cons_zero]
                  obtain ⟨Au, nu, cu, hue⟩ := OSs.slice hTfb7_8_18_16_17.ou
                  obtain ⟨Av, nv, cv, hve⟩ := OSs.slice hTfb7_8_18_16_17.ov
                  subst hue hve
                  have hT9 := hTfb7_8_18_16_17.done hz5 (keep_set (by omega) (by omega))
                  have b50 := hTfb7_8_18_16_17.sm.c50
                  have y50 := hTfb7_8_18_16_17.sm.z50
                  have b51 := (hTfb7_8_18_16_17.sm.set0 (Value.slice Au nu cu)).c51
                  have y51 := (hTfb7_8_18_16_17.sm.set0 (Value.slice Au nu cu)).z51
                  go_wp2_with fail
                  generalize (wfb7_8_18_16_17.setCell ⟨N + 2 + 1, 0, none⟩ (Value.slice Au nu cu)).setCell ⟨N + 2 + 1, 1, none⟩ (Value.slice Av nv cv) = w9 at *
                  clear b50 y50 b51 y51 hTfb7_8_18_16_17
                  go_wp2_with fail
                  try go_frame
                  go_roundw
                  case rel => exact ⟨i + 1, false, (acc ++ [(pk, pv)]), (Value.slice Au nu cu), (Value.slice Av nv cv), by omega, rfl, rfl, by rw [htk.out]; unfold wStep; first | (simp only [hbf]; simp [hpk]; done) | (simp [hpk]; done), hT9.sm.1, by simpa [stB_bs] using hT9.ou, by simpa [stB_bs] using hT9.ov, hT9.ap, hT9.fr⟩
                  case measure => simp [intOf]; omega
              · refine st_one (by kernel_rfl) ?_
                simp only [List.filterMap_cons, List.filterMap_nil, List.getElem?_toArray, List.getElem?_cons_succ, List.getElem?_cons_zero]
                go_wp2_with fail
                have hLfb7_16 := Lt.new hTfb7 (stB pv)
                have hTfb7_16 := hTfb7.frs hEfb hz5 ((Fr.refl [] wfb7).alloc (.cells #[.string (stB pv)] 9))
                have hL7fb7_16 := hLfb7.frs ((Fr.refl [] wfb7).alloc (.cells #[.string (stB pv)] 9))
                obtain ⟨bfb7_16, hbfb7_16⟩ : ∃ b, b = wfb7.heap.size := ⟨_, rfl⟩
                rw [← hbfb7_16] at hLfb7_16 ⊢
                clear hbfb7_16
                generalize wfb7.alloc (.cells #[.string (stB pv)] 9) = wfb7_16 at *
                refine ⟨fun _ => ⟨hTfb7_16.sm, hTfb7_16.el⟩, ?_⟩
                refine orders_all [8] (by kernel_rfl) (by kernel_rfl) ?_
                intro i hi
                simp only [List.mem_cons, List.not_mem_nil, or_false] at hi
                subst hi
                refine st_one (by kernel_rfl) ?_
                simp only [List.filterMap_cons, List.filterMap_nil, List.getElem?_toArray, List.getElem?_cons_succ, List.getElem?_cons_zero]
                refine appStrAt w5.heap.size rfl _ _ rfl hTfb7_16.ou (stB pk) hL7fb7_16.1 rfl rfl hTfb7_16.fr.size (by simp only [List.length_map, List.length_append, List.length_singleton]; omega) ?_
                intro ufb7_16_8 wfb7_16_8 hOfb7_16_8 hffb7_16_8 hnfb7_16_8
                have hTfb7_16_8 := hTfb7_16.appU hEfb hz5 hOfb7_16_8 hffb7_16_8 hnfb7_16_8
                have hL16fb7_16_8 := hLfb7_16.appU hffb7_16_8 hnfb7_16_8
                go_wp2_with fail
                refine ⟨fun _ => ⟨hTfb7_16_8.sm, hTfb7_16_8.el⟩, ?_⟩
                refine orders_all [17, 18] (by kernel_rfl) (by kernel_rfl) ?_
                intro i hi
                simp only [List.mem_cons, List.not_mem_nil, or_false] at hi
                rcases hi with rfl | rfl
                · refine st_one (by kernel_rfl) ?_
                  simp only [List.filterMap_cons, List.filterMap_nil, List.getElem?_toArray, List.getElem?_cons_succ, List.getElem?_cons_zero]
                  refine appStrAt w5.heap.size rfl _ _ rfl hTfb7_16_8.ov (stB pv) hL16fb7_16_8.1 rfl rfl hTfb7_16_8.fr.size (by simp only [List.length_map, List.length_append, List.length_singleton]; omega) ?_
                  intro vfb7_16_8_17 wfb7_16_8_17 hPfb7_16_8_17 hffb7_16_8_17 hnfb7_16_8_17
                  have hTfb7_16_8_17 := hTfb7_16_8.appV hEfb hz5 hPfb7_16_8_17 hffb7_16_8_17 hnfb7_16_8_17
                  go_wp2_with fail
                  refine ⟨fun _ => ⟨hTfb7_16_8_17.sm, hTfb7_16_8_17.el⟩, ?_⟩
                  refine orders_all [18] (by kernel_rfl) (by kernel_rfl) ?_
                  intro i hi
                  simp only [List.mem_cons, List.not_mem_nil, or_false] at hi
                  subst hi
                  refine st_one (by kernel_rfl) ?_
                  simp only [List.filterMap_cons, List.filterMap_nil, List.getElem?_toArray, List.getElem?_cons_succ, List.getElem?_cons_zero]
                  go_wp2_with fail
                  refine ⟨fun _ => ⟨hTfb7_16_8_17.sm, hTfb7_16_8_17.el⟩, ?_⟩
                  refine orders_seq [19, 20, 21] _ _ _ (by kernel_rfl) (by kernel_rfl) (by kernel_rfl) ?_
                  simp only [List.filterMap_cons, List.filterMap_nil, List.getElem?_toArray, List.getElem?_cons_succ, List.getElem?_cons_zero]
                  obtain ⟨Au, nu, cu, hue⟩ := OSs.slice hTfb7_16_8_17.ou
                  obtain ⟨Av, nv, cv, hve⟩ := OSs.slice hTfb7_16_8_17.ov
                  subst hue hve
                  have hT9 := hTfb7_16_8_17.done hz5 (keep_set (by omega) (by omega))
                  have b50 := hTfb7_16_8_17.sm.c50
                  have y50 := hTfb7_16_8_17.sm.z50
                  have b51 := (hTfb7_16_8_17.sm.set0 (Value.slice Au nu cu)).c51
                  have y51 := (hTfb7_16_8_17.sm.set0 (Value.slice Au nu cu)).z51
                  go_wp2_with fail
                  generalize (wfb7_16_8_17.setCell ⟨N + 2 + 1, 0, none⟩ (Value.slice Au nu cu)).setCell ⟨N + 2 + 1, 1, none⟩ (Value.slice Av nv cv) = w9 at *
                  clear b50 y50 b51 y51 hTfb7_16_8_17
                  go_wp2_with fail
                  try go_frame
                  go_roundw
                  case rel => exact ⟨i + 1, false, (acc ++ [(pk, pv)]), (Value.slice Au nu cu), (Value.slice Av nv cv), by omega, rfl, rfl, by rw [htk.out]; unfold wStep; first | (simp only [hbf]; simp [hpk]; done) | (simp [hpk]; done), hT9.sm.1, by simpa [stB_bs] using hT9.ou, by simpa [stB_bs] using hT9.ov, hT9.ap, hT9.fr⟩
                  case measure => simp [intOf]; omega
                · refine st_one (by kernel_rfl) ?_
                  simp only [List.filterMap_cons, List.filterMap_nil, List.getElem?_toArray, List.getElem?_cons_succ, List.getElem?_cons_zero]
                  go_wp2_with fail
                  refine ⟨fun _ => ⟨hTfb7_16_8.sm, hTfb7_16_8.el⟩, ?_⟩
                  refine orders_all [17] (by kernel_rfl) (by kernel_rfl) ?_
                  intro i hi
                  simp only [List.mem_cons, List.not_mem_nil, or_false] at hi
                  subst hi
                  refine st_one (by kernel_rfl) ?_
                  simp only [List.filterMap_cons, List.filterMap_nil, List.getElem?_toArray, List.getElem?_cons_succ, List.getElem?_cons_zero]
                  refine appStrAt w5.heap.size rfl _ _ rfl hTfb7_16_8.ov (stB pv) hL16fb7_16_8.1 rfl rfl hTfb7_16_8.fr.size (by simp only [List.length_map, List.length_append, List.length_singleton]; omega) ?_
                  intro vfb7_16_8_18_17 wfb7_16_8_18_17 hPfb7_16_8_18_17 hffb7_16_8_18_17 hnfb7_16_8_18_17
                  have hTfb7_16_8_18_17 := hTfb7_16_8.appV hEfb hz5 hPfb7_16_8_18_17 hffb7_16_8_18_17 hnfb7_16_8_18_17
                  go_wp2_with fail
                  refine ⟨fun _ => ⟨hTfb7_16_8_18_17.sm, hTfb7_16_8_18_17.el⟩, ?_⟩
                  refine orders_seq [19, 20, 21] _ _ _ (by kernel_rfl) (by kernel_rfl) (by kernel_rfl) ?_
                  simp only [List.filterMap_cons, List.filterMap_nil, List.getElem?_toArray, List.getElem?_cons_succ, List.getElem?_cons_zero]
                  obtain ⟨Au, nu, cu, hue⟩ := OSs.slice hTfb7_16_8_18_17.ou
                  obtain ⟨Av, nv, cv, hve⟩ := OSs.slice hTfb7_16_8_18_17.ov
                  subst hue hve
                  have hT9 := hTfb7_16_8_18_17.done hz5 (keep_set (by omega) (by omega))
                  have b50 := hTfb7_16_8_18_17.sm.c50
                  have y50 := hTfb7_16_8_18_17.sm.z50
                  have b51 := (hTfb7_16_8_18_17.sm.set0 (Value.slice Au nu cu)).c51
                  have y51 := (hTfb7_16_8_18_17.sm.set0 (Value.slice Au nu cu)).z51
                  go_wp2_with fail
                  generalize (wfb7_16_8_18_17.setCell ⟨N + 2 + 1, 0, none⟩ (Value.slice Au nu cu)).setCell ⟨N + 2 + 1, 1, none⟩ (Value.slice Av nv cv) = w9 at *
                  clear b50 y50 b51 y51 hTfb7_16_8_18_17
                  go_wp2_with fail
                  try go_frame
                  go_roundw
                  case rel => exact ⟨i + 1, false, (acc ++ [(pk, pv)]), (Value.slice Au nu cu), (Value.slice Av nv cv), by omega, rfl, rfl, by rw [htk.out]; unfold wStep; first | (simp only [hbf]; simp [hpk]; done) | (simp [hpk]; done), hT9.sm.1, by simpa [stB_bs] using hT9.ou, by simpa [stB_bs] using hT9.ov, hT9.ap, hT9.fr⟩
                  case measure => simp [intOf]; omega
            · refine st_one (by kernel_rfl) ?_
              simp only [List.filterMap_cons, List.filterMap_nil, List.getElem?_toArray, List.getElem?_cons_succ, List.getElem?_cons_zero]
              go_wp2_with fail
              have hLfb16 := Lt.new hTdfb (stB pv)
              have hTfb16 := hTdfb.frs hEfb hz5 ((Fr.refl [] wdfb).alloc (.cells #[.string (stB pv)] 9))
              obtain ⟨bfb16, hbfb16⟩ : ∃ b, b = wdfb.heap.size := ⟨_, rfl⟩
              rw [← hbfb16] at hLfb16 ⊢
              clear hbfb16
              generalize wdfb.alloc (.cells #[.string (stB pv)] 9) = wfb16 at *
              refine ⟨fun _ => ⟨hTfb16.sm, hTfb16.el⟩, ?_⟩
              refine orders_all [7] (by kernel_rfl) (by kernel_rfl) ?_
              intro i hi
              simp only [List.mem_cons, List.not_mem_nil, or_false] at hi
              subst hi
              refine st_one (by kernel_rfl) ?_
              simp only [List.filterMap_cons, List.filterMap_nil, List.getElem?_toArray, List.getElem?_cons_succ, List.getElem?_cons_zero]
              go_wp2_with fail
              have hLfb16_7 := Lt.new hTfb16 (stB pk)
              have hTfb16_7 := hTfb16.frs hEfb hz5 ((Fr.refl [] wfb16).alloc (.cells #[.string (stB pk)] 9))
              have hL16fb16_7 := hLfb16.frs ((Fr.refl [] wfb16).alloc (.cells #[.string (stB pk)] 9))
              obtain ⟨bfb16_7, hbfb16_7⟩ : ∃ b, b = wfb16.heap.size := ⟨_, rfl⟩
              rw [← hbfb16_7] at hLfb16_7 ⊢
              clear hbfb16_7
              generalize wfb16.alloc (.cells #[.string (stB pk)] 9) = wfb16_7 at *
              refine ⟨fun _ => ⟨hTfb16_7.sm, hTfb16_7.el⟩, ?_⟩
              refine orders_all [8] (by kernel_rfl) (by kernel_rfl) ?_
              intro i hi
              simp only [List.mem_cons, List.not_mem_nil, or_false] at hi
              subst hi
              refine st_one (by kernel_rfl) ?_
              simp only [List.filterMap_cons, List.filterMap_nil, List.getElem?_toArray, List.getElem?_cons_succ, List.getElem?_cons_zero]
              refine appStrAt w5.heap.size rfl _ _ rfl hTfb16_7.ou (stB pk) hLfb16_7.1 rfl rfl hTfb16_7.fr.size (by simp only [List.length_map, List.length_append, List.length_singleton]; omega) ?_
              intro ufb16_7_8 wfb16_7_8 hOfb16_7_8 hffb16_7_8 hnfb16_7_8
              have hTfb16_7_8 := hTfb16_7.appU hEfb hz5 hOfb16_7_8 hffb16_7_8 hnfb16_7_8
              have hL16fb16_7_8 := hL16fb16_7.appU hffb16_7_8 hnfb16_7_8
              go_wp2_with fail
              refine ⟨fun _ => ⟨hTfb16_7_8.sm, hTfb16_7_8.el⟩, ?_⟩
              refine orders_all [17, 18] (by kernel_rfl) (by kernel_rfl) ?_
              intro i hi
              simp only [List.mem_cons, List.not_mem_nil, or_false] at hi
              rcases hi with rfl | rfl
              · refine st_one (by kernel_rfl) ?_
                simp only [List.filterMap_cons, List.filterMap_nil, List.getElem?_toArray, List.getElem?_cons_succ, List.getElem?_cons_zero]
                refine appStrAt w5.heap.size rfl _ _ rfl hTfb16_7_8.ov (stB pv) hL16fb16_7_8.1 rfl rfl hTfb16_7_8.fr.size (by simp only [List.length_map, List.length_append, List.length_singleton]; omega) ?_
                intro vfb16_7_8_17 wfb16_7_8_17 hPfb16_7_8_17 hffb16_7_8_17 hnfb16_7_8_17
                have hTfb16_7_8_17 := hTfb16_7_8.appV hEfb hz5 hPfb16_7_8_17 hffb16_7_8_17 hnfb16_7_8_17
                go_wp2_with fail
                refine ⟨fun _ => ⟨hTfb16_7_8_17.sm, hTfb16_7_8_17.el⟩, ?_⟩
                refine orders_all [18] (by kernel_rfl) (by kernel_rfl) ?_
                intro i hi
                simp only [List.mem_cons, List.not_mem_nil, or_false] at hi
                subst hi
                refine st_one (by kernel_rfl) ?_
                simp only [List.filterMap_cons, List.filterMap_nil, List.getElem?_toArray, List.getElem?_cons_succ, List.getElem?_cons_zero]
                go_wp2_with fail
                refine ⟨fun _ => ⟨hTfb16_7_8_17.sm, hTfb16_7_8_17.el⟩, ?_⟩
                refine orders_seq [19, 20, 21] _ _ _ (by kernel_rfl) (by kernel_rfl) (by kernel_rfl) ?_
                simp only [List.filterMap_cons, List.filterMap_nil, List.getElem?_toArray, List.getElem?_cons_succ, List.getElem?_cons_zero]
                obtain ⟨Au, nu, cu, hue⟩ := OSs.slice hTfb16_7_8_17.ou
                obtain ⟨Av, nv, cv, hve⟩ := OSs.slice hTfb16_7_8_17.ov
                subst hue hve
                have hT9 := hTfb16_7_8_17.done hz5 (keep_set (by omega) (by omega))
                have b50 := hTfb16_7_8_17.sm.c50
                have y50 := hTfb16_7_8_17.sm.z50
                have b51 := (hTfb16_7_8_17.sm.set0 (Value.slice Au nu cu)).c51
                have y51 := (hTfb16_7_8_17.sm.set0 (Value.slice Au nu cu)).z51
                go_wp2_with fail
                generalize (wfb16_7_8_17.setCell ⟨N + 2 + 1, 0, none⟩ (Value.slice Au nu cu)).setCell ⟨N + 2 + 1, 1, none⟩ (Value.slice Av nv cv) = w9 at *
                clear b50 y50 b51 y51 hTfb16_7_8_17
                go_wp2_with fail
                try go_frame
                go_roundw
                case rel => exact ⟨i + 1, false, (acc ++ [(pk, pv)]), (Value.slice Au nu cu), (Value.slice Av nv cv), by omega, rfl, rfl, by rw [htk.out]; unfold wStep; first | (simp only [hbf]; simp [hpk]; done) | (simp [hpk]; done), hT9.sm.1, by simpa [stB_bs] using hT9.ou, by simpa [stB_bs] using hT9.ov, hT9.ap, hT9.fr⟩
                case measure => simp [intOf]; omega
              · refine st_one (by kernel_rfl) ?_
                simp only [List.filterMap_cons, List.filterMap_nil, List.getElem?_toArray, List.getElem?_cons_succ, List.getElem?_cons_zero]
                go_wp2_with fail
                refine ⟨fun _ => ⟨hTfb16_7_8.sm, hTfb16_7_8.el⟩, ?_⟩
                refine orders_all [17] (by kernel_rfl) (by kernel_rfl) ?_
                intro i hi
                simp only [List.mem_cons, List.not_mem_nil, or_false] at hi
                subst hi
                refine st_one (by kernel_rfl) ?_
                simp only [List.filterMap_cons, List.filterMap_nil, List.getElem?_toArray, List.getElem?_cons_succ, List.getElem?_cons_zero]
                refine appStrAt w5.heap.size rfl _ _ rfl hTfb16_7_8.ov (stB pv) hL16fb16_7_8.1 rfl rfl hTfb16_7_8.fr.size (by simp only [List.length_map, List.length_append, List.length_singleton]; omega) ?_
                intro vfb16_7_8_18_17 wfb16_7_8_18_17 hPfb16_7_8_18_17 hffb16_7_8_18_17 hnfb16_7_8_18_17
                have hTfb16_7_8_18_17 := hTfb16_7_8.appV hEfb hz5 hPfb16_7_8_18_17 hffb16_7_8_18_17 hnfb16_7_8_18_17
                go_wp2_with fail
                refine ⟨fun _ => ⟨hTfb16_7_8_18_17.sm, hTfb16_7_8_18_17.el⟩, ?_⟩
                refine orders_seq [19, 20, 21] _ _ _ (by kernel_rfl) (by kernel_rfl) (by kernel_rfl) ?_
                simp only [List.filterMap_cons, List.filterMap_nil, List.getElem?_toArray, List.getElem?_cons_succ, List.getElem?_cons_zero]
                obtain ⟨Au, nu, cu, hue⟩ := OSs.slice hTfb16_7_8_18_17.ou
                obtain ⟨Av, nv, cv, hve⟩ := OSs.slice hTfb16_7_8_18_17.ov
                subst hue hve
                have hT9 := hTfb16_7_8_18_17.done hz5 (keep_set (by omega) (by omega))
                have b50 := hTfb16_7_8_18_17.sm.c50
                have y50 := hTfb16_7_8_18_17.sm.z50
                have b51 := (hTfb16_7_8_18_17.sm.set0 (Value.slice Au nu cu)).c51
                have y51 := (hTfb16_7_8_18_17.sm.set0 (Value.slice Au nu cu)).z51
                go_wp2_with fail
                generalize (wfb16_7_8_18_17.setCell ⟨N + 2 + 1, 0, none⟩ (Value.slice Au nu cu)).setCell ⟨N + 2 + 1, 1, none⟩ (Value.slice Av nv cv) = w9 at *
                clear b50 y50 b51 y51 hTfb16_7_8_18_17
                go_wp2_with fail
                try go_frame
                go_roundw
                case rel => exact ⟨i + 1, false, (acc ++ [(pk, pv)]), (Value.slice Au nu cu), (Value.slice Av nv cv), by omega, rfl, rfl, by rw [htk.out]; unfold wStep; first | (simp only [hbf]; simp [hpk]; done) | (simp [hpk]; done), hT9.sm.1, by simpa [stB_bs] using hT9.ou, by simpa [stB_bs] using hT9.ov, hT9.ap, hT9.fr⟩
                case measure => simp [intOf]; omega
        | true =>
          have hless : Op.bytesLess x.key.toList (stB pk).toList = true := by rw [less_bs, bs_stB]; exact hbf
          refine wp_region_textS' (fun w' => SM N u v x (.slice (some ⟨bA, oA, none⟩) n c) (.slice (some ⟨bC, oC, none⟩) n c2) w') [4] [] [] [] (by kernel_rfl) (by kernel_rfl) (by kernel_rfl) hM ?_
          intro K6 hK6
          simp only [cutAt, List.take_succ_cons, List.take_zero, List.drop_succ_cons, List.drop_zero, List.take_nil, List.drop_nil, wpSegs, List.map_cons, List.map_nil, List.nil_append, List.cons_append]
          have hfd6 : Fr [] wr wr.drew := (Fr.refl [] wr).drew
          have hM60 := hM.kept hfd6 (by simp)
          have hO60 := hO.kept hfd6 (by simp)
          have hP60 := hP.kept hfd6 (by simp)
          have eA60 := hfd6.cell hkA (by simp)
          have eC60 := hfd6.cell hkC (by simp)
          have hfr60 := hfr.trans hfd6 (by simp)
          generalize wr.drew = w60 at *
          have b20 := hM60.c20
          have b30 := hM60.c30
          have hz60 := hfd6.size
          go_wp2_with fail
          refine ⟨trivial, hK6 _ _ (by kernel_rfl) ⟨fun o ho => ?_, trivial⟩ ?_⟩
          · cases ho
            exact gives_load rfl (fun w' h => load_cell 9 Tryz.underlying9 rfl h.c30)
          go_wp2_with fail
          clear b20 b30
          go_cut [6] from 11 to 71 (fun dv wx => ∃ u1 v1 : Value, dv = .bool true ∧ Tw (fun w' => w'.cell? ⟨bA, oA + i, none⟩ = some (.string (stB pk)) ∧ w'.cell? ⟨bC, oC + i, none⟩ = some (.string (stB pv))) N u1 v1 x (.slice (some ⟨bA, oA, none⟩) n c) (.slice (some ⟨bC, oC, none⟩) n c2) u1 v1 ((acc ++ [(bs x.key, bs x.b)]).map fun p => stB p.1) ((acc ++ [(bs x.key, bs x.b)]).map fun p => stB p.2) w5 wx)
          case first =>
            have hE7 : Keeps w5.heap.size (fun w' => w'.cell? ⟨bA, oA + i, none⟩ = some (.string (stB pk)) ∧ w'.cell? ⟨bC, oC + i, none⟩ = some (.string (stB pv))) := Keeps.cells (by omega) (by omega)
            have hT7 : Tw (fun w' => w'.cell? ⟨bA, oA + i, none⟩ = some (.string (stB pk)) ∧ w'.cell? ⟨bC, oC + i, none⟩ = some (.string (stB pv))) N u v x (.slice (some ⟨bA, oA, none⟩) n c) (.slice (some ⟨bC, oC, none⟩) n c2) u v _ _ w5 w60 := ⟨hM60, ⟨eA60, eC60⟩, hO60, hP60, hap, hfr60⟩
            refine wp_region_textO (fun w' => SM N u v x (.slice (some ⟨bA, oA, none⟩) n c) (.slice (some ⟨bC, oC, none⟩) n c2) w' ∧ (fun w' => w'.cell? ⟨bA, oA + i, none⟩ = some (.string (stB pk)) ∧ w'.cell? ⟨bC, oC + i, none⟩ = some (.string (stB pv))) w') [1, 3, 7, 9] [0, 1, 2, 3, 6, 7, 8, 9] 13 9 (by kernel_rfl) rfl (by kernel_rfl) ⟨hM60, ⟨eA60, eC60⟩⟩ ?_
            intro K7 hK7
            simp only [List.filterMap_cons, List.filterMap_nil, List.getElem?_toArray, List.getElem?_cons_succ, List.getElem?_cons_zero]
            have hTd7 := hT7.frs hE7 hz5 (Fr.refl [] w60).drew
            clear hT7
            generalize w60.drew = wd7 at *
            have a507 := hTd7.sm.c50
            have a517 := hTd7.sm.c51
            have a307 := hTd7.sm.c30
            have a317 := hTd7.sm.c31
            have a207 := hTd7.sm.c20
            have a217 := hTd7.sm.c21
            have eA7 := hTd7.el.1
            have eC7 := hTd7.el.2
            go_wp2_with fail
            refine hK7 _ _ (by kernel_rfl) ⟨fun o ho => ?_, fun o ho => ?_, fun o ho => ?_, fun o ho => ?_, trivial⟩ ?_
            · cases ho
              exact gives_load rfl (fun w' h => load_cell 34 Tryz.underlying34 rfl h.1.c50)
            · cases ho
              exact gives_load rfl (fun w' h => load_cell 9 Tryz.underlying9 rfl h.1.c30)
            · cases ho
              exact gives_load rfl (fun w' h => load_cell 34 Tryz.underlying34 rfl h.1.c51)
            · cases ho
              exact gives_load rfl (fun w' h => load_cell 9 Tryz.underlying9 rfl h.1.c31)
            clear a507 a517 a307 a317 a207 a217 eA7 eC7
            refine orders_all [4, 10] (by kernel_rfl) (by kernel_rfl) ?_
            intro i hi
            simp only [List.mem_cons, List.not_mem_nil, or_false] at hi
            rcases hi with rfl | rfl
            · refine st_one (by kernel_rfl) ?_
              simp only [List.filterMap_cons, List.filterMap_nil, List.getElem?_toArray, List.getElem?_cons_succ, List.getElem?_cons_zero]
              go_wp2_with fail
              have hL74 := Lt.new hTd7 x.key
              have hT74 := hTd7.frs hE7 hz5 ((Fr.refl [] wd7).alloc (.cells #[.string x.key] 9))
              obtain ⟨b74, hb74⟩ : ∃ b, b = wd7.heap.size := ⟨_, rfl⟩
              rw [← hb74] at hL74 ⊢
              clear hb74
              generalize wd7.alloc (.cells #[.string x.key] 9) = w74 at *
              refine ⟨fun _ => ⟨hT74.sm, hT74.el⟩, ?_⟩
              refine orders_all [5, 10] (by kernel_rfl) (by kernel_rfl) ?_
              intro i hi
              simp only [List.mem_cons, List.not_mem_nil, or_false] at hi
              rcases hi with rfl | rfl
              · refine st_one (by kernel_rfl) ?_
                simp only [List.filterMap_cons, List.filterMap_nil, List.getElem?_toArray, List.getElem?_cons_succ, List.getElem?_cons_zero]
                refine appStrAt w5.heap.size rfl _ _ rfl hT74.ou x.key hL74.1 rfl rfl hT74.fr.size (by simp only [List.length_map, List.length_append, List.length_singleton]; omega) ?_
                intro u74_5 w74_5 hO74_5 hf74_5 hn74_5
                have hT74_5 := hT74.appU hE7 hz5 hO74_5 hf74_5 hn74_5
                go_wp2_with fail
                refine ⟨fun _ => ⟨hT74_5.sm, hT74_5.el⟩, ?_⟩
                refine orders_all [10, 12] (by kernel_rfl) (by kernel_rfl) ?_
                intro i hi
                simp only [List.mem_cons, List.not_mem_nil, or_false] at hi
                rcases hi with rfl | rfl
                · refine st_one (by kernel_rfl) ?_
                  simp only [List.filterMap_cons, List.filterMap_nil, List.getElem?_toArray, List.getElem?_cons_succ, List.getElem?_cons_zero]
                  go_wp2_with fail
                  have hL74_5_10 := Lt.new hT74_5 x.b
                  have hT74_5_10 := hT74_5.frs hE7 hz5 ((Fr.refl [] w74_5).alloc (.cells #[.string x.b] 9))
                  obtain ⟨b74_5_10, hb74_5_10⟩ : ∃ b, b = w74_5.heap.size := ⟨_, rfl⟩
                  rw [← hb74_5_10] at hL74_5_10 ⊢
                  clear hb74_5_10
                  generalize w74_5.alloc (.cells #[.string x.b] 9) = w74_5_10 at *
                  refine ⟨fun _ => ⟨hT74_5_10.sm, hT74_5_10.el⟩, ?_⟩
                  refine orders_all [11, 12] (by kernel_rfl) (by kernel_rfl) ?_
                  intro i hi
                  simp only [List.mem_cons, List.not_mem_nil, or_false] at hi
                  rcases hi with rfl | rfl
                  · refine st_one (by kernel_rfl) ?_
                    simp only [List.filterMap_cons, List.filterMap_nil, List.getElem?_toArray, List.getElem?_cons_succ, List.getElem?_cons_zero]
                    refine appStrAt w5.heap.size rfl _ _ rfl hT74_5_10.ov x.b hL74_5_10.1 rfl rfl hT74_5_10.fr.size (by simp only [List.length_map, List.length_append, List.length_singleton]; omega) ?_
                    intro v74_5_10_11 w74_5_10_11 hP74_5_10_11 hf74_5_10_11 hn74_5_10_11
                    have hT74_5_10_11 := hT74_5_10.appV hE7 hz5 hP74_5_10_11 hf74_5_10_11 hn74_5_10_11
                    go_wp2_with fail
                    refine ⟨fun _ => ⟨hT74_5_10_11.sm, hT74_5_10_11.el⟩, ?_⟩
                    refine orders_all [12] (by kernel_rfl) (by kernel_rfl) ?_
                    intro i hi
                    simp only [List.mem_cons, List.not_mem_nil, or_false] at hi
                    subst hi
                    refine st_one (by kernel_rfl) ?_
                    simp only [List.filterMap_cons, List.filterMap_nil, List.getElem?_toArray, List.getElem?_cons_succ, List.getElem?_cons_zero]
                    go_wp2_with fail
                    refine ⟨fun _ => ⟨hT74_5_10_11.sm, hT74_5_10_11.el⟩, ?_⟩
                    refine orders_seq [13, 14, 15, 16] _ _ _ (by kernel_rfl) (by kernel_rfl) (by kernel_rfl) ?_
                    simp only [List.filterMap_cons, List.filterMap_nil, List.getElem?_toArray, List.getElem?_cons_succ, List.getElem?_cons_zero]
                    obtain ⟨Au, nu, cu, hue⟩ := OSs.slice hT74_5_10_11.ou
                    obtain ⟨Av, nv, cv, hve⟩ := OSs.slice hT74_5_10_11.ov
                    subst hue hve
                    have hT9 := hT74_5_10_11.done hz5 (keep_set (by omega) (by omega))
                    have b50 := hT74_5_10_11.sm.c50
                    have y50 := hT74_5_10_11.sm.z50
                    have b51 := (hT74_5_10_11.sm.set0 (Value.slice Au nu cu)).c51
                    have y51 := (hT74_5_10_11.sm.set0 (Value.slice Au nu cu)).z51
                    go_wp2_with fail
                    generalize (w74_5_10_11.setCell ⟨N + 2 + 1, 0, none⟩ (Value.slice Au nu cu)).setCell ⟨N + 2 + 1, 1, none⟩ (Value.slice Av nv cv) = w9 at *
                    clear b50 y50 b51 y51 hT74_5_10_11
                    go_meet
                    exact ⟨_, _, rfl, by simpa [stB_bs] using hT9⟩
                  · refine st_one (by kernel_rfl) ?_
                    simp only [List.filterMap_cons, List.filterMap_nil, List.getElem?_toArray, List.getElem?_cons_succ, List.getElem?_cons_zero]
                    go_wp2_with fail
                    refine ⟨fun _ => ⟨hT74_5_10.sm, hT74_5_10.el⟩, ?_⟩
                    refine orders_all [11] (by kernel_rfl) (by kernel_rfl) ?_
                    intro i hi
                    simp only [List.mem_cons, List.not_mem_nil, or_false] at hi
                    subst hi
                    refine st_one (by kernel_rfl) ?_
                    simp only [List.filterMap_cons, List.filterMap_nil, List.getElem?_toArray, List.getElem?_cons_succ, List.getElem?_cons_zero]
                    refine appStrAt w5.heap.size rfl _ _ rfl hT74_5_10.ov x.b hL74_5_10.1 rfl rfl hT74_5_10.fr.size (by simp only [List.length_map, List.length_append, List.length_singleton]; omega) ?_
                    intro v74_5_10_12_11 w74_5_10_12_11 hP74_5_10_12_11 hf74_5_10_12_11 hn74_5_10_12_11
                    have hT74_5_10_12_11 := hT74_5_10.appV hE7 hz5 hP74_5_10_12_11 hf74_5_10_12_11 hn74_5_10_12_11
                    go_wp2_with fail
                    refine ⟨fun _ => ⟨hT74_5_10_12_11.sm, hT74_5_10_12_11.el⟩, ?_⟩
                    refine orders_seq [13, 14, 15, 16] _ _ _ (by kernel_rfl) (by kernel_rfl) (by kernel_rfl) ?_
                    simp only [List.filterMap_cons, List.filterMap_nil, List.getElem?_toArray, List.getElem?_cons_succ, List.getElem?_cons_zero]
                    obtain ⟨Au, nu, cu, hue⟩ := OSs.slice hT74_5_10_12_11.ou
                    obtain ⟨Av, nv, cv, hve⟩ := OSs.slice hT74_5_10_12_11.ov
                    subst hue hve
                    have hT9 := hT74_5_10_12_11.done hz5 (keep_set (by omega) (by omega))
                    have b50 := hT74_5_10_12_11.sm.c50
                    have y50 := hT74_5_10_12_11.sm.z50
                    have b51 := (hT74_5_10_12_11.sm.set0 (Value.slice Au nu cu)).c51
                    have y51 := (hT74_5_10_12_11.sm.set0 (Value.slice Au nu cu)).z51
                    go_wp2_with fail
                    generalize (w74_5_10_12_11.setCell ⟨N + 2 + 1, 0, none⟩ (Value.slice Au nu cu)).setCell ⟨N + 2 + 1, 1, none⟩ (Value.slice Av nv cv) = w9 at *
                    clear b50 y50 b51 y51 hT74_5_10_12_11
                    go_meet
                    exact ⟨_, _, rfl, by simpa [stB_bs] using hT9⟩
                · refine st_one (by kernel_rfl) ?_
                  simp only [List.filterMap_cons, List.filterMap_nil, List.getElem?_toArray, List.getElem?_cons_succ, List.getElem?_cons_zero]
                  go_wp2_with fail
                  refine ⟨fun _ => ⟨hT74_5.sm, hT74_5.el⟩, ?_⟩
                  refine orders_all [10] (by kernel_rfl) (by kernel_rfl) ?_
                  intro i hi
                  simp only [List.mem_cons, List.not_mem_nil, or_false] at hi
                  subst hi
                  refine st_one (by kernel_rfl) ?_
                  simp only [List.filterMap_cons, List.filterMap_nil, List.getElem?_toArray, List.getElem?_cons_succ, List.getElem?_cons_zero]
                  go_wp2_with fail
                  have hL74_5_12_10 := Lt.new hT74_5 x.b
                  have hT74_5_12_10 := hT74_5.frs hE7 hz5 ((Fr.refl [] w74_5).alloc (.cells #[.string x.b] 9))
                  obtain ⟨b74_5_12_10, hb74_5_12_10⟩ : ∃ b, b = w74_5.heap.size := ⟨_, rfl⟩
                  rw [← hb74_5_12_10] at hL74_5_12_10 ⊢
                  clear hb74_5_12_10
                  generalize w74_5.alloc (.cells #[.string x.b] 9) = w74_5_12_10 at *
                  refine ⟨fun _ => ⟨hT74_5_12_10.sm, hT74_5_12_10.el⟩, ?_⟩
                  refine orders_all [11] (by kernel_rfl) (by kernel_rfl) ?_
                  intro i hi
                  simp only [List.mem_cons, List.not_mem_nil, or_false] at hi
                  subst hi
                  refine st_one (by kernel_rfl) ?_
                  simp only [List.filterMap_cons, List.filterMap_nil, List.getElem?_toArray, List.getElem?_cons_succ, List.getElem?_cons_zero]
                  refine appStrAt w5.heap.size rfl _ _ rfl hT74_5_12_10.ov x.b hL74_5_12_10.1 rfl rfl hT74_5_12_10.fr.size (by simp only [List.length_map, List.length_append, List.length_singleton]; omega) ?_
                  intro v74_5_12_10_11 w74_5_12_10_11 hP74_5_12_10_11 hf74_5_12_10_11 hn74_5_12_10_11
                  have hT74_5_12_10_11 := hT74_5_12_10.appV hE7 hz5 hP74_5_12_10_11 hf74_5_12_10_11 hn74_5_12_10_11
                  go_wp2_with fail
                  refine ⟨fun _ => ⟨hT74_5_12_10_11.sm, hT74_5_12_10_11.el⟩, ?_⟩
                  refine orders_seq [13, 14, 15, 16] _ _ _ (by kernel_rfl) (by kernel_rfl) (by kernel_rfl) ?_
                  simp only [List.filterMap_cons, List.filterMap_nil, List.getElem?_toArray, List.getElem?_cons_succ, List.getElem?_cons_zero]
                  obtain ⟨Au, nu, cu, hue⟩ := OSs.slice hT74_5_12_10_11.ou
                  obtain ⟨Av, nv, cv, hve⟩ := OSs.slice hT74_5_12_10_11.ov
                  subst hue hve
                  have hT9 := hT74_5_12_10_11.done hz5 (keep_set (by omega) (by omega))
                  have b50 := hT74_5_12_10_11.sm.c50
                  have y50 := hT74_5_12_10_11.sm.z50
                  have b51 := (hT74_5_12_10_11.sm.set0 (Value.slice Au nu cu)).c51
                  have y51 := (hT74_5_12_10_11.sm.set0 (Value.slice Au nu cu)).z51
                  go_wp2_with fail
                  generalize (w74_5_12_10_11.setCell ⟨N + 2 + 1, 0, none⟩ (Value.slice Au nu cu)).setCell ⟨N + 2 + 1, 1, none⟩ (Value.slice Av nv cv) = w9 at *
                  clear b50 y50 b51 y51 hT74_5_12_10_11
                  go_meet
                  exact ⟨_, _, rfl, by simpa [stB_bs] using hT9⟩
              · refine st_one (by kernel_rfl) ?_
                simp only [List.filterMap_cons, List.filterMap_nil, List.getElem?_toArray, List.getElem?_cons_succ, List.getElem?_cons_zero]
                go_wp2_with fail
                have hL74_10 := Lt.new hT74 x.b
                have hT74_10 := hT74.frs hE7 hz5 ((Fr.refl [] w74).alloc (.cells #[.string x.b] 9))
                have hL474_10 := hL74.frs ((Fr.refl [] w74).alloc (.cells #[.string x.b] 9))
                obtain ⟨b74_10, hb74_10⟩ : ∃ b, b = w74.heap.size := ⟨_, rfl⟩
                rw [← hb74_10] at hL74_10 ⊢
                clear hb74_10
                generalize w74.alloc (.cells #[.string x.b] 9) = w74_10 at *
                refine ⟨fun _ => ⟨hT74_10.sm, hT74_10.el⟩, ?_⟩
                refine orders_all [5] (by kernel_rfl) (by kernel_rfl) ?_
                intro i hi
                simp only [List.mem_cons, List.not_mem_nil, or_false] at hi
                subst hi
                refine st_one (by kernel_rfl) ?_
                simp only [List.filterMap_cons, List.filterMap_nil, List.getElem?_toArray, List.getElem?_cons_succ, List.getElem?_cons_zero]
                refine appStrAt w5.heap.size rfl _ _ rfl hT74_10.ou x.key hL474_10.1 rfl rfl hT74_10.fr.size (by simp only [List.length_map, List.length_append, List.length_singleton]; omega) ?_
                intro u74_10_5 w74_10_5 hO74_10_5 hf74_10_5 hn74_10_5
                have hT74_10_5 := hT74_10.appU hE7 hz5 hO74_10_5 hf74_10_5 hn74_10_5
                have hL1074_10_5 := hL74_10.appU hf74_10_5 hn74_10_5
                go_wp2_with fail
                refine ⟨fun _ => ⟨hT74_10_5.sm, hT74_10_5.el⟩, ?_⟩
                refine orders_all [11, 12] (by kernel_rfl) (by kernel_rfl) ?_
                intro i hi
                simp only [List.mem_cons, List.not_mem_nil, or_false] at hi
                rcases hi with rfl | rfl
                · refine st_one (by kernel_rfl) ?_
                  simp only [List.filterMap_cons, List.filterMap_nil, List.getElem?_toArray, List.getElem?_cons_succ, List.getElem?_cons_zero]
                  refine appStrAt w5.heap.size rfl _ _ rfl hT74_10_5.ov x.b hL1074_10_5.1 rfl rfl hT74_10_5.fr.size (by simp only [List.length_map, List.length_append, List.length_singleton]; omega) ?_
                  intro v74_10_5_11 w74_10_5_11 hP74_10_5_11 hf74_10_5_11 hn74_10_5_11
                  have hT74_10_5_11 := hT74_10_5.appV hE7 hz5 hP74_10_5_11 hf74_10_5_11 hn74_10_5_11
                  go_wp2_with fail
                  refine ⟨fun _ => ⟨hT74_10_5_11.sm, hT74_10_5_11.el⟩, ?_⟩
                  refine orders_all [12] (by kernel_rfl) (by kernel_rfl) ?_
                  intro i hi
                  simp only [List.mem_cons, List.not_mem_nil, or_false] at hi
                  subst hi
                  refine st_one (by kernel_rfl) ?_
                  simp only [List.filterMap_cons, List.filterMap_nil, List.getElem?_toArray, List.getElem?_cons_succ, List.getElem?_cons_zero]
                  go_wp2_with fail
                  refine ⟨fun _ => ⟨hT74_10_5_11.sm, hT74_10_5_11.el⟩, ?_⟩
                  refine orders_seq [13, 14, 15, 16] _ _ _ (by kernel_rfl) (by kernel_rfl) (by kernel_rfl) ?_
                  simp only [List.filterMap_cons, List.filterMap_nil, List.getElem?_toArray, List.getElem?_cons_succ, List.getElem?_cons_zero]
                  obtain ⟨Au, nu, cu, hue⟩ := OSs.slice hT74_10_5_11.ou
                  obtain ⟨Av, nv, cv, hve⟩ := OSs.slice hT74_10_5_11.ov
                  subst hue hve
                  have hT9 := hT74_10_5_11.done hz5 (keep_set (by omega) (by omega))
                  have b50 := hT74_10_5_11.sm.c50
                  have y50 := hT74_10_5_11.sm.z50
                  have b51 := (hT74_10_5_11.sm.set0 (Value.slice Au nu cu)).c51
                  have y51 := (hT74_10_5_11.sm.set0 (Value.slice Au nu cu)).z51
                  go_wp2_with fail
                  generalize (w74_10_5_11.setCell ⟨N + 2 + 1, 0, none⟩ (Value.slice Au nu cu)).setCell ⟨N + 2 + 1, 1, none⟩ (Value.slice Av nv cv) = w9 at *
                  clear b50 y50 b51 y51 hT74_10_5_11
                  go_meet
                  exact ⟨_, _, rfl, by simpa [stB_bs] using hT9⟩
                · refine st_one (by kernel_rfl) ?_
                  simp only [List.filterMap_cons, List.filterMap_nil, List.getElem?_toArray, List.getElem?_cons_succ, List.getElem?_cons_zero]
                  go_wp2_with fail
                  refine ⟨fun _ => ⟨hT74_10_5.sm, hT74_10_5.el⟩, ?_⟩
                  refine orders_all [11] (by kernel_rfl) (by kernel_rfl) ?_
                  intro i hi
                  simp only [List.mem_cons, List.not_mem_nil, or_false] at hi
                  subst hi
                  refine st_one (by kernel_rfl) ?_
                  simp only [List.filterMap_cons, List.filterMap_nil, List.getElem?_toArray, List.getElem?_cons_succ, List.getElem?_cons_zero]
                  refine appStrAt w5.heap.size rfl _ _ rfl hT74_10_5.ov x.b hL1074_10_5.1 rfl rfl hT74_10_5.fr.size (by simp only [List.length_map, List.length_append, List.length_singleton]; omega) ?_
                  intro v74_10_5_12_11 w74_10_5_12_11 hP74_10_5_12_11 hf74_10_5_12_11 hn74_10_5_12_11
                  have hT74_10_5_12_11 := hT74_10_5.appV hE7 hz5 hP74_10_5_12_11 hf74_10_5_12_11 hn74_10_5_12_11
                  go_wp2_with fail
                  refine ⟨fun _ => ⟨hT74_10_5_12_11.sm, hT74_10_5_12_11.el⟩, ?_⟩
                  refine orders_seq [13, 14, 15, 16] _ _ _ (by kernel_rfl) (by kernel_rfl) (by kernel_rfl) ?_
                  simp only [List.filterMap_cons, List.filterMap_nil, List.getElem?_toArray, List.getElem?_cons_succ, List.getElem?_cons_zero]
                  obtain ⟨Au, nu, cu, hue⟩ := OSs.slice hT74_10_5_12_11.ou
                  obtain ⟨Av, nv, cv, hve⟩ := OSs.slice hT74_10_5_12_11.ov
                  subst hue hve
                  have hT9 := hT74_10_5_12_11.done hz5 (keep_set (by omega) (by omega))
                  have b50 := hT74_10_5_12_11.sm.c50
                  have y50 := hT74_10_5_12_11.sm.z50
                  have b51 := (hT74_10_5_12_11.sm.set0 (Value.slice Au nu cu)).c51
                  have y51 := (hT74_10_5_12_11.sm.set0 (Value.slice Au nu cu)).z51
                  go_wp2_with fail
                  generalize (w74_10_5_12_11.setCell ⟨N + 2 + 1, 0, none⟩ (Value.slice Au nu cu)).setCell ⟨N + 2 + 1, 1, none⟩ (Value.slice Av nv cv) = w9 at *
                  clear b50 y50 b51 y51 hT74_10_5_12_11
                  go_meet
                  exact ⟨_, _, rfl, by simpa [stB_bs] using hT9⟩
            · refine st_one (by kernel_rfl) ?_
              simp only [List.filterMap_cons, List.filterMap_nil, List.getElem?_toArray, List.getElem?_cons_succ, List.getElem?_cons_zero]
              go_wp2_with fail
              have hL710 := Lt.new hTd7 x.b
              have hT710 := hTd7.frs hE7 hz5 ((Fr.refl [] wd7).alloc (.cells #[.string x.b] 9))
              obtain ⟨b710, hb710⟩ : ∃ b, b = wd7.heap.size := ⟨_, rfl⟩
              rw [← hb710] at hL710 ⊢
              clear hb710
              generalize wd7.alloc (.cells #[.string x.b] 9) = w710 at *
              refine ⟨fun _ => ⟨hT710.sm, hT710.el⟩, ?_⟩
              refine orders_all [4] (by kernel_rfl) (by kernel_rfl) ?_
              intro i hi
              simp only [List.mem_cons, List.not_mem_nil, or_false] at hi
              subst hi
              refine st_one (by kernel_rfl) ?_
              simp only [List.filterMap_cons, List.filterMap_nil, List.getElem?_toArray, List.getElem?_cons_succ, List.getElem?_cons_zero]
              go_wp2_with fail
              have hL710_4 := Lt.new hT710 x.key
              have hT710_4 := hT710.frs hE7 hz5 ((Fr.refl [] w710).alloc (.cells #[.string x.key] 9))
              have hL10710_4 := hL710.frs ((Fr.refl [] w710).alloc (.cells #[.string x.key] 9))
              obtain ⟨b710_4, hb710_4⟩ : ∃ b, b = w710.heap.size := ⟨_, rfl⟩
              rw [← hb710_4] at hL710_4 ⊢
              clear hb710_4
              generalize w710.alloc (.cells #[.string x.key] 9) = w710_4 at *
              refine ⟨fun _ => ⟨hT710_4.sm, hT710_4.el⟩, ?_⟩
              refine orders_all [5] (by kernel_rfl) (by kernel_rfl) ?_
              intro i hi
              simp only [List.mem_cons, List.not_mem_nil, or_false] at hi
              subst hi
              refine st_one (by kernel_rfl) ?_
              simp only [List.filterMap_cons, List.filterMap_nil, List.getElem?_toArray, List.getElem?_cons_succ, List.getElem?_cons_zero]
              refine appStrAt w5.heap.size rfl _ _ rfl hT710_4.ou x.key hL710_4.1 rfl rfl hT710_4.fr.size (by simp only [List.length_map, List.length_append, List.length_singleton]; omega) ?_
              intro u710_4_5 w710_4_5 hO710_4_5 hf710_4_5 hn710_4_5
              have hT710_4_5 := hT710_4.appU hE7 hz5 hO710_4_5 hf710_4_5 hn710_4_5
              have hL10710_4_5 := hL10710_4.appU hf710_4_5 hn710_4_5
              go_wp2_with fail
              refine ⟨fun _ => ⟨hT710_4_5.sm, hT710_4_5.el⟩, ?_⟩
              refine orders_all [11, 12] (by kernel_rfl) (by kernel_rfl) ?_
              intro i hi
              simp only [List.mem_cons, List.not_mem_nil, or_false] at hi
              rcases hi with rfl | rfl
              · refine st_one (by kernel_rfl) ?_
                simp only [List.filterMap_cons, List.filterMap_nil, List.getElem?_toArray, List.getElem?_cons_succ, List.getElem?_cons_zero]
                refine appStrAt w5.heap.size rfl _ _ rfl hT710_4_5.ov x.b hL10710_4_5.1 rfl rfl hT710_4_5.fr.size (by simp only [List.length_map, List.length_append, List.length_singleton]; omega) ?_
                intro v710_4_5_11 w710_4_5_11 hP710_4_5_11 hf710_4_5_11 hn710_4_5_11
                have hT710_4_5_11 := hT710_4_5.appV hE7 hz5 hP710_4_5_11 hf710_4_5_11 hn710_4_5_11
                go_wp2_with fail
                refine ⟨fun _ => ⟨hT710_4_5_11.sm, hT710_4_5_11.el⟩, ?_⟩
                refine orders_all [12] (by kernel_rfl) (by kernel_rfl) ?_
                intro i hi
                simp only [List.mem_cons, List.not_mem_nil, or_false] at hi
                subst hi
                refine st_one (by kernel_rfl) ?_
                simp only [List.filterMap_cons, List.filterMap_nil, List.getElem?_toArray, List.getElem?_cons_succ, List.getElem?_cons_zero]
                go_wp2_with fail
                refine ⟨fun _ => ⟨hT710_4_5_11.sm, hT710_4_5_11.el⟩, ?_⟩
                refine orders_seq [13, 14, 15, 16] _ _ _ (by kernel_rfl) (by kernel_rfl) (by kernel_rfl) ?_
                simp only [List.filterMap_cons, List.filterMap_nil, List.getElem?_toArray, List.getElem?_cons_succ, List.getElem?_cons_zero]
                obtain ⟨Au, nu, cu, hue⟩ := OSs.slice hT710_4_5_11.ou
                obtain ⟨Av, nv, cv, hve⟩ := OSs.slice hT710_4_5_11.ov
                subst hue hve
                have hT9 := hT710_4_5_11.done hz5 (keep_set (by omega) (by omega))
                have b50 := hT710_4_5_11.sm.c50
                have y50 := hT710_4_5_11.sm.z50
                have b51 := (hT710_4_5_11.sm.set0 (Value.slice Au nu cu)).c51
                have y51 := (hT710_4_5_11.sm.set0 (Value.slice Au nu cu)).z51
                go_wp2_with fail
                generalize (w710_4_5_11.setCell ⟨N + 2 + 1, 0, none⟩ (Value.slice Au nu cu)).setCell ⟨N + 2 + 1, 1, none⟩ (Value.slice Av nv cv) = w9 at *
                clear b50 y50 b51 y51 hT710_4_5_11
                go_meet
                exact ⟨_, _, rfl, by simpa [stB_bs] using hT9⟩
              · refine st_one (by kernel_rfl) ?_
                simp only [List.filterMap_cons, List.filterMap_nil, List.getElem?_toArray, List.getElem?_cons_succ, List.getElem?_cons_zero]
                go_wp2_with fail
                refine ⟨fun _ => ⟨hT710_4_5.sm, hT710_4_5.el⟩, ?_⟩
                refine orders_all [11] (by kernel_rfl) (by kernel_rfl) ?_
                intro i hi
                simp only [List.mem_cons, List.not_mem_nil, or_false] at hi
                subst hi
                refine st_one (by kernel_rfl) ?_
                simp only [List.filterMap_cons, List.filterMap_nil, List.getElem?_toArray, List.getElem?_cons_succ, List.getElem?_cons_zero]
                refine appStrAt w5.heap.size rfl _ _ rfl hT710_4_5.ov x.b hL10710_4_5.1 rfl rfl hT710_4_5.fr.size (by simp only [List.length_map, List.length_append, List.length_singleton]; omega) ?_
                intro v710_4_5_12_11 w710_4_5_12_11 hP710_4_5_12_11 hf710_4_5_12_11 hn710_4_5_12_11
                have hT710_4_5_12_11 := hT710_4_5.appV hE7 hz5 hP710_4_5_12_11 hf710_4_5_12_11 hn710_4_5_12_11
                go_wp2_with fail
                refine ⟨fun _ => ⟨hT710_4_5_12_11.sm, hT710_4_5_12_11.el⟩, ?_⟩
                refine orders_seq [13, 14, 15, 16] _ _ _ (by kernel_rfl) (by kernel_rfl) (by kernel_rfl) ?_
                simp only [List.filterMap_cons, List.filterMap_nil, List.getElem?_toArray, List.getElem?_cons_succ, List.getElem?_cons_zero]
                obtain ⟨Au, nu, cu, hue⟩ := OSs.slice hT710_4_5_12_11.ou
                obtain ⟨Av, nv, cv, hve⟩ := OSs.slice hT710_4_5_12_11.ov
                subst hue hve
                have hT9 := hT710_4_5_12_11.done hz5 (keep_set (by omega) (by omega))
                have b50 := hT710_4_5_12_11.sm.c50
                have y50 := hT710_4_5_12_11.sm.z50
                have b51 := (hT710_4_5_12_11.sm.set0 (Value.slice Au nu cu)).c51
                have y51 := (hT710_4_5_12_11.sm.set0 (Value.slice Au nu cu)).z51
                go_wp2_with fail
                generalize (w710_4_5_12_11.setCell ⟨N + 2 + 1, 0, none⟩ (Value.slice Au nu cu)).setCell ⟨N + 2 + 1, 1, none⟩ (Value.slice Av nv cv) = w9 at *
                clear b50 y50 b51 y51 hT710_4_5_12_11
                go_meet
                exact ⟨_, _, rfl, by simpa [stB_bs] using hT9⟩
          case rest =>
            obtain ⟨u7, v7, rfl, hT7⟩ := hcut
            have hz60 := hT7.fr.size
            go_wp2_with fail
            by_cases hpk : pk = bs x.key
            · have hse : stB pk = x.key := by rw [hpk, stB_bs]
              have hq := hT7.el.1
              rw [hse] at hq
              refine wp_region_textS' (fun w' => SM N u7 v7 x (.slice (some ⟨bA, oA, none⟩) n c) (.slice (some ⟨bC, oC, none⟩) n c2) w') [6] [] [] [] (by kernel_rfl) (by kernel_rfl) (by kernel_rfl) hT7.sm ?_
              intro K8ga hK8ga
              simp only [cutAt, List.take_succ_cons, List.take_zero, List.drop_succ_cons, List.drop_zero, List.take_nil, List.drop_nil, wpSegs, List.map_cons, List.map_nil, List.nil_append, List.cons_append]
              have hfd8ga : Fr [] wc wc.drew := (Fr.refl [] wc).drew
              have hM80ga := hT7.sm.kept hfd8ga (by simp)
              have hO80ga := hT7.ou.kept hfd8ga (by simp)
              have hP80ga := hT7.ov.kept hfd8ga (by simp)
              have eA80ga := hfd8ga.cell hq (by simp)
              have eC80ga := hfd8ga.cell hT7.el.2 (by simp)
              have hfr80ga := hT7.fr.trans hfd8ga (by simp)
              generalize wc.drew = w80ga at *
              have b20ga := hM80ga.c20
              have b30ga := hM80ga.c30
              have hz80ga := hfd8ga.size
              go_wp2_with fail
              refine ⟨trivial, hK8ga _ _ (by kernel_rfl) ⟨fun o ho => ?_, trivial⟩ ?_⟩
              · cases ho
                exact gives_load rfl (fun w' h => load_cell 9 Tryz.underlying9 rfl h.c30)
              go_wp2_with fail
              clear b20ga b30ga
              go_wp2_with fail
              try go_frame
              go_roundw
              case rel => exact ⟨i + 1, true, (acc ++ [(bs x.key, bs x.b)]), u7, v7, by omega, rfl, rfl, by rw [htk.out]; unfold wStep; first | (simp only [hbf]; simp [hpk]; done) | (simp [hpk]; done), hM80ga.1, by simpa [stB_bs] using hO80ga, by simpa [stB_bs] using hP80ga, hT7.ap, hfr80ga⟩
              case measure => simp [intOf]; omega
            · have hq : ((stB pk).toList == x.key.toList) = false := by rw [same_bs, bs_stB]; simpa using hpk
              refine wp_region_textS' (fun w' => SM N u7 v7 x (.slice (some ⟨bA, oA, none⟩) n c) (.slice (some ⟨bC, oC, none⟩) n c2) w') [6] [] [] [] (by kernel_rfl) (by kernel_rfl) (by kernel_rfl) hT7.sm ?_
              intro K8gb hK8gb
              simp only [cutAt, List.take_succ_cons, List.take_zero, List.drop_succ_cons, List.drop_zero, List.take_nil, List.drop_nil, wpSegs, List.map_cons, List.map_nil, List.nil_append, List.cons_append]
              have hfd8gb : Fr [] wc wc.drew := (Fr.refl [] wc).drew
              have hM80gb := hT7.sm.kept hfd8gb (by simp)
              have hO80gb := hT7.ou.kept hfd8gb (by simp)
              have hP80gb := hT7.ov.kept hfd8gb (by simp)
              have eA80gb := hfd8gb.cell hT7.el.1 (by simp)
              have eC80gb := hfd8gb.cell hT7.el.2 (by simp)
              have hfr80gb := hT7.fr.trans hfd8gb (by simp)
              generalize wc.drew = w80gb at *
              have b20gb := hM80gb.c20
              have b30gb := hM80gb.c30
              have hz80gb := hfd8gb.size
              go_wp2_with fail
              refine ⟨trivial, hK8gb _ _ (by kernel_rfl) ⟨fun o ho => ?_, trivial⟩ ?_⟩
              · cases ho
                exact gives_load rfl (fun w' h => load_cell 9 Tryz.underlying9 rfl h.c30)
              go_wp2_with fail
              clear b20gb b30gb
              have hEgb : Keeps w5.heap.size (fun w' => w'.cell? ⟨bA, oA + i, none⟩ = some (.string (stB pk)) ∧ w'.cell? ⟨bC, oC + i, none⟩ = some (.string (stB pv))) := Keeps.cells (by omega) (by omega)
              have hTgb : Tw (fun w' => w'.cell? ⟨bA, oA + i, none⟩ = some (.string (stB pk)) ∧ w'.cell? ⟨bC, oC + i, none⟩ = some (.string (stB pv))) N u7 v7 x (.slice (some ⟨bA, oA, none⟩) n c) (.slice (some ⟨bC, oC, none⟩) n c2) u7 v7 _ _ w5 w80gb := ⟨hM80gb, ⟨eA80gb, eC80gb⟩, hO80gb, hP80gb, hT7.ap, hfr80gb⟩
              refine wp_region_textO (fun w' => SM N u7 v7 x (.slice (some ⟨bA, oA, none⟩) n c) (.slice (some ⟨bC, oC, none⟩) n c2) w' ∧ (fun w' => w'.cell? ⟨bA, oA + i, none⟩ = some (.string (stB pk)) ∧ w'.cell? ⟨bC, oC + i, none⟩ = some (.string (stB pv))) w') [1, 3, 6, 10, 12, 15] [0, 1, 2, 3, 4, 5, 6, 9, 10, 11, 12, 13, 14, 15] 19 8 (by kernel_rfl) rfl (by kernel_rfl) ⟨hM80gb, ⟨eA80gb, eC80gb⟩⟩ ?_
              intro Kgb hKgb
              simp only [List.filterMap_cons, List.filterMap_nil, List.getElem?_toArray, List.getElem?_cons_succ, List.getElem?_cons_zero]
              have hTdgb := hTgb.frs hEgb hz5 (Fr.refl [] w80gb).drew
              clear hTgb
              generalize w80gb.drew = wdgb at *
              have a50gb := hTdgb.sm.c50
              have a51gb := hTdgb.sm.c51
              have a30gb := hTdgb.sm.c30
              have a31gb := hTdgb.sm.c31
              have a20gb := hTdgb.sm.c20
              have a21gb := hTdgb.sm.c21
              have eAgb := hTdgb.el.1
              have eCgb := hTdgb.el.2
              go_wp2_with fail
              refine hKgb _ _ (by kernel_rfl) ⟨fun o ho => ?_, fun o ho => ?_, fun o ho => ?_, fun o ho => ?_, fun o ho => ?_, fun o ho => ?_, trivial⟩ ?_
              · cases ho
                exact gives_load rfl (fun w' h => load_cell 34 Tryz.underlying34 rfl h.1.c50)
              · cases ho
                exact gives_load rfl (fun w' h => load_cell 34 Tryz.underlying34 rfl h.1.c20)
              · cases ho
                exact gives_load rfl (fun w' h => load_cell 9 Tryz.underlying9 rfl h.2.1)
              · cases ho
                exact gives_load rfl (fun w' h => load_cell 34 Tryz.underlying34 rfl h.1.c51)
              · cases ho
                exact gives_load rfl (fun w' h => load_cell 34 Tryz.underlying34 rfl h.1.c21)
              · cases ho
                exact gives_load rfl (fun w' h => load_cell 9 Tryz.underlying9 rfl h.2.2)
              clear a50gb a51gb a30gb a31gb a20gb a21gb eAgb eCgb
              refine orders_all [7, 16] (by kernel_rfl) (by kernel_rfl) ?_
              intro i hi
              simp only [List.mem_cons, List.not_mem_nil, or_false] at hi
              rcases hi with rfl | rfl
              · refine st_one (by kernel_rfl) ?_
                simp only [List.filterMap_cons, List.filterMap_nil, List.getElem?_toArray, List.getElem?_cons_succ, List.getElem?_cons_zero]
                go_wp2_with fail
                have hLgb7 := Lt.new hTdgb (stB pk)
                have hTgb7 := hTdgb.frs hEgb hz5 ((Fr.refl [] wdgb).alloc (.cells #[.string (stB pk)] 9))
                obtain ⟨bgb7, hbgb7⟩ : ∃ b, b = wdgb.heap.size := ⟨_, rfl⟩
                rw [← hbgb7] at hLgb7 ⊢
                clear hbgb7
                generalize wdgb.alloc (.cells #[.string (stB pk)] 9) = wgb7 at *
                refine ⟨fun _ => ⟨hTgb7.sm, hTgb7.el⟩, ?_⟩
                refine orders_all [8, 16] (by kernel_rfl) (by kernel_rfl) ?_
                intro i hi
                simp only [List.mem_cons, List.not_mem_nil, or_false] at hi
                rcases hi with rfl | rfl
                · refine st_one (by kernel_rfl) ?_
                  simp only [List.filterMap_cons, List.filterMap_nil, List.getElem?_toArray, List.getElem?_cons_succ, List.getElem?_cons_zero]
                  refine appStrAt w5.heap.size rfl _ _ rfl hTgb7.ou (stB pk) hLgb7.1 rfl rfl hTgb7.fr.size (by simp only [List.length_map, List.length_append, List.length_singleton]; omega) ?_
                  intro ugb7_8 wgb7_8 hOgb7_8 hfgb7_8 hngb7_8
                  have hTgb7_8 := hTgb7.appU hEgb hz5 hOgb7_8 hfgb7_8 hngb7_8
                  go_wp2_with fail
                  refine ⟨fun _ => ⟨hTgb7_8.sm, hTgb7_8.el⟩, ?_⟩
                  refine orders_all [16, 18] (by kernel_rfl) (by kernel_rfl) ?_
                  intro i hi
                  simp only [List.mem_cons, List.not_mem_nil, or_false] at hi
                  rcases hi with rfl | rfl
                  · refine st_one (by kernel_rfl) ?_
                    simp only [List.filterMap_cons, List.filterMap_nil, List.getElem?_toArray, List.getElem?_cons_succ, List.getElem?_cons_zero]
                    go_wp2_with fail
                    have hLgb7_8_16 := Lt.new hTgb7_8 (stB pv)
                    have hTgb7_8_16 := hTgb7_8.frs hEgb hz5 ((Fr.refl [] wgb7_8).alloc (.cells #[.string (stB pv)] 9))
                    obtain ⟨bgb7_8_16, hbgb7_8_16⟩ : ∃ b, b = wgb7_8.heap.size := ⟨_, rfl⟩
                    rw [← hbgb7_8_16] at hLgb7_8_16 ⊢
                    clear hbgb7_8_16
                    generalize wgb7_8.alloc (.cells #[.string (stB pv)] 9) = wgb7_8_16 at *
                    refine ⟨fun _ => ⟨hTgb7_8_16.sm, hTgb7_8_16.el⟩, ?_⟩
                    refine orders_all [17, 18] (by kernel_rfl) (by kernel_rfl) ?_
                    intro i hi
                    simp only [List.mem_cons, List.not_mem_nil, or_false] at hi
                    rcases hi with rfl | rfl
                    · refine st_one (by kernel_rfl) ?_
                      simp only [List.filterMap_cons, List.filterMap_nil, List.getElem?_toArray, List.getElem?_cons_succ, List.getElem?_cons_zero]
                      refine appStrAt w5.heap.size rfl _ _ rfl hTgb7_8_16.ov (stB pv) hLgb7_8_16.1 rfl rfl hTgb7_8_16.fr.size (by simp only [List.length_map, List.length_append, List.length_singleton]; omega) ?_
                      intro vgb7_8_16_17 wgb7_8_16_17 hPgb7_8_16_17 hfgb7_8_16_17 hngb7_8_16_17
                      have hTgb7_8_16_17 := hTgb7_8_16.appV hEgb hz5 hPgb7_8_16_17 hfgb7_8_16_17 hngb7_8_16_17
                      go_wp2_with fail
                      refine ⟨fun _ => ⟨hTgb7_8_16_17.sm, hTgb7_8_16_17.el⟩, ?_⟩
                      refine orders_all [18] (by kernel_rfl) (by kernel_rfl) ?_
                      intro i hi
                      simp only [List.mem_cons, List.not_mem_nil, or_false] at hi
                      subst hi
                      refine st_one (by kernel_rfl) ?_
                      simp only [List.filterMap_cons, List.filterMap_nil, List.getElem?_toArray, List.getElem?_cons_succ, List.getElem?_cons_zero]
                      go_wp2_with fail
                      refine ⟨fun _ => ⟨hTgb7_8_16_17.sm, hTgb7_8_16_17.el⟩, ?_⟩
                      refine orders_seq [19, 20, 21] _ _ _ (by kernel_rfl) (by kernel_rfl) (by kernel_rfl) ?_
                      simp only [List.filterMap_cons, List.filterMap_nil, List.getElem?_toArray, List.getElem?_cons_succ, List.getElem?_cons_zero]
                      obtain ⟨Au, nu, cu, hue⟩ := OSs.slice hTgb7_8_16_17.ou
                      obtain ⟨Av, nv, cv, hve⟩ := OSs.slice hTgb7_8_16_17.ov
                      subst hue hve
                      have hT9 := hTgb7_8_16_17.done hz5 (keep_set (by omega) (by omega))
                      have b50 := hTgb7_8_16_17.sm.c50
                      have y50 := hTgb7_8_16_17.sm.z50
                      have b51 := (hTgb7_8_16_17.sm.set0 (Value.slice Au nu cu)).c51
                      have y51 := (hTgb7_8_16_17.sm.set0 (Value.slice Au nu cu)).z51
                      go_wp2_with fail
                      generalize (wgb7_8_16_17.setCell ⟨N + 2 + 1, 0, none⟩ (Value.slice Au nu cu)).setCell ⟨N + 2 + 1, 1, none⟩ (Value.slice Av nv cv) = w9 at *
                      clear b50 y50 b51 y51 hTgb7_8_16_17
                      go_wp2_with fail
                      try go_frame
                      go_roundw
                      case rel => exact ⟨i + 1, true, ((acc ++ [(bs x.key, bs x.b)]) ++ [(pk, pv)]), (Value.slice Au nu cu), (Value.slice Av nv cv), by omega, rfl, rfl, by rw [htk.out]; unfold wStep; first | (simp only [hbf]; simp [hpk]; done) | (simp [hpk]; done), hT9.sm.1, by simpa [stB_bs] using hT9.ou, by simpa [stB_bs] using hT9.ov, hT9.ap, hT9.fr⟩
                      case measure => simp [intOf]; omega
                    · refine st_one (by kernel_rfl) ?_
                      simp only [List.filterMap_cons, List.filterMap_nil, List.getElem?_toArray, List.getElem?_cons_succ, List.getElem?_cons_zero]
                      go_wp2_with fail
                      refine ⟨fun _ => ⟨hTgb7_8_16.sm, hTgb7_8_16.el⟩, ?_⟩
                      refine orders_all [17] (by kernel_rfl) (by kernel_rfl) ?_
                      intro i hi
                      simp only [List.mem_cons, List.not_mem_nil, or_false] at hi
                      subst hi
                      refine st_one (by kernel_rfl) ?_
                      simp only [List.filterMap_cons, List.filterMap_nil, List.getElem?_toArray, List.getElem?_cons_succ, List.getElem?_cons_zero]
                      refine appStrAt w5.heap.size rfl _ _ rfl hTgb7_8_16.ov (stB pv) hLgb7_8_16.1 rfl rfl hTgb7_8_16.fr.size (by simp only [List.length_map, List.length_append, List.length_singleton]; omega) ?_
                      intro vgb7_8_16_18_17 wgb7_8_16_18_17 hPgb7_8_16_18_17 hfgb7_8_16_18_17 hngb7_8_16_18_17
                      have hTgb7_8_16_18_17 := hTgb7_8_16.appV hEgb hz5 hPgb7_8_16_18_17 hfgb7_8_16_18_17 hngb7_8_16_18_17
                      go_wp2_with fail
                      refine ⟨fun _ => ⟨hTgb7_8_16_18_17.sm, hTgb7_8_16_18_17.el⟩, ?_⟩
                      refine orders_seq [19, 20, 21] _ _ _ (by kernel_rfl) (by kernel_rfl) (by kernel_rfl) ?_
                      simp only [List.filterMap_cons, List.filterMap_nil, List.getElem?_toArray, List.getElem?_cons_succ, List.getElem?_cons_zero]
                      obtain ⟨Au, nu, cu, hue⟩ := OSs.slice hTgb7_8_16_18_17.ou
                      obtain ⟨Av, nv, cv, hve⟩ := OSs.slice hTgb7_8_16_18_17.ov
                      subst hue hve
                      have hT9 := hTgb7_8_16_18_17.done hz5 (keep_set (by omega) (by omega))
                      have b50 := hTgb7_8_16_18_17.sm.c50
                      have y50 := hTgb7_8_16_18_17.sm.z50
                      have b51 := (hTgb7_8_16_18_17.sm.set0 (Value.slice Au nu cu)).c51
                      have y51 := (hTgb7_8_16_18_17.sm.set0 (Value.slice Au nu cu)).z51
                      go_wp2_with fail
                      generalize (wgb7_8_16_18_17.setCell ⟨N + 2 + 1, 0, none⟩ (Value.slice Au nu cu)).setCell ⟨N + 2 + 1, 1, none⟩ (Value.slice Av nv cv) = w9 at *
                      clear b50 y50 b51 y51 hTgb7_8_16_18_17
                      go_wp2_with fail
                      try go_frame
                      go_roundw
                      case rel => exact ⟨i + 1, true, ((acc ++ [(bs x.key, bs x.b)]) ++ [(pk, pv)]), (Value.slice Au nu cu), (Value.slice Av nv cv), by omega, rfl, rfl, by rw [htk.out]; unfold wStep; first | (simp only [hbf]; simp [hpk]; done) | (simp [hpk]; done), hT9.sm.1, by simpa [stB_bs] using hT9.ou, by simpa [stB_bs] using hT9.ov, hT9.ap, hT9.fr⟩
                      case measure => simp [intOf]; omega
                  · refine st_one (by kernel_rfl) ?_
                    simp only [List.filterMap_cons, List.filterMap_nil, List.getElem?_toArray, List.getElem?_cons_succ, List.getElem?_cons_zero]
                    go_wp2_with fail
                    refine ⟨fun _ => ⟨hTgb7_8.sm, hTgb7_8.el⟩, ?_⟩
                    refine orders_all [16] (by kernel_rfl) (by kernel_rfl) ?_
                    intro i hi
                    simp only [List.mem_cons, List.not_mem_nil, or_false] at hi
                    subst hi
                    refine st_one (by kernel_rfl) ?_
                    simp only [List.filterMap_cons, List.filterMap_nil, List.getElem?_toArray, List.getElem?_cons_succ, List.getElem?_cons_zero]
                    go_wp2_with fail
                    have hLgb7_8_18_16 := Lt.new hTgb7_8 (stB pv)
                    have hTgb7_8_18_16 := hTgb7_8.frs hEgb hz5 ((Fr.refl [] wgb7_8).alloc (.cells #[.string (stB pv)] 9))
                    obtain ⟨bgb7_8_18_16, hbgb7_8_18_16⟩ : ∃ b, b = wgb7_8.heap.size := ⟨_, rfl⟩
                    rw [← hbgb7_8_18_16] at hLgb7_8_18_16 ⊢
                    clear hbgb7_8_18_16
                    generalize wgb7_8.alloc (.cells #[.string (stB pv)] 9) = wgb7_8_18_16 at *
                    refine ⟨fun _ => ⟨hTgb7_8_18_16.sm, hTgb7_8_18_16.el⟩, ?_⟩
                    refine orders_all [17] (by kernel_rfl) (by kernel_rfl) ?_
                    intro i hi
                    simp only [List.mem_cons, List.not_mem_nil, or_false] at hi
                    subst hi
                    refine st_one (by kernel_rfl) ?_
                    simp only [List.filterMap_cons, List.filterMap_nil, List.getElem?_toArray, List.getElem?_cons_succ, List.getElem?_cons_zero]
                    refine appStrAt w5.heap.size rfl _ _ rfl hTgb7_8_18_16.ov (stB pv) hLgb7_8_18_16.1 rfl rfl hTgb7_8_18_16.fr.size (by simp only [List.length_map, List.length_append, List.length_singleton]; omega) ?_
                    intro vgb7_8_18_16_17 wgb7_8_18_16_17 hPgb7_8_18_16_17 hfgb7_8_18_16_17 hngb7_8_18_16_17
                    have hTgb7_8_18_16_17 := hTgb7_8_18_16.appV hEgb hz5 hPgb7_8_18_16_17 hfgb7_8_18_16_17 hngb7_8_18_16_17
                    go_wp2_with fail
                    refine ⟨fun _ => ⟨hTgb7_8_18_16_17.sm, hTgb7_8_18_16_17.el⟩, ?_⟩
                    refine orders_seq [19, 20, 21] _ _ _ (by kernel_rfl) (by kernel_rfl) (by kernel_rfl) ?_
                    simp only [List.filterMap_cons, List.filterMap_nil, List.getElem?_toArray, List.getElem?_cons_succ, List.getElem?_cons_zero]
                    obtain ⟨Au, nu, cu, hue⟩ := OSs.slice hTgb7_8_18_16_17.ou
                    obtain ⟨Av, nv, cv, hve⟩ := OSs.slice hTgb7_8_18_16_17.ov
                    subst hue hve
                    have hT9 := hTgb7_8_18_16_17.done hz5 (keep_set (by omega) (by omega))
                    have b50 := hTgb7_8_18_16_17.sm.c50
                    have y50 := hTgb7_8_18_16_17.sm.z50
                    have b51 := (hTgb7_8_18_16_17.sm.set0 (Value.slice Au nu cu)).c51
                    have y51 := (hTgb7_8_18_16_17.sm.set0 (Value.slice Au nu cu)).z51
                    go_wp2_with fail
                    generalize (wgb7_8_18_16_17.setCell ⟨N + 2 + 1, 0, none⟩ (Value.slice Au nu cu)).setCell ⟨N + 2 + 1, 1, none⟩ (Value.slice Av nv cv) = w9 at *
                    clear b50 y50 b51 y51 hTgb7_8_18_16_17
                    go_wp2_with fail
                    try go_frame
                    go_roundw
                    case rel => exact ⟨i + 1, true, ((acc ++ [(bs x.key, bs x.b)]) ++ [(pk, pv)]), (Value.slice Au nu cu), (Value.slice Av nv cv), by omega, rfl, rfl, by rw [htk.out]; unfold wStep; first | (simp only [hbf]; simp [hpk]; done) | (simp [hpk]; done), hT9.sm.1, by simpa [stB_bs] using hT9.ou, by simpa [stB_bs] using hT9.ov, hT9.ap, hT9.fr⟩
                    case measure => simp [intOf]; omega
                · refine st_one (by kernel_rfl) ?_
                  simp only [List.filterMap_cons, List.filterMap_nil, List.getElem?_toArray, List.getElem?_cons_succ, List.getElem?_cons_zero]
                  go_wp2_with fail
                  have hLgb7_16 := Lt.new hTgb7 (stB pv)
                  have hTgb7_16 := hTgb7.frs hEgb hz5 ((Fr.refl [] wgb7).alloc (.cells #[.string (stB pv)] 9))
                  have hL7gb7_16 := hLgb7.frs ((Fr.refl [] wgb7).alloc (.cells #[.string (stB pv)] 9))
                  obtain ⟨bgb7_16, hbgb7_16⟩ : ∃ b, b = wgb7.heap.size := ⟨_, rfl⟩
                  rw [← hbgb7_16] at hLgb7_16 ⊢
                  clear hbgb7_16
                  generalize wgb7.alloc (.cells #[.string (stB pv)] 9) = wgb7_16 at *
                  refine ⟨fun _ => ⟨hTgb7_16.sm, hTgb7_16.el⟩, ?_⟩
                  refine orders_all [8] (by kernel_rfl) (by kernel_rfl) ?_
                  intro i hi
                  simp only [List.mem_cons, List.not_mem_nil, or_false] at hi
                  subst hi
                  refine st_one (by kernel_rfl) ?_
                  simp only [List.filterMap_cons, List.filterMap_nil, List.getElem?_toArray, List.getElem?_cons_succ, List.getElem?_cons_zero]
                  refine appStrAt w5.heap.size rfl _ _ rfl hTgb7_16.ou (stB pk) hL7gb7_16.1 rfl rfl hTgb7_16.fr.size (by simp only [List.length_map, List.length_append, List.length_singleton]; omega) ?_
                  intro ugb7_16_8 wgb7_16_8 hOgb7_16_8 hfgb7_16_8 hngb7_16_8
                  have hTgb7_16_8 := hTgb7_16.appU hEgb hz5 hOgb7_16_8 hfgb7_16_8 hngb7_16_8
                  have hL16gb7_16_8 := hLgb7_16.appU hfgb7_16_8 hngb7_16_8
                  go_wp2_with fail
                  refine ⟨fun _ => ⟨hTgb7_16_8.sm, hTgb7_16_8.el⟩, ?_⟩
                  refine orders_all [17, 18] (by kernel_rfl) (by kernel_rfl) ?_
                  intro i hi
                  simp only [List.mem_cons, List.not_mem_nil, or_false] at hi
                  rcases hi with rfl | rfl
                  · refine st_one (by kernel_rfl) ?_
                    simp only [List.filterMap_cons, List.filterMap_nil, List.getElem?_toArray, List.getElem?_cons_succ, List.getElem?_cons_zero]
                    refine appStrAt w5.heap.size rfl _ _ rfl hTgb7_16_8.ov (stB pv) hL16gb7_16_8.1 rfl rfl hTgb7_16_8.fr.size (by simp only [List.length_map, List.length_append, List.length_singleton]; omega) ?_
                    intro vgb7_16_8_17 wgb7_16_8_17 hPgb7_16_8_17 hfgb7_16_8_17 hngb7_16_8_17
                    have hTgb7_16_8_17 := hTgb7_16_8.appV hEgb hz5 hPgb7_16_8_17 hfgb7_16_8_17 hngb7_16_8_17
                    go_wp2_with fail
                    refine ⟨fun _ => ⟨hTgb7_16_8_17.sm, hTgb7_16_8_17.el⟩, ?_⟩
                    refine orders_all [18] (by kernel_rfl) (by kernel_rfl) ?_
                    intro i hi
                    simp only [List.mem_cons, List.not_mem_nil, or_false] at hi
                    subst hi
                    refine st_one (by kernel_rfl) ?_
                    simp only [List.filterMap_cons, List.filterMap_nil, List.getElem?_toArray, List.getElem?_cons_succ, List.getElem?_cons_zero]
                    go_wp2_with fail
                    refine ⟨fun _ => ⟨hTgb7_16_8_17.sm, hTgb7_16_8_17.el⟩, ?_⟩
                    refine orders_seq [19, 20, 21] _ _ _ (by kernel_rfl) (by kernel_rfl) (by kernel_rfl) ?_
                    simp only [List.filterMap_cons, List.filterMap_nil, List.getElem?_toArray, List.getElem?_cons_succ, List.getElem?_cons_zero]
                    obtain ⟨Au, nu, cu, hue⟩ := OSs.slice hTgb7_16_8_17.ou
                    obtain ⟨Av, nv, cv, hve⟩ := OSs.slice hTgb7_16_8_17.ov
                    subst hue hve
                    have hT9 := hTgb7_16_8_17.done hz5 (keep_set (by omega) (by omega))
                    have b50 := hTgb7_16_8_17.sm.c50
                    have y50 := hTgb7_16_8_17.sm.z50
                    have b51 := (hTgb7_16_8_17.sm.set0 (Value.slice Au nu cu)).c51
                    have y51 := (hTgb7_16_8_17.sm.set0 (Value.slice Au nu cu)).z51
                    go_wp2_with fail
                    generalize (wgb7_16_8_17.setCell ⟨N + 2 + 1, 0, none⟩ (Value.slice Au nu cu)).setCell ⟨N + 2 + 1, 1, none⟩ (Value.slice Av nv cv) = w9 at *
                    clear b50 y50 b51 y51 hTgb7_16_8_17
                    go_wp2_with fail
                    try go_frame
                    go_roundw
                    case rel => exact ⟨i + 1, true, ((acc ++ [(bs x.key, bs x.b)]) ++ [(pk, pv)]), (Value.slice Au nu cu), (Value.slice Av nv cv), by omega, rfl, rfl, by rw [htk.out]; unfold wStep; first | (simp only [hbf]; simp [hpk]; done) | (simp [hpk]; done), hT9.sm.1, by simpa [stB_bs] using hT9.ou, by simpa [stB_bs] using hT9.ov, hT9.ap, hT9.fr⟩
                    case measure => simp [intOf]; omega
                  · refine st_one (by kernel_rfl) ?_
                    simp only [List.filterMap_cons, List.filterMap_nil, List.getElem?_toArray, List.getElem?_cons_succ, List.getElem?_cons_zero]
                    go_wp2_with fail
                    refine ⟨fun _ => ⟨hTgb7_16_8.sm, hTgb7_16_8.el⟩, ?_⟩
                    refine orders_all [17] (by kernel_rfl) (by kernel_rfl) ?_
                    intro i hi
                    simp only [List.mem_cons, List.not_mem_nil, or_false] at hi
                    subst hi
                    refine st_one (by kernel_rfl) ?_
                    simp only [List.filterMap_cons, List.filterMap_nil, List.getElem?_toArray, List.getElem?_cons_succ, List.getElem?_cons_zero]
                    refine appStrAt w5.heap.size rfl _ _ rfl hTgb7_16_8.ov (stB pv) hL16gb7_16_8.1 rfl rfl hTgb7_16_8.fr.size (by simp only [List.length_map, List.length_append, List.length_singleton]; omega) ?_
                    intro vgb7_16_8_18_17 wgb7_16_8_18_17 hPgb7_16_8_18_17 hfgb7_16_8_18_17 hngb7_16_8_18_17
                    have hTgb7_16_8_18_17 := hTgb7_16_8.appV hEgb hz5 hPgb7_16_8_18_17 hfgb7_16_8_18_17 hngb7_16_8_18_17
                    go_wp2_with fail
                    refine ⟨fun _ => ⟨hTgb7_16_8_18_17.sm, hTgb7_16_8_18_17.el⟩, ?_⟩
                    refine orders_seq [19, 20, 21] _ _ _ (by kernel_rfl) (by kernel_rfl) (by kernel_rfl) ?_
                    simp only [List.filterMap_cons, List.filterMap_nil, List.getElem?_toArray, List.getElem?_cons_succ, List.getElem?_cons_zero]
                    obtain ⟨Au, nu, cu, hue⟩ := OSs.slice hTgb7_16_8_18_17.ou
                    obtain ⟨Av, nv, cv, hve⟩ := OSs.slice hTgb7_16_8_18_17.ov
                    subst hue hve
                    have hT9 := hTgb7_16_8_18_17.done hz5 (keep_set (by omega) (by omega))
                    have b50 := hTgb7_16_8_18_17.sm.c50
                    have y50 := hTgb7_16_8_18_17.sm.z50
                    have b51 := (hTgb7_16_8_18_17.sm.set0 (Value.slice Au nu cu)).c51
                    have y51 := (hTgb7_16_8_18_17.sm.set0 (Value.slice Au nu cu)).z51
                    go_wp2_with fail
                    generalize (wgb7_16_8_18_17.setCell ⟨N + 2 + 1, 0, none⟩ (Value.slice Au nu cu)).setCell ⟨N + 2 + 1, 1, none⟩ (Value.slice Av nv cv) = w9 at *
                    clear b50 y50 b51 y51 hTgb7_16_8_18_17
                    go_wp2_with fail
                    try go_frame
                    go_roundw
                    case rel => exact ⟨i + 1, true, ((acc ++ [(bs x.key, bs x.b)]) ++ [(pk, pv)]), (Value.slice Au nu cu), (Value.slice Av nv cv), by omega, rfl, rfl, by rw [htk.out]; unfold wStep; first | (simp only [hbf]; simp [hpk]; done) | (simp [hpk]; done), hT9.sm.1, by simpa [stB_bs] using hT9.ou, by simpa [stB_bs] using hT9.ov, hT9.ap, hT9.fr⟩
                    case measure => simp [intOf]; omega
              · refine st_one (by kernel_rfl) ?_
                simp only [List.filterMap_cons, List.filterMap_nil, List.getElem?_toArray, List.getElem?_cons_succ, List.getElem?_cons_zero]
                go_wp2_with fail
                have hLgb16 := Lt.new hTdgb (stB pv)
                have hTgb16 := hTdgb.frs hEgb hz5 ((Fr.refl [] wdgb).alloc (.cells #[.string (stB pv)] 9))
                obtain ⟨bgb16, hbgb16⟩ : ∃ b, b = wdgb.heap.size := ⟨_, rfl⟩
                rw [← hbgb16] at hLgb16 ⊢
                clear hbgb16
                generalize wdgb.alloc (.cells #[.string (stB pv)] 9) = wgb16 at *
                refine ⟨fun _ => ⟨hTgb16.sm, hTgb16.el⟩, ?_⟩
                refine orders_all [7] (by kernel_rfl) (by kernel_rfl) ?_
                intro i hi
                simp only [List.mem_cons, List.not_mem_nil, or_false] at hi
                subst hi
                refine st_one (by kernel_rfl) ?_
                simp only [List.filterMap_cons, List.filterMap_nil, List.getElem?_toArray, List.getElem?_cons_succ, List.getElem?_cons_zero]
                go_wp2_with fail
                have hLgb16_7 := Lt.new hTgb16 (stB pk)
                have hTgb16_7 := hTgb16.frs hEgb hz5 ((Fr.refl [] wgb16).alloc (.cells #[.string (stB pk)] 9))
                have hL16gb16_7 := hLgb16.frs ((Fr.refl [] wgb16).alloc (.cells #[.string (stB pk)] 9))
                obtain ⟨bgb16_7, hbgb16_7⟩ : ∃ b, b = wgb16.heap.size := ⟨_, rfl⟩
                rw [← hbgb16_7] at hLgb16_7 ⊢
                clear hbgb16_7
                generalize wgb16.alloc (.cells #[.string (stB pk)] 9) = wgb16_7 at *
                refine ⟨fun _ => ⟨hTgb16_7.sm, hTgb16_7.el⟩, ?_⟩
                refine orders_all [8] (by kernel_rfl) (by kernel_rfl) ?_
                intro i hi
                simp only [List.mem_cons, List.not_mem_nil, or_false] at hi
                subst hi
                refine st_one (by kernel_rfl) ?_
                simp only [List.filterMap_cons, List.filterMap_nil, List.getElem?_toArray, List.getElem?_cons_succ, List.getElem?_cons_zero]
                refine appStrAt w5.heap.size rfl _ _ rfl hTgb16_7.ou (stB pk) hLgb16_7.1 rfl rfl hTgb16_7.fr.size (by simp only [List.length_map, List.length_append, List.length_singleton]; omega) ?_
                intro ugb16_7_8 wgb16_7_8 hOgb16_7_8 hfgb16_7_8 hngb16_7_8
                have hTgb16_7_8 := hTgb16_7.appU hEgb hz5 hOgb16_7_8 hfgb16_7_8 hngb16_7_8
                have hL16gb16_7_8 := hL16gb16_7.appU hfgb16_7_8 hngb16_7_8
                go_wp2_with fail
                refine ⟨fun _ => ⟨hTgb16_7_8.sm, hTgb16_7_8.el⟩, ?_⟩
                refine orders_all [17, 18] (by kernel_rfl) (by kernel_rfl) ?_
                intro i hi
                simp only [List.mem_cons, List.not_mem_nil, or_false] at hi
                rcases hi with rfl | rfl
                · refine st_one (by kernel_rfl) ?_
                  simp only [List.filterMap_cons, List.filterMap_nil, List.getElem?_toArray, List.getElem?_cons_succ, List.getElem?_cons_zero]
                  refine appStrAt w5.heap.size rfl _ _ rfl hTgb16_7_8.ov (stB pv) hL16gb16_7_8.1 rfl rfl hTgb16_7_8.fr.size (by simp only [List.length_map, List.length_append, List.length_singleton]; omega) ?_
                  intro vgb16_7_8_17 wgb16_7_8_17 hPgb16_7_8_17 hfgb16_7_8_17 hngb16_7_8_17
                  have hTgb16_7_8_17 := hTgb16_7_8.appV hEgb hz5 hPgb16_7_8_17 hfgb16_7_8_17 hngb16_7_8_17
                  go_wp2_with fail
                  refine ⟨fun _ => ⟨hTgb16_7_8_17.sm, hTgb16_7_8_17.el⟩, ?_⟩
                  refine orders_all [18] (by kernel_rfl) (by kernel_rfl) ?_
                  intro i hi
                  simp only [List.mem_cons, List.not_mem_nil, or_false] at hi
                  subst hi
                  refine st_one (by kernel_rfl) ?_
                  simp only [List.filterMap_cons, List.filterMap_nil, List.getElem?_toArray, List.getElem?_cons_succ, List.getElem?_cons_zero]
                  go_wp2_with fail
                  refine ⟨fun _ => ⟨hTgb16_7_8_17.sm, hTgb16_7_8_17.el⟩, ?_⟩
                  refine orders_seq [19, 20, 21] _ _ _ (by kernel_rfl) (by kernel_rfl) (by kernel_rfl) ?_
                  simp only [List.filterMap_cons, List.filterMap_nil, List.getElem?_toArray, List.getElem?_cons_succ, List.getElem?_cons_zero]
                  obtain ⟨Au, nu, cu, hue⟩ := OSs.slice hTgb16_7_8_17.ou
                  obtain ⟨Av, nv, cv, hve⟩ := OSs.slice hTgb16_7_8_17.ov
                  subst hue hve
                  have hT9 := hTgb16_7_8_17.done hz5 (keep_set (by omega) (by omega))
                  have b50 := hTgb16_7_8_17.sm.c50
                  have y50 := hTgb16_7_8_17.sm.z50
                  have b51 := (hTgb16_7_8_17.sm.set0 (Value.slice Au nu cu)).c51
                  have y51 := (hTgb16_7_8_17.sm.set0 (Value.slice Au nu cu)).z51
                  go_wp2_with fail
                  generalize (wgb16_7_8_17.setCell ⟨N + 2 + 1, 0, none⟩ (Value.slice Au nu cu)).setCell ⟨N + 2 + 1, 1, none⟩ (Value.slice Av nv cv) = w9 at *
                  clear b50 y50 b51 y51 hTgb16_7_8_17
                  go_wp2_with fail
                  try go_frame
                  go_roundw
                  case rel => exact ⟨i + 1, true, ((acc ++ [(bs x.key, bs x.b)]) ++ [(pk, pv)]), (Value.slice Au nu cu), (Value.slice Av nv cv), by omega, rfl, rfl, by rw [htk.out]; unfold wStep; first | (simp only [hbf]; simp [hpk]; done) | (simp [hpk]; done), hT9.sm.1, by simpa [stB_bs] using hT9.ou, by simpa [stB_bs] using hT9.ov, hT9.ap, hT9.fr⟩
                  case measure => simp [intOf]; omega
                · refine st_one (by kernel_rfl) ?_
                  simp only [List.filterMap_cons, List.filterMap_nil, List.getElem?_toArray, List.getElem?_cons_succ, List.getElem?_cons_zero]
                  go_wp2_with fail
                  refine ⟨fun _ => ⟨hTgb16_7_8.sm, hTgb16_7_8.el⟩, ?_⟩
                  refine orders_all [17] (by kernel_rfl) (by kernel_rfl) ?_
                  intro i hi
                  simp only [List.mem_cons, List.not_mem_nil, or_false] at hi
                  subst hi
                  refine st_one (by kernel_rfl) ?_
                  simp only [List.filterMap_cons, List.filterMap_nil, List.getElem?_toArray, List.getElem?_cons_succ, List.getElem?_cons_zero]
                  refine appStrAt w5.heap.size rfl _ _ rfl hTgb16_7_8.ov (stB pv) hL16gb16_7_8.1 rfl rfl hTgb16_7_8.fr.size (by simp only [List.length_map, List.length_append, List.length_singleton]; omega) ?_
                  intro vgb16_7_8_18_17 wgb16_7_8_18_17 hPgb16_7_8_18_17 hfgb16_7_8_18_17 hngb16_7_8_18_17
                  have hTgb16_7_8_18_17 := hTgb16_7_8.appV hEgb hz5 hPgb16_7_8_18_17 hfgb16_7_8_18_17 hngb16_7_8_18_17
                  go_wp2_with fail
                  refine ⟨fun _ => ⟨hTgb16_7_8_18_17.sm, hTgb16_7_8_18_17.el⟩, ?_⟩
                  refine orders_seq [19, 20, 21] _ _ _ (by kernel_rfl) (by kernel_rfl) (by kernel_rfl) ?_
                  simp only [List.filterMap_cons, List.filterMap_nil, List.getElem?_toArray, List.getElem?_cons_succ, List.getElem?_cons_zero]
                  obtain ⟨Au, nu, cu, hue⟩ := OSs.slice hTgb16_7_8_18_17.ou
                  obtain ⟨Av, nv, cv, hve⟩ := OSs.slice hTgb16_7_8_18_17.ov
                  subst hue hve
                  have hT9 := hTgb16_7_8_18_17.done hz5 (keep_set (by omega) (by omega))
                  have b50 := hTgb16_7_8_18_17.sm.c50
                  have y50 := hTgb16_7_8_18_17.sm.z50
                  have b51 := (hTgb16_7_8_18_17.sm.set0 (Value.slice Au nu cu)).c51
                  have y51 := (hTgb16_7_8_18_17.sm.set0 (Value.slice Au nu cu)).z51
                  go_wp2_with fail
                  generalize (wgb16_7_8_18_17.setCell ⟨N + 2 + 1, 0, none⟩ (Value.slice Au nu cu)).setCell ⟨N + 2 + 1, 1, none⟩ (Value.slice Av nv cv) = w9 at *
                  clear b50 y50 b51 y51 hTgb16_7_8_18_17
                  go_wp2_with fail
                  try go_frame
                  go_roundw
                  case rel => exact ⟨i + 1, true, ((acc ++ [(bs x.key, bs x.b)]) ++ [(pk, pv)]), (Value.slice Au nu cu), (Value.slice Av nv cv), by omega, rfl, rfl, by rw [htk.out]; unfold wStep; first | (simp only [hbf]; simp [hpk]; done) | (simp [hpk]; done), hT9.sm.1, by simpa [stB_bs] using hT9.ou, by simpa [stB_bs] using hT9.ov, hT9.ap, hT9.fr⟩
                  case measure => simp [intOf]; omega
    · have hie : i = n := by omega
      subst hie
      have htk : (L.take i) = L := List.take_of_length_le (by omega)
      rw [htk] at hacc
      have hend := wStep_apply L x
      rw [hacc] at hend
      replace hacc := hid hacc
      replace hend := hid hend
      clear hR hR5 htk
      cases done with
      | true =>
        obtain ⟨Au, nu, cu, hue⟩ := OSs.slice hO
        obtain ⟨Av, nv, cv, hve⟩ := OSs.slice hP
        subst hue hve
        have r50z : wr.rangeAt (N + 2 + 1) 0 [(Value.slice Au nu cu), (Value.slice Av nv cv)] := range_of_two hM.1
        have k4z := (hfr.block (N + 2) (by omega) (by simp)).trans k4
        have hz4 := hfr.size
        go_wp2_with (first | (with_reducible refine stop_ld2 48 rfl ?_) | (with_reducible refine stop_al2 48 rfl ?_) | (with_reducible refine stop_st2 48 rfl ?_))
        refine Stop.go (ld_arr 48 [(Value.slice Au nu cu), (Value.slice Av nv cv)] _ Tryz.underlying48 rfl (zero_of_info infoMo).2 rfl rfl (N + 2 + 1) 0 rfl r50z ?_)
        go_wp2_with (first | (with_reducible refine stop_ld2 48 rfl ?_) | (with_reducible refine stop_al2 48 rfl ?_) | (with_reducible refine stop_st2 48 rfl ?_))
        refine Stop.go (st_arr 48 [(Value.slice Au nu cu), (Value.slice Av nv cv)] (zero_of_info infoMo).2 (by intro z hz; simp at hz; rcases hz with rfl | rfl <;> rfl) rfl rfl (N + 2) 0 rfl rfl (there_of_block k4z (by simp)) ?_)
        intro wz hwz hrz hfz
        have r40 : wz.cell? ⟨N + 2, 0, none⟩ = some (Value.slice Au nu cu) := hrz 0 _ rfl
        have r41 : wz.cell? ⟨N + 2, 1, none⟩ = some (Value.slice Av nv cv) := hrz 1 _ rfl
        have hOz := (hO.kept hfz (fun k hk => by have := (hO.lt k hk).1; simp; omega)).base (base' := w.heap.size) (by have := hN.out; omega)
        have hPz := (hP.kept hfz (fun k hk => by have := (hP.lt k hk).1; simp; omega)).base (base' := w.heap.size) (by have := hN.out; omega)
        have hapz := hap
        have hfin : Fr [] w wz := (hf05.trans hfr (fun z hz => by have := hN.out; simp at hz; right; omega)).trans hfz (fun z hz => by have := hN.out; simp at hz; right; omega)
        have hend2 := hend.out
        go_wp2_with fail
        (try simp only [Exit.inBlock, Exit.then])
        refine bodyPost_ret (results_cell1 rfl _ _ _ rfl (run_loadVar_mid wz (N + 2) 0 48 [(Value.slice Au nu cu), (Value.slice Av nv cv)] _ hrz Tryz.underlying48 rfl (zero_of_info infoMo).2)) rfl ?_
        rw [← hend2]
        refine ⟨_, _, rfl, ⟨?_, ?_, hapz⟩, hfin⟩
        · simpa [wEnd, stB_bs] using hOz
        · simpa [wEnd, stB_bs] using hPz
      | false =>
        go_wp2_with fail
        have hEe : Keeps w5.heap.size (fun _ => True) := Keeps.top _
        have hTe : Tw (fun _ => True) N u v x (.slice A i c) (.slice C i c2) u v _ _ w5 wr := ⟨hM, trivial, hO, hP, hap, hfr⟩
        refine wp_region_textO (fun w' => SM N u v x (.slice A i c) (.slice C i c2) w' ∧ (fun _ => True) w') [1, 3, 7, 9] [0, 1, 2, 3, 6, 7, 8, 9] 13 8 (by kernel_rfl) rfl (by kernel_rfl) ⟨hM, trivial⟩ ?_
        intro Ke hKe
        simp only [List.filterMap_cons, List.filterMap_nil, List.getElem?_toArray, List.getElem?_cons_succ, List.getElem?_cons_zero]
        have hTde := hTe.frs hEe hz5 (Fr.refl [] wr).drew
        clear hTe
        generalize wr.drew = wde at *
        have a50e := hTde.sm.c50
        have a51e := hTde.sm.c51
        have a30e := hTde.sm.c30
        have a31e := hTde.sm.c31
        have a20e := hTde.sm.c20
        have a21e := hTde.sm.c21
        go_wp2_with fail
        refine hKe _ _ (by kernel_rfl) ⟨fun o ho => ?_, fun o ho => ?_, fun o ho => ?_, fun o ho => ?_, trivial⟩ ?_
        · cases ho
          exact gives_load rfl (fun w' h => load_cell 34 Tryz.underlying34 rfl h.1.c50)
        · cases ho
          exact gives_load rfl (fun w' h => load_cell 9 Tryz.underlying9 rfl h.1.c30)
        · cases ho
          exact gives_load rfl (fun w' h => load_cell 34 Tryz.underlying34 rfl h.1.c51)
        · cases ho
          exact gives_load rfl (fun w' h => load_cell 9 Tryz.underlying9 rfl h.1.c31)
        clear a50e a51e a30e a31e a20e a21e 
        refine orders_all [4, 10] (by kernel_rfl) (by kernel_rfl) ?_
        intro i hi
        simp only [List.mem_cons, List.not_mem_nil, or_false] at hi
        rcases hi with rfl | rfl
        · refine st_one (by kernel_rfl) ?_
          simp only [List.filterMap_cons, List.filterMap_nil, List.getElem?_toArray, List.getElem?_cons_succ, List.getElem?_cons_zero]
          go_wp2_with fail
          have hLe4 := Lt.new hTde x.key
          have hTe4 := hTde.frs hEe hz5 ((Fr.refl [] wde).alloc (.cells #[.string x.key] 9))
          obtain ⟨be4, hbe4⟩ : ∃ b, b = wde.heap.size := ⟨_, rfl⟩
          rw [← hbe4] at hLe4 ⊢
          clear hbe4
          generalize wde.alloc (.cells #[.string x.key] 9) = we4 at *
          refine ⟨fun _ => ⟨hTe4.sm, hTe4.el⟩, ?_⟩
          refine orders_all [5, 10] (by kernel_rfl) (by kernel_rfl) ?_
          intro i hi
          simp only [List.mem_cons, List.not_mem_nil, or_false] at hi
          rcases hi with rfl | rfl
          · refine st_one (by kernel_rfl) ?_
            simp only [List.filterMap_cons, List.filterMap_nil, List.getElem?_toArray, List.getElem?_cons_succ, List.getElem?_cons_zero]
            refine appStrAt w5.heap.size rfl _ _ rfl hTe4.ou x.key hLe4.1 rfl rfl hTe4.fr.size (by simp only [List.length_map, List.length_append, List.length_singleton]; omega) ?_
            intro ue4_5 we4_5 hOe4_5 hfe4_5 hne4_5
            have hTe4_5 := hTe4.appU hEe hz5 hOe4_5 hfe4_5 hne4_5
            go_wp2_with fail
            refine ⟨fun _ => ⟨hTe4_5.sm, hTe4_5.el⟩, ?_⟩
            refine orders_all [10, 12] (by kernel_rfl) (by kernel_rfl) ?_
            intro i hi
            simp only [List.mem_cons, List.not_mem_nil, or_false] at hi
            rcases hi with rfl | rfl
            · refine st_one (by kernel_rfl) ?_
              simp only [List.filterMap_cons, List.filterMap_nil, List.getElem?_toArray, List.getElem?_cons_succ, List.getElem?_cons_zero]
              go_wp2_with fail
              have hLe4_5_10 := Lt.new hTe4_5 x.b
              have hTe4_5_10 := hTe4_5.frs hEe hz5 ((Fr.refl [] we4_5).alloc (.cells #[.string x.b] 9))
              obtain ⟨be4_5_10, hbe4_5_10⟩ : ∃ b, b = we4_5.heap.size := ⟨_, rfl⟩
              rw [← hbe4_5_10] at hLe4_5_10 ⊢
              clear hbe4_5_10
              generalize we4_5.alloc (.cells #[.string x.b] 9) = we4_5_10 at *
              refine ⟨fun _ => ⟨hTe4_5_10.sm, hTe4_5_10.el⟩, ?_⟩
              refine orders_all [11, 12] (by kernel_rfl) (by kernel_rfl) ?_
              intro i hi
              simp only [List.mem_cons, List.not_mem_nil, or_false] at hi
              rcases hi with rfl | rfl
              · refine st_one (by kernel_rfl) ?_
                simp only [List.filterMap_cons, List.filterMap_nil, List.getElem?_toArray, List.getElem?_cons_succ, List.getElem?_cons_zero]
                refine appStrAt w5.heap.size rfl _ _ rfl hTe4_5_10.ov x.b hLe4_5_10.1 rfl rfl hTe4_5_10.fr.size (by simp only [List.length_map, List.length_append, List.length_singleton]; omega) ?_
                intro ve4_5_10_11 we4_5_10_11 hPe4_5_10_11 hfe4_5_10_11 hne4_5_10_11
                have hTe4_5_10_11 := hTe4_5_10.appV hEe hz5 hPe4_5_10_11 hfe4_5_10_11 hne4_5_10_11
                go_wp2_with fail
                refine ⟨fun _ => ⟨hTe4_5_10_11.sm, hTe4_5_10_11.el⟩, ?_⟩
                refine orders_all [12] (by kernel_rfl) (by kernel_rfl) ?_
                intro i hi
                simp only [List.mem_cons, List.not_mem_nil, or_false] at hi
                subst hi
                refine st_one (by kernel_rfl) ?_
                simp only [List.filterMap_cons, List.filterMap_nil, List.getElem?_toArray, List.getElem?_cons_succ, List.getElem?_cons_zero]
                go_wp2_with fail
                refine ⟨fun _ => ⟨hTe4_5_10_11.sm, hTe4_5_10_11.el⟩, ?_⟩
                refine orders_seq [13, 14, 15] _ _ _ (by kernel_rfl) (by kernel_rfl) (by kernel_rfl) ?_
                simp only [List.filterMap_cons, List.filterMap_nil, List.getElem?_toArray, List.getElem?_cons_succ, List.getElem?_cons_zero]
                obtain ⟨Au, nu, cu, hue⟩ := OSs.slice hTe4_5_10_11.ou
                obtain ⟨Av, nv, cv, hve⟩ := OSs.slice hTe4_5_10_11.ov
                subst hue hve
                have hT9 := hTe4_5_10_11.done hz5 (fun _ _ _ _ => trivial)
                have b50 := hTe4_5_10_11.sm.c50
                have y50 := hTe4_5_10_11.sm.z50
                have b51 := (hTe4_5_10_11.sm.set0 (Value.slice Au nu cu)).c51
                have y51 := (hTe4_5_10_11.sm.set0 (Value.slice Au nu cu)).z51
                go_wp2_with (first | (with_reducible refine stop_ld2 48 rfl ?_) | (with_reducible refine stop_al2 48 rfl ?_) | (with_reducible refine stop_st2 48 rfl ?_))
                generalize (we4_5_10_11.setCell ⟨N + 2 + 1, 0, none⟩ (Value.slice Au nu cu)).setCell ⟨N + 2 + 1, 1, none⟩ (Value.slice Av nv cv) = w9 at *
                clear b50 y50 b51 y51 hTe4_5_10_11
                have r50z : w9.rangeAt (N + 2 + 1) 0 [(Value.slice Au nu cu), (Value.slice Av nv cv)] := range_of_two hT9.sm.1
                have k4z := (hT9.fr.block (N + 2) (by omega) (by simp)).trans k4
                have hz4 := hT9.fr.size
                refine Stop.go (ld_arr 48 [(Value.slice Au nu cu), (Value.slice Av nv cv)] _ Tryz.underlying48 rfl (zero_of_info infoMo).2 rfl rfl (N + 2 + 1) 0 rfl r50z ?_)
                go_wp2_with (first | (with_reducible refine stop_ld2 48 rfl ?_) | (with_reducible refine stop_al2 48 rfl ?_) | (with_reducible refine stop_st2 48 rfl ?_))
                refine Stop.go (st_arr 48 [(Value.slice Au nu cu), (Value.slice Av nv cv)] (zero_of_info infoMo).2 (by intro z hz; simp at hz; rcases hz with rfl | rfl <;> rfl) rfl rfl (N + 2) 0 rfl rfl (there_of_block k4z (by simp)) ?_)
                intro wz hwz hrz hfz
                have r40 : wz.cell? ⟨N + 2, 0, none⟩ = some (Value.slice Au nu cu) := hrz 0 _ rfl
                have r41 : wz.cell? ⟨N + 2, 1, none⟩ = some (Value.slice Av nv cv) := hrz 1 _ rfl
                have hOz := (hT9.ou.kept hfz (fun k hk => by have := (hT9.ou.lt k hk).1; simp; omega)).base (base' := w.heap.size) (by have := hN.out; omega)
                have hPz := (hT9.ov.kept hfz (fun k hk => by have := (hT9.ov.lt k hk).1; simp; omega)).base (base' := w.heap.size) (by have := hN.out; omega)
                have hapz := hT9.ap
                have hfin : Fr [] w wz := (hf05.trans hT9.fr (fun z hz => by have := hN.out; simp at hz; right; omega)).trans hfz (fun z hz => by have := hN.out; simp at hz; right; omega)
                have hend2 := hend.out
                go_wp2_with fail
                (try simp only [Exit.inBlock, Exit.then])
                refine bodyPost_ret (results_cell1 rfl _ _ _ rfl (run_loadVar_mid wz (N + 2) 0 48 [(Value.slice Au nu cu), (Value.slice Av nv cv)] _ hrz Tryz.underlying48 rfl (zero_of_info infoMo).2)) rfl ?_
                rw [← hend2]
                refine ⟨_, _, rfl, ⟨?_, ?_, hapz⟩, hfin⟩
                · simpa [wEnd, stB_bs] using hOz
                · simpa [wEnd, stB_bs] using hPz
              · refine st_one (by kernel_rfl) ?_
                simp only [List.filterMap_cons, List.filterMap_nil, List.getElem?_toArray, List.getElem?_cons_succ, List.getElem?_cons_zero]
                go_wp2_with fail
                refine ⟨fun _ => ⟨hTe4_5_10.sm, hTe4_5_10.el⟩, ?_⟩
                refine orders_all [11] (by kernel_rfl) (by kernel_rfl) ?_
                intro i hi
                simp only [List.mem_cons, List.not_mem_nil, or_false] at hi
                subst hi
                refine st_one (by kernel_rfl) ?_
                simp only [List.filterMap_cons, List.filterMap_nil, List.getElem?_toArray, List.getElem?_cons_succ, List.getElem?_cons_zero]
                refine appStrAt w5.heap.size rfl _ _ rfl hTe4_5_10.ov x.b hLe4_5_10.1 rfl rfl hTe4_5_10.fr.size (by simp only [List.length_map, List.length_append, List.length_singleton]; omega) ?_
                intro ve4_5_10_12_11 we4_5_10_12_11 hPe4_5_10_12_11 hfe4_5_10_12_11 hne4_5_10_12_11
                have hTe4_5_10_12_11 := hTe4_5_10.appV hEe hz5 hPe4_5_10_12_11 hfe4_5_10_12_11 hne4_5_10_12_11
                go_wp2_with fail
                refine ⟨fun _ => ⟨hTe4_5_10_12_11.sm, hTe4_5_10_12_11.el⟩, ?_⟩
                refine orders_seq [13, 14, 15] _ _ _ (by kernel_rfl) (by kernel_rfl) (by kernel_rfl) ?_
                simp only [List.filterMap_cons, List.filterMap_nil, List.getElem?_toArray, List.getElem?_cons_succ, List.getElem?_cons_zero]
                obtain ⟨Au, nu, cu, hue⟩ := OSs.slice hTe4_5_10_12_11.ou
                obtain ⟨Av, nv, cv, hve⟩ := OSs.slice hTe4_5_10_12_11.ov
                subst hue hve
                have hT9 := hTe4_5_10_12_11.done hz5 (fun _ _ _ _ => trivial)
                have b50 := hTe4_5_10_12_11.sm.c50
                have y50 := hTe4_5_10_12_11.sm.z50
                have b51 := (hTe4_5_10_12_11.sm.set0 (Value.slice Au nu cu)).c51
                have y51 := (hTe4_5_10_12_11.sm.set0 (Value.slice Au nu cu)).z51
                go_wp2_with (first | (with_reducible refine stop_ld2 48 rfl ?_) | (with_reducible refine stop_al2 48 rfl ?_) | (with_reducible refine stop_st2 48 rfl ?_))
                generalize (we4_5_10_12_11.setCell ⟨N + 2 + 1, 0, none⟩ (Value.slice Au nu cu)).setCell ⟨N + 2 + 1, 1, none⟩ (Value.slice Av nv cv) = w9 at *
                clear b50 y50 b51 y51 hTe4_5_10_12_11
                have r50z : w9.rangeAt (N + 2 + 1) 0 [(Value.slice Au nu cu), (Value.slice Av nv cv)] := range_of_two hT9.sm.1
                have k4z := (hT9.fr.block (N + 2) (by omega) (by simp)).trans k4
                have hz4 := hT9.fr.size
                refine Stop.go (ld_arr 48 [(Value.slice Au nu cu), (Value.slice Av nv cv)] _ Tryz.underlying48 rfl (zero_of_info infoMo).2 rfl rfl (N + 2 + 1) 0 rfl r50z ?_)
                go_wp2_with (first | (with_reducible refine stop_ld2 48 rfl ?_) | (with_reducible refine stop_al2 48 rfl ?_) | (with_reducible refine stop_st2 48 rfl ?_))
                refine Stop.go (st_arr 48 [(Value.slice Au nu cu), (Value.slice Av nv cv)] (zero_of_info infoMo).2 (by intro z hz; simp at hz; rcases hz with rfl | rfl <;> rfl) rfl rfl (N + 2) 0 rfl rfl (there_of_block k4z (by simp)) ?_)
                intro wz hwz hrz hfz
                have r40 : wz.cell? ⟨N + 2, 0, none⟩ = some (Value.slice Au nu cu) := hrz 0 _ rfl
                have r41 : wz.cell? ⟨N + 2, 1, none⟩ = some (Value.slice Av nv cv) := hrz 1 _ rfl
                have hOz := (hT9.ou.kept hfz (fun k hk => by have := (hT9.ou.lt k hk).1; simp; omega)).base (base' := w.heap.size) (by have := hN.out; omega)
                have hPz := (hT9.ov.kept hfz (fun k hk => by have := (hT9.ov.lt k hk).1; simp; omega)).base (base' := w.heap.size) (by have := hN.out; omega)
                have hapz := hT9.ap
                have hfin : Fr [] w wz := (hf05.trans hT9.fr (fun z hz => by have := hN.out; simp at hz; right; omega)).trans hfz (fun z hz => by have := hN.out; simp at hz; right; omega)
                have hend2 := hend.out
                go_wp2_with fail
                (try simp only [Exit.inBlock, Exit.then])
                refine bodyPost_ret (results_cell1 rfl _ _ _ rfl (run_loadVar_mid wz (N + 2) 0 48 [(Value.slice Au nu cu), (Value.slice Av nv cv)] _ hrz Tryz.underlying48 rfl (zero_of_info infoMo).2)) rfl ?_
                rw [← hend2]
                refine ⟨_, _, rfl, ⟨?_, ?_, hapz⟩, hfin⟩
                · simpa [wEnd, stB_bs] using hOz
                · simpa [wEnd, stB_bs] using hPz
            · refine st_one (by kernel_rfl) ?_
              simp only [List.filterMap_cons, List.filterMap_nil, List.getElem?_toArray, List.getElem?_cons_succ, List.getElem?_cons_zero]
              go_wp2_with fail
              refine ⟨fun _ => ⟨hTe4_5.sm, hTe4_5.el⟩, ?_⟩
              refine orders_all [10] (by kernel_rfl) (by kernel_rfl) ?_
              intro i hi
              simp only [List.mem_cons, List.not_mem_nil, or_false] at hi
              subst hi
              refine st_one (by kernel_rfl) ?_
              simp only [List.filterMap_cons, List.filterMap_nil, List.getElem?_toArray, List.getElem?_cons_succ, List.getElem?_cons_zero]
              go_wp2_with fail
              have hLe4_5_12_10 := Lt.new hTe4_5 x.b
              have hTe4_5_12_10 := hTe4_5.frs hEe hz5 ((Fr.refl [] we4_5).alloc (.cells #[.string x.b] 9))
              obtain ⟨be4_5_12_10, hbe4_5_12_10⟩ : ∃ b, b = we4_5.heap.size := ⟨_, rfl⟩
              rw [← hbe4_5_12_10] at hLe4_5_12_10 ⊢
              clear hbe4_5_12_10
              generalize we4_5.alloc (.cells #[.string x.b] 9) = we4_5_12_10 at *
              refine ⟨fun _ => ⟨hTe4_5_12_10.sm, hTe4_5_12_10.el⟩, ?_⟩
              refine orders_all [11] (by kernel_rfl) (by kernel_rfl) ?_
              intro i hi
              simp only [List.mem_cons, List.not_mem_nil, or_false] at hi
              subst hi
              refine st_one (by kernel_rfl) ?_
              simp only [List.filterMap_cons, List.filterMap_nil, List.getElem?_toArray, List.getElem?_cons_succ, List.getElem?_cons_zero]
              refine appStrAt w5.heap.size rfl _ _ rfl hTe4_5_12_10.ov x.b hLe4_5_12_10.1 rfl rfl hTe4_5_12_10.fr.size (by simp only [List.length_map, List.length_append, List.length_singleton]; omega) ?_
              intro ve4_5_12_10_11 we4_5_12_10_11 hPe4_5_12_10_11 hfe4_5_12_10_11 hne4_5_12_10_11
              have hTe4_5_12_10_11 := hTe4_5_12_10.appV hEe hz5 hPe4_5_12_10_11 hfe4_5_12_10_11 hne4_5_12_10_11
              go_wp2_with fail
              refine ⟨fun _ => ⟨hTe4_5_12_10_11.sm, hTe4_5_12_10_11.el⟩, ?_⟩
              refine orders_seq [13, 14, 15] _ _ _ (by kernel_rfl) (by kernel_rfl) (by kernel_rfl) ?_
              simp only [List.filterMap_cons, List.filterMap_nil, List.getElem?_toArray, List.getElem?_cons_succ, List.getElem?_cons_zero]
              obtain ⟨Au, nu, cu, hue⟩ := OSs.slice hTe4_5_12_10_11.ou
              obtain ⟨Av, nv, cv, hve⟩ := OSs.slice hTe4_5_12_10_11.ov
              subst hue hve
              have hT9 := hTe4_5_12_10_11.done hz5 (fun _ _ _ _ => trivial)
              have b50 := hTe4_5_12_10_11.sm.c50
              have y50 := hTe4_5_12_10_11.sm.z50
              have b51 := (hTe4_5_12_10_11.sm.set0 (Value.slice Au nu cu)).c51
              have y51 := (hTe4_5_12_10_11.sm.set0 (Value.slice Au nu cu)).z51
              go_wp2_with (first | (with_reducible refine stop_ld2 48 rfl ?_) | (with_reducible refine stop_al2 48 rfl ?_) | (with_reducible refine stop_st2 48 rfl ?_))
              generalize (we4_5_12_10_11.setCell ⟨N + 2 + 1, 0, none⟩ (Value.slice Au nu cu)).setCell ⟨N + 2 + 1, 1, none⟩ (Value.slice Av nv cv) = w9 at *
              clear b50 y50 b51 y51 hTe4_5_12_10_11
              have r50z : w9.rangeAt (N + 2 + 1) 0 [(Value.slice Au nu cu), (Value.slice Av nv cv)] := range_of_two hT9.sm.1
              have k4z := (hT9.fr.block (N + 2) (by omega) (by simp)).trans k4
              have hz4 := hT9.fr.size
              refine Stop.go (ld_arr 48 [(Value.slice Au nu cu), (Value.slice Av nv cv)] _ Tryz.underlying48 rfl (zero_of_info infoMo).2 rfl rfl (N + 2 + 1) 0 rfl r50z ?_)
              go_wp2_with (first | (with_reducible refine stop_ld2 48 rfl ?_) | (with_reducible refine stop_al2 48 rfl ?_) | (with_reducible refine stop_st2 48 rfl ?_))
              refine Stop.go (st_arr 48 [(Value.slice Au nu cu), (Value.slice Av nv cv)] (zero_of_info infoMo).2 (by intro z hz; simp at hz; rcases hz with rfl | rfl <;> rfl) rfl rfl (N + 2) 0 rfl rfl (there_of_block k4z (by simp)) ?_)
              intro wz hwz hrz hfz
              have r40 : wz.cell? ⟨N + 2, 0, none⟩ = some (Value.slice Au nu cu) := hrz 0 _ rfl
              have r41 : wz.cell? ⟨N + 2, 1, none⟩ = some (Value.slice Av nv cv) := hrz 1 _ rfl
              have hOz := (hT9.ou.kept hfz (fun k hk => by have := (hT9.ou.lt k hk).1; simp; omega)).base (base' := w.heap.size) (by have := hN.out; omega)
              have hPz := (hT9.ov.kept hfz (fun k hk => by have := (hT9.ov.lt k hk).1; simp; omega)).base (base' := w.heap.size) (by have := hN.out; omega)
              have hapz := hT9.ap
              have hfin : Fr [] w wz := (hf05.trans hT9.fr (fun z hz => by have := hN.out; simp at hz; right; omega)).trans hfz (fun z hz => by have := hN.out; simp at hz; right; omega)
              have hend2 := hend.out
              go_wp2_with fail
              (try simp only [Exit.inBlock, Exit.then])
              refine bodyPost_ret (results_cell1 rfl _ _ _ rfl (run_loadVar_mid wz (N + 2) 0 48 [(Value.slice Au nu cu), (Value.slice Av nv cv)] _ hrz Tryz.underlying48 rfl (zero_of_info infoMo).2)) rfl ?_
              rw [← hend2]
              refine ⟨_, _, rfl, ⟨?_, ?_, hapz⟩, hfin⟩
              · simpa [wEnd, stB_bs] using hOz
              · simpa [wEnd, stB_bs] using hPz
          · refine st_one (by kernel_rfl) ?_
            simp only [List.filterMap_cons, List.filterMap_nil, List.getElem?_toArray, List.getElem?_cons_succ, List.getElem?_cons_zero]
            go_wp2_with fail
            have hLe4_10 := Lt.new hTe4 x.b
            have hTe4_10 := hTe4.frs hEe hz5 ((Fr.refl [] we4).alloc (.cells #[.string x.b] 9))
            have hL4e4_10 := hLe4.frs ((Fr.refl [] we4).alloc (.cells #[.string x.b] 9))
            obtain ⟨be4_10, hbe4_10⟩ : ∃ b, b = we4.heap.size := ⟨_, rfl⟩
            rw [← hbe4_10] at hLe4_10 ⊢
            clear hbe4_10
            generalize we4.alloc (.cells #[.string x.b] 9) = we4_10 at *
            refine ⟨fun _ => ⟨hTe4_10.sm, hTe4_10.el⟩, ?_⟩
            refine orders_all [5] (by kernel_rfl) (by kernel_rfl) ?_
            intro i hi
            simp only [List.mem_cons, List.not_mem_nil, or_false] at hi
            subst hi
            refine st_one (by kernel_rfl) ?_
            simp only [List.filterMap_cons, List.filterMap_nil, List.getElem?_toArray, List.getElem?_cons_succ, List.getElem?_cons_zero]
            refine appStrAt w5.heap.size rfl _ _ rfl hTe4_10.ou x.key hL4e4_10.1 rfl rfl hTe4_10.fr.size (by simp only [List.length_map, List.length_append, List.length_singleton]; omega) ?_
            intro ue4_10_5 we4_10_5 hOe4_10_5 hfe4_10_5 hne4_10_5
            have hTe4_10_5 := hTe4_10.appU hEe hz5 hOe4_10_5 hfe4_10_5 hne4_10_5
            have hL10e4_10_5 := hLe4_10.appU hfe4_10_5 hne4_10_5
            go_wp2_with fail
            refine ⟨fun _ => ⟨hTe4_10_5.sm, hTe4_10_5.el⟩, ?_⟩
            refine orders_all [11, 12] (by kernel_rfl) (by kernel_rfl) ?_
            intro i hi
            simp only [List.mem_cons, List.not_mem_nil, or_false] at hi
            rcases hi with rfl | rfl
            · refine st_one (by kernel_rfl) ?_
              simp only [List.filterMap_cons, List.filterMap_nil, List.getElem?_toArray, List.getElem?_cons_succ, List.getElem?_cons_zero]
              refine appStrAt w5.heap.size rfl _ _ rfl hTe4_10_5.ov x.b hL10e4_10_5.1 rfl rfl hTe4_10_5.fr.size (by simp only [List.length_map, List.length_append, List.length_singleton]; omega) ?_
              intro ve4_10_5_11 we4_10_5_11 hPe4_10_5_11 hfe4_10_5_11 hne4_10_5_11
              have hTe4_10_5_11 := hTe4_10_5.appV hEe hz5 hPe4_10_5_11 hfe4_10_5_11 hne4_10_5_11
              go_wp2_with fail
              refine ⟨fun _ => ⟨hTe4_10_5_11.sm, hTe4_10_5_11.el⟩, ?_⟩
              refine orders_all [12] (by kernel_rfl) (by kernel_rfl) ?_
              intro i hi
              simp only [List.mem_cons, List.not_mem_nil, or_false] at hi
              subst hi
              refine st_one (by kernel_rfl) ?_
              simp only [List.filterMap_cons, List.filterMap_nil, List.getElem?_toArray, List.getElem?_cons_succ, List.getElem?_cons_zero]
              go_wp2_with fail
              refine ⟨fun _ => ⟨hTe4_10_5_11.sm, hTe4_10_5_11.el⟩, ?_⟩
              refine orders_seq [13, 14, 15] _ _ _ (by kernel_rfl) (by kernel_rfl) (by kernel_rfl) ?_
              simp only [List.filterMap_cons, List.filterMap_nil, List.getElem?_toArray, List.getElem?_cons_succ, List.getElem?_cons_zero]
              obtain ⟨Au, nu, cu, hue⟩ := OSs.slice hTe4_10_5_11.ou
              obtain ⟨Av, nv, cv, hve⟩ := OSs.slice hTe4_10_5_11.ov
              subst hue hve
              have hT9 := hTe4_10_5_11.done hz5 (fun _ _ _ _ => trivial)
              have b50 := hTe4_10_5_11.sm.c50
              have y50 := hTe4_10_5_11.sm.z50
              have b51 := (hTe4_10_5_11.sm.set0 (Value.slice Au nu cu)).c51
              have y51 := (hTe4_10_5_11.sm.set0 (Value.slice Au nu cu)).z51
              go_wp2_with (first | (with_reducible refine stop_ld2 48 rfl ?_) | (with_reducible refine stop_al2 48 rfl ?_) | (with_reducible refine stop_st2 48 rfl ?_))
              generalize (we4_10_5_11.setCell ⟨N + 2 + 1, 0, none⟩ (Value.slice Au nu cu)).setCell ⟨N + 2 + 1, 1, none⟩ (Value.slice Av nv cv) = w9 at *
              clear b50 y50 b51 y51 hTe4_10_5_11
              have r50z : w9.rangeAt (N + 2 + 1) 0 [(Value.slice Au nu cu), (Value.slice Av nv cv)] := range_of_two hT9.sm.1
              have k4z := (hT9.fr.block (N + 2) (by omega) (by simp)).trans k4
              have hz4 := hT9.fr.size
              refine Stop.go (ld_arr 48 [(Value.slice Au nu cu), (Value.slice Av nv cv)] _ Tryz.underlying48 rfl (zero_of_info infoMo).2 rfl rfl (N + 2 + 1) 0 rfl r50z ?_)
              go_wp2_with (first | (with_reducible refine stop_ld2 48 rfl ?_) | (with_reducible refine stop_al2 48 rfl ?_) | (with_reducible refine stop_st2 48 rfl ?_))
              refine Stop.go (st_arr 48 [(Value.slice Au nu cu), (Value.slice Av nv cv)] (zero_of_info infoMo).2 (by intro z hz; simp at hz; rcases hz with rfl | rfl <;> rfl) rfl rfl (N + 2) 0 rfl rfl (there_of_block k4z (by simp)) ?_)
              intro wz hwz hrz hfz
              have r40 : wz.cell? ⟨N + 2, 0, none⟩ = some (Value.slice Au nu cu) := hrz 0 _ rfl
              have r41 : wz.cell? ⟨N + 2, 1, none⟩ = some (Value.slice Av nv cv) := hrz 1 _ rfl
              have hOz := (hT9.ou.kept hfz (fun k hk => by have := (hT9.ou.lt k hk).1; simp; omega)).base (base' := w.heap.size) (by have := hN.out; omega)
              have hPz := (hT9.ov.kept hfz (fun k hk => by have := (hT9.ov.lt k hk).1; simp; omega)).base (base' := w.heap.size) (by have := hN.out; omega)
              have hapz := hT9.ap
              have hfin : Fr [] w wz := (hf05.trans hT9.fr (fun z hz => by have := hN.out; simp at hz; right; omega)).trans hfz (fun z hz => by have := hN.out; simp at hz; right; omega)
              have hend2 := hend.out
              go_wp2_with fail
              (try simp only [Exit.inBlock, Exit.then])
              refine bodyPost_ret (results_cell1 rfl _ _ _ rfl (run_loadVar_mid wz (N + 2) 0 48 [(Value.slice Au nu cu), (Value.slice Av nv cv)] _ hrz Tryz.underlying48 rfl (zero_of_info infoMo).2)) rfl ?_
              rw [← hend2]
              refine ⟨_, _, rfl, ⟨?_, ?_, hapz⟩, hfin⟩
              · simpa [wEnd, stB_bs] using hOz
              · simpa [wEnd, stB_bs] using hPz
            · refine st_one (by kernel_rfl) ?_
              simp only [List.filterMap_cons, List.filterMap_nil, List.getElem?_toArray, List.getElem?_cons_succ, List.getElem?_cons_zero]
              go_wp2_with fail
              refine ⟨fun _ => ⟨hTe4_10_5.sm, hTe4_10_5.el⟩, ?_⟩
              refine orders_all [11] (by kernel_rfl) (by kernel_rfl) ?_
              intro i hi
              simp only [List.mem_cons, List.not_mem_nil, or_false] at hi
              subst hi
              refine st_one (by kernel_rfl) ?_
              simp only [List.filterMap_cons, List.filterMap_nil, List.getElem?_toArray, List.getElem?_cons_succ, List.getElem?_cons_zero]
              refine appStrAt w5.heap.size rfl _ _ rfl hTe4_10_5.ov x.b hL10e4_10_5.1 rfl rfl hTe4_10_5.fr.size (by simp only [List.length_map, List.length_append, List.length_singleton]; omega) ?_
              intro ve4_10_5_12_11 we4_10_5_12_11 hPe4_10_5_12_11 hfe4_10_5_12_11 hne4_10_5_12_11
              have hTe4_10_5_12_11 := hTe4_10_5.appV hEe hz5 hPe4_10_5_12_11 hfe4_10_5_12_11 hne4_10_5_12_11
              go_wp2_with fail
              refine ⟨fun _ => ⟨hTe4_10_5_12_11.sm, hTe4_10_5_12_11.el⟩, ?_⟩
              refine orders_seq [13, 14, 15] _ _ _ (by kernel_rfl) (by kernel_rfl) (by kernel_rfl) ?_
              simp only [List.filterMap_cons, List.filterMap_nil, List.getElem?_toArray, List.getElem?_cons_succ, List.getElem?_cons_zero]
              obtain ⟨Au, nu, cu, hue⟩ := OSs.slice hTe4_10_5_12_11.ou
              obtain ⟨Av, nv, cv, hve⟩ := OSs.slice hTe4_10_5_12_11.ov
              subst hue hve
              have hT9 := hTe4_10_5_12_11.done hz5 (fun _ _ _ _ => trivial)
              have b50 := hTe4_10_5_12_11.sm.c50
              have y50 := hTe4_10_5_12_11.sm.z50
              have b51 := (hTe4_10_5_12_11.sm.set0 (Value.slice Au nu cu)).c51
              have y51 := (hTe4_10_5_12_11.sm.set0 (Value.slice Au nu cu)).z51
              go_wp2_with (first | (with_reducible refine stop_ld2 48 rfl ?_) | (with_reducible refine stop_al2 48 rfl ?_) | (with_reducible refine stop_st2 48 rfl ?_))
              generalize (we4_10_5_12_11.setCell ⟨N + 2 + 1, 0, none⟩ (Value.slice Au nu cu)).setCell ⟨N + 2 + 1, 1, none⟩ (Value.slice Av nv cv) = w9 at *
              clear b50 y50 b51 y51 hTe4_10_5_12_11
              have r50z : w9.rangeAt (N + 2 + 1) 0 [(Value.slice Au nu cu), (Value.slice Av nv cv)] := range_of_two hT9.sm.1
              have k4z := (hT9.fr.block (N + 2) (by omega) (by simp)).trans k4
              have hz4 := hT9.fr.size
              refine Stop.go (ld_arr 48 [(Value.slice Au nu cu), (Value.slice Av nv cv)] _ Tryz.underlying48 rfl (zero_of_info infoMo).2 rfl rfl (N + 2 + 1) 0 rfl r50z ?_)
              go_wp2_with (first | (with_reducible refine stop_ld2 48 rfl ?_) | (with_reducible refine stop_al2 48 rfl ?_) | (with_reducible refine stop_st2 48 rfl ?_))
              refine Stop.go (st_arr 48 [(Value.slice Au nu cu), (Value.slice Av nv cv)] (zero_of_info infoMo).2 (by intro z hz; simp at hz; rcases hz with rfl | rfl <;> rfl) rfl rfl (N + 2) 0 rfl rfl (there_of_block k4z (by simp)) ?_)
              intro wz hwz hrz hfz
              have r40 : wz.cell? ⟨N + 2, 0, none⟩ = some (Value.slice Au nu cu) := hrz 0 _ rfl
              have r41 : wz.cell? ⟨N + 2, 1, none⟩ = some (Value.slice Av nv cv) := hrz 1 _ rfl
              have hOz := (hT9.ou.kept hfz (fun k hk => by have := (hT9.ou.lt k hk).1; simp; omega)).base (base' := w.heap.size) (by have := hN.out; omega)
              have hPz := (hT9.ov.kept hfz (fun k hk => by have := (hT9.ov.lt k hk).1; simp; omega)).base (base' := w.heap.size) (by have := hN.out; omega)
              have hapz := hT9.ap
              have hfin : Fr [] w wz := (hf05.trans hT9.fr (fun z hz => by have := hN.out; simp at hz; right; omega)).trans hfz (fun z hz => by have := hN.out; simp at hz; right; omega)
              have hend2 := hend.out
              go_wp2_with fail
              (try simp only [Exit.inBlock, Exit.then])
              refine bodyPost_ret (results_cell1 rfl _ _ _ rfl (run_loadVar_mid wz (N + 2) 0 48 [(Value.slice Au nu cu), (Value.slice Av nv cv)] _ hrz Tryz.underlying48 rfl (zero_of_info infoMo).2)) rfl ?_
              rw [← hend2]
              refine ⟨_, _, rfl, ⟨?_, ?_, hapz⟩, hfin⟩
              · simpa [wEnd, stB_bs] using hOz
              · simpa [wEnd, stB_bs] using hPz
        · refine st_one (by kernel_rfl) ?_
          simp only [List.filterMap_cons, List.filterMap_nil, List.getElem?_toArray, List.getElem?_cons_succ, List.getElem?_cons_zero]
          go_wp2_with fail
          have hLe10 := Lt.new hTde x.b
          have hTe10 := hTde.frs hEe hz5 ((Fr.refl [] wde).alloc (.cells #[.string x.b] 9))
          obtain ⟨be10, hbe10⟩ : ∃ b, b = wde.heap.size := ⟨_, rfl⟩
          rw [← hbe10] at hLe10 ⊢
          clear hbe10
          generalize wde.alloc (.cells #[.string x.b] 9) = we10 at *
          refine ⟨fun _ => ⟨hTe10.sm, hTe10.el⟩, ?_⟩
          refine orders_all [4] (by kernel_rfl) (by kernel_rfl) ?_
          intro i hi
          simp only [List.mem_cons, List.not_mem_nil, or_false] at hi
          subst hi
          refine st_one (by kernel_rfl) ?_
          simp only [List.filterMap_cons, List.filterMap_nil, List.getElem?_toArray, List.getElem?_cons_succ, List.getElem?_cons_zero]
          go_wp2_with fail
          have hLe10_4 := Lt.new hTe10 x.key
          have hTe10_4 := hTe10.frs hEe hz5 ((Fr.refl [] we10).alloc (.cells #[.string x.key] 9))
          have hL10e10_4 := hLe10.frs ((Fr.refl [] we10).alloc (.cells #[.string x.key] 9))
          obtain ⟨be10_4, hbe10_4⟩ : ∃ b, b = we10.heap.size := ⟨_, rfl⟩
          rw [← hbe10_4] at hLe10_4 ⊢
          clear hbe10_4
          generalize we10.alloc (.cells #[.string x.key] 9) = we10_4 at *
          refine ⟨fun _ => ⟨hTe10_4.sm, hTe10_4.el⟩, ?_⟩
          refine orders_all [5] (by kernel_rfl) (by kernel_rfl) ?_
          intro i hi
          simp only [List.mem_cons, List.not_mem_nil, or_false] at hi
          subst hi
          refine st_one (by kernel_rfl) ?_
          simp only [List.filterMap_cons, List.filterMap_nil, List.getElem?_toArray, List.getElem?_cons_succ, List.getElem?_cons_zero]
          refine appStrAt w5.heap.size rfl _ _ rfl hTe10_4.ou x.key hLe10_4.1 rfl rfl hTe10_4.fr.size (by simp only [List.length_map, List.length_append, List.length_singleton]; omega) ?_
          intro ue10_4_5 we10_4_5 hOe10_4_5 hfe10_4_5 hne10_4_5
          have hTe10_4_5 := hTe10_4.appU hEe hz5 hOe10_4_5 hfe10_4_5 hne10_4_5
          have hL10e10_4_5 := hL10e10_4.appU hfe10_4_5 hne10_4_5
          go_wp2_with fail
          refine ⟨fun _ => ⟨hTe10_4_5.sm, hTe10_4_5.el⟩, ?_⟩
          refine orders_all [11, 12] (by kernel_rfl) (by kernel_rfl) ?_
          intro i hi
          simp only [List.mem_cons, List.not_mem_nil, or_false] at hi
          rcases hi with rfl | rfl
          · refine st_one (by kernel_rfl) ?_
            simp only [List.filterMap_cons, List.filterMap_nil, List.getElem?_toArray, List.getElem?_cons_succ, List.getElem?_cons_zero]
            refine appStrAt w5.heap.size rfl _ _ rfl hTe10_4_5.ov x.b hL10e10_4_5.1 rfl rfl hTe10_4_5.fr.size (by simp only [List.length_map, List.length_append, List.length_singleton]; omega) ?_
            intro ve10_4_5_11 we10_4_5_11 hPe10_4_5_11 hfe10_4_5_11 hne10_4_5_11
            have hTe10_4_5_11 := hTe10_4_5.appV hEe hz5 hPe10_4_5_11 hfe10_4_5_11 hne10_4_5_11
            go_wp2_with fail
            refine ⟨fun _ => ⟨hTe10_4_5_11.sm, hTe10_4_5_11.el⟩, ?_⟩
            refine orders_all [12] (by kernel_rfl) (by kernel_rfl) ?_
            intro i hi
            simp only [List.mem_cons, List.not_mem_nil, or_false] at hi
            subst hi
            refine st_one (by kernel_rfl) ?_
            simp only [List.filterMap_cons, List.filterMap_nil, List.getElem?_toArray, List.getElem?_cons_succ, List.getElem?_cons_zero]
            go_wp2_with fail
            refine ⟨fun _ => ⟨hTe10_4_5_11.sm, hTe10_4_5_11.el⟩, ?_⟩
            refine orders_seq [13, 14, 15] _ _ _ (by kernel_rfl) (by kernel_rfl) (by kernel_rfl) ?_
            simp only [List.filterMap_cons, List.filterMap_nil, List.getElem?_toArray, List.getElem?_cons_succ, List.getElem?_cons_zero]
            obtain ⟨Au, nu, cu, hue⟩ := OSs.slice hTe10_4_5_11.ou
            obtain ⟨Av, nv, cv, hve⟩ := OSs.slice hTe10_4_5_11.ov
            subst hue hve
            have hT9 := hTe10_4_5_11.done hz5 (fun _ _ _ _ => trivial)
            have b50 := hTe10_4_5_11.sm.c50
            have y50 := hTe10_4_5_11.sm.z50
            have b51 := (hTe10_4_5_11.sm.set0 (Value.slice Au nu cu)).c51
            have y51 := (hTe10_4_5_11.sm.set0 (Value.slice Au nu cu)).z51
            go_wp2_with (first | (with_reducible refine stop_ld2 48 rfl ?_) | (with_reducible refine stop_al2 48 rfl ?_) | (with_reducible refine stop_st2 48 rfl ?_))
            generalize (we10_4_5_11.setCell ⟨N + 2 + 1, 0, none⟩ (Value.slice Au nu cu)).setCell ⟨N + 2 + 1, 1, none⟩ (Value.slice Av nv cv) = w9 at *
            clear b50 y50 b51 y51 hTe10_4_5_11
            have r50z : w9.rangeAt (N + 2 + 1) 0 [(Value.slice Au nu cu), (Value.slice Av nv cv)] := range_of_two hT9.sm.1
            have k4z := (hT9.fr.block (N + 2) (by omega) (by simp)).trans k4
            have hz4 := hT9.fr.size
            refine Stop.go (ld_arr 48 [(Value.slice Au nu cu), (Value.slice Av nv cv)] _ Tryz.underlying48 rfl (zero_of_info infoMo).2 rfl rfl (N + 2 + 1) 0 rfl r50z ?_)
            go_wp2_with (first | (with_reducible refine stop_ld2 48 rfl ?_) | (with_reducible refine stop_al2 48 rfl ?_) | (with_reducible refine stop_st2 48 rfl ?_))
            refine Stop.go (st_arr 48 [(Value.slice Au nu cu), (Value.slice Av nv cv)] (zero_of_info infoMo).2 (by intro z hz; simp at hz; rcases hz with rfl | rfl <;> rfl) rfl rfl (N + 2) 0 rfl rfl (there_of_block k4z (by simp)) ?_)
            intro wz hwz hrz hfz
            have r40 : wz.cell? ⟨N + 2, 0, none⟩ = some (Value.slice Au nu cu) := hrz 0 _ rfl
            have r41 : wz.cell? ⟨N + 2, 1, none⟩ = some (Value.slice Av nv cv) := hrz 1 _ rfl
            have hOz := (hT9.ou.kept hfz (fun k hk => by have := (hT9.ou.lt k hk).1; simp; omega)).base (base' := w.heap.size) (by have := hN.out; omega)
            have hPz := (hT9.ov.kept hfz (fun k hk => by have := (hT9.ov.lt k hk).1; simp; omega)).base (base' := w.heap.size) (by have := hN.out; omega)
            have hapz := hT9.ap
            have hfin : Fr [] w wz := (hf05.trans hT9.fr (fun z hz => by have := hN.out; simp at hz; right; omega)).trans hfz (fun z hz => by have := hN.out; simp at hz; right; omega)
            have hend2 := hend.out
            go_wp2_with fail
            (try simp only [Exit.inBlock, Exit.then])
            refine bodyPost_ret (results_cell1 rfl _ _ _ rfl (run_loadVar_mid wz (N + 2) 0 48 [(Value.slice Au nu cu), (Value.slice Av nv cv)] _ hrz Tryz.underlying48 rfl (zero_of_info infoMo).2)) rfl ?_
            rw [← hend2]
            refine ⟨_, _, rfl, ⟨?_, ?_, hapz⟩, hfin⟩
            · simpa [wEnd, stB_bs] using hOz
            · simpa [wEnd, stB_bs] using hPz
          · refine st_one (by kernel_rfl) ?_
            simp only [List.filterMap_cons, List.filterMap_nil, List.getElem?_toArray, List.getElem?_cons_succ, List.getElem?_cons_zero]
            go_wp2_with fail
            refine ⟨fun _ => ⟨hTe10_4_5.sm, hTe10_4_5.el⟩, ?_⟩
            refine orders_all [11] (by kernel_rfl) (by kernel_rfl) ?_
            intro i hi
            simp only [List.mem_cons, List.not_mem_nil, or_false] at hi
            subst hi
            refine st_one (by kernel_rfl) ?_
            simp only [List.filterMap_cons, List.filterMap_nil, List.getElem?_toArray, List.getElem?_cons_succ, List.getElem?_cons_zero]
            refine appStrAt w5.heap.size rfl _ _ rfl hTe10_4_5.ov x.b hL10e10_4_5.1 rfl rfl hTe10_4_5.fr.size (by simp only [List.length_map, List.length_append, List.length_singleton]; omega) ?_
            intro ve10_4_5_12_11 we10_4_5_12_11 hPe10_4_5_12_11 hfe10_4_5_12_11 hne10_4_5_12_11
            have hTe10_4_5_12_11 := hTe10_4_5.appV hEe hz5 hPe10_4_5_12_11 hfe10_4_5_12_11 hne10_4_5_12_11
            go_wp2_with fail
            refine ⟨fun _ => ⟨hTe10_4_5_12_11.sm, hTe10_4_5_12_11.el⟩, ?_⟩
            refine orders_seq [13, 14, 15] _ _ _ (by kernel_rfl) (by kernel_rfl) (by kernel_rfl) ?_
            simp only [List.filterMap_cons, List.filterMap_nil, List.getElem?_toArray, List.getElem?_cons_succ, List.getElem?_cons_zero]
            obtain ⟨Au, nu, cu, hue⟩ := OSs.slice hTe10_4_5_12_11.ou
            obtain ⟨Av, nv, cv, hve⟩ := OSs.slice hTe10_4_5_12_11.ov
            subst hue hve
            have hT9 := hTe10_4_5_12_11.done hz5 (fun _ _ _ _ => trivial)
            have b50 := hTe10_4_5_12_11.sm.c50
            have y50 := hTe10_4_5_12_11.sm.z50
            have b51 := (hTe10_4_5_12_11.sm.set0 (Value.slice Au nu cu)).c51
            have y51 := (hTe10_4_5_12_11.sm.set0 (Value.slice Au nu cu)).z51
            go_wp2_with (first | (with_reducible refine stop_ld2 48 rfl ?_) | (with_reducible refine stop_al2 48 rfl ?_) | (with_reducible refine stop_st2 48 rfl ?_))
            generalize (we10_4_5_12_11.setCell ⟨N + 2 + 1, 0, none⟩ (Value.slice Au nu cu)).setCell ⟨N + 2 + 1, 1, none⟩ (Value.slice Av nv cv) = w9 at *
            clear b50 y50 b51 y51 hTe10_4_5_12_11
            have r50z : w9.rangeAt (N + 2 + 1) 0 [(Value.slice Au nu cu), (Value.slice Av nv cv)] := range_of_two hT9.sm.1
            have k4z := (hT9.fr.block (N + 2) (by omega) (by simp)).trans k4
            have hz4 := hT9.fr.size
            refine Stop.go (ld_arr 48 [(Value.slice Au nu cu), (Value.slice Av nv cv)] _ Tryz.underlying48 rfl (zero_of_info infoMo).2 rfl rfl (N + 2 + 1) 0 rfl r50z ?_)
            go_wp2_with (first | (with_reducible refine stop_ld2 48 rfl ?_) | (with_reducible refine stop_al2 48 rfl ?_) | (with_reducible refine stop_st2 48 rfl ?_))
            refine Stop.go (st_arr 48 [(Value.slice Au nu cu), (Value.slice Av nv cv)] (zero_of_info infoMo).2 (by intro z hz; simp at hz; rcases hz with rfl | rfl <;> rfl) rfl rfl (N + 2) 0 rfl rfl (there_of_block k4z (by simp)) ?_)
            intro wz hwz hrz hfz
            have r40 : wz.cell? ⟨N + 2, 0, none⟩ = some (Value.slice Au nu cu) := hrz 0 _ rfl
            have r41 : wz.cell? ⟨N + 2, 1, none⟩ = some (Value.slice Av nv cv) := hrz 1 _ rfl
            have hOz := (hT9.ou.kept hfz (fun k hk => by have := (hT9.ou.lt k hk).1; simp; omega)).base (base' := w.heap.size) (by have := hN.out; omega)
            have hPz := (hT9.ov.kept hfz (fun k hk => by have := (hT9.ov.lt k hk).1; simp; omega)).base (base' := w.heap.size) (by have := hN.out; omega)
            have hapz := hT9.ap
            have hfin : Fr [] w wz := (hf05.trans hT9.fr (fun z hz => by have := hN.out; simp at hz; right; omega)).trans hfz (fun z hz => by have := hN.out; simp at hz; right; omega)
            have hend2 := hend.out
            go_wp2_with fail
            (try simp only [Exit.inBlock, Exit.then])
            refine bodyPost_ret (results_cell1 rfl _ _ _ rfl (run_loadVar_mid wz (N + 2) 0 48 [(Value.slice Au nu cu), (Value.slice Av nv cv)] _ hrz Tryz.underlying48 rfl (zero_of_info infoMo).2)) rfl ?_
            rw [← hend2]
            refine ⟨_, _, rfl, ⟨?_, ?_, hapz⟩, hfin⟩
            · simpa [wEnd, stB_bs] using hOz
            · simpa [wEnd, stB_bs] using hPz
end Go.Proofs.YtiialjncdhhceaaGreat
