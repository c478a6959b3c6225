/- Words for bytes in memory: what a slice of bytes reads as; rows of bytes of the call's own; what a call leaves as it was. No program in sight. -/
import Derived.WalkKit
import Derived.KernelRfl
import Derived.Maps.AppendAt
import Derived.Deep.AppendLies
import Derived.Laws.BytesArg
import Derived.WalkLawsBesides
import Derived.WalkSpells
import Derived.Lib.AppendStr
namespace Go.Proofs.YtiialjncdhhceaaGreat
open Go.RowKit
set_option linter.unusedVariables false

theorem hid {p : Prop} (h : p) : Hid p := h

/-! ### what a call leaves as it was: all blocks but those of S -/
structure Fr (S : List Nat) (w w' : World) : Prop where
  os : w'.os = w.os
  tape : w'.tape = w.tape
  output : w'.output = w.output
  size : w.heap.size ≤ w'.heap.size
  block : ∀ k, k < w.heap.size → k ∉ S → w'.heap[k]? = w.heap[k]?

theorem Fr.refl (S : List Nat) (w : World) : Fr S w w := ⟨rfl, rfl, rfl, Nat.le_refl _, fun _ _ _ => rfl⟩
theorem Fr.trans {S S' : List Nat} {a b c : World} (h : Fr S a b) (k : Fr S' b c) (hs : ∀ x ∈ S', x ∈ S ∨ a.heap.size ≤ x) : Fr S a c :=
  ⟨k.os.trans h.os, k.tape.trans h.tape, k.output.trans h.output, Nat.le_trans h.size k.size, fun i hi hn =>
    (k.block i (Nat.lt_of_lt_of_le hi h.size) (fun hx => by rcases hs i hx with h1 | h1; exact hn h1; omega)).trans (h.block i hi hn)⟩
theorem Fr.mono {S S' : List Nat} {a b : World} (h : Fr S a b) (hs : ∀ x ∈ S, x ∈ S' ∨ a.heap.size ≤ x) : Fr S' a b :=
  ⟨h.os, h.tape, h.output, h.size, fun i hi hn => h.block i hi (fun hx => by rcases hs i hx with h1 | h1; exact hn h1; omega)⟩
theorem Fr.then {S : List Nat} {a b c : World} (h : Fr S a b) (k : Fr [] b c) : Fr S a c := h.trans k (by simp)
theorem Fr.alloc {S : List Nat} {a b : World} (h : Fr S a b) (o : Obj) : Fr S a (b.alloc o) :=
  h.trans (S' := []) ⟨rfl, rfl, rfl, by simp, fun i hi _ => Below.heap_alloc _ _ _ hi⟩ (by simp)
theorem Fr.drew {S : List Nat} {a b : World} (h : Fr S a b) : Fr S a b.drew := ⟨h.os, h.tape, h.output, h.size, h.block⟩
theorem Fr.drewN {S : List Nat} {a b : World} (h : Fr S a b) (n : Nat) : Fr S a (b.drewN n) := ⟨h.os, h.tape, h.output, h.size, h.block⟩
theorem Fr.setCell {S : List Nat} {a b : World} (h : Fr S a b) (p : Addr) (hp : p.block ∈ S ∨ a.heap.size ≤ p.block) (u : Value) : Fr S a (b.setCell p u) :=
  h.trans (S' := [p.block]) ⟨rfl, rfl, rfl, by simp [World.setCell], fun i hi hn => Below.heap_setCell _ _ _ _ (by intro e; exact hn (by simp [e]))⟩ (by simpa using hp)
theorem Fr.grown {S : List Nat} {a b c : World} (h : Fr S a b) {row : Option Nat} (hg : b.grownBy c row) (hr : ∀ k, row = some k → k ∈ S ∨ a.heap.size ≤ k) : Fr S a c :=
  h.trans (S' := row.toList) ⟨hg.os, hg.tape, hg.output, hg.size, fun i hi hn => hg.block i hi (fun e => hn (by simp [← e]))⟩ (by intro x hx; exact hr x (by simpa using hx))
theorem Fr.below {S : List Nat} {a b : World} (h : Fr S a b) {B : Nat} (hB : B ≤ a.heap.size) (hs : ∀ x ∈ S, B ≤ x) : Below B a b :=
  ⟨h.os, h.tape, h.output, h.size, fun k hk => h.block k (by omega) (fun hx => by have := hs k hx; omega)⟩
theorem Fr.all {a b : World} (h : Fr [] a b) : Below a.heap.size a b := h.below (Nat.le_refl _) (by simp)
theorem fr_of_below {a b : World} (h : Below a.heap.size a b) : Fr [] a b := ⟨h.os, h.tape, h.output, h.size, fun k hk _ => h.block k hk⟩
theorem Fr.cell {S : List Nat} {a b : World} (h : Fr S a b) {p : Addr} {v : Value} (hc : a.cell? p = some v) (hn : p.block ∉ S) : b.cell? p = some v :=
  (World.cell?_of_block (h.block p.block (World.block_lt_of_cell? a p hc) hn)).trans hc
theorem Fr.grownBy {S : List Nat} {a b : World} (h : Fr S a b) (row : Option Nat) (hs : ∀ x ∈ S, row = some x ∨ a.heap.size ≤ x) : a.grownBy b row :=
  ⟨h.os, h.tape, h.output, h.size, fun k hk hne => h.block k hk (fun hx => by rcases hs k hx with h1 | h1; exact hne h1.symm; omega)⟩

/-! ### bytes that are read -/
/-- A slice of n bytes reads as l. -/
def RB (w : World) (A : Option Addr) (n : Nat) (l : List UInt8) : Prop :=
  l.length = n ∧ n ≤ 9223372036854775807 ∧ (n = 0 ∨ ∃ b off, A = some ⟨b, off, none⟩ ∧ ∀ j (h : j < l.length), w.cell? ⟨b, off + j, none⟩ = some (.int .u8 (l[j].toNat : Int)))

def encB (b : UInt8) : Value := .int .u8 (b.toNat : Int)

theorem RB.kept {w w' : World} {A : Option Addr} {n : Nat} {l : List UInt8} (h : RB w A n l) {S : List Nat} (hf : Fr S w w') (hn : ∀ a, A = some a → a.block ∉ S) : RB w' A n l := by
  obtain ⟨h1, h2, h3⟩ := h
  refine ⟨h1, h2, ?_⟩
  rcases h3 with h3 | ⟨b, off, rfl, hc⟩
  · exact .inl h3
  · exact .inr ⟨b, off, rfl, fun j hj => hf.cell (hc j hj) (hn ⟨b, off, none⟩ rfl)⟩
theorem RB.below {w w' : World} {A : Option Addr} {n : Nat} {l : List UInt8} (h : RB w A n l) (hb : Below w.heap.size w w') : RB w' A n l := h.kept (fr_of_below hb) (by simp)
theorem RB.nil (w : World) (A : Option Addr) : RB w A 0 [] := ⟨rfl, by omega, .inl rfl⟩

/-! ### rows of bytes of the call's own -/
def OB (w : World) (base E : Nat) (v : Value) (l : List UInt8) : Prop := w.ownsRow base E 1 v l.length (l.map encB)
/-- Where a row lies behind a call that wrote row v: where v lay, or in new memory. -/
def Nw (w : World) (v v' : Value) : Prop := ∀ k, v'.ownBlock = some k → v.ownBlock = some k ∨ w.heap.size ≤ k
theorem Nw.refl (w : World) (v : Value) : Nw w v v := fun _ h => .inl h
theorem Nw.trans {w w1 : World} {v v1 v2 : Value} (h : Nw w v v1) (hs : w.heap.size ≤ w1.heap.size) (k : Nw w1 v1 v2) : Nw w v v2 := by
  intro j hj
  rcases k j hj with h1 | h1
  · exact h j h1
  · exact .inr (by omega)
theorem OB.nil (w : World) (base E : Nat) : OB w base E (.slice none 0 0) [] := by unfold OB; exact World.ownsRow_nil _ _ _ _
theorem OB.kept {w w' : World} {base E : Nat} {v : Value} {l : List UInt8} (h : OB w base E v l) {S : List Nat} (hf : Fr S w w') (hn : ∀ k, v.ownBlock = some k → k ∉ S) : OB w' base E v l := by
  refine ⟨h.1, ?_⟩
  rcases h.2 with h1 | ⟨g, cap, cur, rfl, hb, hg, rest⟩
  · exact .inl h1
  · exact .inr ⟨g, cap, cur, rfl, hb, (hf.block g (Array.getElem?_eq_some_iff.1 hg).1 (hn g rfl)).trans hg, rest⟩
theorem OB.lt {w : World} {base E : Nat} {v : Value} {l : List UInt8} (h : OB w base E v l) : ∀ k, v.ownBlock = some k → base ≤ k ∧ k < w.heap.size := World.ownsRow.lt h
theorem OB.form {w : World} {base E : Nat} {v : Value} {l : List UInt8} (h : OB w base E v l) : ∃ A c, v = .slice A l.length c ∧ l.length ≤ c ∧ RB w A l.length l ∧ (∀ a, A = some a → v.ownBlock = some a.block ∧ a.off = 0 ∧ a.spot = none) := by
  rcases h.2 with ⟨rfl, h0⟩ | ⟨g, cap, cur, rfl, hb, hg, hnc, hcm, hcs, htake⟩
  · have hl : l = [] := List.eq_nil_of_length_eq_zero h0
    subst hl
    exact ⟨none, 0, rfl, Nat.le_refl _, RB.nil _ _, by simp⟩
  · refine ⟨some ⟨g, 0, none⟩, cap, rfl, hnc, ⟨rfl, by simp only [maxLen] at hcm; omega, ?_⟩, by intro a ha; cases ha; exact ⟨rfl, rfl, rfl⟩⟩
    rcases Nat.eq_zero_or_pos l.length with h0 | h0
    · exact .inl h0
    · refine .inr ⟨g, 0, rfl, fun j hj => ?_⟩
      rw [Nat.zero_add, World.ownsRow.cellAt (by simpa [OB] using h) j (by omega)]
      simp [hj, encB]
theorem OB.pos {w : World} {base E : Nat} {v : Value} {l : List UInt8} (h : OB w base E v l) (hl : 0 < l.length) : ∃ g cap, v = .slice (some ⟨g, 0, none⟩) l.length cap ∧ l.length ≤ cap ∧ base ≤ g ∧ g < w.heap.size ∧ (∀ j (h : j < l.length), w.cell? ⟨g, j, none⟩ = some (.int .u8 (l[j].toNat : Int))) ∧ (∀ j, w.frozen? ⟨g, j, none⟩ = false) := by
  rcases h.2 with ⟨rfl, h0⟩ | ⟨g, cap, cur, rfl, hb, hg, hnc, hcm, hcs, htake⟩
  · omega
  · refine ⟨g, cap, rfl, hnc, hb, (Array.getElem?_eq_some_iff.1 hg).1, fun j hj => ?_, fun j => World.ownsRow.frozenAt (by simpa [OB] using h) j⟩
    rw [World.ownsRow.cellAt (by simpa [OB] using h) j (by omega)]
    simp [hj, encB]
theorem OB.len {w : World} {base E : Nat} {v : Value} {l : List UInt8} (h : OB w base E v l) : l.length ≤ 9223372036854775807 := by
  obtain ⟨A, c, _, _, hr, _⟩ := h.form
  exact hr.2.1

section
variable {P : Program} {ops : Array Oper} {rest : List Oper} {o : Oper} {a : Act} {Q : Exit → Act → World → Prop}

/-- append(v, y): one byte. -/
theorem app1 {W : World} (base : Nat) (hgd : o.guard = none) (s x : Operand) (t e : TypeId)
    (ho : o.op = .call { callee := .builtin .append, args := #[s, x], argTypes := #[t, t] })
    (ht : P.underlying t = some (.slice e)) (hinfo : (P.info? e).map (fun i => (i.zero, i.size, i.bytes)) = some (some (.int .u8 0), 1, 1))
    {v : Value} {l : List UInt8} (HO : OB W base e v l) (y : UInt8) {q : Int} (hq : q = (y.toNat : Int)) (hs : a.eval s = v) (hx : a.eval x = .slice (some ⟨W.heap.size, 0, none⟩) 1 1)
    (hbase : base ≤ W.heap.size) (hl : l.length + 1 ≤ 140737488355328)
    (h : ∀ v1 w1, OB w1 base e v1 (l ++ [y]) → Fr v.ownBlock.toList W w1 → Nw W v v1 → wpList P ops Q rest (a.put o.dst v1) w1) :
    wpList P ops Q (o :: rest) a (W.alloc (.cells #[.int .u8 q] e)) := by
  subst hq
  obtain ⟨i0, hi, hz0, hz1, hz2⟩ := info_parts hinfo
  refine wpList_append_own_at (W.alloc (.cells #[.int .u8 (y.toNat : Int)] e)) hgd s x t ho base e i0 (.int .u8 0) 1 1 ht hi hz0 hz1 hz2 rfl (by omega) v l.length (l.map encB) hs (World.ownsRow.alloc HO _) ⟨W.heap.size, 0, none⟩ 1 1 [encB y] hx rfl
    (World.news_of_block (cs := #[encB y]) (t := e) (fr := (0, 0)) (heap_alloc_new W _)) (by simp [encB, Value.oneCell']) (by simp only [maxLen]; omega) (by omega) (by simp; omega) ?_
  intro v1 w1 hown hg _ hat
  refine h v1 w1 ?_ (((Fr.refl _ _).alloc _).grown hg (by intro k hk; simp [hk])) ?_
  · unfold OB
    simpa using hown
  · intro k hk
    rcases hat with hat | hat
    · exact .inl (hat ▸ hk)
    · rw [hat] at hk
      simp at hk
      exact .inr (by omega)

/-- append(v, ys...): ys bytes that are read, nil let in. -/
theorem appN {W : World} (base : Nat) (hgd : o.guard = none) (s x : Operand) (t e : TypeId)
    (ho : o.op = .call { callee := .builtin .append, args := #[s, x], argTypes := #[t, t] })
    (ht : P.underlying t = some (.slice e)) (hinfo : (P.info? e).map (fun i => (i.zero, i.size, i.bytes)) = some (some (.int .u8 0), 1, 1))
    {v : Value} {l ys : List UInt8} {A : Option Addr} {m c : Nat} (HO : OB W base e v l) (HR : RB W A m ys) (hs : a.eval s = v) (hx : a.eval x = .slice A m c)
    (hbase : base ≤ W.heap.size) (hl : l.length + m ≤ 140737488355328)
    (h : ∀ v1 w1, OB w1 base e v1 (l ++ ys) → Fr v.ownBlock.toList W w1 → Nw W v v1 → wpList P ops Q rest (a.put o.dst v1) w1) :
    wpList P ops Q (o :: rest) a W := by
  obtain ⟨i0, hi, hz0, hz1, hz2⟩ := info_parts hinfo
  obtain ⟨hm, hm2, hr⟩ := HR
  have done : ∀ v1 w1, w1.ownsRow base e 1 v1 (l.length + m) (l.map encB ++ ys.map encB) → W.grownBy w1 v.ownBlock → (v1.ownBlock = v.ownBlock ∨ v1.ownBlock = some W.heap.size) → wpList P ops Q rest (a.put o.dst v1) w1 := by
    intro v1 w1 hown hg hat
    refine h v1 w1 ?_ ((Fr.refl _ _).grown hg (by intro k hk; simp [hk])) ?_
    · unfold OB
      simpa [hm] using hown
    · intro k hk
      rcases hat with hat | hat
      · exact .inl (hat ▸ hk)
      · rw [hat] at hk
        simp at hk
        exact .inr (by omega)
  rcases hr with h0 | ⟨b, off, rfl, hc⟩
  · subst h0
    have hy : ys = [] := List.eq_nil_of_length_eq_zero hm
    subst hy
    refine wpList_plain hgd fun K hK => ?_
    have hrun : (Builtin.append_ #[t, t] o.type #[v, .slice A 0 c]).run P W = .ok v W := by
      rcases HO.2 with ⟨rfl, hn⟩ | ⟨g, cap, cur, rfl, _, _, hnc, _⟩
      · cases A <;> simp [Builtin.append_, run_underlying ht, sizeOf, typeInfo, hi, Builtin.lenOf, Builtin.firstCells, loadCells, loadCellsFrom]
      · cases A <;> simp [Builtin.append_, run_underlying ht, sizeOf, typeInfo, hi, Builtin.lenOf, Builtin.firstCells, loadCells, loadCellsFrom, hnc, storeCells, Addr.add]
    unfold Oper.wp execOp
    simp only [ho, resolve, invoke, builtin, Sem.run_bind, Sem.run_pure, Result.andThen_ok, List.map_toArray, List.map_cons, List.map_nil, hs, hx, hrun]
    exact hK _ _ (done v W (by simpa [OB] using HO) (World.grownBy.refl _ _) (.inl rfl))
  · refine wpList_append_own_at W hgd s x t ho base e i0 (.int .u8 0) 1 1 ht hi hz0 hz1 hz2 rfl (by omega) v l.length (l.map encB) hs HO ⟨b, off, none⟩ m c (ys.map encB) hx (by simp [hm])
      ?_ ?_ (by simp only [maxLen]; omega) (by omega) hbase ?_
    · intro j u hu
      have hj : j < ys.length := by
        have := (List.getElem?_eq_some_iff.1 hu).1
        simpa using this
      have e1 : (⟨b, off, none⟩ : Addr).add j = ⟨b, off + j, none⟩ := by
        unfold Addr.add
        split
        · rename_i h0; subst h0; rfl
        · rfl
      rw [e1, hc j hj]
      simpa [List.getElem?_eq_getElem hj, encB] using hu
    · intro u hu
      obtain ⟨z, _, rfl⟩ := List.mem_map.1 hu
      simp [encB, Value.oneCell']
    · intro v1 w1 hown hg _ hat
      exact done v1 w1 hown hg hat
end

/-- The bytes of a string. -/
def bs (s : ByteArray) : List UInt8 := s.data.toList
theorem bs_length (s : ByteArray) : (bs s).length = s.size := by
  unfold bs
  rw [Array.length_toList]
  rfl
theorem strCells_eq (s : ByteArray) : Lib.strCells s = (bs s).map encB := rfl

section
variable {P : Program} {ops : Array Oper} {rest : List Oper} {o : Oper} {a : Act} {Q : Exit → Act → World → Prop}

/-- append(v, s...): a string's bytes. -/
theorem appS {W : World} (base : Nat) (hgd : o.guard = none) (sl x : Operand) (t u e : TypeId)
    (ho : o.op = .call { callee := .builtin .append, args := #[sl, x], argTypes := #[t, u] })
    (ht : P.underlying t = some (.slice e)) (hu : P.underlying u = some .string) (hinfo : (P.info? e).map (fun i => (i.zero, i.size, i.bytes)) = some (some (.int .u8 0), 1, 1))
    {v : Value} {l : List UInt8} {y : ByteArray} (HO : OB W base e v l) (hs : a.eval sl = v) (hx : a.eval x = .string y)
    (hbase : base ≤ W.heap.size) (hl : l.length + y.size ≤ 140737488355328)
    (h : ∀ v1 w1, OB w1 base e v1 (l ++ bs y) → Fr v.ownBlock.toList W w1 → Nw W v v1 → wpList P ops Q rest (a.put o.dst v1) w1) :
    wpList P ops Q (o :: rest) a W := by
  obtain ⟨i, hi, hz, hsize, hby⟩ := info_parts hinfo
  have done : ∀ v1 w1, w1.ownsRow base e 1 v1 (l.length + y.size) (l.map encB ++ Lib.strCells y) → W.grownBy w1 v.ownBlock → (v1.ownBlock = v.ownBlock ∨ v1.ownBlock = some W.heap.size) → wpList P ops Q rest (a.put o.dst v1) w1 := by
    intro v1 w1 hown hg hat
    refine h v1 w1 ?_ ((Fr.refl _ _).grown hg (by intro k hk; simp [hk])) ?_
    · unfold OB
      rw [List.length_append, bs_length, List.map_append, ← strCells_eq]
      exact hown
    · intro k hk
      rcases hat with hat | hat
      · exact .inl (hat ▸ hk)
      · rw [hat] at hk
        simp at hk
        exact .inr (by omega)
  have go : ∀ v1 w1, (Builtin.append_ #[t, u] o.type #[v, .string y]).run P W = .ok v1 w1 → wpList P ops Q rest (a.put o.dst v1) w1 → wpList P ops Q (o :: rest) a W := by
    intro v1 w1 hr hd
    refine wpList_plain hgd fun K hK => ?_
    unfold Oper.wp execOp
    simp only [ho, resolve, invoke, builtin, Sem.run_bind, Sem.run_pure, Result.andThen_ok, List.map_toArray, List.map_cons, List.map_nil, hs, hx, hr]
    exact hK _ _ hd
  have hH := HO
  have hxl : (l.map encB).length = l.length := by simp
  have h63 : l.length + y.size ≤ maxLen := by simp only [maxLen]; omega
  have hlen : (l.map encB ++ Lib.strCells y).length = (l.length + y.size) * 1 := by rw [List.length_append, hxl, Lib.strCells_length, Nat.mul_one]
  have grown : ∀ (old : Nat), ∀ (row : Option Nat),
      (W.drew.alloc (.cells ((l.map encB).toArray ++ (Lib.strCells y).toArray ++ Builtin.zeroCells (Value.int .u8 0).cells (grownCap W (l.length + y.size) old e - (l.length + y.size))) e)).ownsRow base e 1
        (.slice (some ⟨W.heap.size, 0, none⟩) (l.length + y.size) (grownCap W (l.length + y.size) old e)) (l.length + y.size) (l.map encB ++ Lib.strCells y) ∧
      W.grownBy (W.drew.alloc (.cells ((l.map encB).toArray ++ (Lib.strCells y).toArray ++ Builtin.zeroCells (Value.int .u8 0).cells (grownCap W (l.length + y.size) old e - (l.length + y.size))) e)) row := by
    intro old row
    have hge := grownCap_ge W (l.length + y.size) old e
    have hcm : grownCap W (l.length + y.size) old e ≤ maxLen := grownCap_le_maxLen W (l.length + y.size) old e h63
    refine ⟨⟨hlen, .inr ⟨W.heap.size, _, _, rfl, hbase, heap_alloc_new W.drew _, hge, hcm, ?_, ?_⟩⟩, ⟨rfl, rfl, rfl, by simp, fun k hk _ => Below.heap_alloc W.drew _ k hk⟩⟩
    · have hz1 : (Value.int IntKind.u8 0).cells.size = 1 := rfl
      simp only [Array.size_append, List.size_toArray, size_zeroCells, hz1, hxl, Lib.strCells_length]
      omega
    · simp only [Array.toList_append, List.append_assoc]
      rw [← List.append_assoc, ← hlen]
      exact List.take_left
  rcases HO.2 with ⟨rfl, h0⟩ | ⟨g, cap, cur, rfl, hbg, hg, hnc, hcm, hcs, htake⟩
  · have hx0 : l = [] := List.eq_nil_of_length_eq_zero h0
    subst hx0
    by_cases hm : y.size = 0
    · have hn : Lib.strCells y = [] := List.eq_nil_of_length_eq_zero (by rw [Lib.strCells_length]; exact hm)
      have hf := Lib.run_firstCells_string (P := P) W 1 y
      rw [hm] at hf
      refine go (.slice none 0 0) W ?_ (done _ _ ?_ (World.grownBy.refl _ _) (.inl rfl))
      · simp [Builtin.append_, run_underlying ht, run_underlying hu, sizeOf, typeInfo, hi, hsize, Builtin.lenOf, hm, hf]
      · rw [hm, hn]
        exact World.ownsRow_nil W base e 1
    · have hr := run_append_nil_string (P := P) W t u o.type e i (.int .u8 0) ht hu hi hz y (by omega) (by simp at hl; omega) (by rw [hby]; simp at hl; omega)
      have e1 : (y.data.map fun b => Value.int .u8 b.toNat) = (Lib.strCells y).toArray := by
        apply Array.ext'
        simp [Lib.strCells]
      rw [e1] at hr
      have hgr := grown 0 (Value.ownBlock (.slice none 0 0))
      simp only [List.length_nil, List.map_nil, Nat.zero_add, List.nil_append, Array.empty_append] at hgr
      exact go _ _ hr (done _ _ (by simpa using hgr.1) hgr.2 (.inr rfl))
  · by_cases hroom : l.length + y.size ≤ cap
    · have hcs' : cur.size = cap := by simpa using hcs
      have hr := Lib.run_append_room_string (P := P) W t u o.type e i ht hu hi hsize g l.length cap cur hg y hroom (by omega)
      refine go _ _ hr (done _ _ ⟨hlen, .inr ⟨g, cap, _, rfl, hbg, setRow_heap W g cur _ e _ hg, hroom, hcm, ?_, ?_⟩⟩ ⟨rfl, rfl, rfl, by simp, fun k _ hk => setRow_other W g k _ (fun e => hk (by simp [Value.ownBlock, e]))⟩ (.inl rfl))
      · simp only [List.size_toArray, List.length_append, List.length_take, List.length_drop, Array.length_toList, Lib.strCells_length]
        omega
      · have ht' : cur.toList.take l.length = l.map encB := by simpa using htake
        rw [ht', ← hlen]
        exact List.take_left
    · have holds : ∀ j u, (l.map encB)[j]? = some u → W.cell? ((⟨g, 0, none⟩ : Addr).add j) = some u := World.ownsRow.cells (g := g) hH rfl
      have hr := Lib.run_append_grow_string (P := P) W t u o.type e i (.int .u8 0) ht hu hi hz ⟨g, 0, none⟩ l.length cap (l.map encB) (by rw [hsize]; simp) holds y (by omega) (by omega) (by rw [hby]; exact growslice_fits (by omega) (by omega))
      have hgr := grown cap (Value.ownBlock (.slice (some ⟨g, 0, none⟩) l.length cap))
      exact go _ _ hr (done _ _ hgr.1 hgr.2 (.inr rfl))
end

/-- string(b), b read. -/
theorem run_str {P : Program} {w : World} {A : Option Addr} {n c : Nat} {l : List UInt8} (src e dst : TypeId) (hs : P.underlying src = some (.slice e)) (he : P.underlying e = some (.int .u8)) (hd : P.underlying dst = some .string)
    (h : RB w A n l) : (convert src dst (.slice A n c)).run P w = .ok (.string ⟨l.toArray⟩) w := by
  obtain ⟨h1, h2, h3⟩ := h
  have key : ∀ b off, (∀ j (h : j < l.length), w.cell? ⟨b, off + j, none⟩ = some (.int .u8 (l[j].toNat : Int))) → (convert src dst (.slice (some ⟨b, off, none⟩) n c)).run P w = .ok (.string ⟨l.toArray⟩) w := by
    intro b off hc
    have h := run_convert_bytes_arg (P := P) (w := w) src e hs he b off n c (l.map fun x => (x.toNat : Int)) (by simpa using h1) (fun i hi => by
      have hi' : i < l.length := by omega
      rw [hc i hi']
      simp [List.getD_eq_getElem?_getD, List.getElem?_eq_getElem hi']) dst hd
    have e1 : strOfNums (l.map fun x => (x.toNat : Int)) = ⟨l.toArray⟩ := by
      unfold strOfNums
      congr 1
      simp [List.map_map, Function.comp_def]
    rwa [e1] at h
  rcases h3 with h0 | ⟨b, off, rfl, hc⟩
  · subst h0
    have hl : l = [] := List.eq_nil_of_length_eq_zero h1
    subst hl
    rcases A with _ | ⟨b, off, sp⟩
    · have h := run_convert_bytes_nil (P := P) (w := w) src e hs he 0 c dst hd
      exact h
    · rw [run_convert_bytes_string w src dst e _ 0 c hs he hd]
      have h := run_bytesToString (P := P) w ⟨b, off, sp⟩ 0 c [] (by simp [loadCells, loadCellsFrom])
      rw [h]
      rfl
  · exact key b off hc

/-! ### sums and numbers -/
def sumStep (h : Nat) (c : UInt8) : Nat := (h ^^^ c.toNat) * 1099511628211 % 18446744073709551616
def sumB (l : List UInt8) : Nat := l.foldl sumStep 14695981039346656037
theorem mod64_lt (x : Nat) : x % 18446744073709551616 < 18446744073709551616 := by omega
theorem sumStep_lt (h : Nat) (c : UInt8) : sumStep h c < 18446744073709551616 := by
  unfold sumStep
  exact mod64_lt _
theorem sumB_lt (l : List UInt8) : sumB l < 18446744073709551616 := by
  unfold sumB
  rcases List.eq_nil_or_concat l with rfl | ⟨l', c, rfl⟩
  · simp only [List.foldl_nil]; omega
  · rw [List.concat_eq_append, List.foldl_append, List.foldl_cons, List.foldl_nil]; exact sumStep_lt _ _
theorem sumB_snoc (l : List UInt8) (c : UInt8) : sumB (l ++ [c]) = sumStep (sumB l) c := by
  unfold sumB
  rw [List.foldl_append, List.foldl_cons, List.foldl_nil]
theorem take_snoc' {α : Type} (l : List α) (k : Nat) (h : k < l.length) : l.take (k + 1) = l.take k ++ [l[k]] := by
  rw [List.take_succ_eq_append_getElem h]
theorem sumB_take (l : List UInt8) (k : Nat) (h : k < l.length) : sumB (l.take (k + 1)) = sumStep (sumB (l.take k)) l[k] := by
  rw [take_snoc' l k h, sumB_snoc]
theorem sumStep_int (h : Nat) (c : UInt8) (hh : h < 18446744073709551616) :
    IntKind.u64.wrap (bits .xor .u64 (h : Int) (c.toNat : Int) * 1099511628211) = (sumStep h c : Int) := by
  have hc := c.toNat_lt
  rw [bits_xor_u64_nat h c.toNat hh (by omega), IntKind.wrap_u64]
  unfold sumStep
  generalize h ^^^ c.toNat = x
  omega

/-- Byte i of a number, the lowest one is byte 0. -/
def byteOf (x i : Nat) : UInt8 := UInt8.ofNat (x / 2 ^ (8 * i))
theorem byteOf_int (x i : Nat) : (x : Int) / 2 ^ (8 * i) % 256 = ((byteOf x i).toNat : Int) := by
  unfold byteOf
  rw [UInt8.toNat_ofNat']
  have h : ((2 : Int) ^ (8 * i)) = ((2 ^ (8 * i) : Nat) : Int) := by simp
  rw [h]
  generalize 2 ^ (8 * i) = y
  rw [← Int.natCast_ediv]
  generalize x / y = z
  omega
/-- A number's lowest k bytes, the highest of these first. -/
def putB (x k : Nat) : List UInt8 := (List.range k).map fun j => byteOf x (k - 1 - j)
theorem putB_length (x k : Nat) : (putB x k).length = k := by simp [putB]
theorem putB_take (x k j : Nat) (h : j < k) : (putB x k).take (j + 1) = (putB x k).take j ++ [byteOf x (k - 1 - j)] := by
  rw [take_snoc' _ j (by rw [putB_length]; exact h)]
  simp [putB]

/-! ### mixing -/
def halfN (x : Nat) : Nat := x ^^^ x / 8589934592
def mixN (x : Nat) : Nat := halfN (halfN (halfN x * 18397679294719823053 % 18446744073709551616) * 14181476777654086739 % 18446744073709551616)
def hashN (a b c : Nat) : Nat := mixN ((mixN ((mixN a + b) % 18446744073709551616) + c) % 18446744073709551616) % 4294967296
def groupN (x : Nat) : Nat := mixN x % 4
theorem halfN_lt (x : Nat) (h : x < 18446744073709551616) : halfN x < 18446744073709551616 := by
  unfold halfN
  have h2 : x / 8589934592 < 2 ^ 64 := by omega
  have := Nat.xor_lt_two_pow (n := 64) (show x < 2 ^ 64 by omega) h2
  omega
theorem mixN_lt (x : Nat) : mixN x < 18446744073709551616 := by
  unfold mixN
  exact halfN_lt _ (mod64_lt _)
theorem half_int (x : Nat) (h : x < 18446744073709551616) : bits .xor .u64 (x : Int) ((x : Int) / 8589934592) = (halfN x : Int) := by
  have d : ((x : Int) / 8589934592) = ((x / 8589934592 : Nat) : Int) := by omega
  rw [d, bits_xor_u64_nat x _ h (by omega)]
  rfl
theorem wrapMul_int (x : Nat) (C : Nat) (c : Int) (hc : c = (C : Int)) : IntKind.u64.wrap ((x : Int) * c) = ((x * C % 18446744073709551616 : Nat) : Int) := by
  subst hc
  rw [IntKind.wrap_u64, Int.natCast_emod, Int.natCast_mul]
  rfl
theorem wrapAdd_int (x y : Nat) : IntKind.u64.wrap ((x : Int) + (y : Int)) = (((x + y) % 18446744073709551616 : Nat) : Int) := by
  rw [IntKind.wrap_u64, Int.natCast_emod, Int.natCast_add]
  rfl
theorem lit1 : (18397679294719823053 : Int) = ((18397679294719823053 : Nat) : Int) := by omega
theorem lit2 : (14181476777654086739 : Int) = ((14181476777654086739 : Nat) : Int) := by omega
theorem mix_int (x : Nat) (h : x < 18446744073709551616) :
    bits .xor .u64 (IntKind.u64.wrap (bits .xor .u64 (IntKind.u64.wrap (bits .xor .u64 (x : Int) ((x : Int) / 8589934592) * 18397679294719823053)) (IntKind.u64.wrap (bits .xor .u64 (x : Int) ((x : Int) / 8589934592) * 18397679294719823053) / 8589934592) * 14181476777654086739))
      (IntKind.u64.wrap (bits .xor .u64 (IntKind.u64.wrap (bits .xor .u64 (x : Int) ((x : Int) / 8589934592) * 18397679294719823053)) (IntKind.u64.wrap (bits .xor .u64 (x : Int) ((x : Int) / 8589934592) * 18397679294719823053) / 8589934592) * 14181476777654086739) / 8589934592) = (mixN x : Int) := by
  rw [half_int x h, wrapMul_int _ _ _ lit1, half_int _ (mod64_lt _), wrapMul_int _ _ _ lit2, half_int _ (mod64_lt _)]
  rfl

/-! ### a number out of bytes -/
def numStep (n : Nat) (c : UInt8) : Nat := (n * 256 % 18446744073709551616) ||| c.toNat
def getB (l : List UInt8) : Nat := l.foldl numStep 0
theorem numStep_lt (n : Nat) (c : UInt8) : numStep n c < 18446744073709551616 := by
  unfold numStep
  have := c.toNat_lt
  have h := Nat.or_lt_two_pow (n := 64) (show n * 256 % 18446744073709551616 < 2 ^ 64 by omega) (show c.toNat < 2 ^ 64 by omega)
  omega
theorem getB_snoc (l : List UInt8) (c : UInt8) : getB (l ++ [c]) = numStep (getB l) c := by
  unfold getB
  rw [List.foldl_append, List.foldl_cons, List.foldl_nil]
theorem getB_lt (l : List UInt8) : getB l < 18446744073709551616 := by
  rcases List.eq_nil_or_concat l with rfl | ⟨l', c, rfl⟩
  · unfold getB; simp only [List.foldl_nil]; omega
  · rw [List.concat_eq_append, getB_snoc]; exact numStep_lt _ _
theorem getB_take (l : List UInt8) (k : Nat) (h : k < l.length) : getB (l.take (k + 1)) = numStep (getB (l.take k)) l[k] := by
  rw [take_snoc' l k h, getB_snoc]

/-! ### a cut's address -/
def cutA (A : Option Addr) (k c : Nat) : Option Addr := if c = k then A else A.map fun x => x.add k
theorem RB.take {w : World} {A : Option Addr} {n : Nat} {l : List UInt8} (h : RB w A n l) (k : Nat) (hk : k ≤ n) : RB w A k (l.take k) := by
  obtain ⟨h1, h2, h3⟩ := h
  refine ⟨by rw [List.length_take]; omega, by omega, ?_⟩
  rcases h3 with h3 | ⟨b, off, rfl, hc⟩
  · exact .inl (by omega)
  · exact .inr ⟨b, off, rfl, fun j hj => by
      rw [List.getElem_take]
      exact hc j (by rw [List.length_take] at hj; omega)⟩
theorem RB.cut {w : World} {A : Option Addr} {n c : Nat} {l : List UInt8} (h : RB w A n l) (k : Nat) (hk : k ≤ n) (hc : n ≤ c) : RB w (cutA A k c) (n - k) (l.drop k) := by
  obtain ⟨h1, h2, h3⟩ := h
  refine ⟨by rw [List.length_drop]; omega, by omega, ?_⟩
  rcases h3 with h3 | ⟨b, off, rfl, hcell⟩
  · exact .inl (by omega)
  · by_cases e : c = k
    · exact .inl (by omega)
    · refine .inr ⟨b, off + k, ?_, fun j hj => ?_⟩
      · unfold cutA
        rw [if_neg e]
        simp only [Option.map_some, Addr.add]
        split
        · rename_i h0; subst h0; rfl
        · rfl
      · rw [List.getElem_drop, Nat.add_assoc]
        exact hcell (k + j) (by rw [List.length_drop] at hj; omega)
theorem cutA_block {A : Option Addr} {k c : Nat} {a : Addr} (h : cutA A k c = some a) : ∃ a0, A = some a0 ∧ a0.block = a.block := by
  unfold cutA at h
  split at h
  · exact ⟨a, h, rfl⟩
  · cases A with
    | none => simp at h
    | some a0 =>
      simp at h
      refine ⟨a0, rfl, ?_⟩
      rw [← h]
      unfold Addr.add
      split <;> rfl
/-- A slice that lies where another one lies. -/
def Lies (A A' : Option Addr) : Prop := ∀ a, A' = some a → ∃ a0, A = some a0 ∧ a0.block = a.block
theorem Lies.refl (A : Option Addr) : Lies A A := fun a h => ⟨a, h, rfl⟩
theorem Lies.cut (A : Option Addr) (k c : Nat) : Lies A (cutA A k c) := fun a h => cutA_block h
theorem Lies.trans {A B C : Option Addr} (h : Lies A B) (k : Lies B C) : Lies A C := fun a ha => by
  obtain ⟨b, hb, e⟩ := k a ha
  obtain ⟨c, hc, e'⟩ := h b hb
  exact ⟨c, hc, e'.trans e⟩
/-- What a reader of bytes hands back beside its result: a slice that reads as r, lying where A lies. -/
def RestAt (w : World) (A : Option Addr) (v : Value) (r : List UInt8) : Prop := ∃ A' n' c', v = .slice A' n' c' ∧ n' ≤ c' ∧ RB w A' n' r ∧ Lies A A'

theorem numStep_int (n : Nat) (c : UInt8) : bits .or .u64 (IntKind.u64.wrap ((n : Int) * 256)) (c.toNat : Int) = (numStep n c : Int) := by
  have h1 : IntKind.u64.wrap ((n : Int) * 256) = ((n * 256 % 18446744073709551616 : Nat) : Int) := wrapMul_int n 256 256 (by omega)
  have hc := c.toNat_lt
  rw [h1]
  have hx : (n * 256 % 18446744073709551616) ||| c.toNat < 2 ^ 64 := Nat.or_lt_two_pow (by omega) (by omega)
  unfold numStep
  generalize hg : n * 256 % 18446744073709551616 = x at *
  have hx0 : x < 18446744073709551616 := by omega
  have e1 : (BitVec.ofInt 64 (x : Int)).toNat = x := by
    rw [BitVec.ofInt_natCast, BitVec.toNat_ofNat]; exact Nat.mod_eq_of_lt (by omega)
  have e2 : (BitVec.ofInt 64 (c.toNat : Int)).toNat = c.toNat := by
    rw [BitVec.ofInt_natCast, BitVec.toNat_ofNat]; exact Nat.mod_eq_of_lt (by omega)
  show IntKind.u64.wrap ((BitVec.ofInt 64 (x : Int) ||| BitVec.ofInt 64 (c.toNat : Int)).toNat : Int) = _
  rw [BitVec.toNat_or, e1, e2, IntKind.wrap_u64]
  generalize x ||| c.toNat = y at *
  omega
end Go.Proofs.YtiialjncdhhceaaGreat
