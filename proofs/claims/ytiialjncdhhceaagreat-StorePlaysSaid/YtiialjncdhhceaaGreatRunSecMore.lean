/- What follows is 5 texts, one behind the other: SecPlain, SecArr, SecEasy, Known13, SecMore. -/
import Derived.Test.YtiialjncdhhceaaGreatRunSecKeys
import Derived.Test.YtiialjncdhhceaaGreatSecBase
import Derived.Test.YtiialjncdhhceaaGreatSecCrash
import Derived.Lib.SmallJoins
/- Plain laws of a disk's states: what writes, flushes, crashes leave. -/
namespace Go.Proofs.YtiialjncdhhceaaGreat
open Go.RowKit
set_option linter.unusedVariables false

theorem DSt.off_zero {s : DSt} (h : s.offAt = 0) : s.off = false := by
  unfold DSt.off
  rw [h]
  simp
theorem DSt.write_ok {s : DSt} {i : Int} {l : List UInt8} (h : s.offAt = 0) (hi : 0 ≤ i) (hn : i < (s.n : Int)) (hl : l.length ≤ 64) : s.write i l = (0, s.step.put i.toNat l) := by
  unfold DSt.write
  rw [if_neg (by rw [DSt.off_zero (s := s.step) h]; simp), if_neg (by omega)]
theorem DSt.write_nat {s : DSt} {i : Nat} {l : List UInt8} (h : s.offAt = 0) (hn : i < s.n) (hl : l.length ≤ 64) : s.write (i : Int) l = (0, s.step.put i l) := by
  rw [DSt.write_ok h (by omega) (by omega) hl]
  rfl
theorem DSt.write_bad {s : DSt} {i : Int} {l : List UInt8} (h : s.offAt = 0) (hb : i < 0 ∨ (s.n : Int) ≤ i ∨ 64 < l.length) : s.write i l = (130, s.step) := by
  unfold DSt.write
  rw [if_neg (by rw [DSt.off_zero (s := s.step) h]; simp), if_pos hb]
theorem DSt.flush_ok {s : DSt} (h : s.offAt = 0) : s.flush = (0, s.step.clean) := by
  unfold DSt.flush
  rw [if_neg (by rw [DSt.off_zero (s := s.step) h]; simp)]
theorem DSt.put_now (s : DSt) (i : Nat) (l : List UInt8) (j : Nat) : (s.put i l).now j = if j = i then l ++ (s.now i).drop l.length else s.now j := by
  unfold DSt.now DSt.put
  dsimp only
  split <;> rfl
theorem DSt.clean_now (s : DSt) (j : Nat) : s.clean.now j = s.now j := rfl
theorem DSt.step_now (s : DSt) (j : Nat) : s.step.now j = s.now j := rfl
theorem DSt.new_now (n j : Nat) : (DSt.new n).now j = zeros64 := rfl
theorem DSt.crash_now (s : DSt) (ch : List UInt8) (j : Nat) : (s.crash ch).now j = s.tornAt ch j := rfl

theorem DSt.write_keeps (s : DSt) (i : Int) (l : List UInt8) : (s.write i l).2.steps = s.steps + 1 ∧ (s.write i l).2.offAt = s.offAt ∧ (s.write i l).2.n = s.n := by
  unfold DSt.write
  split
  · exact ⟨rfl, rfl, rfl⟩
  · split <;> exact ⟨rfl, rfl, rfl⟩
theorem DSt.flush_keeps (s : DSt) : s.flush.2.steps = s.steps + 1 ∧ s.flush.2.offAt = s.offAt ∧ s.flush.2.n = s.n := by
  unfold DSt.flush
  split <;> exact ⟨rfl, rfl, rfl⟩
theorem DSt.write_code {s : DSt} {i : Int} {l : List UInt8} (hi : 0 ≤ i) (hn : i < (s.n : Int)) (hl : l.length ≤ 64) : (s.write i l).1 = if s.step.off then 131 else 0 := by
  unfold DSt.write
  split
  · rfl
  · rw [if_neg (by omega)]
theorem DSt.flush_code (s : DSt) : s.flush.1 = if s.step.off then 131 else 0 := by
  unfold DSt.flush
  split <;> rfl

/-- Bytes over the head of others. -/
def laid (l old : List UInt8) : List UInt8 := l ++ old.drop l.length
theorem laid_len {l old : List UInt8} (h : l.length ≤ old.length) : (laid l old).length = old.length := by
  unfold laid
  rw [List.length_append, List.length_drop]
  omega
theorem laid_whole {l old : List UInt8} (h : l.length = old.length) : laid l old = l := by
  unfold laid
  rw [h, List.drop_length, List.append_nil]

/-! ### a crash behind a write of one sector -/
def keepsK (flush : Bool) (c : UInt8) : Nat := if flush then 64 else tornN c
theorem torn_get? (c : UInt8) {new old : List UInt8} (h1 : new.length = 64) (h2 : old.length = 64) (i : Nat) : (torn c new old)[i]? = if i < tornN c then new[i]? else old[i]? := by
  have hk := tornN_le c
  have hlt : (new.take (tornN c)).length = tornN c := by rw [List.length_take]; omega
  unfold torn
  rw [List.getElem?_append, hlt]
  split
  · rename_i hik
    rw [List.getElem?_take, if_pos hik]
  · rename_i hik
    rw [List.getElem?_drop]
    congr 1
    omega

/-! ### choices by rank -/
theorem filter_rank (p : Nat → Bool) (n i : Nat) (hi : i < n) (hp : p i = true) : ((List.range n).filter p)[((List.range i).filter p).length]? = some i := by
  have hsplit : (List.range n).filter p = (List.range i).filter p ++ i :: ((List.range' (i + 1) (n - i - 1)).filter p) := by
    rw [List.range_eq_range', List.range_eq_range', show n = i + (1 + (n - i - 1)) by omega, ← List.range'_append_1, List.filter_append]
    congr 1
    rw [Nat.zero_add, Nat.add_comm 1, List.range'_succ, List.filter_cons, if_pos hp]
    congr 3
    omega
  rw [hsplit, List.getElem?_append_right (Nat.le_refl _)]
  simp
def baseC (F : Nat → Bool) (j : Nat) : List UInt8 := if F j then laid [1] zeros64 else zeros64
theorem baseC_len (F : Nat → Bool) (j : Nat) : (baseC F j).length = 64 := by
  unfold baseC
  split
  · rw [laid_len (by rw [zeros64_len]; decide), zeros64_len]
  · exact zeros64_len
def choiceOf (C : Nat → Bool) (j : Nat) : UInt8 := if C j then 255 else 0
def choicesOf (W C : Nat → Bool) (n : Nat) : List UInt8 := ((List.range n).filter W).map (choiceOf C)
theorem choicesOf_succ (W C : Nat → Bool) (n : Nat) : choicesOf W C (n + 1) = if W n then choicesOf W C n ++ [choiceOf C n] else choicesOf W C n := by
  unfold choicesOf
  rw [List.range_succ, List.filter_append, List.filter_cons]
  split <;> simp_all
def finalC (F W C : Nat → Bool) (j : Nat) : UInt8 := if W j && C j then 2 else if F j then 1 else 0
theorem choices_law (F W C : Nat → Bool) (s : DSt) (hk : ∀ j, s.kept j = baseC F j) (hp : ∀ j, s.pend j = if decide (j < 6) && W j then some (laid [2] (baseC F j)) else none) (j : Nat) (hj : j < 6) :
    ∃ t, (s.crash (choicesOf W C 6)).now j = finalC F W C j :: t := by
  rw [DSt.crash_now]
  have hb : ∃ t, baseC F j = (if F j then 1 else 0) :: t := by
    unfold baseC
    split <;> exact ⟨_, rfl⟩
  obtain ⟨t, hb⟩ := hb
  unfold DSt.tornAt
  rw [hp j]
  have hd : decide (j < 6) = true := by simp [hj]
  rw [hd, Bool.true_and]
  cases hw : W j with
  | false =>
    simp only [Bool.false_eq_true, if_false]
    rw [hk, hb]
    exact ⟨t, by unfold finalC; rw [hw]; rfl⟩
  | true =>
    simp only [if_true]
    have hrank : s.rank j = ((List.range j).filter W).length := by
      unfold DSt.rank
      congr 1
      apply List.filter_congr
      intro x hx
      rw [List.mem_range] at hx
      unfold DSt.isP
      rw [hp x]
      have : decide (x < 6) = true := by simp; omega
      rw [this, Bool.true_and]
      cases W x <;> rfl
    have hget : (choicesOf W C 6).getD (s.rank j) 0 = choiceOf C j := by
      unfold choicesOf
      rw [hrank, List.getD_eq_getElem?_getD, List.getElem?_map, filter_rank W 6 j hj hw]
      rfl
    rw [hget, hk, hb]
    unfold choiceOf finalC
    rw [hw]
    cases C j with
    | false =>
      refine ⟨t, ?_⟩
      have h0 : tornN 0 = 0 := by decide
      simp only [Bool.false_eq_true, if_false, Bool.true_and]
      unfold torn
      rw [h0]
      rfl
    | true =>
      have h0 : tornN 255 = 64 := by decide
      simp only [if_true, Bool.true_and]
      unfold torn laid
      rw [h0]
      exact ⟨_, rfl⟩
end Go.Proofs.YtiialjncdhhceaaGreat

/- Arrays by value in variables, whatever their type: made, written, read; a function's array as a slice. -/
namespace Go.Proofs.YtiialjncdhhceaaGreat
open Go.RowKit
set_option linter.unusedVariables false

section
variable {P : Program} {ops : Array Oper} {rest : List Oper} {o : Oper} {a : Act} {Q : Exit → Act → World → Prop} {w : World}

theorem al_arr (t : TypeId) {Z : Array Value} {n : Nat} (hinfo : (P.info? t).map (fun i => (i.zero, i.size)) = some (some (.agg Z), n)) (hg : o.guard = none) (hop : o.op = .alloc t)
    (h : ∀ w1, w1.heap[w.heap.size]? = some (.cells Z t (0, 0)) → w1.heap.size = w.heap.size + 1 → Fr [] w w1 → wpList P ops Q rest (a.put o.dst (.pointer (some ⟨w.heap.size, 0, none⟩))) w1) : wpList P ops Q (o :: rest) a w := by
  refine wpList_plain hg fun K hK => ?_
  have hz := (zero_of_info hinfo).1 w
  have hrun : (execOp a.eval o).run P w = .ok (.value (.pointer (some ⟨w.heap.size, 0, none⟩))) (w.alloc (.cells Z t)) := by
    have he : execOp a.eval o = (Instr.alloc t true (.tuple #[]) >>= fun x => pure (Next.value x)) := by
      obtain ⟨d, op, ty, pos, af, gd⟩ := o
      dsimp only at hop
      subst hop
      rfl
    rw [he]
    unfold Instr.alloc
    rw [Sem.run_bind, Sem.run_bind, hz, Result.andThen_ok]
    rfl
  unfold Oper.wp
  rw [hrun]
  exact hK _ _ (h (w.alloc (.cells Z t)) (MapKept.heap_alloc _ _).1 (by simp) ((Fr.refl [] w).alloc _))
theorem st_arr (t : TypeId) (cs : List Value) (hsz : (P.info? t).map (·.size) = some cs.length) (hone : ∀ v ∈ cs, v.oneCell' = true) (hg : o.guard = none) {x y : Operand} (hop : o.op = .store t x y) (b off : Nat)
    (hx : a.eval x = .pointer (some ⟨b, off, none⟩)) (hy : a.eval y = .agg cs.toArray) (ht : w.there b off cs.length)
    (h : ∀ w1, w1 = w.setCells b off cs → w1.rangeAt b off cs → Fr [b] w w1 → wpList P ops Q rest (a.put o.dst undef) w1) : wpList P ops Q (o :: rest) a w := by
  refine wpList_store_mid hg t x y hop b off cs.toArray hx hy (by simpa using ht) (by simpa using hsz) (all_oneCell_toArray hone) ?_
  exact h _ rfl (World.rangeAt_setCells_same w b off _ ht) (fr_setCells (Fr.refl _ _) b off _ (.inl (by simp)))
theorem ld_arr (t : TypeId) (cs : List Value) (d : TypeDesc) (hu : P.underlying t = some d) (hd : d.isRow = true) (hsz : (P.info? t).map (·.size) = some cs.length) (hg : o.guard = none) {x : Operand} (hop : o.op = .load t x) (b off : Nat)
    (hx : a.eval x = .pointer (some ⟨b, off, none⟩)) (hr : w.rangeAt b off cs)
    (h : wpList P ops Q rest (a.put o.dst (.agg cs.toArray)) w) : wpList P ops Q (o :: rest) a w :=
  wpList_load_mid hg t x hop b off hx cs d hr hu hd hsz h

theorem stop_al2 (t : TypeId) (hop : o.op = .alloc t) (h : Stop (wpList P ops Q (o :: rest) a w)) : wpList P ops Q (o :: rest) a w := h
theorem stop_st2 (t : TypeId) {x y : Operand} (hop : o.op = .store t x y) (h : Stop (wpList P ops Q (o :: rest) a w)) : wpList P ops Q (o :: rest) a w := h
theorem stop_ld2 (t : TypeId) {x : Operand} (hop : o.op = .load t x) (h : Stop (wpList P ops Q (o :: rest) a w)) : wpList P ops Q (o :: rest) a w := h
theorem encB_one {l : List UInt8} : ∀ v ∈ l.map encB, v.oneCell' = true := by
  intro v hv
  obtain ⟨x, _, rfl⟩ := List.mem_map.1 hv
  rfl
theorem bool_one {l : List Bool} : ∀ v ∈ l.map Value.bool, v.oneCell' = true := by
  intro v hv
  obtain ⟨x, _, rfl⟩ := List.mem_map.1 hv
  rfl
theorem range_cell {b off : Nat} {l : List UInt8} (h : w.rangeAt b off (l.map encB)) (j : Nat) (hj : j < l.length) : w.cell? ⟨b, off + j, none⟩ = some (.int .u8 (l[j].toNat : Int)) := by
  refine h j _ ?_
  rw [List.getElem?_map, List.getElem?_eq_getElem hj]
  rfl
theorem bool_cell {b off : Nat} {l : List Bool} (h : w.rangeAt b off (l.map Value.bool)) (j : Nat) (hj : j < l.length) : w.cell? ⟨b, off + j, none⟩ = some (.bool l[j]) := by
  refine h j _ ?_
  rw [List.getElem?_map, List.getElem?_eq_getElem hj]
  rfl
end
end Go.Proofs.YtiialjncdhhceaaGreat

/- What a disk's calls do where the power is on: handy forms of their contracts. -/
namespace Go.Proofs.YtiialjncdhhceaaGreat
open Go.RowKit
set_option linter.unusedVariables false

theorem Read_ok (d k m : Nat) (s : DSt) (i : Nat) (w : World) (h : IsDisk w d k m s) (hoff : s.off = false) (hi : i < s.n) (v : Int) (hv : v = (i : Int)) :
    Calls Tryz.prog 80 #[.pointer (some ⟨d, 0, none⟩), .int .i64 v] w fun e w' => ∃ b, e = .returned (.tuple #[.slice (some ⟨b, 0, none⟩) 64 64, .int .i64 0]) ∧ (w.heap.size ≤ b ∧ b < w'.heap.size) ∧ w'.rangeAt b 0 ((s.now i).map encB) ∧ w'.there b 0 64 ∧ Fr [] w w' := by
  subst hv
  refine (Read_c d k m s (i : Int) w h).mono ?_
  intro e w' hp
  unfold ReadPost at hp
  rw [if_neg (by rw [hoff]; simp), if_neg (by omega)] at hp
  obtain ⟨b, he, hb, hr, ht, hf⟩ := hp
  rw [Int.toNat_natCast] at hr
  refine ⟨b, he, ⟨hb, ?_⟩, hr, ht, hf⟩
  exact World.block_lt_of_cell? w' ⟨b, 0 + 0, none⟩ (range_cell hr 0 (by rw [h.ok.now_len]; decide))
theorem Write_ok (d k m : Nat) (s : DSt) (i : Nat) (A : Option Addr) (n c : Nat) (l : List UInt8) (w : World) (h : IsDisk w d k m s) (hb : RB w A n l) (hA : n ≠ 0 → ∀ a, A = some a → a.block ≠ d ∧ a.block ≠ m) (hs : s.steps + 1 < 4611686018427387904)
    (hoff : s.offAt = 0) (hi : i < s.n) (hl : n ≤ 64) (v : Int) (hv : v = (i : Int)) :
    Calls Tryz.prog 45 #[.pointer (some ⟨d, 0, none⟩), .int .i64 v, .slice A n c] w fun e w' => e = .returned (.int .i64 0) ∧ IsDisk w' d k m (s.step.put i l) ∧ Fr [d, m] w w' := by
  subst hv
  refine (Write_c d k m s (i : Int) A n c l w h hb hA hs).mono ?_
  rw [DSt.write_nat hoff hi (by rw [hb.1]; exact hl)]
  exact fun e w' hp => hp
theorem Write_bad (d k m : Nat) (s : DSt) (i : Int) (A : Option Addr) (n c : Nat) (l : List UInt8) (w : World) (h : IsDisk w d k m s) (hb : RB w A n l) (hA : n ≠ 0 → ∀ a, A = some a → a.block ≠ d ∧ a.block ≠ m) (hs : s.steps + 1 < 4611686018427387904)
    (hoff : s.offAt = 0) (hi : i < 0 ∨ (s.n : Int) ≤ i ∨ 64 < n) :
    Calls Tryz.prog 45 #[.pointer (some ⟨d, 0, none⟩), .int .i64 i, .slice A n c] w fun e w' => e = .returned (.int .i64 130) ∧ IsDisk w' d k m s.step ∧ Fr [d, m] w w' := by
  refine (Write_c d k m s i A n c l w h hb hA hs).mono ?_
  rw [DSt.write_bad hoff (by rw [hb.1]; exact hi)]
  exact fun e w' hp => hp
theorem Flush_ok (d k m : Nat) (s : DSt) (w : World) (h : IsDisk w d k m s) (hs : s.steps + 1 < 4611686018427387904) (hoff : s.offAt = 0) :
    Calls Tryz.prog 46 #[.pointer (some ⟨d, 0, none⟩)] w fun e w' => e = .returned (.int .i64 0) ∧ IsDisk w' d k m s.step.clean ∧ Fr [d, k, m] w w' := by
  refine (Flush_c d k m s w h hs).mono ?_
  rw [DSt.flush_ok hoff]
  exact fun e w' hp => hp
/-- Bytes copied over the head of one row of many. -/
theorem copy_rows {w : World} {b N : Nat} {R : Nat → List UInt8} (hr : ∀ k, k < N → w.rangeAt b (k * 64) ((R k).map encB)) (hR : ∀ k, (R k).length = 64) (l : List UInt8) (hl : l.length ≤ 64) (i : Nat) (hi : i < N) :
    ∀ k, k < N → (w.setCells b (i * 64) (l.map encB)).rangeAt b (k * 64) ((if k = i then l ++ (R i).drop l.length else R k).map encB) := by
  intro k hk
  by_cases hki : k = i
  · subst hki
    rw [if_pos rfl]
    exact range_head (hr k hk) (by rw [hR]; exact hl)
  · rw [if_neg hki]
    exact World.rangeAt_setCells_apart (hr k hk) _ _ _ (by right; rw [List.length_map, List.length_map, hR]; omega)
/-- A frame that leaves out blocks that are new. -/
theorem Fr.past {S : List Nat} {a b c : World} (h : Fr [] a b) (k : Fr S b c) (hs : ∀ x ∈ S, a.heap.size ≤ x) : Fr [] a c := h.trans k (fun x hx => .inr (hs x hx))
theorem IsDisk.away {w w' : World} {d k m : Nat} {s : DSt} (h : IsDisk w d k m s) {S : List Nat} (hf : Fr S w w') (hs : d ∉ S ∧ k ∉ S ∧ m ∉ S) : IsDisk w' d k m s := h.kept hf hs.1 hs.2.1 hs.2.2
end Go.Proofs.YtiialjncdhhceaaGreat

/- What package paddocklaw13 asks of itself first ('known'): it is so. -/
namespace Go.Proofs.YtiialjncdhhceaaGreat
open Go.RowKit
set_option linter.unusedVariables false
set_option linter.unusedSimpArgs false

theorem lit_rb13 {W : World} (cs : List UInt8) (E : TypeId) (fr : Nat × Nat) (hc : cs.length ≤ 9223372036854775807) : RB (W.alloc (.cells (cs.map encB).toArray E fr)) (some ⟨W.heap.size, 0, none⟩) cs.length cs := by
  refine ⟨rfl, hc, .inr ⟨_, _, rfl, fun j hj => ?_⟩⟩
  rw [Nat.zero_add]
  have h := heap_alloc_new W (.cells (cs.map encB).toArray E fr)
  simp only [World.cell?, h]
  simp [hj, encB]

end Go.Proofs.YtiialjncdhhceaaGreat

/- A byte that is loaded, bytes that are made: as facts for a walk. -/
namespace Go.Proofs.YtiialjncdhhceaaGreat
open Go.RowKit
set_option linter.unusedVariables false

theorem load_u8 {w : World} {b off : Nat} {x : Int} (h : w.cell? ⟨b, off, none⟩ = some (.int .u8 x)) : (Instr.loadAt 5 (.pointer (some ⟨b, off, none⟩))).run Tryz.prog w = .ok (.int .u8 x) w := by
  have hagg : (isAgg 5).run Tryz.prog w = .ok false w := by
    unfold isAgg
    rw [Sem.run_bind, run_underlying Tryz.underlying5 w]
    rfl
  simp [go_sem, Instr.loadAt, Instr.sureAddr, loadVar, hagg, h]

theorem load_cell {w : World} {b off : Nat} {v : Value} (t : TypeId) {d : TypeDesc} (hu : Tryz.prog.underlying t = some d) (hd : d.isRow = false) (h : w.cell? ⟨b, off, none⟩ = some v) : (Instr.loadAt t (.pointer (some ⟨b, off, none⟩))).run Tryz.prog w = .ok v w := by
  have hagg : (isAgg t).run Tryz.prog w = .ok false w := by
    unfold isAgg
    rw [Sem.run_bind, run_underlying hu w]
    cases d <;> simp_all [TypeDesc.isRow]
  simp [go_sem, Instr.loadAt, Instr.sureAddr, loadVar, hagg, h]

theorem infoB13' : (Tryz.prog.info? 5).map (fun i => (i.zero, i.size, i.bytes)) = some (some (.int .u8 0), 1, 1) := by kernel_rfl
theorem make_bytes (w : World) (n : Nat) (hn : n ≤ 1000000) : ∃ w1, (∀ V : Int, V = (n : Int) → (Instr.makeSlice 30 (.int .i64 V) (.int .i64 V)).run Tryz.prog w = .ok (.slice (some ⟨w.heap.size, 0, none⟩) n n) w1) ∧
    w1.rangeAt w.heap.size 0 ((List.replicate n (0 : UInt8)).map encB) ∧ w1.heap.size = w.heap.size + 1 ∧ Fr [] w w1 := by
  obtain ⟨i0, hi, hz0, hz1, hz2⟩ := info_parts infoB13'
  have hmk := run_make (P := Tryz.prog) w 30 5 i0 (.int .u8 0) Tryz.underlying30 hi hz0 .i64 .i64 (n : Int) (n : Int) (by omega) (Int.le_refl _) (by rw [hz2]; omega) (by omega)
  rw [hz1, Int.toNat_natCast] at hmk
  have hb := (MapKept.heap_alloc w (.cells (madeCells (Value.int .u8 0).cells (n * 1)) 5)).1
  refine ⟨w.alloc (.cells (madeCells (Value.int .u8 0).cells (n * 1)) 5), ?_, ?_, by simp, (Fr.refl [] w).alloc _⟩
  · rintro V rfl
    exact hmk
  · intro j v hv
    rw [cell_of_row _ _ _ _ _ _ hb]
    have hj : j < n := by
      have := (List.getElem?_eq_some_iff.1 hv).1
      simpa using this
    rw [← hv, Nat.zero_add, List.map_replicate, List.getElem?_replicate, if_pos hj]
    unfold madeCells
    rw [Array.getElem?_map, Array.getElem?_range, if_pos (by omega), Option.map_some]
    simp [Nat.mod_one, encB, Value.cells]
/-- Whatever it tells, Read leaves all as it was. -/
theorem Read_any (d k m : Nat) (s : DSt) (i : Int) (w : World) (h : IsDisk w d k m s) :
    Calls Tryz.prog 80 #[.pointer (some ⟨d, 0, none⟩), .int .i64 i] w fun e w' => ∃ v, e = .returned v ∧ Fr [] w w' := by
  refine (Read_c d k m s i w h).mono ?_
  intro e w' hp
  unfold ReadPost at hp
  split at hp
  · exact ⟨_, hp.1, by rw [hp.2]; exact (Fr.refl [] w).drew⟩
  · split at hp
    · exact ⟨_, hp.1, by rw [hp.2]; exact (Fr.refl [] w).drew⟩
    · obtain ⟨b, he, _, _, _, hf⟩ := hp
      exact ⟨_, he, hf⟩
end Go.Proofs.YtiialjncdhhceaaGreat
