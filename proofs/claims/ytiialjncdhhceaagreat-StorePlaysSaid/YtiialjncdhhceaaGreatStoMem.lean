/- A map of strings in memory: looked up, written, struck, measured, cleared, ranged over. No walk. -/
import Derived.Test.YtiialjncdhhceaaGreatStoPlain
import Derived.Test.YtiialjncdhhceaaGreatRunJrnStrs
import Derived.Maps.StringElems
import Derived.Maps.OwnOps
import Derived.StringKeys
import Derived.Sort.MapsRangeIn
namespace Go.Proofs.YtiialjncdhhceaaGreat
open Go.RowKit
open Go.Maps (Keyed)
open Go.WideShapes Go.ChangeMaps
set_option linter.unusedVariables false
set_option linter.unusedSimpArgs false

theorem strK : Keyed Tryz.prog 9 := Maps.string_keyed Tryz.underlying9
/-- A string of bytes. -/
def stB (l : List UInt8) : ByteArray := ⟨l.toArray⟩
theorem bs_stB (l : List UInt8) : bs (stB l) = l := by simp [bs, stB]
theorem stB_bs (s : ByteArray) : stB (bs s) = s := by
  cases s with
  | mk d => cases d with
    | mk l => rfl
theorem stB_size (l : List UInt8) : (stB l).size = l.length := by
  show l.toArray.size = _
  simp
theorem stB_inj {a b : List UInt8} (h : stB a = stB b) : a = b := by
  have := congrArg bs h
  rwa [bs_stB, bs_stB] at this

/-- Block m is a map that reads as the rows L. -/
def MapS (w : World) (m : Nat) (L : List KV) : Prop := w.ownsMap Tryz.prog 9 (plainElem Tryz.prog 9) m L.length (mapD L) ∧ Srt L
theorem ownsMap_exact {w : World} {m n : Nat} {L : List KV} (h : w.ownsMap Tryz.prog 9 (plainElem Tryz.prog 9) m n (mapD L)) : w.ownsMap Tryz.prog 9 (plainElem Tryz.prog 9) m L.length (mapD L) := by
  obtain ⟨es, clock, hb, F, hs, hD⟩ := h
  refine ⟨es, clock, hb, F, Nat.le_of_eq ?_, hD⟩
  have h1 := congrArg Maps.size hD
  rw [mapD_size] at h1
  rw [h1]
  simp [Maps.size, length_sorted]
theorem MapS.kept {w w' : World} {m : Nat} {L : List KV} {S : List Nat} (h : MapS w m L) (hf : Fr S w w') (hm : m ∉ S) : MapS w' m L := by
  obtain ⟨h1, h2⟩ := h
  have hlt := h1.lt
  obtain ⟨es, clock, hb, F, hs, hD⟩ := h1
  exact ⟨⟨es, clock, (hf.block m hlt hm).trans hb, F, hs, hD⟩, h2⟩
theorem MapS.fr {w w' : World} {m : Nat} {L : List KV} (h : MapS w m L) (hf : Fr [] w w') : MapS w' m L := h.kept hf (by simp)
theorem MapS.lt {w : World} {m : Nat} {L : List KV} (h : MapS w m L) : m < w.heap.size := h.1.lt
theorem MapS.block {w : World} {m : Nat} {L : List KV} (h : MapS w m L) : ∃ es clock, w.heap[m]? = some (.map es clock) := by
  obtain ⟨es, clock, hb, _⟩ := h.1
  exact ⟨es, clock, hb⟩
theorem MapS.same {w : World} {m : Nat} {L L' : List KV} (h : MapS w m L) (h' : w.heap[m]? = w.heap[m]?) : MapS w m L := h
theorem MapS.of_block {w w' : World} {m m' : Nat} {L : List KV} (h : MapS w m L) (hb : w'.heap[m']? = w.heap[m]?) : MapS w' m' L := by
  obtain ⟨⟨es, clock, hb', F, hs, hD⟩, h2⟩ := h
  exact ⟨⟨es, clock, hb.trans hb', F, hs, hD⟩, h2⟩
theorem MapS.made (w : World) : MapS (w.alloc (.map #[] 0)) w.heap.size [] := ⟨World.ownsMap_made _ _ _ _, Srt.nil⟩
theorem keyS (s : ByteArray) (hs : s.size ≤ 1000000000000000) : keyOf Tryz.prog 9 (.string s) = some (.string (bs s)) := WideMaps.keyOf_string_mk Tryz.underlying9 (by simp only [maxLen]; omega)
theorem keyOf_str_inv {key : Value} {kl : Lit} (h : keyOf Tryz.prog 9 key = some kl) : ∃ s : ByteArray, key = .string s ∧ kl = .string (bs s) := by
  obtain ⟨s, rfl⟩ := Maps.keyOf_string_inv Tryz.underlying9 h
  refine ⟨s, rfl, ?_⟩
  simp [keyOf, Tryz.underlying9, mapKey] at h
  exact h.2.symm
theorem elemS (s : ByteArray) (hs : s.size ≤ 1000000000000000) : plainElem (H := Unit) Tryz.prog 9 (.string s) = some (.lit (.string (bs s)), []) := plainElem_string Tryz.underlying9 (by simp only [maxLen]; omega)
theorem zeroStr (w : World) : (zeroValue 9).run Tryz.prog w = .ok (.string ByteArray.empty) w := (zero_of_info (v := Value.string ByteArray.empty) (n := 1) (by
  show (Tryz.prog.info? 9).map (fun i => (i.zero, i.size)) = some (some (.string ByteArray.empty), 1)
  kernel_rfl)).1 w

theorem litS_inj {a b : List UInt8} (h : (DataW.lit (Lit.string a) : DataW Unit) = .lit (.string b)) : a = b := by
  injection h with h
  injection h
def elS (o : Option (List UInt8)) : ByteArray := stB (o.getD [])
theorem MapS.look (c : Bool) {w : World} {m : Nat} {L : List KV} (h : MapS w m L) (s : ByteArray) (hs : s.size ≤ 1000000000000000) :
    (Instr.lookup 59 (.map (some m)) (.string s) c).run Tryz.prog w = .ok (if c then .tuple #[.string (elS (getL (bs s) L)), .bool (getL (bs s) L).isSome] else .string (elS (getL (bs s) L))) w := by
  obtain ⟨⟨es, clock, hb, F, hs', hD⟩, h2⟩ := h
  have h1 := mapD_at (bs s) L .nil
  rw [hD] at h1
  rcases Maps.fit_look c strK Tryz.underlying59 (zeroStr w) hb F (keyS s hs) with ⟨hrun, _, hat⟩ | ⟨e0, y, _, _, hrun, hRv, hat, _⟩
  · rw [hat] at h1
    have hn : getL (bs s) L = none := by
      cases hg : getL (bs s) L with
      | none => rfl
      | some v => rw [hg] at h1; cases h1
    rw [hrun, hn]
    rfl
  · obtain ⟨v, hv, rfl, _⟩ := plainElem_string_inv Tryz.underlying9 hRv
    rw [hat] at h1
    cases hg : getL (bs s) L with
    | none => rw [hg] at h1; cases h1
    | some l' =>
      rw [hg] at h1
      have e : v.data.toList = l' := litS_inj h1
      rw [hrun, hv]
      have e2 : elS (some l') = v := by
        rw [← e]
        exact stB_bs v
      rw [e2]
      rfl
theorem MapS.len {w : World} {m : Nat} {L : List KV} (h : MapS w m L) (ty : TypeId) : (Builtin.len_ #[59] ty #[.map (some m)]).run Tryz.prog w = .ok (.int .i64 (L.length : Int)) w := by
  have := h.1.len Tryz.underlying59 ty
  rw [mapD_size] at this
  exact this
theorem MapS.put {w : World} {m : Nat} {L : List KV} (h : MapS w m L) (hn : L.length < 1000000000000000) (s v : ByteArray) (hs : s.size ≤ 1000000000000000) (hv : v.size ≤ 1000000000000000) :
    ∃ w', (Instr.mapUpdate 59 (.map (some m)) (.string s) (.string v)).run Tryz.prog w = .ok () w' ∧ MapS w' m (putL (bs s) (bs v) L) ∧ Fr [m] w w' := by
  obtain ⟨w', hrun, h1, hg⟩ := h.1.update strK Tryz.underlying59 (by simp only [maxLen]; omega) (keyS s hs) (elemS v hv)
  rw [mapD_put] at h1
  exact ⟨w', hrun, ⟨ownsMap_exact h1, h.2.put _ _⟩, (Fr.refl [m] w).grown hg (by intro k hk; left; cases hk; simp)⟩
theorem MapS.del {w : World} {m : Nat} {L : List KV} (h : MapS w m L) (s : ByteArray) (hs : s.size ≤ 1000000000000000) (ty : TypeId) :
    ∃ w', (Builtin.delete_ #[59, 9] ty #[.map (some m), .string s]).run Tryz.prog w = .ok (.tuple #[]) w' ∧ MapS w' m (delL (bs s) L) ∧ Fr [m] w w' := by
  obtain ⟨w', hrun, h1, hg⟩ := h.1.drop strK Tryz.underlying59 (keyS s hs) ty
  rw [mapD_del] at h1
  exact ⟨w', hrun, ⟨ownsMap_exact h1, h.2.del _⟩, (Fr.refl [m] w).grown hg.grown (by intro k hk; left; cases hk; simp)⟩
theorem MapS.clear {w : World} {m : Nat} {L : List KV} (h : MapS w m L) : ∃ w', (∀ ty, (Builtin.clear_ #[59] ty #[.map (some m)]).run Tryz.prog w = .ok (.tuple #[]) w') ∧ MapS w' m [] ∧ Fr [m] w w' := by
  obtain ⟨⟨es, clock, hb, F, hs, hD⟩, hp⟩ := h
  have hrun : ∃ o, (∃ c, o = .map #[] c) ∧ ∀ ty, (Builtin.clear_ #[59] ty #[.map (some m)]).run Tryz.prog w = .ok (.tuple #[]) (setBlock w m o) :=
    ⟨_, ⟨_, rfl⟩, fun ty => by simp [Builtin.clear_, run_underlying Tryz.underlying59, MapKept.run_getObj_map hb, MapKept.run_setObj_map _ hb, Result.andThen, setBlock]; rfl⟩
  obtain ⟨o, ⟨c, rfl⟩, hrun⟩ := hrun
  refine ⟨setBlock w m (.map #[] c), hrun, ⟨⟨#[], c, heap_setBlock_same hb _, ⟨by simp, MapKept.stamped_empty _, by simp⟩, Nat.le_refl _, rfl⟩, Srt.nil⟩, ?_⟩
  exact ⟨rfl, rfl, rfl, by simp [setBlock], fun k hk hn => heap_setBlock_other hb _ (by intro e; exact hn (by simp [e]))⟩

/-! ### 'for key, x := range m' -/
/-- A range under way over the map in block m (iterator: block r); R: the rows that are still to come. -/
def RangeS (w : World) (m r : Nat) (L : List KV) (R : List KV) (cnt : Nat) : Prop :=
  ∃ left, w.ranges Tryz.prog 9 (plainElem (H := Unit) Tryz.prog 9) m r L.length (mapD L) left cnt ∧ R = L.filter fun p => left (.string p.1)
theorem sizeL_strike {L : List KV} (h : Srt L) (left : Lit → Bool) (k v : List UInt8) (hk : left (.string k) = true) (hm : (k, v) ∈ L) :
    sizeL (L.filter fun p => left (.string p.1)) = k.length + v.length + 24 + sizeL (L.filter fun p => left (.string p.1) && !(Lit.string p.1).sameKey (.string k)) := by
  have h1 : Srt (L.filter fun p => left (.string p.1)) := List.Pairwise.filter _ h
  have h2 : (k, v) ∈ L.filter fun p => left (.string p.1) := List.mem_filter.2 ⟨hm, hk⟩
  have h3 := (delL_length h1 (getL_mem h1 h2)).2
  have h4 : delL k (L.filter fun p => left (.string p.1)) = L.filter fun p => left (.string p.1) && !(Lit.string p.1).sameKey (.string k) := by
    unfold delL
    rw [List.filter_filter]
    congr 1
    funext p
    rw [Bool.and_comm]
    rfl
  rw [h4] at h3
  omega

theorem RangeS.left_eq {w : World} {m r cnt : Nat} {L R : List KV} (h : RangeS w m r L R cnt) : w.rangeLeft m r = cnt := by
  obtain ⟨left, hr, _⟩ := h
  exact hr.left_eq
theorem RangeS.lt {w : World} {m r cnt : Nat} {L R : List KV} (h : RangeS w m r L R cnt) : m < w.heap.size ∧ r < w.heap.size ∧ r ≠ m := by
  obtain ⟨left, hr, _⟩ := h
  exact ⟨hr.owns.lt, hr.lt, hr.ne⟩
theorem rangesS_fr {w w1 : World} {P : Program} {k : TypeId} {Rd : Value → Option (DataW Unit × List MemPlace)} {m r cnt : Nat} {D : DataW Unit} {left : Lit → Bool} {c : Nat} {S : List Nat} (h : w.ranges P k Rd m r cnt D left c) (hf : Fr S w w1) (h1 : m ∉ S) (h2 : r ∉ S) : w1.ranges P k Rd m r cnt D left c := by
  have l1 := h.owns.lt
  have l2 := h.lt
  obtain ⟨es, clock, since, seen, c0, hb, F, hs, hD, hr, rest⟩ := h
  exact ⟨es, clock, since, seen, c0, (hf.block m l1 h1).trans hb, F, hs, hD, (hf.block r l2 h2).trans hr, rest⟩
theorem RangeS.kept {w w' : World} {m r cnt : Nat} {L R : List KV} {S : List Nat} (h : RangeS w m r L R cnt) (hf : Fr S w w') (hm : m ∉ S) (hr : r ∉ S) : RangeS w' m r L R cnt := by
  obtain ⟨left, hrg, e⟩ := h
  exact ⟨left, rangesS_fr hrg hf hm hr, e⟩

section
variable {ops : Array Oper} {rest : List Oper} {o : Oper} {a : Act} {Q : Exit → Act → World → Prop} {w : World}
theorem rg_str (hg : o.guard = none) {x : Operand} (hop : o.op = .range 59 x) {m : Nat} {L : List KV} (hm : a.eval x = .map (some m)) (h : MapS w m L)
    (hK : ∀ w', RangeS w' m w.heap.size L L L.length → Fr [] w w' → wpList Tryz.prog ops Q rest (a.put o.dst (.pointer (some ⟨w.heap.size, 0, none⟩))) w') : wpList Tryz.prog ops Q (o :: rest) a w := by
  refine wpList_range_own w hg x 59 hop 9 9 strK Tryz.underlying59 (plainElem (H := Unit) Tryz.prog 9) m L.length (mapD L) hm h.1 ?_
  intro w' hr hgr hsz
  rw [mapD_size] at hr
  refine hK w' ⟨_, hr, ?_⟩ (by
    have : Fr [] w w' := (Fr.refl [] w).grown hgr (by intro k hk; cases hk)
    exact this)
  symm
  rw [List.filter_eq_self]
  intro p hp
  show Maps.has (mapD L) (.string p.1) = true
  rw [mapD_has, getL_mem h.2 (v := p.2) hp]
  rfl
theorem nx_str (hg : o.guard = none) {it : Operand} (hop : o.op = .next it false) {m r cnt : Nat} {L R : List KV} (hit : a.eval it = .pointer (some ⟨r, 0, none⟩)) (hS : Srt L) (h : RangeS w m r L R cnt)
    (hDone : cnt = 0 → R = [] → wpList Tryz.prog ops Q rest (a.put o.dst (.tuple #[.bool false])) w)
    (hMore : ∀ (x c : ByteArray) (w' : World) (R' : List KV) (cnt' : Nat), (bs x, bs c) ∈ L → RangeS w' m r L R' cnt' → sizeL R = x.size + c.size + 24 + sizeL R' → cnt' < cnt → Fr [r] w w' → (Instr.entry (.pointer (some ⟨r, 0, none⟩))).run Tryz.prog w' = .ok (.tuple #[.string x, .string c]) w' →
      wpList Tryz.prog ops Q rest (a.put o.dst (.tuple #[.bool true, .string x, .string c])) w') : wpList Tryz.prog ops Q (o :: rest) a w := by
  obtain ⟨left, hr, rfl⟩ := h
  refine wpList_next_ranges w hg it hop 9 strK (plainElem (H := Unit) Tryz.prog 9) Value.string Value.string (fun key kl hkey => by obtain ⟨s, rfl, _⟩ := keyOf_str_inv hkey; exact ⟨s, rfl⟩)
    (fun v y hv => by obtain ⟨c, rfl, _⟩ := plainElem_string_inv Tryz.underlying9 hv; exact ⟨c, rfl⟩) m r L.length (mapD L) left cnt hit hr ?_ ?_
  · intro h0 hl
    refine hDone h0 ?_
    rw [List.filter_eq_nil_iff]
    intro p _
    rw [hl]
    simp
  · intro x c kl y w' cnt' hkey hlk hv hat hrg hlt hgr hsz hen
    obtain ⟨s, hx, rfl⟩ := keyOf_str_inv hkey
    injection hx with hx
    subst hx
    obtain ⟨c', hc, rfl, _⟩ := plainElem_string_inv Tryz.underlying9 hv
    injection hc with hc
    subst hc
    have hmem : (bs x, bs c) ∈ L := by
      have h1 := mapD_at (bs x) L .nil
      rw [hat] at h1
      cases hgx : getL (bs x) L with
      | none => rw [hgx] at h1; cases h1
      | some l' =>
        rw [hgx] at h1
        have e : c.data.toList = l' := litS_inj h1
        have h2 := getL_some hgx
        rw [← e] at h2
        exact h2
    refine hMore x c w' (L.filter fun p => left (.string p.1) && !(Lit.string p.1).sameKey (.string (bs x))) cnt' hmem ⟨_, hrg, rfl⟩ ?_ hlt ((Fr.refl [r] w).grown hgr (by intro k hk; left; cases hk; simp)) hen
    have := sizeL_strike hS left (bs x) (bs c) hlk hmem
    rw [bs_length, bs_length] at this
    exact this
theorem stopS_rg {x : Operand} (hop : o.op = .range 59 x) (h : Stop (wpList Tryz.prog ops Q (o :: rest) a w)) : wpList Tryz.prog ops Q (o :: rest) a w := h
theorem stopS_mu {x y z : Operand} (hop : o.op = .mapUpdate 59 x y z) (h : Stop (wpList Tryz.prog ops Q (o :: rest) a w)) : wpList Tryz.prog ops Q (o :: rest) a w := h
theorem stopS_de {x y : Operand} (hop : o.op = .call { callee := .builtin .delete, args := #[x, y], argTypes := #[59, 9] }) (h : Stop (wpList Tryz.prog ops Q (o :: rest) a w)) : wpList Tryz.prog ops Q (o :: rest) a w := h
theorem stopS_cl {x : Operand} (hop : o.op = .call { callee := .builtin .clear, args := #[x], argTypes := #[59] }) (h : Stop (wpList Tryz.prog ops Q (o :: rest) a w)) : wpList Tryz.prog ops Q (o :: rest) a w := h
theorem stopS_ln {x : Operand} (hop : o.op = .call { callee := .builtin .len, args := #[x], argTypes := #[59] }) (h : Stop (wpList Tryz.prog ops Q (o :: rest) a w)) : wpList Tryz.prog ops Q (o :: rest) a w := h
/-- m[k] = v. -/
theorem mu_str (hg : o.guard = none) {x y z : Operand} (hop : o.op = .mapUpdate 59 x y z) {m : Nat} {L : List KV} {s v : ByteArray} (hx : a.eval x = .map (some m)) (hy : a.eval y = .string s) (hz : a.eval z = .string v) (h : MapS w m L)
    (hn : L.length < 1000000000000000) (hs : s.size ≤ 1000000000000000) (hv : v.size ≤ 1000000000000000) (hK : ∀ w', MapS w' m (putL (bs s) (bs v) L) → Fr [m] w w' → wpList Tryz.prog ops Q rest (a.put o.dst undef) w') : wpList Tryz.prog ops Q (o :: rest) a w := by
  refine wpList_plain hg fun K' hK' => ?_
  obtain ⟨w', hrun, r1, r2⟩ := h.put hn s v hs hv
  unfold Oper.wp
  simp [execOp, hop, hx, hy, hz, hrun, Result.andThen]
  exact hK' _ _ (hK w' r1 r2)
/-- delete(m, k). -/
theorem de_str (hg : o.guard = none) {x y : Operand} (hop : o.op = .call { callee := .builtin .delete, args := #[x, y], argTypes := #[59, 9] }) {m : Nat} {L : List KV} {s : ByteArray} (hx : a.eval x = .map (some m)) (hy : a.eval y = .string s) (h : MapS w m L)
    (hs : s.size ≤ 1000000000000000) (hK : ∀ w', MapS w' m (delL (bs s) L) → Fr [m] w w' → wpList Tryz.prog ops Q rest (a.put o.dst (.tuple #[])) w') : wpList Tryz.prog ops Q (o :: rest) a w := by
  refine wpList_plain hg fun K' hK' => ?_
  obtain ⟨w', hrun, r1, r2⟩ := h.del s hs o.type
  unfold Oper.wp
  simp [execOp, hop, resolve, invoke, builtin, hx, hy, hrun, Result.andThen]
  exact hK' _ _ (hK w' r1 r2)
/-- clear(m). -/
theorem cl_str (hg : o.guard = none) {x : Operand} (hop : o.op = .call { callee := .builtin .clear, args := #[x], argTypes := #[59] }) {m : Nat} {L : List KV} (hx : a.eval x = .map (some m)) (h : MapS w m L)
    (hK : ∀ w', MapS w' m [] → Fr [m] w w' → wpList Tryz.prog ops Q rest (a.put o.dst (.tuple #[])) w') : wpList Tryz.prog ops Q (o :: rest) a w := by
  refine wpList_plain hg fun K' hK' => ?_
  obtain ⟨w', hrun, r1, r2⟩ := h.clear
  unfold Oper.wp
  simp [execOp, hop, resolve, invoke, builtin, hx, hrun, Result.andThen]
  exact hK' _ _ (hK w' r1 r2)
/-- len(m). -/
theorem ln_str (hg : o.guard = none) {x : Operand} (hop : o.op = .call { callee := .builtin .len, args := #[x], argTypes := #[59] }) {m : Nat} {L : List KV} (hx : a.eval x = .map (some m)) (h : MapS w m L)
    (hK : wpList Tryz.prog ops Q rest (a.put o.dst (.int .i64 (L.length : Int))) w) : wpList Tryz.prog ops Q (o :: rest) a w := by
  refine wpList_plain hg fun K' hK' => ?_
  unfold Oper.wp
  simp [execOp, hop, resolve, invoke, builtin, hx, h.len o.type, Result.andThen]
  exact hK' _ _ hK
end
end Go.Proofs.YtiialjncdhhceaaGreat
