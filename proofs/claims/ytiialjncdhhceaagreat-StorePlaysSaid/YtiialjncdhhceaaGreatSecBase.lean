/- Words for a disk of sectors in memory: sectors by value, the map of what is pending, the disk. No walk. -/
import Derived.Test.YtiialjncdhhceaaGreatProg
import Derived.Test.YtiialjncdhhceaaGreatBase
import Derived.Deep.WholeRow
import Derived.Maps.OwnSet
import Derived.Maps.OwnOps
import Derived.Maps.RangeWalk
import Derived.Deep.MidRow
import Derived.MapFrom
import Derived.Test.YtiialjncdhhceaaGreatTextS
namespace Go.Proofs.YtiialjncdhhceaaGreat
open Go.RowKit
open Go.Maps (Keyed has IsMap)
open Go.WideShapes Go.ChangeMaps
set_option linter.unusedVariables false

theorem RB.kept' {w w' : World} {A : Option Addr} {n : Nat} {l : List UInt8} (h : RB w A n l) {S : List Nat} (hf : Fr S w w') (hn : n ≠ 0 → ∀ a, A = some a → a.block ∉ S) : RB w' A n l := by
  rcases Nat.eq_zero_or_pos n with h0 | h0
  · subst h0
    exact ⟨h.1, h.2.1, .inl rfl⟩
  · exact h.kept hf (hn (by omega))
theorem RB.lt {w : World} {A : Option Addr} {n : Nat} {l : List UInt8} (h : RB w A n l) (hn : n ≠ 0) : ∀ a, A = some a → a.block < w.heap.size := by
  intro a ha
  rcases h.2.2 with h0 | ⟨b, off, rfl, hc⟩
  · exact absurd h0 hn
  · cases ha
    exact World.block_lt_of_cell? w ⟨b, off + 0, none⟩ (hc 0 (by rw [h.1]; omega))

/-! ### sectors -/
def secA (l : List UInt8) : Array Value := (l.map encB).toArray
/-- A sector by value. -/
def secV (l : List UInt8) : Value := .agg (secA l)
theorem encB_inj {a b : UInt8} (h : encB a = encB b) : a = b := by
  unfold encB at h
  have h2 : (a.toNat : Int) = (b.toNat : Int) := by injection h
  exact UInt8.toNat_inj.1 (by exact_mod_cast h2)
theorem map_encB_inj {l l' : List UInt8} (h : l.map encB = l'.map encB) : l = l' := (List.map_inj_right (fun a b h => encB_inj h)).1 h
theorem secV_inj {l l' : List UInt8} (h : secV l = secV l') : l = l' := by
  unfold secV secA at h
  have h2 : (l.map encB).toArray = (l'.map encB).toArray := by injection h
  exact map_encB_inj (by simpa using h2)

def secD (l : List UInt8) : DataW Unit := .lit (.string l)
open Classical in
/-- How a sector reads, as a map's element. -/
noncomputable def secR (v : Value) : Option (DataW Unit × List MemPlace) :=
  if h : ∃ l : List UInt8, l.length = 64 ∧ v = secV l then some (secD h.choose, []) else none
theorem secR_mk {l : List UInt8} (hl : l.length = 64) : secR (secV l) = some (secD l, []) := by
  unfold secR
  have h : ∃ l' : List UInt8, l'.length = 64 ∧ secV l = secV l' := ⟨l, hl, rfl⟩
  rw [dif_pos h, secV_inj h.choose_spec.2.symm]
theorem secR_inv {v : Value} {y : DataW Unit × List MemPlace} (h : secR v = some y) : ∃ l, l.length = 64 ∧ v = secV l ∧ y = (secD l, []) := by
  unfold secR at h
  split at h
  · rename_i hh
    cases h
    exact ⟨_, hh.choose_spec.1, hh.choose_spec.2, rfl⟩
  · cases h
theorem secD_inj {l l' : List UInt8} (h : secD l = secD l') : l = l' := by
  unfold secD at h
  injection h with h
  injection h
def zeros64 : List UInt8 := List.replicate 64 0
theorem zeros64_len : zeros64.length = 64 := by simp [zeros64]
theorem zeroSec : (Tryz.prog.info? 79).map (fun i => (i.zero, i.size)) = some (some (secV zeros64), 64) := by kernel_rfl
theorem secK : Keyed Tryz.prog 3 := Maps.int_keyed Tryz.underlying3

theorem wf_nat (i : Nat) (h : i < 9223372036854775808) : (Lit.int .i64 (i : Int)).wf = true := by
  simp [Lit.wf, IntKind.min, IntKind.max, IntKind.signed, IntKind.bits]
  omega
theorem keyI (i : Nat) (h : i < 9223372036854775808) : keyOf Tryz.prog 3 (.int .i64 (i : Int)) = some (.int .i64 (i : Int)) := Maps.keyOf_int_mk Tryz.underlying3 (wf_nat i h)

/-! ### what is pending -/
structure PendOf (D : DataW Unit) (pend : Nat → Option (List UInt8)) : Prop where
  isMap : IsMap D
  key : ∀ i : Nat, i < 9223372036854775808 → D.atKey (.int .i64 (i : Int)) .nil = ((pend i).map secD).getD .nil
  has : ∀ i : Nat, i < 9223372036854775808 → has D (.int .i64 (i : Int)) = (pend i).isSome
  only : ∀ kl, Maps.has D kl = true → ∃ i : Nat, i < 9223372036854775808 ∧ kl = .int .i64 (i : Int)

/-- Block m is the map of what is pending, of at most cnt entries. -/
def MapP (w : World) (m cnt : Nat) (pend : Nat → Option (List UInt8)) : Prop := ∃ D : DataW Unit, w.ownsMap Tryz.prog 3 secR m cnt D ∧ PendOf D pend

theorem ownsMap_fr {w w' : World} {m cnt : Nat} {D : DataW Unit} {S : List Nat} (h : w.ownsMap Tryz.prog 3 secR m cnt D) (hf : Fr S w w') (hm : m ∉ S) : w'.ownsMap Tryz.prog 3 secR m cnt D := by
  have hlt := h.lt
  obtain ⟨es, clock, hb, F, hs, hD⟩ := h
  exact ⟨es, clock, (hf.block m hlt hm).trans hb, F, hs, hD⟩
theorem MapP.kept {w w' : World} {m cnt : Nat} {pend : Nat → Option (List UInt8)} {S : List Nat} (h : MapP w m cnt pend) (hf : Fr S w w') (hm : m ∉ S) : MapP w' m cnt pend := by
  obtain ⟨D, h1, h2⟩ := h
  exact ⟨D, ownsMap_fr h1 hf hm, h2⟩
theorem MapP.lt {w : World} {m cnt : Nat} {pend : Nat → Option (List UInt8)} (h : MapP w m cnt pend) : m < w.heap.size := by
  obtain ⟨D, h1, h2⟩ := h
  exact h1.lt
theorem MapP.mono {w : World} {m cnt cnt' : Nat} {pend : Nat → Option (List UInt8)} (h : MapP w m cnt pend) (hc : cnt ≤ cnt') : MapP w m cnt' pend := by
  obtain ⟨D, h1, h2⟩ := h
  exact ⟨D, h1.mono hc, h2⟩
theorem pendOf_empty : PendOf (.map []) (fun _ => none) := ⟨Maps.isMap_empty, fun i _ => rfl, fun i _ => rfl, fun kl h => by simp [Maps.has] at h⟩
theorem MapP.made (w : World) : MapP (w.alloc (.map #[] 0)) w.heap.size 0 (fun _ => none) := ⟨_, World.ownsMap_made _ _ _ _, pendOf_empty⟩

theorem MapP.look (c : Bool) {w : World} {m cnt : Nat} {pend : Nat → Option (List UInt8)} (h : MapP w m cnt pend) (hlen : ∀ i l, pend i = some l → l.length = 64) (i : Nat) (hi : i < 9223372036854775808) :
    (Instr.lookup 63 (.map (some m)) (.int .i64 (i : Int)) c).run Tryz.prog w = .ok (if c then .tuple #[secV ((pend i).getD zeros64), .bool (pend i).isSome] else secV ((pend i).getD zeros64)) w := by
  obtain ⟨D, ⟨es, clock, hb, F, hs, rfl⟩, hp⟩ := h
  have hz : (zeroValue 79).run Tryz.prog w = .ok (secV zeros64) w := (zero_of_info zeroSec).1 w
  have h1 := hp.key i hi
  rcases Maps.fit_look c secK Tryz.underlying63 hz hb F (keyI i hi) with ⟨hrun, _, hat⟩ | ⟨e0, y, _, _, hrun, hRv, hat, _⟩
  · rw [hat] at h1
    have hn : pend i = none := by
      cases hpi : pend i with
      | none => rfl
      | some l => rw [hpi] at h1; simp [secD] at h1
    rw [hrun, hn]
    rfl
  · obtain ⟨l, hl, hv, rfl⟩ := secR_inv hRv
    rw [hat] at h1
    cases hpi : pend i with
    | none => rw [hpi] at h1; simp [secD] at h1
    | some l' =>
      rw [hpi] at h1
      have : l = l' := secD_inj (by simpa using h1)
      subst this
      rw [hrun, hv]
      rfl

theorem PendOf.put {D : DataW Unit} {pend : Nat → Option (List UInt8)} (h : PendOf D pend) (i : Nat) (hi : i < 9223372036854775808) (l : List UInt8) : PendOf (D.put (.int .i64 (i : Int)) (secD l)) (fun j => if j = i then some l else pend j) := by
  have hk : WideAt.IsKeyLit (.int .i64 (i : Int)) := by
    have := secK.key (keyI i hi)
    exact this
  have hne : ∀ j : Nat, j ≠ i → (Lit.int .i64 (j : Int)) ≠ .int .i64 (i : Int) := fun j hj h => hj (by injection h with _ h; omega)
  refine ⟨h.isMap.put _ _, fun j hj => ?_, fun j hj => ?_, fun kl hkl => ?_⟩
  · by_cases hji : j = i
    · subst hji
      rw [Maps.atKey_put_same h.isMap hk]
      simp
    · rw [Maps.atKey_put_other (hne j hji), h.key j hj, if_neg hji]
  · by_cases hji : j = i
    · subst hji
      rw [Maps.has_put_same h.isMap hk]
      simp
    · rw [Maps.has_put_other (hne j hji), h.has j hj, if_neg hji]
  · by_cases hki : kl = .int .i64 (i : Int)
    · exact ⟨i, hi, hki⟩
    · rw [Maps.has_put_other hki] at hkl
      exact h.only kl hkl

theorem MapP.clear {w : World} {m cnt : Nat} {pend : Nat → Option (List UInt8)} (h : MapP w m cnt pend) : ∃ w', (∀ ty, (Builtin.clear_ #[63] ty #[.map (some m)]).run Tryz.prog w = .ok (.tuple #[]) w') ∧ MapP w' m 0 (fun _ => none) ∧ Fr [m] w w' := by
  obtain ⟨D, ⟨es, clock, hb, F, hs, rfl⟩, hp⟩ := h
  have hrun : ∃ o, (∃ c, o = .map #[] c) ∧ ∀ ty, (Builtin.clear_ #[63] ty #[.map (some m)]).run Tryz.prog w = .ok (.tuple #[]) (setBlock w m o) :=
    ⟨_, ⟨_, rfl⟩, fun ty => by simp [Builtin.clear_, run_underlying Tryz.underlying63, MapKept.run_getObj_map hb, MapKept.run_setObj_map _ hb, Result.andThen, setBlock]; rfl⟩
  obtain ⟨o, ⟨c, rfl⟩, hrun⟩ := hrun
  refine ⟨setBlock w m (.map #[] c), hrun, ⟨.map [], ⟨#[], c, heap_setBlock_same hb _, ⟨by simp, MapKept.stamped_empty _, by simp⟩, Nat.le_refl _, rfl⟩, pendOf_empty⟩, ?_⟩
  exact ⟨rfl, rfl, rfl, by simp [setBlock], fun k hk hn => heap_setBlock_other hb _ (by intro e; exact hn (by simp [e]))⟩

/-! ### a sector's variable, made, written, read -/
section
variable {ops : Array Oper} {rest : List Oper} {o : Oper} {a : Act} {Q : Exit → Act → World → Prop} {w : World}
theorem secSize (l : List UInt8) (hl : l.length = 64) : (Tryz.prog.info? 79).map (·.size) = some (l.map encB).length := by
  rw [List.length_map, hl]
  exact (zero_of_info zeroSec).2
theorem secOne (l : List UInt8) : (secA l).all (·.oneCell') = true := all_oneCell_toArray (cs := l.map encB) (by
  intro v hv
  obtain ⟨x, _, rfl⟩ := List.mem_map.1 hv
  rfl)

/-- A new sector. -/
theorem al_sec (hg : o.guard = none) (hop : o.op = .alloc 79)
    (h : ∀ w1, w1.heap[w.heap.size]? = some (.cells (secA zeros64) 79 (0, 0)) → w1.heap.size = w.heap.size + 1 → Fr [] w w1 → wpList Tryz.prog ops Q rest (a.put o.dst (.pointer (some ⟨w.heap.size, 0, none⟩))) w1) : wpList Tryz.prog ops Q (o :: rest) a w := by
  refine wpList_plain hg fun K hK => ?_
  have hz := (zero_of_info zeroSec).1 w
  have hrun : (execOp a.eval o).run Tryz.prog w = .ok (.value (.pointer (some ⟨w.heap.size, 0, none⟩))) (w.alloc (.cells (secA zeros64) 79)) := by
    have he : execOp a.eval o = (Instr.alloc 79 true (.tuple #[]) >>= fun x => pure (Next.value x)) := by
      obtain ⟨d, op, ty, pos, af, gd⟩ := o
      dsimp only at hop
      subst hop
      rfl
    rw [he]
    unfold Instr.alloc
    rw [Sem.run_bind, Sem.run_bind, hz, Result.andThen_ok]
    rfl
  unfold Oper.wp
  rw [hrun]
  exact hK _ _ (h (w.alloc (.cells (secA zeros64) 79)) (MapKept.heap_alloc _ _).1 (by simp) ((Fr.refl [] w).alloc _))

theorem stop_al (hop : o.op = .alloc 79) (h : Stop (wpList Tryz.prog ops Q (o :: rest) a w)) : wpList Tryz.prog ops Q (o :: rest) a w := h
theorem stop_st {x y : Operand} (hop : o.op = .store 79 x y) (h : Stop (wpList Tryz.prog ops Q (o :: rest) a w)) : wpList Tryz.prog ops Q (o :: rest) a w := h
theorem stop_ld {x : Operand} (hop : o.op = .load 79 x) (h : Stop (wpList Tryz.prog ops Q (o :: rest) a w)) : wpList Tryz.prog ops Q (o :: rest) a w := h

theorem there_of_block {b n : Nat} {C : Array Value} {t : TypeId} (h : w.heap[b]? = some (.cells C t (0, 0))) (hn : n ≤ C.size) : w.there b 0 n := fun j hj => by
  rw [cell_of_row _ _ _ _ _ _ h, frozen_of_row _ _ _ _ _ h]
  simp
  omega
theorem range_of_block {b : Nat} {l : List Value} {t : TypeId} (h : w.heap[b]? = some (.cells l.toArray t (0, 0))) : w.rangeAt b 0 l := fun j v hv => by
  rw [cell_of_row _ _ _ _ _ _ h]
  simpa using hv
theorem secA_size (l : List UInt8) : (secA l).size = l.length := by simp [secA]
theorem fr_setCells {S : List Nat} {w0 : World} (hf : Fr S w0 w) (b o : Nat) (vs : List Value) (hb : b ∈ S ∨ w0.heap.size ≤ b) : Fr S w0 (w.setCells b o vs) := by
  have key : ∀ (vs : List Value) (o : Nat) (w : World), Fr S w0 w → Fr S w0 (w.setCells b o vs) := by
    intro vs
    induction vs with
    | nil => intro o w h; exact h
    | cons v vs ih => intro o w h; exact ih (o + 1) _ (h.setCell ⟨b, o, none⟩ hb v)
  exact key vs o w hf

/-- A sector by value into a sector's place. -/
theorem st_sec (hg : o.guard = none) {x y : Operand} (hop : o.op = .store 79 x y) (b off : Nat) (l : List UInt8) (hl : l.length = 64) (hx : a.eval x = .pointer (some ⟨b, off, none⟩)) (hy : a.eval y = secV l) (ht : w.there b off 64)
    (h : ∀ w1, w1 = w.setCells b off (l.map encB) → w1.rangeAt b off (l.map encB) → Fr [b] w w1 → wpList Tryz.prog ops Q rest (a.put o.dst undef) w1) : wpList Tryz.prog ops Q (o :: rest) a w := by
  refine wpList_store_mid hg 79 x y hop b off (secA l) hx hy (by rw [secA_size, hl]; exact ht) (by rw [secA_size, hl]; exact (zero_of_info zeroSec).2) (secOne l) ?_
  have : (secA l).toList = l.map encB := by simp [secA]
  rw [this]
  exact h _ rfl (World.rangeAt_setCells_same w b off _ (by rw [List.length_map, hl]; exact ht)) (fr_setCells (Fr.refl _ _) b off _ (.inl (by simp)))
/-- A sector by value out of a sector's place. -/
theorem ld_sec (hg : o.guard = none) {x : Operand} (hop : o.op = .load 79 x) (b off : Nat) (l : List UInt8) (hl : l.length = 64) (hx : a.eval x = .pointer (some ⟨b, off, none⟩)) (hr : w.rangeAt b off (l.map encB))
    (h : wpList Tryz.prog ops Q rest (a.put o.dst (secV l)) w) : wpList Tryz.prog ops Q (o :: rest) a w :=
  wpList_load_mid hg 79 x hop b off hx (l.map encB) (.array 64 5) hr Tryz.underlying79 rfl (secSize l hl) h
/-- A sector handed back. -/
theorem ret_sec {fn : Func} {p : Tmp} {R : Ending → World → Prop} (h : fn.results = #[.cell p 79]) (b : Nat) (l : List UInt8) (hl : l.length = 64) (hp : a.tmps.getD p undef = .pointer (some ⟨b, 0, none⟩)) (hr : w.rangeAt b 0 (l.map encB)) (hd : a.defers = [])
    (hR : R (.returned (secV l)) w) : bodyPost Tryz.prog fn R .ret a w := by
  refine bodyPost_ret ?_ hd hR
  have hp' : a.tmps[p]?.getD undef = .pointer (some ⟨b, 0, none⟩) := by simpa using hp
  have := run_loadVar_mid (P := Tryz.prog) w b 0 79 (l.map encB) (.array 64 5) hr Tryz.underlying79 rfl (secSize l hl)
  simp [results, h, hp', asAddr, this]
  rfl
theorem infoSec : (Tryz.prog.info? 79).map (fun i => (i.zero, i.size, i.bytes)) = some (some (secV zeros64), 64, 64) := by kernel_rfl

theorem made_get (n j : Nat) (hj : j < n * 64) : (madeCells (secA zeros64) (n * 64))[j]? = some (encB 0) := by
  unfold madeCells
  have h64 : (secA zeros64).size = 64 := by rw [secA_size, zeros64_len]
  rw [Array.getElem?_map, Array.getElem?_range, if_pos hj, Option.map_some, h64]
  have hlt : j % 64 < 64 := Nat.mod_lt _ (by omega)
  congr 1
  generalize j % 64 = q at *
  have : (secA zeros64) = Array.replicate 64 (encB 0) := by
    unfold secA zeros64
    rw [List.map_replicate, List.toArray_replicate]
  rw [this, getElem!_pos _ _ (by simpa using hlt)]
  simp

/-- 'make([]sector, n)'. -/
theorem make_sec (w : World) (n : Nat) (hn : n ≤ 1000) : ∃ w1, (∀ V : Int, V = (n : Int) → (Instr.makeSlice 62 (.int .i64 V) (.int .i64 V)).run Tryz.prog w = .ok (.slice (some ⟨w.heap.size, 0, none⟩) n n) w1) ∧
    (∀ i, i < n → w1.rangeAt w.heap.size (i * 64) (zeros64.map encB)) ∧ w1.there w.heap.size 0 (n * 64) ∧ w1.heap.size = w.heap.size + 1 ∧ Fr [] w w1 := by
  obtain ⟨i0, hi, hz0, hz1, hz2⟩ := info_parts infoSec
  have hmk := run_make (P := Tryz.prog) w 62 79 i0 (secV zeros64) Tryz.underlying62 hi hz0 .i64 .i64 (n : Int) (n : Int) (by omega) (Int.le_refl _) (by rw [hz2]; omega) (by omega)
  rw [hz1, Int.toNat_natCast] at hmk
  have hb : (w.alloc (.cells (madeCells (secA zeros64) (n * 64)) 79)).heap[w.heap.size]? = some (.cells (madeCells (secA zeros64) (n * 64)) 79 (0, 0)) := (MapKept.heap_alloc _ _).1
  refine ⟨w.alloc (.cells (madeCells (secA zeros64) (n * 64)) 79), ?_, ?_, ?_, by simp, (Fr.refl [] w).alloc _⟩
  · rintro V rfl
    exact hmk
  · intro i hi j v hv
    rw [cell_of_row _ _ _ _ _ _ hb]
    have hj : j < 64 := by
      have := (List.getElem?_eq_some_iff.1 hv).1
      simpa [zeros64] using this
    rw [made_get n (i * 64 + j) (by omega)]
    rw [← hv]
    unfold zeros64
    rw [List.map_replicate, List.getElem?_replicate, if_pos hj]
  · exact there_of_block hb (by rw [size_madeCells]; exact Nat.le_refl _)
theorem stop_mu {m x v : Operand} (hop : o.op = .mapUpdate 63 m x v) (h : Stop (wpList Tryz.prog ops Q (o :: rest) a w)) : wpList Tryz.prog ops Q (o :: rest) a w := h
theorem infoByte0 : (Tryz.prog.info? 5).map (·.size) = some 1 := by kernel_rfl

/-- 'copy(x, b)': as many bytes as there is room for. -/
theorem copy_b (b o dLen dCap : Nat) {A : Option Addr} {n c : Nat} {l : List UInt8} (ht : w.there b o dLen) (hr : RB w A n l) : ∀ ty, (Builtin.copy_ #[30, 30] ty #[.slice (some ⟨b, o, none⟩) dLen dCap, .slice A n c]).run Tryz.prog w = .ok (goInt ((min n dLen : Nat) : Int)) (w.setCells b o ((l.take dLen).map encB)) := by
  intro ty
  obtain ⟨hl, hm, hc⟩ := hr
  have hlen : ((l.take dLen).map encB).length = min n dLen := by rw [List.length_map, List.length_take, hl, Nat.min_comm]
  rcases Nat.eq_zero_or_pos (min n dLen) with h0 | h0
  · have := run_copy_none (P := Tryz.prog) w 30 30 ty 5 (some ⟨b, o, none⟩) A dLen dCap n c Tryz.underlying30 infoByte0 h0
    have hnil : (l.take dLen).map encB = [] := List.eq_nil_of_length_eq_zero (by rw [hlen, h0])
    rw [hnil, h0]
    exact this
  · rcases hc with hc | ⟨sb, so, rfl, hc⟩
    · omega
    · have := run_copy_cells (P := Tryz.prog) w 30 30 ty 5 b o dLen dCap ⟨sb, so, none⟩ n c ((l.take dLen).map encB) Tryz.underlying30 infoByte0 hlen (fun j v hv => by
        have hj : j < l.length := by
          have := (List.getElem?_eq_some_iff.1 hv).1
          rw [hlen] at this
          omega
        have hj2 : j < dLen := by
          have := (List.getElem?_eq_some_iff.1 hv).1
          rw [hlen] at this
          omega
        rw [Addr.add_mid, hc j hj]
        rw [List.getElem?_map, List.getElem?_take, if_pos hj2, List.getElem?_eq_getElem hj] at hv
        exact hv) (fun j hj => (ht j (by rw [hlen] at hj; omega)).1) (fun j hj => (ht j (by rw [hlen] at hj; omega)).2) (fun v hv => by
          obtain ⟨x, _, rfl⟩ := List.mem_map.1 hv
          rfl)
      rw [this, hlen]

/-- Bytes laid over the head of others. -/
theorem range_head {b o : Nat} {old l : List UInt8} (hr : w.rangeAt b o (old.map encB)) (hl : l.length ≤ old.length) : (w.setCells b o (l.map encB)).rangeAt b o ((l ++ old.drop l.length).map encB) := fun j v hv => by
  rw [List.getElem?_map] at hv
  rcases Nat.lt_or_ge j l.length with hj | hj
  · rw [World.cell?_setCells_in b _ o w (fun i hi => hr.isSome i (by rw [List.length_map] at hi ⊢; omega)) j (by rw [List.length_map]; exact hj), ← hv, List.getElem?_append_left hj, List.getElem?_eq_getElem hj, List.getElem_map]
    rfl
  · rw [World.cell?_setCells_out b _ o w _ (fun _ _ => by right; rw [List.length_map]; show o + l.length ≤ o + j; omega)]
    refine hr j v ?_
    rw [List.getElem?_map, ← hv, List.getElem?_append_right hj, List.getElem?_drop]
    congr 2
    omega
/-- A sector's variable read as a slice. -/
theorem rb_of_range {b o : Nat} {l : List UInt8} {n : Nat} (hr : w.rangeAt b o (l.map encB)) (hl : l.length = n) (hn : n ≤ 9223372036854775807) : RB w (some ⟨b, o, none⟩) n l := by
  refine ⟨hl, hn, .inr ⟨b, o, rfl, fun j hj => hr j _ ?_⟩⟩
  rw [List.getElem?_map, List.getElem?_eq_getElem hj]
  rfl
/-- 'pending[i] = s'. -/
theorem mu_sec (hg : o.guard = none) {mo x v : Operand} (hop : o.op = .mapUpdate 63 mo x v) {m cnt : Nat} {pend : Nat → Option (List UInt8)} (hmp : MapP w m cnt pend) (hcnt : cnt < maxLen) (i : Nat) (hi : i < 9223372036854775808) (l : List UInt8) (hl : l.length = 64)
    (hm : a.eval mo = .map (some m)) (hx : a.eval x = .int .i64 (i : Int)) (hv : a.eval v = secV l)
    (h : ∀ w1, MapP w1 m (cnt + 1) (fun j => if j = i then some l else pend j) → Fr [m] w w1 → wpList Tryz.prog ops Q rest (a.put o.dst undef) w1) : wpList Tryz.prog ops Q (o :: rest) a w := by
  obtain ⟨D, hown, hp⟩ := hmp
  refine wpList_mapUpdate_own _ hg mo x v 63 hop 3 79 secK Tryz.underlying63 secR m cnt D hm hown hcnt _ _ _ hx hv (keyI i hi) (secD l) [] (secR_mk hl) ?_
  intro w1 hown1 hgrow
  exact h w1 ⟨_, hown1, hp.put i hi l⟩ ((Fr.refl [m] w).grown hgrow (by intro k hk; injection hk with hk; left; simp [hk]))
theorem grown_fr {w1 : World} {row : Option Nat} (h : w.grownBy w1 row) : Fr row.toList w w1 := (Fr.refl _ w).grown h (by intro k hk; left; simp [hk])
theorem fr_grown {w1 : World} (h : Fr [] w w1) (row : Option Nat) : w.grownBy w1 row := h.grownBy row (by simp)

/-- One more of what is pending, or none. -/
theorem nx_sec (hg : o.guard = none) (it : Operand) (hop : o.op = .next it false) {m r cnt : Nat} {D : DataW Unit} {pend : Nat → Option (List UInt8)} {left : Lit → Bool} {c : Nat} (hp : PendOf D pend) (hrg : w.ranges Tryz.prog 3 secR m r cnt D left c)
    (hit : a.eval it = .pointer (some ⟨r, 0, none⟩)) (hDone : (∀ kl, left kl = false) → wpList Tryz.prog ops Q rest (a.put o.dst (.tuple #[.bool false])) w)
    (hMore : ∀ (i : Nat) (l : List UInt8) (w1 : World) (c' : Nat), i < 9223372036854775808 → pend i = some l → l.length = 64 → left (.int .i64 (i : Int)) = true → w1.ranges Tryz.prog 3 secR m r cnt D (fun z => left z && !z.sameKey (.int .i64 (i : Int))) c' → c' < c → Fr [r] w w1 →
      (Instr.entry (.pointer (some ⟨r, 0, none⟩))).run Tryz.prog w1 = .ok (.tuple #[.int .i64 (i : Int), secV l]) w1 → wpList Tryz.prog ops Q rest (a.put o.dst (.tuple #[.bool true, .int .i64 (i : Int), secV l])) w1) : wpList Tryz.prog ops Q (o :: rest) a w := by
  refine wpList_next_ranges w hg it hop 3 secK secR (Value.int .i64) secV (fun key kl hk => ?_) (fun v y hv => ?_) m r cnt D left c hit hrg (fun _ h => hDone h) ?_
  · obtain ⟨x, rfl, _⟩ := Maps.keyOf_int_inv Tryz.underlying3 hk
    exact ⟨x, rfl⟩
  · obtain ⟨l, _, rfl, _⟩ := secR_inv hv
    exact ⟨l, rfl⟩
  · intro x l kl y w1 c' hk hlk hv hat hrg1 hlt hgr hsz hen
    obtain ⟨x', e1, rfl, hwf⟩ := Maps.keyOf_int_inv Tryz.underlying3 hk
    injection e1 with _ e1
    subst e1
    obtain ⟨l', hl', e2, rfl⟩ := secR_inv hv
    have := secV_inj e2
    subst this
    obtain ⟨i, hi, e3⟩ := hp.only _ (Maps.has_true_of_atKey hat)
    injection e3 with _ e3
    subst e3
    have hpi : pend i = some l := by
      have h1 := hp.key i hi
      rw [hat] at h1
      cases hq : pend i with
      | none => rw [hq] at h1; simp [secD] at h1
      | some l2 =>
        rw [hq] at h1
        have : l = l2 := secD_inj (by simpa using h1)
        rw [this]
    exact hMore i l w1 c' hi hpi hl' hlk hrg1 hlt (grown_fr hgr) hen

/-- 'range pending'. -/
theorem rg_sec (hg : o.guard = none) {mo : Operand} (hop : o.op = .range 63 mo) {m cnt : Nat} {pend : Nat → Option (List UInt8)} (hmp : MapP w m cnt pend) (hm : a.eval mo = .map (some m))
    (h : ∀ (D : DataW Unit) (w1 : World), PendOf D pend → w1.ranges Tryz.prog 3 secR m w.heap.size cnt D (Maps.has D) (Maps.size D) → Fr [] w w1 → w1.heap.size = w.heap.size + 1 → wpList Tryz.prog ops Q rest (a.put o.dst (.pointer (some ⟨w.heap.size, 0, none⟩))) w1) : wpList Tryz.prog ops Q (o :: rest) a w := by
  obtain ⟨D, hown, hp⟩ := hmp
  exact wpList_range_own w hg mo 63 hop 3 79 secK Tryz.underlying63 secR m cnt D hm hown fun w1 h1 h2 h3 => h D w1 hp h1 (grown_fr h2) h3
theorem stop_rg {mo : Operand} (hop : o.op = .range 63 mo) (h : Stop (wpList Tryz.prog ops Q (o :: rest) a w)) : wpList Tryz.prog ops Q (o :: rest) a w := h
theorem stop_nx {it : Operand} (hop : o.op = .next it false) (h : Stop (wpList Tryz.prog ops Q (o :: rest) a w)) : wpList Tryz.prog ops Q (o :: rest) a w := h
theorem ranges_fr {w1 : World} {m r cnt : Nat} {D : DataW Unit} {left : Lit → Bool} {c : Nat} {S : List Nat} (h : w.ranges Tryz.prog 3 secR m r cnt D left c) (hf : Fr S w w1) (h1 : m ∉ S) (h2 : r ∉ S) : w1.ranges Tryz.prog 3 secR m r cnt D left c := by
  have l1 := h.owns.lt
  have l2 := h.lt
  obtain ⟨es, clock, since, seen, c0, hb, F, hs, hD, hr, rest⟩ := h
  exact ⟨es, clock, since, seen, c0, (hf.block m l1 h1).trans hb, F, hs, hD, (hf.block r l2 h2).trans hr, rest⟩
theorem there_sub {b o n N : Nat} (h : w.there b 0 N) (ho : o + n ≤ N) : w.there b o n := fun j hj => by
  have := h (o + j) (by omega)
  rwa [Nat.zero_add] at this
end
end Go.Proofs.YtiialjncdhhceaaGreat
