/- What follows is 5 texts, one behind the other: Open, OpenArr, JrnReplaceNo, JrnLaw, JrnLaw2. -/
import Derived.Test.YtiialjncdhhceaaGreatBase
import Derived.ProofKit
import Derived.OpenShut
import Derived.ShutString
import Derived.ChangeOld
import Derived.Below
import Derived.ChangeArms
import Derived.Test.YtiialjncdhhceaaGreatRunKnown14
import Derived.Deep.Strs
import Derived.SizedLaws
/- Arguments as they come in, in the words of this seat's walks. -/
namespace Go.Proofs.YtiialjncdhhceaaGreat
open Go.ChangeShapes Go.WideShapes Go.ChangeAt Go.RowKit
open Go.ChangeMaps (open_string shut_string)
set_option linter.unusedVariables false

/-- A slice of n whole numbers reads as l. -/
def RN (w : World) (k : IntKind) (A : Option Addr) (n : Nat) (l : List Int) : Prop :=
  l.length = n ∧ n ≤ 9223372036854775807 ∧ (∀ x ∈ l, (Lit.int k x).wf = true) ∧ (n = 0 ∨ ∃ b off, A = some ⟨b, off, none⟩ ∧ ∀ j (h : j < l.length), w.cell? ⟨b, off + j, none⟩ = some (.int k l[j]))

theorem RN.below {w w' : World} {k : IntKind} {A : Option Addr} {n : Nat} {l : List Int} (h : RN w k A n l) (hb : Below w.heap.size w w') : RN w' k A n l := by
  obtain ⟨h1, h2, h3, h4⟩ := h
  refine ⟨h1, h2, h3, ?_⟩
  rcases h4 with h4 | ⟨b, off, rfl, hc⟩
  · exact .inl h4
  · exact .inr ⟨b, off, rfl, fun j hj => (fr_of_below hb).cell (hc j hj) (by simp)⟩

theorem open_nums {H : Type} {enc : TypeId × Value → H} {P : Program} {W : World} {a0 : Option Addr} {len cap : Nat} {d : DataW H} {p : List MemPlace} {t e : TypeId} {k : IntKind}
    (ht : P.underlying t = some (.slice e)) (he : P.underlying e = some (.int k)) (hc : P.cellsOf e = 1)
    (h : DataW.Trod enc P W 0 (fun _ => true) true t (.slice a0 len cap) d p) : ∃ l, RN W k a0 len l ∧ len ≤ cap := by
  obtain ⟨fuel, hf⟩ := h
  rcases open_ints ht he hc hf with ⟨hcs, _⟩ | ⟨x, l, c, zs, hcs, _, hl, hm, hz, _, hcell, hwz⟩
  · simp [Value.cells] at hcs
    obtain ⟨rfl, rfl, rfl⟩ := hcs
    exact ⟨[], ⟨rfl, by omega, by simp, .inl rfl⟩, Nat.le_refl _⟩
  · simp [Value.cells] at hcs
    obtain ⟨rfl, rfl, rfl⟩ := hcs
    have hz' : zs.length = cap := by simpa using hz
    refine ⟨zs.take len, ⟨by rw [List.length_take]; omega, by simp only [maxLen] at hm; omega, fun y hy => hwz y (List.mem_of_mem_take hy), ?_⟩, hl⟩
    rcases Nat.eq_zero_or_pos len with h0 | h0
    · exact .inl h0
    · obtain ⟨b, off, sp⟩ := x
      have hc0 := hcell 0 (by omega)
      have hsp : sp = none := by simpa [Addr.add] using World.cell?_spot hc0
      subst hsp
      refine .inr ⟨b, off, rfl, fun j hj => ?_⟩
      rw [List.length_take] at hj
      have hcj := hcell j (by omega)
      rw [Addr.add_lit] at hcj
      rw [hcj, List.getElem_take, List.getD_eq_getElem?_getD, List.getElem?_eq_getElem (by omega)]
      rfl

theorem rb_of_rn {W : World} {A : Option Addr} {n : Nat} {l : List Int} (h : RN W .u8 A n l) : RB W A n (l.map fun x => UInt8.ofNat x.toNat) := by
  obtain ⟨h1, h2, h3, h4⟩ := h
  refine ⟨by simpa using h1, h2, ?_⟩
  rcases h4 with h4 | ⟨b, off, rfl, hc⟩
  · exact .inl h4
  · refine .inr ⟨b, off, rfl, fun j hj => ?_⟩
    have hj' : j < l.length := by simpa using hj
    rw [hc j hj']
    have hw := h3 l[j] (List.getElem_mem hj')
    have hx : 0 ≤ l[j] ∧ l[j] ≤ 255 := by simpa [Lit.wf, IntKind.min, IntKind.max, IntKind.signed, IntKind.bits] using hw
    rw [List.getElem_map, UInt8.toNat_ofNat']
    congr 2
    omega

theorem open_bytes {H : Type} {enc : TypeId × Value → H} {P : Program} {W : World} {a0 : Option Addr} {len cap : Nat} {d : DataW H} {p : List MemPlace} {t e : TypeId}
    (ht : P.underlying t = some (.slice e)) (he : P.underlying e = some (.int .u8)) (hc : P.cellsOf e = 1)
    (h : DataW.Trod enc P W 0 (fun _ => true) true t (.slice a0 len cap) d p) : ∃ l, RB W a0 len l ∧ len ≤ cap := by
  obtain ⟨l, hr, hl⟩ := open_nums ht he hc h
  exact ⟨_, rb_of_rn hr, hl⟩
end Go.Proofs.YtiialjncdhhceaaGreat

/- Array arguments of bytes and of bools as they come in. -/
namespace Go.Proofs.YtiialjncdhhceaaGreat
open Go.ChangeShapes Go.WideShapes Go.ChangeAt Go.RowKit
set_option linter.unusedVariables false

theorem list_of_all {α : Type} (f : α → Value) : ∀ (cs : List Value), (∀ v ∈ cs, ∃ a, v = f a) → ∃ l : List α, cs = l.map f := by
  intro cs
  induction cs with
  | nil => exact fun _ => ⟨[], rfl⟩
  | cons c cs ih =>
    intro h
    obtain ⟨a, rfl⟩ := h c (by simp)
    obtain ⟨l, rfl⟩ := ih (fun v hv => h v (by simp [hv]))
    exact ⟨a :: l, rfl⟩

section
variable {H : Type} {enc : TypeId × Value → H} {P : Program} {W : World} {v : Value} {d : DataW H} {p : List MemPlace} {t e : TypeId} {n : Nat}
theorem okWide_arr (ht : P.underlying t = some (.array n e)) (h : Value.okWide P W .any 0 t v) : ∃ cs, v = .agg cs ∧ cs.size = P.cellsOf t := by
  simp only [Value.okWide, ht] at h
  obtain ⟨cs, h1, h2, _⟩ := h
  exact ⟨cs, h1, h2⟩
theorem arr_each (ht : P.underlying t = some (.array n e)) (hc : P.cellsOf e = 1) (hn : P.cellsOf t = n) {cs : Array Value} (h : DataW.Trod enc P W 0 (fun _ => true) true t (.agg cs) d p) :
    cs.toList.length = n ∧ ∀ v ∈ cs.toList, ∃ m y, DataW.trod enc P W 0 (fun _ => true) true m e [v] = some y := by
  obtain ⟨fuel, hf⟩ := h
  obtain ⟨xs, m, _, _, hl, hxl, hx⟩ := DataW.trod_array ht hf
  have hl2 : cs.toList.length = n := by rw [← hn]; exact hl
  refine ⟨hl2, fun v hv => ?_⟩
  obtain ⟨i, hi, rfl⟩ := List.getElem_of_mem hv
  have := hx i (by omega)
  rw [hc, Nat.mul_one, List.getElem?_eq_getElem (by omega)] at this
  have e1 : (((Value.agg cs).cells.toList).drop i).take 1 = [cs.toList[i]] := by
    show (cs.toList.drop i).take 1 = _
    rw [List.drop_eq_getElem_cons hi]
    rfl
  rw [e1] at this
  exact ⟨_, _, this⟩
theorem open_bytes_arr (ht : P.underlying t = some (.array n e)) (he : P.underlying e = some (.int .u8)) (hc : P.cellsOf e = 1) (hn : P.cellsOf t = n) (hval : Value.okWide P W .any 0 t v) (h : DataW.Trod enc P W 0 (fun _ => true) true t v d p) :
    ∃ l : List UInt8, v = .agg (l.map encB).toArray ∧ l.length = n := by
  obtain ⟨cs, rfl, _⟩ := okWide_arr ht hval
  obtain ⟨hl, hx⟩ := arr_each ht hc hn h
  obtain ⟨l, hcs⟩ := list_of_all encB cs.toList (fun v hv => by
    obtain ⟨m, y, hy⟩ := hx v hv
    obtain ⟨x, h1, _, hw⟩ := DataW.trod_int he hy
    injection h1 with h1 _
    subst h1
    have hx : 0 ≤ x ∧ x ≤ 255 := by simpa [Lit.wf, IntKind.min, IntKind.max, IntKind.signed, IntKind.bits] using hw
    refine ⟨UInt8.ofNat x.toNat, ?_⟩
    unfold encB
    rw [UInt8.toNat_ofNat']
    congr 1
    omega)
  refine ⟨l, ?_, by rw [hcs] at hl; simpa using hl⟩
  rw [← hcs]
theorem open_bools_arr (ht : P.underlying t = some (.array n e)) (he : P.underlying e = some .bool) (hc : P.cellsOf e = 1) (hn : P.cellsOf t = n) (hval : Value.okWide P W .any 0 t v) (h : DataW.Trod enc P W 0 (fun _ => true) true t v d p) :
    ∃ l : List Bool, v = .agg (l.map Value.bool).toArray ∧ l.length = n := by
  obtain ⟨cs, rfl, _⟩ := okWide_arr ht hval
  obtain ⟨hl, hx⟩ := arr_each ht hc hn h
  obtain ⟨l, hcs⟩ := list_of_all Value.bool cs.toList (fun v hv => by
    obtain ⟨m, y, hy⟩ := hx v hv
    obtain ⟨x, h1, _⟩ := DataW.trod_bool he hy
    injection h1 with h1 _
    exact ⟨x, h1⟩)
  refine ⟨l, ?_, by rw [hcs] at hl; simpa using hl⟩
  rw [← hcs]
end
end Go.Proofs.YtiialjncdhhceaaGreat

/- The journal's Replace by a record that is too long. -/
namespace Go.Proofs.YtiialjncdhhceaaGreat
open Go.RowKit
set_option linter.unusedVariables false
set_option linter.unusedSimpArgs false

set_option maxHeartbeats 4000000 in
set_option maxRecDepth 100000 in
theorem Replace_long (B j d k m hd ar : Nat) (recs : List ByteArray) (Al : Option Addr) (nl cl : Nat) (l : List ByteArray) (s : DSt) (w : World) (hJ : IsJ w B j d k m hd ar recs) (hD : IsDisk w d k m s)
    (hRl : RSs w Al nl l) (hpos : 0 < nl) (hsz : 20000 < (l[0]'(by rw [hRl.1]; exact hpos)).size) :
    Calls Tryz.prog 40 #[.pointer (some ⟨j, 0, none⟩), .slice Al nl cl] w fun e w' => e = .returned (.int .i64 10) ∧ Fr [] w w' := by
  obtain ⟨A, n, c, C, nc, cc, hblk, hRB, hnc, hOS, hA, hC⟩ := hJ.ex
  have hap := hJ.apart
  have hlo := hJ.lo
  have hll := hRl.1
  have hnle := hD.ok.n_le
  have hlts0 := hD.lts
  have hL1 : arL s.n ≤ 500 := by unfold arL; omega
  obtain ⟨L, hL⟩ : ∃ L, arL s.n = L := ⟨_, rfl⟩
  rw [hL] at hL1
  replace hL := hid hL
  go_enter_defers Tryz.func40, Tryz.ntmps40
  go_wp2_with fail
  have hjl : j < w.heap.size := (Array.getElem?_eq_some_iff.1 hblk).1
  have hf1 : Fr [] w (w.alloc (.cells #[.int .i64 0] 24)) := (Fr.refl [] w).alloc _
  have he1 : (w.alloc (.cells #[.int .i64 0] 24)).heap[w.heap.size]? = some (.cells #[.int .i64 0] 24 (0, 0)) := heap_alloc_new _ _
  have hz1 : (w.alloc (.cells #[.int .i64 0] 24)).heap.size = w.heap.size + 1 := by simp
  generalize w.alloc (.cells #[.int .i64 0] 24) = w1 at *
  have hblk1 := (hf1.block j hjl (by simp)).trans hblk
  have hD1 := hD.fr hf1
  have hOS1 := hOS.kept hf1 (by simp)
  have hRl1 := hRl.fr hf1
  have c5 : w1.cell? ⟨j, 5, none⟩ = some (.bool false) := cell_of_row _ _ 5 _ _ _ hblk1
  have j0 : w1.cell? ⟨j, 0, none⟩ = some (.pointer (some ⟨d, 0, none⟩)) := cell_of_row _ _ 0 _ _ _ hblk1
  refine (ready_c j w1 c5).mono ?_
  rintro e w2 ⟨rfl, rfl⟩
  go_wp2_with fail
  refine (space_c j d k m s w2 j0 hD1).mono ?_
  rw [hL.out]
  rintro e w3 ⟨rfl, rfl⟩
  clear c5 j0
  go_wp2_with fail
  obtain ⟨bl, off, rfl, hc⟩ := str_cell hRl1 0 hpos
  have hleI : (20000 : Int) < ((l[0]'(by omega)).size : Int) := by omega
  have hposI : (0 : Int) < (nl : Int) := by omega
  rw [Nat.add_zero] at hc
  have ez0 : w3.cell? ⟨w.heap.size, 0, none⟩ = some (.int .i64 0) := cell_of_row _ _ 0 _ _ _ he1
  have ezz : w3.frozen? ⟨w.heap.size, 0, none⟩ = false := frozen_of_row _ _ 0 _ _ he1
  have e12 := heap_setCell_same _ w.heap.size 0 _ _ (.int .i64 10) he1
  have r12 : (w3.setCell ⟨w.heap.size, 0, none⟩ (.int .i64 10)).cell? ⟨w.heap.size, 0, none⟩ = some (.int .i64 10) := cell_of_row _ _ 0 _ _ _ e12
  replace r12 := hid r12
  clear e12
  go_loopw [18] (fun iv wr => iv = .int .i64 0 ∧ wr = w3) (fun iv _ => 0)
  case atStart => exact ⟨rfl, rfl⟩
  case round =>
    obtain ⟨rfl, rfl⟩ := hrel
    go_wp2_with fail
    refine leaves_cons (f := 42) (args := #[.pointer (some ⟨j, 0, none⟩), .pointer (some ⟨w.heap.size, 0, none⟩)]) (by simp) (by simp [go_sem]) ?_
    refine (caught_idle j w.heap.size _).mono ?_
    rintro e u' w'' ⟨rfl, rfl, rfl⟩
    refine ⟨.int .i64 10, ?_, rfl, hf1.setCell _ (.inr (Nat.le_refl _)) _⟩
    have := r12.out
    simp [results, Tryz.results40, go_sem, this]
end Go.Proofs.YtiialjncdhhceaaGreat

/- The journal laws' own helpers: weight, texts; a slice of strings that comes in. -/
namespace Go.Proofs.YtiialjncdhhceaaGreat
open Go.RowKit
set_option linter.unusedVariables false
set_option linter.unusedSimpArgs false

theorem weightL_lim (B : Nat) (l : List ByteArray) (hsz : ∀ r ∈ l, r.size ≤ B) (i : Nat) : weightL (l.take i) ≤ i * (B + 16) := by
  induction i with
  | zero => exact Nat.le_of_eq (by simp [weightL])
  | succ i ih =>
    rw [Nat.succ_mul]
    by_cases hi : i < l.length
    · rw [weightL_take l i hi]
      have := hsz l[i] (List.getElem_mem hi)
      omega
    · rw [List.take_of_length_le (by omega)] at ih ⊢
      omega

/-- A slice of strings that comes in: it reads as a list of them, each within the form's reach. -/
theorem weightsAll_mem {H : Type} {P : Program} {e : TypeId} {L : List (DataW H)} {d : DataW H} (hd : d ∈ L) {n : Nat} (hn : n ∈ d.weights P e) : n ∈ DataW.weightsAll P e L := by
  induction L with
  | nil => cases hd
  | cons x L ih =>
    simp only [DataW.weightsAll, List.mem_append]
    rcases List.mem_cons.1 hd with rfl | h
    · exact .inl hn
    · exact .inr (ih h)
theorem open_strs_rs {H : Type} {enc : TypeId × Value → H} {P : Program} {W : World} {a0 : Option Addr} {len cap : Nat} {d : DataW H} {p : List MemPlace} {t e : TypeId}
    (ht : P.underlying t = some (.slice e)) (he : P.underlying e = some .string) (hc : P.cellsOf e = 1)
    (h : DataW.Trod enc P W 0 (fun _ => true) true t (.slice a0 len cap) d p) (hz : ∀ x ∈ d.weights P t, x ≤ reachBytes) : ∃ l, RSs W a0 len l ∧ (len ≤ cap ∧ ∀ r ∈ l, r.size ≤ 281474976710656) := by
  obtain ⟨fuel, hf⟩ := h
  rcases Go.Deep.open_strs ht he hc hf with ⟨hcs, _⟩ | ⟨a, len', cap', m, Sx, hcs, _, hl, hm, hmm, hx, hcell⟩
  · simp [Value.cells] at hcs
    obtain ⟨rfl, rfl, rfl⟩ := hcs
    exact ⟨[], RSs.nil _ _, Nat.le_refl _, by simp⟩
  · simp [Value.cells] at hcs
    obtain ⟨rfl, rfl, rfl⟩ := hcs
    simp only [if_true] at hmm
    subst hmm
    obtain ⟨rfl, _⟩ := Prod.mk.inj hx
    refine ⟨(List.range len).map Sx, ⟨by simp, by simp only [maxLen] at hm; omega, ?_⟩, hl, ?_⟩
    · rcases Nat.eq_zero_or_pos len with h0 | h0
      · exact .inl h0
      · obtain ⟨b, off, sp⟩ := a
        have hc0 := (hcell 0 (by omega)).1
        have hsp : sp = none := by simpa [Addr.add] using World.cell?_spot hc0
        subst hsp
        refine .inr ⟨b, off, rfl, fun j hj => ?_⟩
        have hj' : j < len := by simpa using hj
        have hcj := (hcell j (by omega)).1
        rw [Addr.add_lit] at hcj
        rw [hcj]
        simp
    · intro r hr
      obtain ⟨i, hi, rfl⟩ := List.mem_map.1 hr
      have h1 := hz (Sx i).data.toList.length (by
        simp only [DataW.weights, ht, List.mem_cons, List.mem_append]
        exact .inr (.inl (weightsAll_mem (d := .lit (.string (Sx i).data.toList)) (List.mem_map.2 ⟨i, hi, rfl⟩) (by simp [DataW.weights]))))
      have h2 := reachBytes_lt
      rw [Array.length_toList] at h1
      have h3 : (Sx i).size = (Sx i).data.size := rfl
      omega
end Go.Proofs.YtiialjncdhhceaaGreat

/- More helpers of the journal laws: parts of slices of strings; two of them compared. -/
namespace Go.Proofs.YtiialjncdhhceaaGreat
open Go.RowKit
set_option linter.unusedVariables false
set_option linter.unusedSimpArgs false

theorem RSs.take {w : World} {A : Option Addr} {n : Nat} {l : List ByteArray} (h : RSs w A n l) (k : Nat) (hk : k ≤ n) : RSs w A k (l.take k) := by
  obtain ⟨h1, h2, h3⟩ := h
  refine ⟨by rw [List.length_take]; omega, by omega, ?_⟩
  rcases h3 with h3 | ⟨b, off, rfl, hc⟩
  · exact .inl (by omega)
  · refine .inr ⟨b, off, rfl, fun j hj => ?_⟩
    rw [List.length_take] at hj
    rw [hc j (by omega), List.getElem_take]
theorem size_of_weight {l : List ByteArray} {N : Nat} (h : weightL l ≤ N) : ∀ r ∈ l, r.size ≤ N := by
  induction l with
  | nil => simp
  | cons x l ih =>
    simp only [weightL] at h
    intro r hr
    rcases List.mem_cons.1 hr with rfl | hr
    · omega
    · exact ih (by omega) r hr
theorem RB.keptN {w w' : World} {A : Option Addr} {n : Nat} {l : List UInt8} (h : RB w A n l) (hb : Below w.heap.size w w') : RB w' A n l := h.kept (fr_of_below hb) (by simp)

theorem str_ne {a b : ByteArray} (h : a ≠ b) : (a.toList == b.toList) = false := by
  rw [ByteArray.toList_eq, ByteArray.toList_eq]
  refine beq_eq_false_iff_ne.2 fun e => h ?_
  cases a; cases b
  congr 1
  exact Array.toList_inj.1 e

end Go.Proofs.YtiialjncdhhceaaGreat
