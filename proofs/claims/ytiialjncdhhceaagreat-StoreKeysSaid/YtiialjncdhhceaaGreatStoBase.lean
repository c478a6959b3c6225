/- The store's smallest parts: Keys, Get, Size, line, put, drop. -/
import Derived.Test.YtiialjncdhhceaaGreatStoKeys
namespace Go.Proofs.YtiialjncdhhceaaGreat
open Go.RowKit
set_option linter.unusedVariables false
set_option linter.unusedSimpArgs false

/-- The store's own cells. -/
def sCells (d j mp : Nat) : Array Value := #[.pointer (some ⟨d, 0, none⟩), .pointer (some ⟨j, 0, none⟩), .map (some mp)]

set_option maxRecDepth 100000 in
theorem Keys_c' (st d j mp : Nat) (L : List KV) (w : World) (hs : w.heap[st]? = some (.cells (sCells d j mp) 61 (0, 0))) (hM : MapS w mp L) (hcnt : L.length ≤ 1000) :
    Calls Tryz.prog 14 #[.pointer (some ⟨st, 0, none⟩)] w fun e w' => ∃ v, e = .returned v ∧ OSs w' w.heap.size v (L.map fun p => stB p.1) ∧ Fr [] w w' := by
  have c2 : w.cell? ⟨st, 2, none⟩ = some (.map (some mp)) := cell_of_row _ _ 2 _ _ _ hs
  go_enter Tryz.func14, Tryz.ntmps14
  go_wp2_with fail
  refine (KeysS_c (some mp) w).mono ?_
  rintro e w1 ⟨rfl, rfl⟩
  go_wp2_with fail
  have hf1 : Fr [] w (w.alloc (.cells #[.map (some mp)] 59)) := (Fr.refl [] w).alloc _
  have hg : (w.alloc (.cells #[.map (some mp)] 59)).heap[w.heap.size]? = some (.cells #[.map (some mp)] 59 (0, 0)) := heap_alloc_new _ _
  generalize w.alloc (.cells #[.map (some mp)] 59) = w1 at *
  refine (SortedS_c w.heap.size mp L w1 (Array.getElem?_eq_some_iff.1 hg).1 (cell_of_row _ _ 0 _ _ _ hg) (hM.fr hf1) hcnt).mono ?_
  rintro e w2 ⟨v, rfl, hO, hf2⟩
  go_wp2_with fail
  go_ret
  exact ⟨v, rfl, hO.base hf1.size, hf1.then hf2⟩

set_option maxRecDepth 100000 in
theorem Get_c' (st d j mp : Nat) (L : List KV) (s : ByteArray) (hk : s.size ≤ 1000000000000000) (w : World) (hs : w.heap[st]? = some (.cells (sCells d j mp) 61 (0, 0))) (hM : MapS w mp L) :
    Calls Tryz.prog 15 #[.pointer (some ⟨st, 0, none⟩), .string s] w fun e w' => e = .returned (.tuple #[.string (elS (getL (bs s) L)), .bool (getL (bs s) L).isSome]) ∧ w = w' := by
  have c2 : w.cell? ⟨st, 2, none⟩ = some (.map (some mp)) := cell_of_row _ _ 2 _ _ _ hs
  have hl := hM.look true s hk
  rw [if_pos rfl] at hl
  generalize elS (getL (bs s) L) = v1 at *
  generalize (getL (bs s) L).isSome = v2 at *
  go_enter Tryz.func15, Tryz.ntmps15
  go_wp2_with fail
  go_ret2
  exact ⟨rfl, rfl⟩

set_option maxHeartbeats 1000000 in
set_option maxRecDepth 100000 in
theorem Size_c (st d j mp : Nat) (L : List KV) (w : World) (hs : w.heap[st]? = some (.cells (sCells d j mp) 61 (0, 0))) (hM : MapS w mp L) (hsz : sizeL L ≤ 1000000000) :
    Calls Tryz.prog 18 #[.pointer (some ⟨st, 0, none⟩)] w fun e w' => e = .returned (.int .i64 (sizeL L : Int)) ∧ Fr [] w w' := by
  have c2 : w.cell? ⟨st, 2, none⟩ = some (.map (some mp)) := cell_of_row _ _ 2 _ _ _ hs
  have hsrt := hM.2
  obtain ⟨T, hT⟩ : ∃ T, sizeL L = T := ⟨_, rfl⟩
  rw [hT] at hsz ⊢
  replace hT := hid hT
  go_enter Tryz.func18, Tryz.ntmps18
  go_wp2_with (first | (with_reducible refine stopS_rg rfl ?_))
  refine Stop.go (rg_str rfl rfl rfl hM ?_)
  intro w1 hr1 hf1
  go_wp2_with (first | (with_reducible refine stopS_rg rfl ?_))
  go_frame
  go_loopw [3] (fun nv wr => ∃ (R : List KV) (cnt U : Nat), RangeS wr mp w.heap.size L R cnt ∧ nv = .int .i64 (U : Int) ∧ U + sizeL R = T ∧ Fr [] w wr) (fun _ wr => wr.rangeLeft mp w.heap.size)
  case atStart => exact ⟨L, _, 0, hr1, rfl, by have := hT.out; omega, hf1⟩
  case round =>
    obtain ⟨R, cnt, U, hrg, rfl, hU, hfr⟩ := hrel
    go_wp2_with (first | (with_reducible refine stop_nx rfl ?_))
    refine Stop.go (nx_str rfl rfl rfl hsrt hrg ?_ ?_)
    · intro h0 hR
      subst hR
      have e : U = T := by simpa [sizeL] using hU
      subst e
      go_wp2_with fail
      go_ret
      exact ⟨rfl, hfr⟩
    · intro x c w2 R' cnt' hmem hrg2 hsz2 hlt hf2 hen
      have hb : x.size + c.size + 24 ≤ 1000000000 := by omega
      have hb2 : U + (x.size + c.size + 24) ≤ 1000000000 := by omega
      have hU2 : (U + (x.size + c.size + 24)) + sizeL R' = T := by omega
      replace hsz2 := hid hsz2
      replace hU := hid hU
      replace hU2 := hid hU2
      replace hmem := hid hmem
      go_wp2_with fail
      try go_frame
      go_roundw
      case rel => exact ⟨R', cnt', U + (x.size + c.size + 24), hrg2, (by first | rfl | (congr 1; done) | (congr 1; omega)), hU2.out, hfr.trans hf2 (by intro z hz; simp at hz; right; omega)⟩
      case measure => rw [hrg2.left_eq, hrg.left_eq]; first | done | exact hlt

/-- A line laid behind a row. -/
theorem line_c (base : Nat) (v : Value) (l : List UInt8) (ln : Ln) (hk : ln.key.size ≤ 65535) (hx : ln.x.size ≤ 65535) (w : World) (HO : OB w base 5 v l) (hbase : base ≤ w.heap.size) (hl : l.length ≤ 100000000000) :
    Calls Tryz.prog 50 #[v, .int .u8 (ln.kind.toNat : Int), .string ln.key, .string ln.x] w (RowPost w base 5 v (l ++ ln.enc)) := by
  go_enter Tryz.func50, Tryz.ntmps50
  go_wp2_with (at_builtin; refine stop_append rfl ?_)
  refine Stop.go (app1 base rfl _ _ 30 5 rfl Tryz.underlying30 infoByte HO ln.kind rfl rfl rfl hbase (by omega) ?_)
  intro v1 w1 ho1 hf1 hn1
  have hz1 := hf1.size
  go_wp2_with (at_builtin; refine stop_append rfl ?_)
  refine (Text_c base v1 _ ln.key hk w1 ho1 (by omega) (by rw [List.length_append]; simp; omega)).mono ?_
  rintro e w2 ⟨v2, rfl, ho2, hf2, hn2⟩
  have hz2 := hf2.size
  go_wp2_with (at_builtin; refine stop_append rfl ?_)
  refine (Text_c base v2 _ ln.x hx w2 ho2 (by omega) (by rw [List.length_append, List.length_append, textB_length]; simp; omega)).mono ?_
  rintro e w3 ⟨v3, rfl, ho3, hf3, hn3⟩
  go_wp2_with (at_builtin; refine stop_append rfl ?_)
  go_ret
  have e : l ++ [ln.kind] ++ textB ln.key ++ textB ln.x = l ++ ln.enc := by unfold Ln.enc; simp
  rw [e] at ho3
  have hn12 := hn1.trans hz1 hn2
  refine ⟨v3, rfl, ho3, ?_, hn12.trans (by omega) hn3⟩
  have h12 : Fr v.ownBlock.toList w w2 := hf1.trans hf2 (fun x hx => by
    rcases hn1 x (by simpa using hx) with h | h
    · left; simp [h]
    · exact .inr h)
  exact h12.trans hf3 (fun x hx => by
    rcases hn12 x (by simpa using hx) with h | h
    · left; simp [h]
    · exact .inr h)
end Go.Proofs.YtiialjncdhhceaaGreat
