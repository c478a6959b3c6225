/- What follows is 3 texts, one behind the other: StoLines, StoKeys, StoBase. -/
import Derived.Test.YtiialjncdhhceaaGreatStoMem
import Derived.Test.YtiialjncdhhceaaGreatJrnParsed
import Derived.Test.YtiialjncdhhceaaGreatRunSecKeysC
/- Lines of the store's records: plain laws. -/
namespace Go.Proofs.YtiialjncdhhceaaGreat
open Go.RowKit
set_option linter.unusedVariables false
set_option linter.unusedSimpArgs false

/-- A line: its kind, a key, bytes. -/
structure Ln where
  kind : UInt8
  key : ByteArray
  x : ByteArray
def Ln.enc (l : Ln) : List UInt8 := [l.kind] ++ textB l.key ++ textB l.x
def encL (ls : List Ln) : List UInt8 := ls.flatMap Ln.enc
def doLn (L : List KV) (l : Ln) : List KV := if l.kind = 83 then [] else if l.kind = 68 then delL (bs l.key) L else putL (bs l.key) (bs l.x) L
def doAll (L : List KV) (ls : List Ln) : List KV := ls.foldl doLn L
structure Ln.Ok (l : Ln) : Prop where
  key : l.key.size ≤ 20
  x : l.x.size ≤ 6000
theorem encL_cons (l : Ln) (ls : List Ln) : encL (l :: ls) = l.kind :: (textB l.key ++ (textB l.x ++ encL ls)) := by
  unfold encL Ln.enc
  rw [List.flatMap_cons]
  simp
theorem encL_append (a b : List Ln) : encL (a ++ b) = encL a ++ encL b := by unfold encL; rw [List.flatMap_append]
theorem enc_length (l : Ln) : l.enc.length = l.key.size + l.x.size + 5 := by
  unfold Ln.enc
  rw [List.length_append, List.length_append, textB_length, textB_length]
  simp
  omega
theorem doAll_append (L : List KV) (a b : List Ln) : doAll L (a ++ b) = doAll (doAll L a) b := by unfold doAll; rw [List.foldl_append]

theorem srt_doLn {L : List KV} (h : Srt L) (l : Ln) : Srt (doLn L l) := by
  unfold doLn
  split
  · exact Srt.nil
  · split
    · exact h.del _
    · exact h.put _ _
theorem srt_doAll {L : List KV} (h : Srt L) (ls : List Ln) : Srt (doAll L ls) := by
  induction ls generalizing L with
  | nil => exact h
  | cons l ls ih => exact ih (srt_doLn h l)

/-- Keys and bytes are as long as they may be. -/
def Small (L : List KV) : Prop := ∀ p ∈ L, p.1.length ≤ 20 ∧ p.2.length ≤ 6000
theorem Small.nil : Small [] := fun p h => by cases h
theorem Small.do {L : List KV} (h : Small L) {l : Ln} (hl : l.Ok) : Small (doLn L l) := by
  unfold doLn
  split
  · exact Small.nil
  · split
    · exact fun p hp => h p (mem_delL.1 hp).1
    · intro p hp
      rcases mem_putL.1 hp with rfl | ⟨hp, _⟩
      · rw [bs_length, bs_length]
        exact ⟨hl.key, hl.x⟩
      · exact h p hp
theorem Small.all {L : List KV} (h : Small L) {ls : List Ln} (hl : ∀ l ∈ ls, l.Ok) : Small (doAll L ls) := by
  induction ls generalizing L with
  | nil => exact h
  | cons l ls ih => exact ih (h.do (hl l (by simp))) (fun x hx => hl x (by simp [hx]))
theorem doLn_length (L : List KV) (l : Ln) : (doLn L l).length ≤ L.length + 1 := by
  unfold doLn
  split
  · simp
  · split
    · have := delL_length_le (bs l.key) L
      omega
    · unfold putL
      rw [insL_length]
      have := delL_length_le (bs l.key) L
      omega
theorem doAll_length (L : List KV) (ls : List Ln) : (doAll L ls).length ≤ L.length + ls.length := by
  induction ls generalizing L with
  | nil => exact Nat.le_refl _
  | cons l ls ih =>
    have h1 := ih (doLn L l)
    have h2 := doLn_length L l
    unfold doAll at *
    simp only [List.foldl_cons, List.length_cons]
    omega
theorem doLn_size (L : List KV) (l : Ln) : sizeL (doLn L l) ≤ sizeL L + (l.key.size + l.x.size + 24) := by
  unfold doLn
  split
  · simp [sizeL]
  · split
    · have := sizeL_del_le (bs l.key) L
      omega
    · unfold putL
      rw [sizeL_ins]
      have := sizeL_del_le (bs l.key) L
      simp only [bs_length]
      omega

/-! ### all that is there as a record -/
def dumpL (L : List KV) : List Ln := ⟨83, ByteArray.empty, ByteArray.empty⟩ :: L.map fun p => ⟨80, stB p.1, stB p.2⟩
theorem ins_last (x : KV) (L : List KV) (h : ∀ p ∈ L, bytesBefore p.1 x.1 = true) : insL x L = L ++ [x] := by
  induction L with
  | nil => rfl
  | cons y r ih =>
    have h1 := h y (by simp)
    have h2 : ¬ bytesBefore x.1 y.1 = true := fun h3 => by
      have := WideShapes.bytes_trans _ _ _ h1 h3
      rw [WideAt.bytes_irrefl] at this
      cases this
    unfold insL
    rw [if_neg h2, ih (fun p hp => h p (by simp [hp]))]
    rfl
theorem put_last (x : KV) (L : List KV) (h : ∀ p ∈ L, bytesBefore p.1 x.1 = true) : putL x.1 x.2 L = L ++ [x] := by
  unfold putL
  have : delL x.1 L = L := by
    unfold delL
    rw [List.filter_eq_self]
    intro p hp
    have h1 := h p hp
    have : ¬ p.1 = x.1 := fun e => by rw [e, WideAt.bytes_irrefl] at h1; cases h1
    simp [this]
  rw [this]
  exact ins_last x L h
theorem do_puts (R : List KV) : ∀ (L : List KV), Srt (L ++ R) → doAll L (R.map fun p => ⟨80, stB p.1, stB p.2⟩) = L ++ R := by
  induction R with
  | nil => intro L _; simp [doAll]
  | cons x R ih =>
    intro L h
    have h1 : ∀ p ∈ L, bytesBefore p.1 x.1 = true := fun p hp => (List.pairwise_append.1 h).2.2 p hp x (by simp)
    have h2 : doLn L ⟨80, stB x.1, stB x.2⟩ = L ++ [x] := by
      unfold doLn
      rw [if_neg (show ¬ (80 : UInt8) = 83 by decide), if_neg (show ¬ (80 : UInt8) = 68 by decide)]
      simp only [bs_stB]
      exact put_last x L h1
    have h3 := ih (L ++ [x]) (by simpa using h)
    unfold doAll at *
    simp only [List.map_cons, List.foldl_cons]
    rw [h2, h3]
    simp
theorem do_dump {L : List KV} (h : Srt L) (L0 : List KV) : doAll L0 (dumpL L) = L := by
  have h1 := do_puts L [] (by simpa using h)
  unfold doAll dumpL at *
  simp only [List.foldl_cons]
  have : doLn L0 ⟨83, ByteArray.empty, ByteArray.empty⟩ = [] := by unfold doLn; rw [if_pos rfl]
  rw [this, h1]
  rfl
theorem dump_ok {L : List KV} (h : Small L) : ∀ l ∈ dumpL L, l.Ok := by
  intro l hl
  rcases List.mem_cons.1 hl with rfl | hl
  · exact ⟨by decide, by decide⟩
  · obtain ⟨p, hp, rfl⟩ := List.mem_map.1 hl
    have := h p hp
    exact ⟨by simp only [stB_size]; omega, by simp only [stB_size]; omega⟩
theorem encL_puts_length (L : List KV) : (encL (L.map fun p => (⟨80, stB p.1, stB p.2⟩ : Ln))).length + 19 * L.length = sizeL L := by
  induction L with
  | nil => rfl
  | cons p r ih =>
    have e : encL ((p :: r).map fun p => (⟨80, stB p.1, stB p.2⟩ : Ln)) = (⟨80, stB p.1, stB p.2⟩ : Ln).enc ++ encL (r.map fun p => (⟨80, stB p.1, stB p.2⟩ : Ln)) := rfl
    rw [e, List.length_append, enc_length]
    simp only [sizeL, List.length_cons, stB_size]
    omega
theorem dump_length (L : List KV) : (encL (dumpL L)).length + 19 * L.length = sizeL L + 5 := by
  have h := encL_puts_length L
  have e : encL (dumpL L) = (⟨83, ByteArray.empty, ByteArray.empty⟩ : Ln).enc ++ encL (L.map fun p => (⟨80, stB p.1, stB p.2⟩ : Ln)) := rfl
  rw [e, List.length_append, enc_length]
  simp only [show ByteArray.empty.size = 0 from rfl]
  omega
/-- Records that tell the rows L. -/
def Tells (recs : List ByteArray) (L : List KV) : Prop := ∃ lss : List (List Ln), recs = lss.map (fun ls => stB (encL ls)) ∧ (∀ ls ∈ lss, ∀ l ∈ ls, l.Ok) ∧ doAll [] lss.flatten = L
theorem Tells.nil : Tells [] [] := ⟨[], rfl, by simp, rfl⟩
theorem Tells.append {recs : List ByteArray} {L : List KV} (h : Tells recs L) {ls : List Ln} (hl : ∀ l ∈ ls, l.Ok) : Tells (recs ++ [stB (encL ls)]) (doAll L ls) := by
  obtain ⟨lss, rfl, h1, rfl⟩ := h
  refine ⟨lss ++ [ls], by simp, ?_, by simp [doAll_append]⟩
  intro x hx
  rcases List.mem_append.1 hx with h | h
  · exact h1 x h
  · simp at h
    subst h
    exact hl
theorem Tells.dump {L : List KV} (h : Srt L) (hs : Small L) : Tells [stB (encL (dumpL L))] L := by
  refine ⟨[dumpL L], rfl, ?_, ?_⟩
  · intro x hx
    simp at hx
    subst hx
    exact dump_ok hs
  · simp [do_dump h]
theorem Tells.srt {recs : List ByteArray} {L : List KV} (h : Tells recs L) : Srt L := by
  obtain ⟨lss, _, _, rfl⟩ := h
  exact srt_doAll Srt.nil _
theorem Tells.small {recs : List ByteArray} {L : List KV} (h : Tells recs L) : Small L := by
  obtain ⟨lss, _, h1, rfl⟩ := h
  refine Small.all Small.nil fun l hl => ?_
  obtain ⟨ls, h2, h3⟩ := List.mem_flatten.1 hl
  exact h1 ls h2 l h3

/-! ### the head of some lines -/
theorem text_head (s : ByteArray) (more : List UInt8) (h : s.size ≤ 6000) : getB ((textB s ++ more).take 2) = s.size ∧ ((textB s ++ more).drop 2).take s.size = bs s ∧ (textB s ++ more).drop (2 + s.size) = more := by
  have hl := putB_length s.size 2
  have hb := bs_length s
  unfold textB
  rw [List.append_assoc]
  refine ⟨?_, ?_, ?_⟩
  · rw [List.take_append_of_le_length (by omega), List.take_of_length_le (by omega), getB_put s.size 2 (by decide)]
    exact Nat.mod_eq_of_lt (by omega)
  · rw [List.drop_append_of_le_length (by omega), List.drop_of_length_le (by omega), List.nil_append, List.take_append_of_le_length (by omega), List.take_of_length_le (by omega)]
  · rw [← List.append_assoc, List.drop_append_of_le_length (by rw [List.length_append]; omega), List.drop_of_length_le (by rw [List.length_append]; omega), List.nil_append]
end Go.Proofs.YtiialjncdhhceaaGreat

/- maps.Keys, slices.Sorted, maps.Clone at this program's map of strings. -/
namespace Go.Proofs.YtiialjncdhhceaaGreat
open Go.RowKit Go.Maps Go.Sort Go.Shelf
set_option linter.unusedVariables false

theorem sortsS (m : Nat) : AnyZ.SortsIn Tryz.prog Tryz.sortedS_ren Fence.wide m :=
  ⟨fun blk off cap ss W hH hblk hsz => callsIn_wide.2 (AnyM.slices_Sort_string Tryz.sortS blk off cap ss W hH hblk hsz),
   fun p cap W => callsIn_wide.2 (AnyM.slices_Sort_string_none Tryz.sortS p cap W)⟩

theorem KeysS_c (mb : Option Nat) (W : World) : Calls Tryz.prog 33 #[.map mb] W fun e w' => e = .returned (.func (.func 55) #[] #[.pointer (some ⟨W.heap.size, 0, none⟩)]) ∧ w' = W.alloc (.cells #[.map mb] 59) :=
  callsIn_wide.1 (AnyZ.keys_in Tryz.keysS Fence.wide 5 trivial rfl mb W)

theorem map_encStr (L : List KV) : (L.map (·.1)).map encStr = (L.map fun p => stB p.1).map Value.string := by
  rw [List.map_map, List.map_map]
  rfl
theorem SortedS_c (g m : Nat) (L : List KV) (w : World) (hg : g < w.heap.size) (hc : w.cell? ⟨g, 0, none⟩ = some (.map (some m))) (hM : MapS w m L) (hcnt : L.length ≤ 1000) :
    Calls Tryz.prog 32 #[.func (.func 55) #[] #[.pointer (some ⟨g, 0, none⟩)]] w fun e w' => ∃ v, e = .returned v ∧ OSs w' w.heap.size v (L.map fun p => stB p.1) ∧ Fr [] w w' := by
  have hsz := mapD_size L
  have hseq : SeqGives Fence.wide 2 Tryz.prog 55 #[.pointer (some ⟨g, 0, none⟩)] encStr (fun ss => ss.Perm (strKeys (mapD L))) (Maps.size (mapD L)) w :=
    AnyZ.keys_gives (ρ := Tryz.keysS_ren) { Tryz.keysS with } Fence.wide _ trivial rfl (by omega) g m L.length (mapD L) w hg hc hM.1
  have h := callsIn_wide.1 (AnyZ.sorted_in Tryz.sortedS Fence.wide 5 trivial trivial trivial trivial rfl (by omega) (sortsS _) (enters_of Tryz.func54 (by kernel_rfl) rfl) 55 #[.pointer (some ⟨g, 0, none⟩)] trivial (enters_of Tryz.func55 (by kernel_rfl) rfl) _ _ (by rw [hsz]; unfold maxLen; omega) (by rw [hsz]; omega) _ hseq)
  refine Calls.mono h ?_
  rintro e w' ⟨v, ss, rfl, hp, hrow, hnil, hb⟩
  rw [mapD_keys] at hp
  rw [sorted_keys hM.2 hp, map_encStr] at hrow
  have hl : ss.length = (L.map fun p => stB p.1).length := by rw [hp.length_eq, List.length_map, List.length_map]
  rw [hl] at hrow
  exact ⟨v, rfl, hrow, fr_of_below hb⟩

theorem CloneM_c (m : Nat) (L : List KV) (w : World) (hM : MapS w m L) :
    Calls Tryz.prog 29 #[.map (some m)] w fun e w' => e = .returned (.map (some w.heap.size)) ∧ MapS w' w.heap.size L ∧ Fr [] w w' := by
  refine Calls.mono (AnyW.maps_Clone_owns Tryz.cloneS 9 (plainElem (H := Unit) Tryz.prog 9) m L.length (mapD L) w hM.1) ?_
  rintro e w' ⟨rfl, h1, _, hb⟩
  exact ⟨rfl, ⟨h1, hM.2⟩, fr_of_below hb⟩
end Go.Proofs.YtiialjncdhhceaaGreat

/- The store's smallest parts: Keys, Get, Size, line, put, drop. -/
namespace Go.Proofs.YtiialjncdhhceaaGreat
open Go.RowKit
set_option linter.unusedVariables false
set_option linter.unusedSimpArgs false

/-- The store's own cells. -/
def sCells (d j mp : Nat) : Array Value := #[.pointer (some ⟨d, 0, none⟩), .pointer (some ⟨j, 0, none⟩), .map (some mp)]

set_option maxRecDepth 100000 in
theorem Keys_c' (st d j mp : Nat) (L : List KV) (w : World) (hs : w.heap[st]? = some (.cells (sCells d j mp) 61 (0, 0))) (hM : MapS w mp L) (hcnt : L.length ≤ 1000) :
    Calls Tryz.prog 14 #[.pointer (some ⟨st, 0, none⟩)] w fun e w' => ∃ v, e = .returned v ∧ OSs w' w.heap.size v (L.map fun p => stB p.1) ∧ Fr [] w w' := by
  have c2 : w.cell? ⟨st, 2, none⟩ = some (.map (some mp)) := cell_of_row _ _ 2 _ _ _ hs
  go_enter Tryz.func14, Tryz.ntmps14
  go_wp2_with fail
  refine (KeysS_c (some mp) w).mono ?_
  rintro e w1 ⟨rfl, rfl⟩
  go_wp2_with fail
  have hf1 : Fr [] w (w.alloc (.cells #[.map (some mp)] 59)) := (Fr.refl [] w).alloc _
  have hg : (w.alloc (.cells #[.map (some mp)] 59)).heap[w.heap.size]? = some (.cells #[.map (some mp)] 59 (0, 0)) := heap_alloc_new _ _
  generalize w.alloc (.cells #[.map (some mp)] 59) = w1 at *
  refine (SortedS_c w.heap.size mp L w1 (Array.getElem?_eq_some_iff.1 hg).1 (cell_of_row _ _ 0 _ _ _ hg) (hM.fr hf1) hcnt).mono ?_
  rintro e w2 ⟨v, rfl, hO, hf2⟩
  go_wp2_with fail
  go_ret
  exact ⟨v, rfl, hO.base hf1.size, hf1.then hf2⟩

set_option maxRecDepth 100000 in
theorem Get_c' (st d j mp : Nat) (L : List KV) (s : ByteArray) (hk : s.size ≤ 1000000000000000) (w : World) (hs : w.heap[st]? = some (.cells (sCells d j mp) 61 (0, 0))) (hM : MapS w mp L) :
    Calls Tryz.prog 15 #[.pointer (some ⟨st, 0, none⟩), .string s] w fun e w' => e = .returned (.tuple #[.string (elS (getL (bs s) L)), .bool (getL (bs s) L).isSome]) ∧ w = w' := by
  have c2 : w.cell? ⟨st, 2, none⟩ = some (.map (some mp)) := cell_of_row _ _ 2 _ _ _ hs
  have hl := hM.look true s hk
  rw [if_pos rfl] at hl
  generalize elS (getL (bs s) L) = v1 at *
  generalize (getL (bs s) L).isSome = v2 at *
  go_enter Tryz.func15, Tryz.ntmps15
  go_wp2_with fail
  go_ret2
  exact ⟨rfl, rfl⟩

set_option maxHeartbeats 1000000 in
set_option maxRecDepth 100000 in
theorem Size_c (st d j mp : Nat) (L : List KV) (w : World) (hs : w.heap[st]? = some (.cells (sCells d j mp) 61 (0, 0))) (hM : MapS w mp L) (hsz : sizeL L ≤ 1000000000) :
    Calls Tryz.prog 18 #[.pointer (some ⟨st, 0, none⟩)] w fun e w' => e = .returned (.int .i64 (sizeL L : Int)) ∧ Fr [] w w' := by
  have c2 : w.cell? ⟨st, 2, none⟩ = some (.map (some mp)) := cell_of_row _ _ 2 _ _ _ hs
  have hsrt := hM.2
  obtain ⟨T, hT⟩ : ∃ T, sizeL L = T := ⟨_, rfl⟩
  rw [hT] at hsz ⊢
  replace hT := hid hT
  go_enter Tryz.func18, Tryz.ntmps18
  go_wp2_with (first | (with_reducible refine stopS_rg rfl ?_))
  refine Stop.go (rg_str rfl rfl rfl hM ?_)
  intro w1 hr1 hf1
  go_wp2_with (first | (with_reducible refine stopS_rg rfl ?_))
  go_frame
  go_loopw [3] (fun nv wr => ∃ (R : List KV) (cnt U : Nat), RangeS wr mp w.heap.size L R cnt ∧ nv = .int .i64 (U : Int) ∧ U + sizeL R = T ∧ Fr [] w wr) (fun _ wr => wr.rangeLeft mp w.heap.size)
  case atStart => exact ⟨L, _, 0, hr1, rfl, by have := hT.out; omega, hf1⟩
  case round =>
    obtain ⟨R, cnt, U, hrg, rfl, hU, hfr⟩ := hrel
    go_wp2_with (first | (with_reducible refine stop_nx rfl ?_))
    refine Stop.go (nx_str rfl rfl rfl hsrt hrg ?_ ?_)
    · intro h0 hR
      subst hR
      have e : U = T := by simpa [sizeL] using hU
      subst e
      go_wp2_with fail
      go_ret
      exact ⟨rfl, hfr⟩
    · intro x c w2 R' cnt' hmem hrg2 hsz2 hlt hf2 hen
      have hb : x.size + c.size + 24 ≤ 1000000000 := by omega
      have hb2 : U + (x.size + c.size + 24) ≤ 1000000000 := by omega
      have hU2 : (U + (x.size + c.size + 24)) + sizeL R' = T := by omega
      replace hsz2 := hid hsz2
      replace hU := hid hU
      replace hU2 := hid hU2
      replace hmem := hid hmem
      go_wp2_with fail
      try go_frame
      go_roundw
      case rel => exact ⟨R', cnt', U + (x.size + c.size + 24), hrg2, (by first | rfl | (congr 1; done) | (congr 1; omega)), hU2.out, hfr.trans hf2 (by intro z hz; simp at hz; right; omega)⟩
      case measure => rw [hrg2.left_eq, hrg.left_eq]; first | done | exact hlt

/-- A line laid behind a row. -/
theorem line_c (base : Nat) (v : Value) (l : List UInt8) (ln : Ln) (hk : ln.key.size ≤ 65535) (hx : ln.x.size ≤ 65535) (w : World) (HO : OB w base 5 v l) (hbase : base ≤ w.heap.size) (hl : l.length ≤ 100000000000) :
    Calls Tryz.prog 50 #[v, .int .u8 (ln.kind.toNat : Int), .string ln.key, .string ln.x] w (RowPost w base 5 v (l ++ ln.enc)) := by
  go_enter Tryz.func50, Tryz.ntmps50
  go_wp2_with (at_builtin; refine stop_append rfl ?_)
  refine Stop.go (app1 base rfl _ _ 30 5 rfl Tryz.underlying30 infoByte HO ln.kind rfl rfl rfl hbase (by omega) ?_)
  intro v1 w1 ho1 hf1 hn1
  have hz1 := hf1.size
  go_wp2_with (at_builtin; refine stop_append rfl ?_)
  refine (Text_c base v1 _ ln.key hk w1 ho1 (by omega) (by rw [List.length_append]; simp; omega)).mono ?_
  rintro e w2 ⟨v2, rfl, ho2, hf2, hn2⟩
  have hz2 := hf2.size
  go_wp2_with (at_builtin; refine stop_append rfl ?_)
  refine (Text_c base v2 _ ln.x hx w2 ho2 (by omega) (by rw [List.length_append, List.length_append, textB_length]; simp; omega)).mono ?_
  rintro e w3 ⟨v3, rfl, ho3, hf3, hn3⟩
  go_wp2_with (at_builtin; refine stop_append rfl ?_)
  go_ret
  have e : l ++ [ln.kind] ++ textB ln.key ++ textB ln.x = l ++ ln.enc := by unfold Ln.enc; simp
  rw [e] at ho3
  have hn12 := hn1.trans hz1 hn2
  refine ⟨v3, rfl, ho3, ?_, hn12.trans (by omega) hn3⟩
  have h12 : Fr v.ownBlock.toList w w2 := hf1.trans hf2 (fun x hx => by
    rcases hn1 x (by simpa using hx) with h | h
    · left; simp [h]
    · exact .inr h)
  exact h12.trans hf3 (fun x hx => by
    rcases hn12 x (by simpa using hx) with h | h
    · left; simp [h]
    · exact .inr h)
end Go.Proofs.YtiialjncdhhceaaGreat
