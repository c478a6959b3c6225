/- Lines of the store's records: plain laws. -/
import Derived.Test.YtiialjncdhhceaaGreatStoMem
import Derived.Test.YtiialjncdhhceaaGreatJrnParsed
namespace Go.Proofs.YtiialjncdhhceaaGreat
open Go.RowKit
set_option linter.unusedVariables false
set_option linter.unusedSimpArgs false

/-- A line: its kind, a key, bytes. -/
structure Ln where
  kind : UInt8
  key : ByteArray
  x : ByteArray
def Ln.enc (l : Ln) : List UInt8 := [l.kind] ++ textB l.key ++ textB l.x
def encL (ls : List Ln) : List UInt8 := ls.flatMap Ln.enc
def doLn (L : List KV) (l : Ln) : List KV := if l.kind = 83 then [] else if l.kind = 68 then delL (bs l.key) L else putL (bs l.key) (bs l.x) L
def doAll (L : List KV) (ls : List Ln) : List KV := ls.foldl doLn L
structure Ln.Ok (l : Ln) : Prop where
  key : l.key.size ≤ 20
  x : l.x.size ≤ 6000
theorem encL_cons (l : Ln) (ls : List Ln) : encL (l :: ls) = l.kind :: (textB l.key ++ (textB l.x ++ encL ls)) := by
  unfold encL Ln.enc
  rw [List.flatMap_cons]
  simp
theorem encL_append (a b : List Ln) : encL (a ++ b) = encL a ++ encL b := by unfold encL; rw [List.flatMap_append]
theorem enc_length (l : Ln) : l.enc.length = l.key.size + l.x.size + 5 := by
  unfold Ln.enc
  rw [List.length_append, List.length_append, textB_length, textB_length]
  simp
  omega
theorem doAll_append (L : List KV) (a b : List Ln) : doAll L (a ++ b) = doAll (doAll L a) b := by unfold doAll; rw [List.foldl_append]

theorem srt_doLn {L : List KV} (h : Srt L) (l : Ln) : Srt (doLn L l) := by
  unfold doLn
  split
  · exact Srt.nil
  · split
    · exact h.del _
    · exact h.put _ _
theorem srt_doAll {L : List KV} (h : Srt L) (ls : List Ln) : Srt (doAll L ls) := by
  induction ls generalizing L with
  | nil => exact h
  | cons l ls ih => exact ih (srt_doLn h l)

/-- Keys and bytes are as long as they may be. -/
def Small (L : List KV) : Prop := ∀ p ∈ L, p.1.length ≤ 20 ∧ p.2.length ≤ 6000
theorem Small.nil : Small [] := fun p h => by cases h
theorem Small.do {L : List KV} (h : Small L) {l : Ln} (hl : l.Ok) : Small (doLn L l) := by
  unfold doLn
  split
  · exact Small.nil
  · split
    · exact fun p hp => h p (mem_delL.1 hp).1
    · intro p hp
      rcases mem_putL.1 hp with rfl | ⟨hp, _⟩
      · rw [bs_length, bs_length]
        exact ⟨hl.key, hl.x⟩
      · exact h p hp
theorem Small.all {L : List KV} (h : Small L) {ls : List Ln} (hl : ∀ l ∈ ls, l.Ok) : Small (doAll L ls) := by
  induction ls generalizing L with
  | nil => exact h
  | cons l ls ih => exact ih (h.do (hl l (by simp))) (fun x hx => hl x (by simp [hx]))
theorem doLn_length (L : List KV) (l : Ln) : (doLn L l).length ≤ L.length + 1 := by
  unfold doLn
  split
  · simp
  · split
    · have := delL_length_le (bs l.key) L
      omega
    · unfold putL
      rw [insL_length]
      have := delL_length_le (bs l.key) L
      omega
theorem doAll_length (L : List KV) (ls : List Ln) : (doAll L ls).length ≤ L.length + ls.length := by
  induction ls generalizing L with
  | nil => exact Nat.le_refl _
  | cons l ls ih =>
    have h1 := ih (doLn L l)
    have h2 := doLn_length L l
    unfold doAll at *
    simp only [List.foldl_cons, List.length_cons]
    omega
theorem doLn_size (L : List KV) (l : Ln) : sizeL (doLn L l) ≤ sizeL L + (l.key.size + l.x.size + 24) := by
  unfold doLn
  split
  · simp [sizeL]
  · split
    · have := sizeL_del_le (bs l.key) L
      omega
    · unfold putL
      rw [sizeL_ins]
      have := sizeL_del_le (bs l.key) L
      simp only [bs_length]
      omega

/-! ### all that is there as a record -/
def dumpL (L : List KV) : List Ln := ⟨83, ByteArray.empty, ByteArray.empty⟩ :: L.map fun p => ⟨80, stB p.1, stB p.2⟩
theorem ins_last (x : KV) (L : List KV) (h : ∀ p ∈ L, bytesBefore p.1 x.1 = true) : insL x L = L ++ [x] := by
  induction L with
  | nil => rfl
  | cons y r ih =>
    have h1 := h y (by simp)
    have h2 : ¬ bytesBefore x.1 y.1 = true := fun h3 => by
      have := WideShapes.bytes_trans _ _ _ h1 h3
      rw [WideAt.bytes_irrefl] at this
      cases this
    unfold insL
    rw [if_neg h2, ih (fun p hp => h p (by simp [hp]))]
    rfl
theorem put_last (x : KV) (L : List KV) (h : ∀ p ∈ L, bytesBefore p.1 x.1 = true) : putL x.1 x.2 L = L ++ [x] := by
  unfold putL
  have : delL x.1 L = L := by
    unfold delL
    rw [List.filter_eq_self]
    intro p hp
    have h1 := h p hp
    have : ¬ p.1 = x.1 := fun e => by rw [e, WideAt.bytes_irrefl] at h1; cases h1
    simp [this]
  rw [this]
  exact ins_last x L h
theorem do_puts (R : List KV) : ∀ (L : List KV), Srt (L ++ R) → doAll L (R.map fun p => ⟨80, stB p.1, stB p.2⟩) = L ++ R := by
  induction R with
  | nil => intro L _; simp [doAll]
  | cons x R ih =>
    intro L h
    have h1 : ∀ p ∈ L, bytesBefore p.1 x.1 = true := fun p hp => (List.pairwise_append.1 h).2.2 p hp x (by simp)
    have h2 : doLn L ⟨80, stB x.1, stB x.2⟩ = L ++ [x] := by
      unfold doLn
      rw [if_neg (show ¬ (80 : UInt8) = 83 by decide), if_neg (show ¬ (80 : UInt8) = 68 by decide)]
      simp only [bs_stB]
      exact put_last x L h1
    have h3 := ih (L ++ [x]) (by simpa using h)
    unfold doAll at *
    simp only [List.map_cons, List.foldl_cons]
    rw [h2, h3]
    simp
theorem do_dump {L : List KV} (h : Srt L) (L0 : List KV) : doAll L0 (dumpL L) = L := by
  have h1 := do_puts L [] (by simpa using h)
  unfold doAll dumpL at *
  simp only [List.foldl_cons]
  have : doLn L0 ⟨83, ByteArray.empty, ByteArray.empty⟩ = [] := by unfold doLn; rw [if_pos rfl]
  rw [this, h1]
  rfl
theorem dump_ok {L : List KV} (h : Small L) : ∀ l ∈ dumpL L, l.Ok := by
  intro l hl
  rcases List.mem_cons.1 hl with rfl | hl
  · exact ⟨by decide, by decide⟩
  · obtain ⟨p, hp, rfl⟩ := List.mem_map.1 hl
    have := h p hp
    exact ⟨by simp only [stB_size]; omega, by simp only [stB_size]; omega⟩
theorem encL_puts_length (L : List KV) : (encL (L.map fun p => (⟨80, stB p.1, stB p.2⟩ : Ln))).length + 19 * L.length = sizeL L := by
  induction L with
  | nil => rfl
  | cons p r ih =>
    have e : encL ((p :: r).map fun p => (⟨80, stB p.1, stB p.2⟩ : Ln)) = (⟨80, stB p.1, stB p.2⟩ : Ln).enc ++ encL (r.map fun p => (⟨80, stB p.1, stB p.2⟩ : Ln)) := rfl
    rw [e, List.length_append, enc_length]
    simp only [sizeL, List.length_cons, stB_size]
    omega
theorem dump_length (L : List KV) : (encL (dumpL L)).length + 19 * L.length = sizeL L + 5 := by
  have h := encL_puts_length L
  have e : encL (dumpL L) = (⟨83, ByteArray.empty, ByteArray.empty⟩ : Ln).enc ++ encL (L.map fun p => (⟨80, stB p.1, stB p.2⟩ : Ln)) := rfl
  rw [e, List.length_append, enc_length]
  simp only [show ByteArray.empty.size = 0 from rfl]
  omega
/-- Records that tell the rows L. -/
def Tells (recs : List ByteArray) (L : List KV) : Prop := ∃ lss : List (List Ln), recs = lss.map (fun ls => stB (encL ls)) ∧ (∀ ls ∈ lss, ∀ l ∈ ls, l.Ok) ∧ doAll [] lss.flatten = L
theorem Tells.nil : Tells [] [] := ⟨[], rfl, by simp, rfl⟩
theorem Tells.append {recs : List ByteArray} {L : List KV} (h : Tells recs L) {ls : List Ln} (hl : ∀ l ∈ ls, l.Ok) : Tells (recs ++ [stB (encL ls)]) (doAll L ls) := by
  obtain ⟨lss, rfl, h1, rfl⟩ := h
  refine ⟨lss ++ [ls], by simp, ?_, by simp [doAll_append]⟩
  intro x hx
  rcases List.mem_append.1 hx with h | h
  · exact h1 x h
  · simp at h
    subst h
    exact hl
theorem Tells.dump {L : List KV} (h : Srt L) (hs : Small L) : Tells [stB (encL (dumpL L))] L := by
  refine ⟨[dumpL L], rfl, ?_, ?_⟩
  · intro x hx
    simp at hx
    subst hx
    exact dump_ok hs
  · simp [do_dump h]
theorem Tells.srt {recs : List ByteArray} {L : List KV} (h : Tells recs L) : Srt L := by
  obtain ⟨lss, _, _, rfl⟩ := h
  exact srt_doAll Srt.nil _
theorem Tells.small {recs : List ByteArray} {L : List KV} (h : Tells recs L) : Small L := by
  obtain ⟨lss, _, h1, rfl⟩ := h
  refine Small.all Small.nil fun l hl => ?_
  obtain ⟨ls, h2, h3⟩ := List.mem_flatten.1 hl
  exact h1 ls h2 l h3

/-! ### the head of some lines -/
theorem text_head (s : ByteArray) (more : List UInt8) (h : s.size ≤ 6000) : getB ((textB s ++ more).take 2) = s.size ∧ ((textB s ++ more).drop 2).take s.size = bs s ∧ (textB s ++ more).drop (2 + s.size) = more := by
  have hl := putB_length s.size 2
  have hb := bs_length s
  unfold textB
  rw [List.append_assoc]
  refine ⟨?_, ?_, ?_⟩
  · rw [List.take_append_of_le_length (by omega), List.take_of_length_le (by omega), getB_put s.size 2 (by decide)]
    exact Nat.mod_eq_of_lt (by omega)
  · rw [List.drop_append_of_le_length (by omega), List.drop_of_length_le (by omega), List.nil_append, List.take_append_of_le_length (by omega), List.take_of_length_le (by omega)]
  · rw [← List.append_assoc, List.drop_append_of_le_length (by rw [List.length_append]; omega), List.drop_of_length_le (by rw [List.length_append]; omega), List.nil_append]
end Go.Proofs.YtiialjncdhhceaaGreat
