/- What a crash leaves where the power went within a write of the journal: plain laws. -/
import Derived.Test.YtiialjncdhhceaaJrnCountsP
namespace Go.Proofs.Ytiialjncdhhceaa
open Go.RowKit
set_option linter.unusedVariables false
set_option linter.unusedSimpArgs false

theorem Keep.step {s t : DSt} {hd ar : Nat} {recs : List ByteArray} (h : Keep s t hd ar recs) : Keep s t.step hd ar recs := ⟨h.n, h.kept, h.pend⟩
theorem Keep.put {s t : DSt} {hd ar : Nat} {recs : List ByteArray} (h : Keep s t hd ar recs) {i : Nat} (l : List UInt8) (h0 : i ≠ 0) (h1 : i ≠ 1 + hd) (h4 : i < 4) : Keep s (t.put i l) hd ar recs := by
  refine ⟨h.n, h.kept, fun i' l' hp => ?_⟩
  unfold DSt.put at hp
  dsimp only at hp
  split at hp
  · rename_i hi
    subst hi
    exact ⟨h0, h1, fun p hp hi => by omega⟩
  · exact h.pend i' l' hp
theorem Keep.clean {s t : DSt} {hd ar : Nat} {recs : List ByteArray} (h : Keep s t hd ar recs) (hH : Holds s hd ar recs) : Holds t.clean hd ar recs := by
  have hnone : ∀ i, (i = 0 ∨ i = 1 + hd) → t.clean.now i = s.now i := by
    intro i hi
    rw [DSt.clean_now]
    unfold DSt.now
    cases hp : t.pend i with
    | none => exact h.kept i
    | some l =>
      have := h.pend i l hp
      omega
  refine ⟨?_, hH.hd1, hH.ar1, hH.sizes, ?_, by rw [hnone 0 (.inl rfl)]; exact hH.sec0, by rw [hnone (1 + hd) (.inr rfl)]; exact hH.hdr, fun p hp => ?_, fun _ => rfl⟩
  · show 8 ≤ t.n
    rw [h.n]
    exact hH.n8
  · show _ ≤ 64 * arL t.n
    rw [h.n]
    exact hH.fits
  · show (t.clean.now (4 + ar * arL t.n + p / 64))[p % 64]? = _
    rw [h.n, DSt.clean_now]
    unfold DSt.now
    cases hpd : t.pend (4 + ar * arL s.n + p / 64) with
    | none =>
      show (t.kept _)[p % 64]? = _
      rw [h.kept]
      exact hH.body p hp
    | some l => exact (h.pend _ l hpd).2.2 p hp rfl

/-- New records over old ones: another area, or the same with the old ones ahead. -/
def Over (recs recs' : List ByteArray) (ar ar' : Nat) : Prop := ar' = ar → (recsB recs).length ≤ (recsB recs').length ∧ ∀ p, p < (recsB recs).length → (recsB recs')[p]? = (recsB recs)[p]?
theorem keep_lay {s : DSt} {hd ar ar' q0 q : Nat} {recs recs' : List ByteArray} (h : Holds s hd ar recs) (ho : DOk s) (har : ar' ≤ 1) (hq : q ≤ arL s.n) (hov : Over recs recs' ar ar') (hlast : q = q0 ∨ (q - 1) * 64 < (recsB recs').length) :
    Keep s (layS s (4 + ar' * arL s.n) q0 q (recsB recs')) hd ar recs := by
  refine ⟨rfl, fun i => (clean_now h.clean i).symm, fun i l hp => ?_⟩
  have hd1 := h.hd1
  unfold layS at hp
  dsimp only at hp
  split at hp
  · rename_i hi
    injection hp with hp
    refine ⟨by omega, by omega, fun p hpl hip => ?_⟩
    have hfit := h.fits
    have hpL : p / 64 < arL s.n := by omega
    have hxL : i - (4 + ar' * arL s.n) < arL s.n := by omega
    have hx64 : (i - (4 + ar' * arL s.n)) * 64 < (recsB recs').length := by omega
    have hsame : ar' = ar := by
      have h1 := h.ar1
      rcases (show ar = 0 ∨ ar = 1 by omega) with e1 | e1
      · rcases (show ar' = 0 ∨ ar' = 1 by omega) with e2 | e2
        · omega
        · subst e1 e2; omega
      · rcases (show ar' = 0 ∨ ar' = 1 by omega) with e2 | e2
        · subst e1 e2; omega
        · omega
    obtain ⟨hle, hpre⟩ := hov hsame
    subst hsame
    have hx : i - (4 + ar' * arL s.n) = p / 64 := by omega
    rw [← hp, hx, ← hpre p hpl]
    unfold laid
    have hcl := chunk_len (recsB recs') (p / 64)
    rw [List.getElem?_append_left (by rw [hcl]; omega)]
    unfold chunk
    rw [List.getElem?_take, if_pos (by omega), List.getElem?_drop]
    congr 1
    omega
  · cases hp
theorem holds_lay {s : DSt} {hd ar ar' q0 q : Nat} {recs recs' : List ByteArray} (h : Holds s hd ar recs) (ho : DOk s) (har : ar' ≤ 1) (hq0 : q0 ≤ q) (hend : (recsB recs').length ≤ q * 64) (hlast : q = q0 ∨ (q - 1) * 64 < (recsB recs').length) (hst : q ≤ 1000) (hsz : ∀ r ∈ recs', r.size ≤ 20000) (hfit : (recsB recs').length ≤ 64 * arL s.n)
    (hold : ∀ p, p < q0 * 64 → p < (recsB recs').length → (s.now (4 + ar' * arL s.n + p / 64))[p % 64]? = (recsB recs')[p]?) :
    Holds (countsS (layS s (4 + ar' * arL s.n) q0 q (recsB recs')) (1 - hd) ([UInt8.ofNat ar'] ++ putB (recsB recs').length 4)) (1 - hd) ar' recs' := by
  obtain ⟨s0, e⟩ : ∃ s0 : DSt, s0 = { s with offAt := 0 } := ⟨_, rfl⟩
  have e1 : s0.n = s.n := by rw [e]
  have e2 : s0.kept = s.kept := by rw [e]
  have e3 : s0.pend = s.pend := by rw [e]
  have e4 : s0.offAt = 0 := by rw [e]
  have e5 : ∀ i, s0.now i = s.now i := fun i => by unfold DSt.now; rw [e2, e3]
  have hc0 : ∀ i, s0.pend i = none := fun i => by rw [e3]; exact h.clean i
  have hs0 : Holds s0 hd ar recs := h.congr e1 e5 hc0
  have ho0 : DOk s0 := ⟨by rw [e1]; exact ho.n_le, by rw [e2]; exact ho.kept_len, by rw [e1, e3]; exact ho.pend_len⟩
  have hl : Laid s0 (layS s0 (4 + ar' * arL s0.n) q0 q (recsB recs')) (4 + ar' * arL s0.n) q0 (recsB recs') :=
    ⟨rfl, e4, rfl, Nat.add_le_add_left (by omega) _, fun i => layS_laid hc0 rfl _ _ _ _ hq0 hend hlast i⟩
  have hn := holds_next hs0 ho0 har hl hsz (by rw [e1]; exact hfit) (fun p h1 h2 => by rw [e1, e5]; exact hold p h1 h2)
  refine hn.congr e1.symm (fun i => ?_) (fun _ => rfl)
  have e6 : ∀ i, (layS s0 (4 + ar' * arL s0.n) q0 q (recsB recs')).now i = (layS s (4 + ar' * arL s.n) q0 q (recsB recs')).now i := fun i => by rw [layS_now hc0, layS_now h.clean, e1, e5]
  rw [countsS_now, countsS_now, e6, e6]

theorem torn_one (c : UInt8) (x : UInt8) (old : List UInt8) (hlen : old.length = 64) (h : tornN c ≠ 0) : torn c (x :: old.drop 1) old = x :: old.drop 1 := by
  unfold torn
  obtain ⟨k, hk⟩ : ∃ k, tornN c = k + 1 := ⟨tornN c - 1, by omega⟩
  rw [hk, List.take_succ_cons]
  have : old.drop (k + 1) = (old.drop 1).drop k := by rw [List.drop_drop]; congr 1; omega
  rw [this, List.cons_append, List.take_append_drop]
theorem torn_none (c : UInt8) (new old : List UInt8) (h : tornN c = 0) : torn c new old = old := by
  unfold torn
  rw [h]
  rfl
/-- The power went within 'counts', behind an area was laid: what there was, or what there is to be. -/
theorem counts_off {s t t' : DSt} {hd ar ar' : Nat} {recs recs' : List ByteArray} {hdr : List UInt8} (hK : Keep s t hd ar recs) (hH : Holds s hd ar recs) (hs : DOk s) (hC : CountsOff t (1 - hd) hdr t') (ht : DOk t') (hN : Holds (countsS t (1 - hd) hdr) (1 - hd) ar' recs') (ch : List UInt8) :
    Holds (t'.crash ch) hd ar recs ∨ Holds (t'.crash ch) (1 - hd) ar' recs' := by
  have hd1 := hH.hd1
  cases hC with
  | a => exact .inl (hK.step.crash hH hs ht ch)
  | b => exact .inl (((hK.step.put hdr (by omega) (by omega) (by omega)).step).crash hH hs ht ch)
  | c =>
    have hcl := (hK.step.put (i := 1 + (1 - hd)) hdr (by omega) (by omega) (by omega)).step.clean hH
    exact .inl (hcl.congr rfl (fun i => crash_same (s := (t.step.put (1 + (1 - hd)) hdr).step.clean.step) (fun _ => rfl) ch i) (fun _ => rfl))
  | d =>
    have hcl := (hK.step.put (i := 1 + (1 - hd)) hdr (by omega) (by omega) (by omega)).step.clean hH
    generalize hu : (t.step.put (1 + (1 - hd)) hdr).step.clean = u at *
    have huc : ∀ i, u.pend i = none := by rw [← hu]; exact fun _ => rfl
    have hv : ((u.step.put 0 [UInt8.ofNat (1 - hd)]).step).pend = fun j => if j = 0 then some (UInt8.ofNat (1 - hd) :: (u.now 0).drop 1) else none := by
      funext j
      show (if j = 0 then some ([UInt8.ofNat (1 - hd)] ++ (u.step.now 0).drop 1) else u.pend j) = _
      rw [huc]
      rfl
    have h64 : (u.now 0).length = 64 := by
      have := ht.kept_len 0
      rw [clean_now huc]
      exact this
    have key : ∀ i, (((u.step.put 0 [UInt8.ofNat (1 - hd)]).step).crash ch).now i = if i = 0 then torn (ch.getD (((u.step.put 0 [UInt8.ofNat (1 - hd)]).step).rank 0) 0) (UInt8.ofNat (1 - hd) :: (u.now 0).drop 1) (u.now 0) else u.now i := by
      intro i
      rw [DSt.crash_now]
      unfold DSt.tornAt
      rw [hv]
      dsimp only
      by_cases hi : i = 0
      · subst hi
        rw [if_pos rfl, if_pos rfl, clean_now huc]
        rfl
      · rw [if_neg hi, if_neg hi, clean_now huc]
        rfl
    by_cases h0 : tornN (ch.getD (((u.step.put 0 [UInt8.ofNat (1 - hd)]).step).rank 0) 0) = 0
    · refine .inl (hcl.congr rfl (fun i => ?_) (fun _ => rfl))
      rw [key]
      split
      · rename_i hi
        subst hi
        rw [torn_none _ _ _ h0]
      · rfl
    · refine .inr (hN.congr ?_ (fun i => ?_) (fun _ => rfl))
      · rw [← hu]
        rfl
      · have hcn : (countsS t (1 - hd) hdr).now i = if i = 0 then UInt8.ofNat (1 - hd) :: (u.now 0).drop 1 else u.now i := by
          unfold countsS
          rw [hu, DSt.clean_now, DSt.step_now, DSt.put_now]
          by_cases hi : i = 0
          · subst hi
            rw [if_pos rfl, if_pos rfl]
            rfl
          · rw [if_neg hi, if_neg hi]
            rfl
        rw [key, hcn]
        split
        · rename_i hi
          exact torn_one _ _ _ h64 h0
        · rfl
theorem lay_off {s : DSt} {hd ar ar' q0 q : Nat} {recs recs' : List ByteArray} (h : Holds s hd ar recs) (ho : DOk s) (har : ar' ≤ 1) (hq : q ≤ arL s.n) (hov : Over recs recs' ar ar') (hlast : q = q0 ∨ (q - 1) * 64 < (recsB recs').length)
    (ht : DOk (layS s (4 + ar' * arL s.n) q0 q (recsB recs')).step) (ch : List UInt8) : Holds ((layS s (4 + ar' * arL s.n) q0 q (recsB recs')).step.crash ch) hd ar recs :=
  (keep_lay h ho har hq hov hlast).step.crash h ho ht ch
end Go.Proofs.Ytiialjncdhhceaa
