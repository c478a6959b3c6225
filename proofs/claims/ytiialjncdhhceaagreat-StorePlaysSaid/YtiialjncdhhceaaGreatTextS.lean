/- A region whose order is drawn, walked in the order of the text, where readers of memory and calls may come either way round: what the readers give stays, in every world that the calls leave. -/
import Derived.Test.YtiialjncdhhceaaGreatText
namespace Go.Proofs.YtiialjncdhhceaaGreat
open Go
set_option linter.unusedVariables false
set_option linter.unusedSimpArgs false
section
variable {P : Program} {ops : Array Oper} {S : World → Prop}

/-- What an operation gives, in whatever world of S. -/
def Gives (P : Program) (ops : Array Oper) (S : World → Prop) (o : Oper) (a : Act) : Prop :=
  Region.wanted o (yielded ops a.tmps) = true → ∃ v, ∀ w, S w → (execOp a.eval o).run P w = .ok (.value v) w

def mov (P : Program) (R : List Nat) (i : Nat) (o : Oper) : Bool := cls P o == 0 || (R.contains i && cls P o == 1)

def late (P : Program) (L : List Nat) (i : Nat) (o : Oper) : Bool := L.contains i && cls P o == 1

/-- Ready: free ones give the same in whatever world of S0, late ones in whatever world of S. -/
def Giv (P : Program) (ops : Array Oper) (S0 : World → Prop) (R L : List Nat) (i : Nat) (a : Act) (S : World → Prop) : Prop := ∀ o, ops[i]? = some o → (mov P R i o = true → Gives P ops S0 o a) ∧ (late P L i o = true → Gives P ops S o a)

theorem gives_left {i : Nat} {o : Oper} {a a' : Act} (hs : ∀ cs b, o.op ≠ .select cs b) (hl : Left1 ops i a a') (h : ∀ d, dstOf ops i = some d → d ∉ o.looksAt ops) : Gives P ops S o a' ↔ Gives P ops S o a := by
  unfold Gives
  rw [wanted_left hl h]
  obtain ⟨u, ds, rfl⟩ := hl
  have he : execOp (({ a with defers := ds } : Act).put ((ops[i]?).bind (·.dst)) u).eval o = execOp a.eval o := execOp_put o hs ({ a with defers := ds } : Act) _ u h
  rw [he]
theorem Gives.sub {o : Oper} {a : Act} {S S' : World → Prop} (h : Gives P ops S o a) (hs : ∀ w, S' w → S w) : Gives P ops S' o a := fun hw => by
  obtain ⟨v, hv⟩ := h hw
  exact ⟨v, fun w h => hv w (hs w h)⟩

theorem giv_left {S0 : World → Prop} {R L : List Nat} {i j : Nat} {oj : Oper} {a a' : Act} (hj : ops[j]? = some oj) (hs : ∀ cs b, oj.op ≠ .select cs b) (hl : Left1 ops i a a') (h : ∀ d, dstOf ops i = some d → d ∉ oj.looksAt ops) : Giv P ops S0 R L j a' S ↔ Giv P ops S0 R L j a S := by
  unfold Giv
  rw [hj]
  simp only [Option.some.injEq, forall_eq']
  rw [gives_left hs hl h, gives_left hs hl h]
theorem Giv.sub {S0 : World → Prop} {R L : List Nat} {i : Nat} {a : Act} {S S' : World → Prop} (h : Giv P ops S0 R L i a S) (hs : ∀ w, S' w → S w) : Giv P ops S0 R L i a S' := fun o ho => ⟨(h o ho).1, fun hl => ((h o ho).2 hl).sub hs⟩

/-- It may change places. -/
def Mv (P : Program) (ops : Array Oper) (R L : List Nat) (i : Nat) : Prop := ∃ o, ops[i]? = some o ∧ (mov P R i o = true ∨ late P L i o = true)

def txs (P : Program) (ops : Array Oper) (S0 : World → Prop) (R L : List Nat) : List Nat → (Act → World → Prop) → (World → Prop) → Act → World → Prop
  | [], K, S => fun a w => S w ∧ K a w
  | i :: l, K, S => fun a w => S w ∧ Giv P ops S0 R L i a S ∧ st P ops i (fun a w => ∃ S', (∀ w, S' w → S w) ∧ (Mv P ops R L i → S' = S) ∧ txs P ops S0 R L l K S' a w) a w

theorem txs_S {S0 : World → Prop} {R L : List Nat} {l : List Nat} {K : Act → World → Prop} {a : Act} {w : World} (h : txs P ops S0 R L l K S a w) : S w := by
  cases l <;> exact h.1

/-- An operation that gives a value in every world of S, met in one of them. -/
theorem st_give {i : Nat} {o : Oper} {K : Act → World → Prop} {a : Act} {w : World} (hi : ops[i]? = some o) (hg : Gives P ops S o a) (hw : S w) (h : st P ops i K a w) :
    (∃ v, Region.wanted o (yielded ops a.tmps) = true ∧ (∀ w, S w → (execOp a.eval o).run P w = .ok (.value v) w) ∧ K (a.put o.dst v) w) ∨ (Region.wanted o (yielded ops a.tmps) = false ∧ K (a.put o.dst undef) w) := by
  unfold st wpOp at h
  simp only [hi] at h
  split at h
  · rename_i hwt
    obtain ⟨v, hv⟩ := hg hwt
    rcases h with h | ⟨_, h⟩
    · unfold Oper.wp at h
      rw [hv w hw] at h
      exact .inl ⟨v, hwt, hv, h⟩
    · exact absurd h lets_false
  · rename_i hwt
    exact .inr ⟨by simpa using hwt, h⟩

theorem st_take {i : Nat} {o : Oper} {K : Act → World → Prop} {a : Act} {w : World} (hi : ops[i]? = some o)
    (h : (∃ v, Region.wanted o (yielded ops a.tmps) = true ∧ (execOp a.eval o).run P w = .ok (.value v) w ∧ K (a.put o.dst v) w) ∨ (Region.wanted o (yielded ops a.tmps) = false ∧ K (a.put o.dst undef) w)) : st P ops i K a w := by
  unfold st wpOp
  simp only [hi]
  rcases h with ⟨v, hw, hr, hK⟩ | ⟨hw, hK⟩
  · rw [if_pos hw]
    left
    unfold Oper.wp
    rw [hr]
    exact hK
  · rw [if_neg (by rw [hw]; decide)]
    exact hK

theorem txs_swap {S0 : World → Prop} {R L : List Nat} {i j : Nat} {oi oj : Oper} (hi : ops[i]? = some oi) (hj : ops[j]? = some oj) (hns : Region.noSelect ops = true) (hap : oi.apart ops oj = true)
    (hcl : mov P R i oi = true ∨ mov P R j oj = true ∨ late P L i oi = true) {l : List Nat} {K : Act → World → Prop} {a : Act} {w : World} (h0 : ∀ w, S w → S0 w) (h : txs P ops S0 R L (i :: j :: l) K S a w) : txs P ops S0 R L (j :: i :: l) K S a w := by
  have hsi := fun cs b => Region.noSelect_spec hns i oi cs b hi
  have hsj := fun cs b => Region.noSelect_spec hns j oj cs b hj
  obtain ⟨hS, hgi, h⟩ := h
  obtain ⟨h1, h2, h3⟩ := Oper.apart_spec hap
  have h2' : ∀ d, oj.dst = some d → oi.dst ≠ some d := fun d hd he => h2 d he hd
  have h1' : ∀ d, dstOf ops i = some d → d ∉ oj.looksAt ops := fun d hd => h1 d (by simpa [dstOf, hi] using hd)
  have h3' : ∀ d, dstOf ops j = some d → d ∉ oi.looksAt ops := fun d hd => h3 d (by simpa [dstOf, hj] using hd)
  have left_i : ∀ v, Left1 ops i a (a.put oi.dst v) := fun v => ⟨v, a.defers, by rw [hi]; rfl⟩
  have left_j : ∀ v, Left1 ops j a (a.put oj.dst v) := fun v => ⟨v, a.defers, by rw [hj]; rfl⟩
  have hf := st_frame h
  obtain ⟨a1, w1, ⟨S1, hs1, he1, _, hgj1, _⟩, hl⟩ := st_out hf
  have hl := hl.resolve_right (by rw [hi]; simp)
  by_cases mi : Mv P ops R L i
  · -- the first gives the same behind the second
    have hgj : Giv P ops S0 R L j a S := by
      have := he1 mi
      subst this
      exact (giv_left hj hsj hl h1').1 hgj1
    refine ⟨hS, hgj, ?_⟩
    have hGi : Gives P ops S oi a := by
      obtain ⟨o, ho, hm⟩ := mi
      rw [hi] at ho
      cases ho
      rcases hm with hm | hm
      · exact ((hgi oi hi).1 hm).sub h0
      · exact (hgi oi hi).2 hm
    rcases st_give hi hGi hS h with ⟨v, hw, hv, S2, hs2, he2, _, _, hL⟩ | ⟨hw, S2, hs2, he2, _, _, hL⟩
    · have := he2 mi
      subst this
      refine st_mono ?_ (st_frame ((st_shift hj hsj v h1 h2).1 hL))
      rintro a' w' ⟨⟨S3, hs3, he3, hT⟩, hl'⟩
      have hl' := hl'.resolve_right (by rw [hj]; simp)
      refine ⟨S3, hs3, he3, txs_S hT, ((giv_left hi hsi hl' h3').2 hgi).sub hs3, st_take hi (.inl ⟨v, ?_, ?_, S3, fun _ h => h, fun _ => rfl, hT⟩)⟩
      · rw [wanted_left hl' h3']; exact hw
      · obtain ⟨u, ds, rfl⟩ := hl'
        have he : execOp (({ a with defers := ds } : Act).put ((ops[j]?).bind (·.dst)) u).eval oi = execOp a.eval oi := execOp_put oi hsi ({ a with defers := ds } : Act) _ u h3'
        rw [he]
        exact hv w' (hs3 w' (txs_S hT))
    · have := he2 mi
      subst this
      refine st_mono ?_ (st_frame ((st_shift hj hsj undef h1 h2).1 hL))
      rintro a' w' ⟨⟨S3, hs3, he3, hT⟩, hl'⟩
      have hl' := hl'.resolve_right (by rw [hj]; simp)
      exact ⟨S3, hs3, he3, txs_S hT, ((giv_left hi hsi hl' h3').2 hgi).sub hs3, st_take hi (.inr ⟨by rw [wanted_left hl' h3']; exact hw, S3, fun _ h => h, fun _ => rfl, hT⟩)⟩
  · -- the second gives the same ahead of the first
    have hmi : mov P R i oi ≠ true ∧ late P L i oi ≠ true := ⟨fun h => mi ⟨oi, hi, .inl h⟩, fun h => mi ⟨oi, hi, .inr h⟩⟩
    have cj : mov P R j oj = true := by
      rcases hcl with h | h | h
      · exact absurd h hmi.1
      · exact h
      · exact absurd h hmi.2
    have hGj : Gives P ops S0 oj a := (gives_left hsj hl h1').1 ((hgj1 oj hj).1 cj)
    have hgj : Giv P ops S0 R L j a S := fun o ho => by
      rw [hj] at ho
      cases ho
      exact ⟨fun _ => hGj, fun _ => hGj.sub h0⟩
    have hgi' : ∀ a', Giv P ops S0 R L i a' S := fun a' o ho => by
      rw [hi] at ho
      cases ho
      exact ⟨fun h => absurd h hmi.1, fun h => absurd h hmi.2⟩
    refine ⟨hS, hgj, ?_⟩
    by_cases hw : Region.wanted oj (yielded ops a.tmps) = true
    · obtain ⟨u, hu⟩ := hGj hw
      refine st_take hj (.inl ⟨u, hw, hu w (h0 w hS), S, fun _ h => h, fun _ => rfl, hS, hgi' _, ?_⟩)
      refine (st_shift hi hsi u h3 h2').2 (st_mono ?_ hf)
      rintro a' w' ⟨⟨S2, hs2, _, hS', _, hst⟩, hl'⟩
      have hl' := hl'.resolve_right (by rw [hi]; simp)
      have he : execOp a'.eval oj = execOp a.eval oj := by
        obtain ⟨u', ds, rfl⟩ := hl'
        exact execOp_put oj hsj ({ a with defers := ds } : Act) _ u' h1'
      have hg' : Gives P ops S0 oj a' := (gives_left hsj hl' h1').2 hGj
      have hS0' := h0 w' (hs2 w' hS')
      rcases st_give hj hg' hS0' hst with ⟨v', _, hv', S3, hs3, _, hT⟩ | ⟨hw', _⟩
      · have h5 := hv' w' hS0'
        rw [he, hu w' hS0'] at h5
        cases h5
        exact ⟨S3, fun w h => hs2 w (hs3 w h), fun h => absurd h mi, hT⟩
      · rw [wanted_left hl' h1', hw] at hw'
        cases hw'
    · have hw : Region.wanted oj (yielded ops a.tmps) = false := by simpa using hw
      refine st_take hj (.inr ⟨hw, S, fun _ h => h, fun _ => rfl, hS, hgi' _, ?_⟩)
      refine (st_shift hi hsi undef h3 h2').2 (st_mono ?_ hf)
      rintro a' w' ⟨⟨S2, hs2, _, hS', _, hst⟩, hl'⟩
      have hl' := hl'.resolve_right (by rw [hi]; simp)
      have hg' : Gives P ops S0 oj a' := (gives_left hsj hl' h1').2 hGj
      rcases st_give hj hg' (h0 w' (hs2 w' hS')) hst with ⟨v', hw', _, _⟩ | ⟨_, S3, hs3, _, hT⟩
      · rw [wanted_left hl' h1', hw] at hw'
        cases hw'
      · exact ⟨S3, fun w h => hs2 w (hs3 w h), fun h => absurd h mi, hT⟩

/-! ### the conditions of the text -/
def lateS (P : Program) (R L : List Nat) (ops : Array Oper) (i : Nat) (o : Oper) : Bool :=
  (!mov P R i o && !late P L i o) || (List.range ops.size).all fun k => decide (k < i) || match dstOf ops k with
    | some d => !(o.looksAt ops).contains d
    | none => true

def pairS (P : Program) (R L M : List Nat) (ops : Array Oper) (i j : Nat) : Bool :=
  bitOk ops M i j && match ops[i]?, ops[j]? with
  | some oi, some oj => (M.getD j 0).testBit i || (oi.apart ops oj && (mov P R i oi || mov P R j oj || late P L i oi))
  | _, _ => true

def textS (P : Program) (R L M : List Nat) (ops : Array Oper) : Bool :=
  Region.noSelect ops && (List.range ops.size).all fun j => match ops[j]? with
    | some oj => lateS P R L ops j oj && (oj.after.all fun e => !Region.binds .any e || decide (e.on < j)) && (List.range j).all fun i => pairS P R L M ops i j
    | none => true

structure TextS (P : Program) (R L M : List Nat) (ops : Array Oper) : Prop where
  nosel : Region.noSelect ops = true
  lateS : ∀ i o, ops[i]? = some o → lateS P R L ops i o = true
  back : ∀ j o, ops[j]? = some o → ∀ e ∈ o.after, Region.binds .any e = true → e.on < j
  pair : ∀ i j, i < j → j < ops.size → pairS P R L M ops i j = true

theorem textS_spec {R L M : List Nat} (h : textS P R L M ops = true) : TextS P R L M ops := by
  simp only [textS, Bool.and_eq_true, List.all_eq_true, List.mem_range] at h
  have key : ∀ j o, ops[j]? = some o → (lateS P R L ops j o = true ∧ (∀ e ∈ o.after, Region.binds .any e = true → e.on < j)) ∧ ∀ i, i < j → pairS P R L M ops i j = true := by
    intro j o ho
    have h1 := h.2 j (Array.getElem?_eq_some_iff.1 ho).1
    rw [ho] at h1
    simp only [Bool.and_eq_true, List.all_eq_true, List.mem_range, Array.all_eq_true_iff_forall_mem, Bool.or_eq_true, decide_eq_true_eq] at h1
    refine ⟨⟨h1.1.1, fun e he hb => (h1.1.2 e he).resolve_left (by simp [hb])⟩, h1.2⟩
  exact ⟨h.1, fun i o ho => (key i o ho).1.1, fun j o ho => (key j o ho).1.2, fun i j hij hj => (key j ops[j] (by simp [hj])).2 i hij⟩

theorem txs_front {S0 : World → Prop} {R L M : List Nat} (ht : TextS P R L M ops) {K : Act → World → Prop} {i : Nat} {oi : Oper} (hi : ops[i]? = some oi) : ∀ (l1 l2 : List Nat) (S : World → Prop) (a : Act) (w : World), (∀ w, S w → S0 w) → (∀ j ∈ l1, j < i ∧ (M.getD i 0).testBit j = false) →
    txs P ops S0 R L (l1 ++ i :: l2) K S a w → txs P ops S0 R L (i :: (l1 ++ l2)) K S a w := by
  intro l1
  induction l1 with
  | nil => intro l2 S a w _ _ h; exact h
  | cons j l1 ih =>
    intro l2 S a w h0 hl h
    obtain ⟨hS, hd, h⟩ := h
    have h' : txs P ops S0 R L (j :: i :: (l1 ++ l2)) K S a w := ⟨hS, hd, st_mono (fun a' w' ⟨S', hs', he', h'⟩ => ⟨S', hs', he', ih l2 S' a' w' (fun w h => h0 w (hs' w h)) (fun k hk => hl k (by simp [hk])) h'⟩) h⟩
    obtain ⟨hji, hbit⟩ := hl j (by simp)
    have hlt := (Array.getElem?_eq_some_iff.1 hi).1
    have hj : ops[j]? = some ops[j] := by simp
    have hp := ht.pair j i hji hlt
    unfold pairS at hp
    rw [hj, hi] at hp
    simp only [hbit, Bool.false_or, Bool.and_eq_true, Bool.or_eq_true] at hp
    exact txs_swap hj hi ht.nosel hp.2.1 (by rcases hp.2.2 with (h | h) | h <;> simp [h]) h0 h'

/-! ### the walk in pieces: each piece but the last ends behind an operation that may turn the world -/
def lateEnd (P : Program) (ops : Array Oper) (a : Act) : List (Nat × (World → Prop)) → Prop
  | [] => True
  | x :: l => (∀ o, ops[x.1]? = some o → Gives P ops x.2 o a) ∧ lateEnd P ops a l

theorem lateEnd_iff {a : Act} {l : List (Nat × (World → Prop))} : lateEnd P ops a l ↔ ∀ x ∈ l, ∀ o, ops[x.1]? = some o → Gives P ops x.2 o a := by
  induction l with
  | nil => simp [lateEnd]
  | cons x l ih => simp [lateEnd, ih]

def Quiet (P : Program) (ops : Array Oper) (i : Nat) : Prop := ∀ o, ops[i]? = some o → cls P o = 0 ∨ cls P o = 1

def tz (P : Program) (ops : Array Oper) (L : List Nat) (K : Act → World → Prop) : List Nat → List (Nat × (World → Prop)) → (World → Prop) → Act → World → Prop
  | [], acc, _ => fun a w => lateEnd P ops a acc ∧ K a w
  | i :: l, acc, S => st P ops i (fun a w => ∃ S', (∀ w, S' w → S w) ∧ (Quiet P ops i → S' = S) ∧ (¬ Quiet P ops i → S' w) ∧ tz P ops L K l (if L.contains i then (i, S) :: acc else acc) S' a w)

theorem tz_sub {L : List Nat} {K : Act → World → Prop} : ∀ (l : List Nat) (acc acc' : List (Nat × (World → Prop))) (S : World → Prop) (a : Act) (w : World), (∀ x ∈ acc', x ∈ acc) → tz P ops L K l acc S a w → tz P ops L K l acc' S a w := by
  intro l
  induction l with
  | nil => intro acc acc' S a w hs h; exact ⟨lateEnd_iff.2 fun x hx => lateEnd_iff.1 h.1 x (hs x hx), h.2⟩
  | cons i l ih =>
    intro acc acc' S a w hs h
    refine st_mono ?_ h
    rintro a' w' ⟨S', h1, h2, h3, h4⟩
    refine ⟨S', h1, h2, h3, ih _ _ S' a' w' ?_ h4⟩
    intro x hx
    split at hx
    · rename_i hc
      rcases List.mem_cons.1 hx with h | h
      · rw [if_pos hc, h]; exact List.mem_cons_self
      · rw [if_pos hc]; exact List.mem_cons_of_mem _ (hs x h)
    · rename_i hc
      rw [if_neg hc]; exact hs x hx

def wpSegs (P : Program) (ops : Array Oper) (K : Act → World → Prop) : List (List Oper × List Nat) → List (Nat × (World → Prop)) → (World → Prop) → Act → World → Prop
  | [], acc, _ => fun a w => lateEnd P ops a acc ∧ K a w
  | s :: ss, acc, S => match ss with
    | [] => wpList P ops (Exit.then (fun a w => lateEnd P ops a (s.2.map (·, S) ++ acc) ∧ K a w) (fun _ _ _ => False)) s.1
    | _ :: _ => wpList P ops (Exit.then (fun a w => ∃ S' : World → Prop, (∀ w, S' w → S w) ∧ S' w ∧ wpSegs P ops K ss (s.2.map (·, S) ++ acc) S' a w) (fun _ _ _ => False)) s.1

def quiet (P : Program) (o : Oper) : Bool := cls P o == 0 || cls P o == 1
/-- All but the last of a piece turn no world; the last may. -/
def segOk (P : Program) : List Oper → Bool
  | [] => false
  | [o] => !quiet P o
  | o :: l => quiet P o && segOk P l
def lateIn (L : List Nat) (k m : Nat) (rs : List Nat) : Bool := (List.range m).all fun d => !L.contains (k + d) || rs.contains (k + d)
def segsOk (P : Program) (L : List Nat) : Nat → List (List Oper × List Nat) → Bool
  | _, [] => true
  | k, s :: ss => lateIn L k s.1.length s.2 && match ss with
    | [] => s.1.all (quiet P)
    | _ :: _ => segOk P s.1 && segsOk P L (k + s.1.length) ss

theorem tx_mono {K K' : Act → World → Prop} (h : ∀ a w, K a w → K' a w) : ∀ (l : List Nat) (a : Act) (w : World), tx P ops l K a w → tx P ops l K' a w := by
  intro l
  induction l with
  | nil => intro a w h'; exact h a w h'
  | cons i l ih => intro a w h'; exact st_mono (fun a w => ih a w) h'

theorem wpOps_seg {Q : Exit → Act → World → Prop} (s : List Oper) : ∀ k, (∀ j, (h : j < s.length) → ops[k + j]? = some s[j]) → wpOps P ops Q (List.range' k s.length) = wpList P ops Q s := by
  induction s with
  | nil => intro k _; funext a w; simp [wpOps, wpList]
  | cons o l ih =>
    intro k h
    have h0 : ops[k]? = some o := h 0 (by simp)
    have ih' := ih (k + 1) (fun j hj => by
      have := h (j + 1) (by simp; omega)
      rw [show k + 1 + j = k + (j + 1) by omega, this]
      simp)
    funext a w
    simp only [List.length_cons, List.range'_succ, wpOps, h0, wpList, ih']

theorem quiet_is {k : Nat} {o : Oper} (h0 : ops[k]? = some o) : Quiet P ops k ↔ quiet P o = true := by
  unfold Quiet quiet
  simp [h0]

/-- The pieces ahead of the last. -/
theorem tz_of_tx {L : List Nat} {K : Act → World → Prop} {l' : List Nat} {S : World → Prop} : ∀ (s : List Oper) (k : Nat) (acc acc' : List (Nat × (World → Prop))), (∀ j, (h : j < s.length) → ops[k + j]? = some s[j]) → segOk P s = true →
    (∀ x ∈ acc', x ∈ acc) → (∀ j, j < s.length → L.contains (k + j) = true → (k + j, S) ∈ acc) →
    ∀ a w, tx P ops (List.range' k s.length) (fun a w => ∃ S' : World → Prop, (∀ w, S' w → S w) ∧ S' w ∧ tz P ops L K l' acc S' a w) a w → tz P ops L K (List.range' k s.length ++ l') acc' S a w := by
  intro s
  induction s with
  | nil => intro k acc acc' _ h; cases h
  | cons o s ih =>
    intro k acc acc' hk hs hsub hL a w h
    rw [List.length_cons, List.range'_succ] at h
    rw [List.length_cons, List.range'_succ, List.cons_append]
    have h0 : ops[k]? = some o := hk 0 (by simp)
    have hsub' : ∀ x ∈ (if L.contains k then (k, S) :: acc' else acc'), x ∈ acc := by
      intro x hx
      split at hx
      · rename_i hc
        rcases List.mem_cons.1 hx with h | h
        · rw [h]
          exact hL 0 (by simp) hc
        · exact hsub x h
      · exact hsub x hx
    cases s with
    | nil =>
      have hq : ¬ Quiet P ops k := by
        rw [quiet_is h0]
        simpa [segOk] using hs
      refine st_mono ?_ h
      rintro a' w' ⟨S', h1, h2, h3⟩
      exact ⟨S', h1, fun h => absurd h hq, fun _ => h2, tz_sub _ _ _ S' a' w' hsub' h3⟩
    | cons o' s' =>
      simp only [segOk, Bool.and_eq_true] at hs
      have hq : Quiet P ops k := (quiet_is h0).2 hs.1
      refine st_mono ?_ h
      intro a' w' h'
      refine ⟨S, fun _ h => h, fun _ => rfl, fun h => absurd hq h, ih (k + 1) acc _ (fun j hj => ?_) hs.2 hsub' (fun j hj hc => ?_) a' w' h'⟩
      · have := hk (j + 1) (by simp at hj ⊢; omega)
        rw [show k + 1 + j = k + (j + 1) by omega]
        simpa using this
      · have := hL (j + 1) (by simp at hj ⊢; omega) (by rw [show k + (j + 1) = k + 1 + j by omega]; exact hc)
        rw [show k + 1 + j = k + (j + 1) by omega]
        exact this

/-- The last piece. -/
theorem tz_of_last {L : List Nat} {K : Act → World → Prop} {S : World → Prop} : ∀ (s : List Oper) (k : Nat) (acc acc' : List (Nat × (World → Prop))), (∀ j, (h : j < s.length) → ops[k + j]? = some s[j]) → s.all (quiet P) = true →
    (∀ x ∈ acc', x ∈ acc) → (∀ j, j < s.length → L.contains (k + j) = true → (k + j, S) ∈ acc) →
    ∀ a w, tx P ops (List.range' k s.length) (fun a w => lateEnd P ops a acc ∧ K a w) a w → tz P ops L K (List.range' k s.length) acc' S a w := by
  intro s
  induction s with
  | nil => intro k acc acc' _ _ hsub _ a w h; exact ⟨lateEnd_iff.2 fun x hx => lateEnd_iff.1 h.1 x (hsub x hx), h.2⟩
  | cons o s ih =>
    intro k acc acc' hk hs hsub hL a w h
    rw [List.length_cons, List.range'_succ] at h
    rw [List.length_cons, List.range'_succ]
    have h0 : ops[k]? = some o := hk 0 (by simp)
    have hsub' : ∀ x ∈ (if L.contains k then (k, S) :: acc' else acc'), x ∈ acc := by
      intro x hx
      split at hx
      · rename_i hc
        rcases List.mem_cons.1 hx with h | h
        · rw [h]
          exact hL 0 (by simp) hc
        · exact hsub x h
      · exact hsub x hx
    simp only [List.all_cons, Bool.and_eq_true] at hs
    have hq : Quiet P ops k := (quiet_is h0).2 hs.1
    refine st_mono ?_ h
    intro a' w' h'
    refine ⟨S, fun _ h => h, fun _ => rfl, fun h => absurd hq h, ih (k + 1) acc _ (fun j hj => ?_) hs.2 hsub' (fun j hj hc => ?_) a' w' h'⟩
    · have := hk (j + 1) (by simp at hj ⊢; omega)
      rw [show k + 1 + j = k + (j + 1) by omega]
      simpa using this
    · have := hL (j + 1) (by simp at hj ⊢; omega) (by rw [show k + (j + 1) = k + 1 + j by omega]; exact hc)
      rw [show k + 1 + j = k + (j + 1) by omega]
      exact this

theorem lateIn_mem {L : List Nat} {k m : Nat} {rs : List Nat} (h : lateIn L k m rs = true) {S : World → Prop} {acc : List (Nat × (World → Prop))} (j : Nat) (hj : j < m) (hc : L.contains (k + j) = true) : (k + j, S) ∈ rs.map (·, S) ++ acc := by
  have h1 := List.all_eq_true.1 h j (List.mem_range.2 hj)
  rw [hc] at h1
  simp at h1
  simp [h1]

def flat (ss : List (List Oper × List Nat)) : List Oper := (ss.map (·.1)).flatten

theorem tz_of_segs {L : List Nat} {K : Act → World → Prop} : ∀ (ss : List (List Oper × List Nat)) (k : Nat) (acc : List (Nat × (World → Prop))) (S : World → Prop), (∀ j, (h : j < (flat ss).length) → ops[k + j]? = some (flat ss)[j]) → segsOk P L k ss = true →
    ∀ a w, wpSegs P ops K ss acc S a w → tz P ops L K (List.range' k (flat ss).length) acc S a w := by
  intro ss
  induction ss with
  | nil => intro k acc S _ _ a w h; exact h
  | cons s ss ih =>
    intro k acc S hk hs a w h
    have hl : flat (s :: ss) = s.1 ++ flat ss := rfl
    have hs0 : ∀ j, (h : j < s.1.length) → ops[k + j]? = some s.1[j] := by
      intro j hj
      have := hk j (by rw [hl, List.length_append]; omega)
      rw [this]
      simp [hl, hj]
    cases ss with
    | nil =>
      simp only [segsOk, Bool.and_eq_true] at hs
      have hl2 : flat [s] = s.1 := by simp [flat]
      rw [hl2]
      unfold wpSegs at h
      dsimp only at h
      rw [← wpOps_seg s.1 k hs0] at h
      exact tz_of_last s.1 k (s.2.map (·, S) ++ acc) acc hs0 hs.2 (fun x hx => List.mem_append_right _ hx) (fun j hj hc => lateIn_mem hs.1 j hj hc) a w (tx_of_ops _ a w h)
    | cons s' ss' =>
      unfold segsOk at hs
      simp only [Bool.and_eq_true] at hs
      rw [hl, List.length_append, List.range'_append_1.symm]
      refine tz_of_tx s.1 k (s.2.map (·, S) ++ acc) acc hs0 hs.2.1 (fun x hx => List.mem_append_right _ hx) (fun j hj hc => lateIn_mem hs.1 j hj hc) a w ?_
      unfold wpSegs at h
      dsimp only at h
      rw [← wpOps_seg s.1 k hs0] at h
      refine tx_mono ?_ _ a w (tx_of_ops _ a w h)
      rintro a' w' ⟨S', h1, h2, h'⟩
      refine ⟨S', h1, h2, ih (k + s.1.length) _ S' (fun j hj => ?_) hs.2.2 a' w' h'⟩
      have := hk (s.1.length + j) (by rw [hl, List.length_append]; omega)
      rw [show k + s.1.length + j = k + (s.1.length + j) by omega, this]
      simp [hl]

theorem tz_out {L : List Nat} {K : Act → World → Prop} : ∀ (l : List Nat) (acc : List (Nat × (World → Prop))) (S : World → Prop) (a : Act) (w : World), (∀ k ∈ l, ops[k]? ≠ none) → tz P ops L K l acc S a w → ∃ a' w', K a' w' ∧ lateEnd P ops a' acc ∧
    (∀ i l', l = i :: l' → L.contains i = true → lateEnd P ops a' [(i, S)]) ∧
    ∀ o : Oper, (∀ cs b, o.op ≠ .select cs b) → (∀ k ∈ l, ∀ d, dstOf ops k = some d → d ∉ o.looksAt ops) → dynOk P o a'.eval = dynOk P o a.eval ∧ Region.wanted o (yielded ops a'.tmps) = Region.wanted o (yielded ops a.tmps) ∧ ∀ S, (Gives P ops S o a' ↔ Gives P ops S o a) := by
  intro l
  induction l with
  | nil => intro acc S a w _ h; exact ⟨a, w, h.2, h.1, (fun i l' h => by cases h), fun o _ _ => ⟨rfl, rfl, fun _ => Iff.rfl⟩⟩
  | cons i l ih =>
    intro acc S a w hv h
    obtain ⟨a1, w1, ⟨S', _, _, _, h1⟩, hl⟩ := st_out (st_frame h)
    obtain ⟨a2, w2, h2, hacc, _, hk⟩ := ih _ S' a1 w1 (fun k hk => hv k (by simp [hk])) h1
    refine ⟨a2, w2, h2, ?_, ?_, fun o hns ho => ?_⟩
    · split at hacc
      · exact hacc.2
      · exact hacc
    · intro i' l' he hc
      cases he
      rw [if_pos hc] at hacc
      exact ⟨hacc.1, trivial⟩
    · obtain ⟨e1, e2, e3⟩ := hk o hns fun k hk => ho k (by simp [hk])
      have hl := hl.resolve_right (hv i (by simp))
      have h3 := ho i (by simp)
      exact ⟨e1.trans (dynOk_left hl h3), e2.trans (wanted_left hl h3), fun S => (e3 S).trans (gives_left hns hl h3)⟩

/-- What the free readers give at the end. -/
def readEnd (P : Program) (ops : Array Oper) (S : World → Prop) (a : Act) : List Nat → Prop
  | [] => True
  | i :: R => (∀ o, ops[i]? = some o → Gives P ops S o a) ∧ readEnd P ops S a R

theorem readEnd_mem {S : World → Prop} {a : Act} {i : Nat} : ∀ {R : List Nat}, readEnd P ops S a R → i ∈ R → ∀ o, ops[i]? = some o → Gives P ops S o a
  | j :: R, h, hm => by
    rcases List.mem_cons.1 hm with rfl | hm
    · exact h.1
    · exact readEnd_mem h.2 hm

theorem txs_of_tz {S0 : World → Prop} {R L M : List Nat} (ht : TextS P R L M ops) {K : Act → World → Prop} (hK : ∀ a w, K a w → plainEnd P ops a = true ∧ readEnd P ops S0 a R) :
    ∀ (m k : Nat) (acc : List (Nat × (World → Prop))) (S : World → Prop) (a : Act) (w : World), k + m = ops.size → S w → tz P ops L K (List.range' k m) acc S a w → txs P ops S0 R L (List.range' k m) K S a w := by
  intro m
  induction m with
  | zero => intro k acc S a w _ hS h; exact ⟨hS, h.2⟩
  | succ m ih =>
    intro k acc S a w hkm hS h
    have hvalid : ∀ j ∈ List.range' k (m + 1), ops[j]? ≠ none := by
      intro j hj
      rw [List.mem_range'_1] at hj
      rw [Ne, Array.getElem?_eq_none_iff]
      omega
    obtain ⟨a2, w2, h2, _, hlate, hk⟩ := tz_out _ acc S a w hvalid h
    obtain ⟨hpl, hrd⟩ := hK _ _ h2
    have hlate := hlate k (List.range' (k + 1) m) List.range'_succ
    rw [List.range'_succ] at h ⊢
    have hks : k < ops.size := by omega
    have ho : ops[k]? = some ops[k] := by simp [hks]
    generalize ops[k] = o at ho
    have hns := fun cs b => Region.noSelect_spec ht.nosel k o cs b ho
    have hdst : (mov P R k o = true ∨ late P L k o = true) → ∀ j ∈ List.range' k (m + 1), ∀ d, dstOf ops j = some d → d ∉ o.looksAt ops := by
      intro hm j hj d hd
      rw [List.mem_range'_1] at hj
      have hl := ht.lateS k o ho
      unfold Proofs.YtiialjncdhhceaaGreat.lateS at hl
      have hm' : (!mov P R k o && !late P L k o) = false := by rcases hm with h | h <;> simp [h]
      rw [hm', Bool.false_or] at hl
      simp only [Bool.or_eq_true, List.all_eq_true, List.mem_range, decide_eq_true_eq] at hl
      have h3 := (hl j (by omega)).resolve_left (by omega)
      rw [hd] at h3
      simpa using h3
    have hdyn : cls P o = 0 → Region.wanted o (yielded ops a.tmps) = true → dynOk P o a.eval = true := by
      intro hc hw
      have hm : mov P R k o = true := by simp [mov, hc]
      obtain ⟨e1, e2, _⟩ := hk o hns (hdst (.inl hm))
      rw [← e1]
      exact plainEnd_dyn hpl k o ho hc (by rw [e2]; exact hw)
    have hgiv : (cls P o = 0 ∨ cls P o = 1) → ∀ {L : Act → World → Prop}, st P ops k L a w → (∃ v, Region.wanted o (yielded ops a.tmps) = true ∧ (execOp a.eval o).run P w = .ok (.value v) w ∧ L (a.put o.dst v) w) ∨ (Region.wanted o (yielded ops a.tmps) = false ∧ L (a.put o.dst undef) w) := by
      intro hc L hs
      unfold st wpOp at hs
      simp only [ho] at hs
      split at hs
      · rename_i hw
        rcases hs with hs | ⟨_, hs⟩
        · left
          unfold Oper.wp at hs
          have hv : Val P (execOp a.eval o) ∧ Stl P (execOp a.eval o) := by
            rcases hc with h0 | h0
            · have := cls0 o a.eval h0 (hdyn h0 hw)
              exact ⟨this.2, this.1.stl⟩
            · have := cls1 o a.eval h0
              exact ⟨this.2, this.1⟩
          cases hr : (execOp a.eval o).run P w with
          | halt x u' => rw [hr] at hs; cases x <;> simp [Oper.upon] at hs
          | ok n u' =>
            obtain ⟨v, rfl⟩ := hv.1 w n u' hr
            have := hv.2 w _ u' hr
            subst this
            rw [hr] at hs
            exact ⟨v, hw, rfl, hs⟩
        · exact absurd hs lets_false
      · rename_i hw
        exact .inr ⟨by simpa using hw, hs⟩
    refine ⟨hS, ?_, ?_⟩
    · intro o' ho'
      rw [ho] at ho'
      cases ho'
      refine ⟨fun hm => ?_, fun hm => ?_⟩
      · have hm' := hm
        simp only [mov, Bool.or_eq_true, Bool.and_eq_true, beq_iff_eq, List.contains_iff_mem] at hm'
        rcases hm' with h0 | ⟨hR, _⟩
        · intro hw
          rcases hgiv (.inl h0) h with ⟨v, _, hr, _⟩ | ⟨hw', _⟩
          · exact ⟨v, fun w' _ => ((cls0 o a.eval h0 (hdyn h0 hw)).1 w _ w hr).2 w'⟩
          · rw [hw] at hw'
            cases hw'
        · exact ((hk o hns (hdst (.inl hm))).2.2 S0).1 (readEnd_mem hrd hR o ho)
      · have hm' := hm
        simp only [late, Bool.and_eq_true] at hm'
        exact ((hk o hns (hdst (.inr hm))).2.2 S).1 ((hlate hm'.1).1 o ho)
    · by_cases hc : cls P o = 0 ∨ cls P o = 1
      · have hq : Quiet P ops k := fun o' ho' => by rw [ho] at ho'; cases ho'; exact hc
        refine st_take ho ?_
        rcases hgiv hc h with ⟨v, hw, hr, S', h1, h2, h3, h'⟩ | ⟨hw, S', h1, h2, h3, h'⟩
        · have := h2 hq
          subst this
          exact .inl ⟨v, hw, hr, S', fun _ h => h, fun _ => rfl, ih (k + 1) _ S' _ w (by omega) hS h'⟩
        · have := h2 hq
          subst this
          exact .inr ⟨hw, S', fun _ h => h, fun _ => rfl, ih (k + 1) _ S' _ w (by omega) hS h'⟩
      · have hq : ¬ Quiet P ops k := fun h => hc (h o ho)
        refine st_mono ?_ h
        rintro a' w' ⟨S', h1, _, h3, h'⟩
        refine ⟨S', h1, fun hmv => ?_, ih (k + 1) _ S' a' w' (by omega) (h3 hq) h'⟩
        exfalso
        obtain ⟨o', ho', hm⟩ := hmv
        rw [ho] at ho'
        cases ho'
        apply hc
        rcases hm with hm | hm
        · simp only [mov, Bool.or_eq_true, Bool.and_eq_true, beq_iff_eq] at hm
          rcases hm with h | ⟨_, h⟩
          · exact .inl h
          · exact .inr h
        · simp only [late, Bool.and_eq_true, beq_iff_eq] at hm
          exact .inr hm.2

theorem txs_mono {S0 : World → Prop} {R L : List Nat} {K K' : Act → World → Prop} (h : ∀ a w, K a w → K' a w) : ∀ (l : List Nat) (S : World → Prop) (a : Act) (w : World), txs P ops S0 R L l K S a w → txs P ops S0 R L l K' S a w := by
  intro l
  induction l with
  | nil => intro S a w h'; exact ⟨h'.1, h a w h'.2⟩
  | cons i l ih => intro S a w h'; exact ⟨h'.1, h'.2.1, st_mono (fun a w ⟨S', h1, h2, h3⟩ => ⟨S', h1, h2, ih S' a w h3⟩) h'.2.2⟩

/-- A REGION WHOSE ORDER IS DRAWN, WALKED IN THE ORDER OF THE TEXT, piece by piece. No panic may come of it. S: what stays of the world; R: the readers that may come anywhere; L: those that may come later. -/
theorem wp_region_textS {id : Nat} {l : List Oper} {Q : Exit → Act → World → Prop} {a : Act} {w : World} (S : World → Prop) (R L M : List Nat) (ss : List (List Oper × List Nat)) (hm : P.follows .mixedOrders = true) (hst : textS P R L M l.toArray = true)
    (hss : segsOk P L 0 ss = true) (hl : flat ss = l) (hS : S w.drew)
    (h : ∀ K : Act → World → Prop, (∀ a' w', plainEnd P l.toArray a' = true → readEnd P l.toArray S a' R → Q .normal a' w' → K a' w') → wpSegs P l.toArray K ss [] S a w.drew) :
    (Code.region id l.toArray true).wp P Q a w := by
  have ht := textS_spec hst
  refine wp_region_any hm ?_
  have h1 := h (fun a' w' => (plainEnd P l.toArray a' = true ∧ readEnd P l.toArray S a' R) ∧ Q .normal a' w') (fun a' w' h1 h2 h3 => ⟨⟨h1, h2⟩, h3⟩)
  have h2 := tz_of_segs (L := L) ss 0 [] S (by intro j hj; subst hl; simp [hj]) hss a w.drew h1
  have h3 := txs_of_tz (S0 := S) ht (K := fun a' w' => (plainEnd P l.toArray a' = true ∧ readEnd P l.toArray S a' R) ∧ Q .normal a' w') (fun _ _ h => h.1) (flat ss).length 0 [] S a w.drew (by simp [hl]) hS h2
  have h4 : txs P l.toArray S R L (List.range' 0 l.length) (Q .normal) S a w.drew := txs_mono (K := fun a' w' => (plainEnd P l.toArray a' = true ∧ readEnd P l.toArray S a' R) ∧ Q .normal a' w') (fun _ _ h => h.2) _ S a w.drew (by rw [hl] at h3; exact h3)
  show wpAny P .any l.toArray Q l.length (Array.replicate l.toArray.size false) a w.drew
  refine wpAny_of (M := M) (T := fun l' a w => ∃ S', (∀ w, S' w → S w) ∧ txs P l.toArray S R L l' (Q .normal) S' a w) ?_ ?_ ?_ ht.back (fun i j hij hj => ?_) l.length (List.range' 0 l.length) _ a w.drew (by simp) (by simp) ?_ ?_ ?_ ⟨S, fun _ h => h, h4⟩
  · rintro a w ⟨S', _, h⟩
    exact h.2
  · rintro i l' a w ⟨S', hs, h⟩
    refine st_mono ?_ h.2.2
    rintro a' w' ⟨S2, h1, _, h2⟩
    exact ⟨S2, fun w h => hs w (h1 w h), h2⟩
  · rintro i l1 l2 a w hi hl ⟨S', hs, h⟩
    exact ⟨S', hs, txs_front ht (oi := l.toArray[i]) (by simp) l1 l2 S' a w hs hl h⟩
  · have h5 := ht.pair i j hij hj
    unfold pairS at h5
    simp only [Bool.and_eq_true] at h5
    exact h5.1
  · exact List.pairwise_lt_range'
  · intro j
    rw [List.mem_range'_1]
    rcases Nat.lt_or_ge j l.length with h4 | h4
    · simp [h4]
    · simp [Array.getElem?_eq_none, h4]
  · intro x hx
    rcases Nat.lt_or_ge x l.length with h4 | h4
    · simp [h4] at hx
    · simp [Array.getElem?_eq_none, h4] at hx

/-- A reader that turns bytes into a string. -/
theorem gives_convert {o : Oper} {a : Act} {src dst : TypeId} {x : Operand} {v : Value} (ho : o.op = .convert src dst x) (h : ∀ w, S w → (Go.convert src dst (a.eval x)).run P w = .ok v w) : Gives P ops S o a := by
  intro _
  obtain ⟨d, op, type, pos, after, guard⟩ := o
  dsimp only at ho
  subst ho
  refine ⟨v, fun w hS => ?_⟩
  show ((Go.convert src dst (a.eval x)) >>= fun y => pure (Next.value y)).run P w = _
  rw [Sem.run_bind, h w hS]
  simp
theorem gives_load {o : Oper} {a : Act} {t : TypeId} {x : Operand} {v : Value} (ho : o.op = .load t x) (h : ∀ w, S w → (Instr.loadAt t (a.eval x)).run P w = .ok v w) : Gives P ops S o a := by
  intro _
  obtain ⟨d, op, type, pos, after, guard⟩ := o
  dsimp only at ho
  subst ho
  refine ⟨v, fun w hS => ?_⟩
  show ((Instr.loadAt t (a.eval x)) >>= fun y => pure (Next.value y)).run P w = _
  rw [Sem.run_bind, h w hS]
  simp
theorem gives_idle {o : Oper} {a : Act} (h : Region.wanted o (yielded ops a.tmps) = false) : Gives P ops S o a := by
  intro h'
  rw [h] at h'
  cases h'
/-- The pieces between the cuts: how many operations, which of them are readers that may come later. -/
def cutAt (last : List Nat) : List (Nat × List Nat) → List Oper → List (List Oper × List Nat)
  | [], l => [(l, last)]
  | n :: ns, l => (l.take n.1, n.2) :: cutAt last ns (l.drop n.1)

theorem wp_region_textS' {id : Nat} {l : List Oper} {Q : Exit → Act → World → Prop} {a : Act} {w : World} (S : World → Prop) (R L : List Nat) (last : List Nat) (cuts : List (Nat × List Nat)) (hm : P.follows .mixedOrders = true) (hst : textS P R L (Region.before l.toArray).toList l.toArray = true)
    (hss : segsOk P L 0 (cutAt last cuts l) = true) (hS : S w.drew)
    (h : ∀ K : Act → World → Prop, (∀ a' w', plainEnd P l.toArray a' = true → readEnd P l.toArray S a' R → Q .normal a' w' → K a' w') → wpSegs P l.toArray K (cutAt last cuts l) [] S a w.drew) :
    (Code.region id l.toArray true).wp P Q a w := by
  refine wp_region_textS S R L _ (cutAt last cuts l) hm hst hss ?_ hS h
  clear h hss hst
  induction cuts generalizing l with
  | nil => simp [cutAt, flat]
  | cons n ns ih =>
    unfold cutAt
    have : flat ((l.take n.1, n.2) :: cutAt last ns (l.drop n.1)) = l.take n.1 ++ flat (cutAt last ns (l.drop n.1)) := rfl
    rw [this, ih, List.take_append_drop]

/-- A guarded operation that is wanted is walked as one that has no guard. -/
theorem unguard {P : Program} {ops : Array Oper} {rest : List Oper} {o : Oper} {a : Act} {Q : Exit → Act → World → Prop} {w : World} (hw : Region.wanted o (yielded ops a.tmps) = true)
    (h : wpList P ops Q ({ o with guard := none } :: rest) a w) : wpList P ops Q (o :: rest) a w := by
  unfold wpList at h ⊢
  rw [if_pos hw]
  have h0 : Region.wanted { o with guard := none } (yielded ops a.tmps) = true := rfl
  rw [if_pos h0] at h
  exact h
end
end Go.Proofs.YtiialjncdhhceaaGreat
