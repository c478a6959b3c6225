/- The journal parses an area's bytes that are records one behind the other. -/
import Derived.Test.YtiialjncdhhceaaGreatRunBitsMath
namespace Go.Proofs.YtiialjncdhhceaaGreat
open Go.RowKit
set_option linter.unusedVariables false
set_option linter.unusedSimpArgs false

def recsB (l : List ByteArray) : List UInt8 := l.flatMap recB
theorem recsB_cons (r : ByteArray) (l : List ByteArray) : recsB (r :: l) = recB r ++ recsB l := rfl
theorem recsB_append (a b : List ByteArray) : recsB (a ++ b) = recsB a ++ recsB b := by unfold recsB; rw [List.flatMap_append]
theorem strOf_bs (s : ByteArray) : (⟨(bs s).toArray⟩ : ByteArray) = s := by
  cases s with
  | mk d => cases d with
    | mk l => rfl
theorem rec_head (r : ByteArray) (more : List UInt8) (h : r.size ≤ 20000) : getB ((recB r ++ more).take 4) = r.size ∧ (recB r ++ more).drop 4 = bs r ++ more := by
  have hl := putB_length r.size 4
  unfold recB
  rw [List.append_assoc]
  constructor
  · rw [List.take_append_of_le_length (by omega), List.take_of_length_le (by omega), getB_put r.size 4 (by decide)]
    exact Nat.mod_eq_of_lt (by omega)
  · rw [List.drop_append_of_le_length (by omega), List.drop_of_length_le (by omega), List.nil_append]
def lenV : Value → Nat
  | .slice _ n _ => n
  | _ => 0

section
variable {ops : Array Oper} {rest : List Oper} {o : Oper} {a : Act} {Q : Exit → Act → World → Prop}
/-- append(v, s): one string. -/
theorem appStr1 {W : World} (base : Nat) (hgd : o.guard = none) (s x : Operand)
    (ho : o.op = .call { callee := .builtin .append, args := #[s, x], argTypes := #[34, 34] })
    {v : Value} {l : List ByteArray} (HO : OSs W base v l) (y : ByteArray) (hs : a.eval s = v) (hx : a.eval x = .slice (some ⟨W.heap.size, 0, none⟩) 1 1)
    (hbase : base ≤ W.heap.size) (hl : l.length + 1 ≤ 1000000)
    (h : ∀ v1 w1, OSs w1 base v1 (l ++ [y]) → Fr v.ownBlock.toList W w1 → Nw W v v1 → wpList Tryz.prog ops Q rest (a.put o.dst v1) w1) :
    wpList Tryz.prog ops Q (o :: rest) a (W.alloc (.cells #[.string y] 9)) := by
  obtain ⟨i0, hi, hz0, hz1, hz2⟩ := info_parts infoStr
  refine wpList_append_own_at (W.alloc (.cells #[.string y] 9)) hgd s x 34 ho base 9 i0 (.string ByteArray.empty) 1 16 Tryz.underlying34 hi hz0 hz1 hz2 rfl (by omega) v l.length (l.map Value.string) hs (World.ownsRow.alloc HO _) ⟨W.heap.size, 0, none⟩ 1 1 [.string y] hx rfl
    (World.news_of_block (cs := #[.string y]) (t := 9) (fr := (0, 0)) (heap_alloc_new W _)) (by simp [Value.oneCell']) (by simp only [maxLen]; omega) (by omega) (by simp; omega) ?_
  intro v1 w1 hown hg _ hat
  refine h v1 w1 ?_ (((Fr.refl _ _).alloc _).grown hg (by intro k hk; simp [hk])) ?_
  · unfold OSs
    simpa using hown
  · intro k hk
    rcases hat with hat | hat
    · exact .inl (hat ▸ hk)
    · rw [hat] at hk
      simp at hk
      exact .inr (by omega)
end

set_option maxHeartbeats 1000000 in
set_option maxRecDepth 100000 in
theorem parsed_c (A : Option Addr) (n c : Nat) (recs : List ByteArray) (w : World) (hb : RB w A n (recsB recs)) (hnc : n ≤ c) (hsz : ∀ r ∈ recs, r.size ≤ 20000) (hn : n ≤ 1000000) :
    Calls Tryz.prog 63 #[.slice A n c] w fun e w' => ∃ v, e = .returned v ∧ OSs w' w.heap.size v recs ∧ Fr [] w w' := by
  go_enter Tryz.func63, Tryz.ntmps63
  go_wp2_with fail
  go_loopw [0, 3] (fun dv ov wr => ∃ (pre post : List ByteArray) (A' : Option Addr) (n' c' : Nat), recs = pre ++ post ∧ dv = .slice A' n' c' ∧ RB wr A' n' (recsB post) ∧ n' ≤ c' ∧ Lies A A' ∧ n' + pre.length ≤ n ∧ OSs wr w.heap.size ov pre ∧ Fr [] w wr) (fun dv _ _ => lenV dv)
  case atStart => exact ⟨[], recs, A, n, c, rfl, rfl, hb, hnc, Lies.refl _, by simp, OSs.nil _ _, Fr.refl _ _⟩
  case round =>
    obtain ⟨pre, post, A', n', c', hrecs, rfl, hbr, hnc', hlie, hcnt, hO, hfr⟩ := hrel
    cases post with
    | nil =>
      have hn0 : n' = 0 := by have := hbr.1; simpa [recsB] using this.symm
      subst hn0
      rw [List.append_nil] at hrecs
      subst hrecs
      go_wp2_with fail
      go_ret
      exact ⟨_, rfl, hO, hfr⟩
    | cons r rs =>
      rw [recsB_cons] at hbr
      have hrs : r.size ≤ 20000 := hsz r (by rw [hrecs]; simp)
      obtain ⟨hg, hd⟩ := rec_head r (recsB rs) hrs
      obtain ⟨M, hM⟩ : ∃ M, (recsB rs).length = M := ⟨_, rfl⟩
      have hlen : n' = r.size + 4 + M := by
        have := hbr.1
        rw [List.length_append, recB_len, hM] at this
        omega
      have hpos : (0 : Int) < (n' : Int) := by omega
      replace hrecs := hid hrecs
      have hn4 : 4 ≤ n' := by omega
      have hnM : n' = r.size + 4 + M := hlen
      replace hlen := hid hlen
      replace hnM := hid hnM
      replace hM := hid hM
      go_wp2_with fail
      refine (Get_ok A' n' c' 4 4 _ wr hbr hnc' (by decide) hn4).mono ?_
      rw [hg, hd]
      rintro e w2 ⟨v2, rfl, ⟨A2, n2, c2, rfl, hn2, hr2, hlie2⟩, hf2⟩
      have hlen2 : n2 = r.size + M := by
        have := hr2.1
        rw [List.length_append, bs_length, hM.out] at this
        omega
      have hx1 : ¬ (20000 : Int) < (r.size : Int) := by omega
      have hx2 : ¬ (n2 : Int) < (r.size : Int) := by omega
      have hstr : (convert 30 9 (.slice A2 r.size c2)).run Tryz.prog w2 = .ok (.string r) w2 := by
        have h1 := hr2.take r.size (by omega)
        rw [List.take_append_of_le_length (by rw [bs_length]; exact Nat.le_refl _), List.take_of_length_le (by rw [bs_length]; exact Nat.le_refl _)] at h1
        have h2 := run_str 30 5 9 Tryz.underlying30 Tryz.underlying5 Tryz.underlying9 (c := c2) h1
        rw [strOf_bs] at h2
        exact h2
      have hx3 : (r.size : Int) ≤ (c2 : Int) := by omega
      have hcut : RB w2 (cutA A2 r.size c2) (n2 - r.size) (recsB rs) := by
        have h1 := hr2.cut r.size (by omega) hn2
        rw [List.drop_append_of_le_length (by rw [bs_length]; exact Nat.le_refl _), List.drop_of_length_le (by rw [bs_length]; exact Nat.le_refl _), List.nil_append] at h1
        exact h1
      have hf02 := hfr.then hf2
      have hO2 := hO.kept hf2 (by simp)
      have hpl : pre.length + 1 ≤ 1000000 := by omega
      replace hcut := hid hcut
      have hmeas : n2 - r.size < n' := by have := hlen.out; omega
      have hpl2 : (n2 - r.size) + (pre.length + 1) ≤ n := by have := hlen.out; omega
      replace hlen2 := hid hlen2
      replace hmeas := hid hmeas
      replace hpl2 := hid hpl2
      by_cases hcx : c2 = r.size
      · subst hcx
        go_wp2_with (at_builtin; refine stop_append rfl ?_)
        refine Stop.go (appStr1 w.heap.size rfl _ _ rfl hO2 r rfl rfl hf02.size hpl ?_)
        intro v4 w4 hO4 hf4 hn4
        have hf04 : Fr [] w w4 := hf02.past hf4 (fun z hz => (hO2.lt z (by simpa using hz)).1)
        have hb4 : RB w4 A2 (n2 - r.size) (recsB rs) := by
          have h1 := hcut.out
          rw [cutA, if_pos rfl] at h1
          refine h1.kept' hf4 (fun h0 a ha => ?_)
          have h3 := h1.lt h0 a ha
          intro hm
          have h4 := (hO2.lt a.block (by simpa using hm)).1
          obtain ⟨a1, ha1, e1⟩ := hlie2 a ha
          obtain ⟨a2, ha2, e2⟩ := hlie a1 ha1
          have h5 := hb.lt (by have := hpl2.out; omega) a2 ha2
          omega
        clear hstr
        go_wp2_with fail
        try go_frame
        go_roundw
        case rel =>
          have e0 : n2 - r.size = 0 := by omega
          rw [e0] at hb4
          exact ⟨pre ++ [r], rs, A2, 0, 0, by rw [List.append_assoc]; exact hrecs.out, rfl, hb4, Nat.le_refl _, hlie.trans hlie2, by have := hpl2.out; rw [List.length_append]; simp; omega, hO4, hf04⟩
        case measure => simp [lenV]; have := hmeas.out; omega
      · have hcx' : ¬ c2 = r.size := hcx
        go_wp2_with (at_builtin; refine stop_append rfl ?_)
        refine Stop.go (appStr1 w.heap.size rfl _ _ rfl hO2 r rfl rfl hf02.size hpl ?_)
        intro v4 w4 hO4 hf4 hn4
        have hf04 : Fr [] w w4 := hf02.past hf4 (fun z hz => (hO2.lt z (by simpa using hz)).1)
        have hb4 : RB w4 (Option.map (fun x => x.add r.size) A2) (n2 - r.size) (recsB rs) := by
          have h1 := hcut.out
          rw [cutA, if_neg hcx] at h1
          refine h1.kept' hf4 (fun h0 a ha => ?_)
          have h3 := h1.lt h0 a ha
          intro hm
          have h4 := (hO2.lt a.block (by simpa using hm)).1
          obtain ⟨a1, ha1, e1⟩ := hlie2.trans (Lies.cut A2 r.size c2) a (by rw [cutA, if_neg hcx]; exact ha)
          obtain ⟨a2, ha2, e2⟩ := hlie a1 ha1
          have h5 := hb.lt (by have := hpl2.out; omega) a2 ha2
          omega
        clear hstr
        go_wp2_with fail
        try go_frame
        go_roundw
        case rel =>
          refine ⟨pre ++ [r], rs, _, _, _, by rw [List.append_assoc]; exact hrecs.out, rfl, hb4, by omega, ?_, by have := hpl2.out; rw [List.length_append]; simp; omega, hO4, hf04⟩
          have h9 := (hlie.trans hlie2).trans (Lies.cut A2 r.size c2)
          rw [cutA, if_neg hcx] at h9
          exact h9
        case measure => simp [lenV]; exact hmeas.out
end Go.Proofs.YtiialjncdhhceaaGreat
