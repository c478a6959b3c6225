/- The walk of BitsSums: it returns true, whatever the input, and writes nothing that was there. -/
import Derived.Test.YtiialjncdhhceaaKnown1
namespace Go.Proofs.Ytiialjncdhhceaa.bitsSums
open Go.RowKit
set_option linter.unusedVariables false
set_option linter.unusedSimpArgs false

theorem xor_u8 (x : UInt8) (y : Int) (h0 : 0 ≤ y) (h1 : y ≤ 255) : bits .xor .u8 (x.toNat : Int) y = ((x ^^^ UInt8.ofNat y.toNat).toNat : Int) := by
  obtain ⟨n, rfl⟩ := Int.eq_ofNat_of_zero_le h0
  have hx := x.toNat_lt
  have hn : n < 256 := by omega
  have e1 : (BitVec.ofInt 8 (x.toNat : Int)).toNat = x.toNat := by
    rw [BitVec.ofInt_natCast, BitVec.toNat_ofNat]; exact Nat.mod_eq_of_lt (by omega)
  have e2 : (BitVec.ofInt 8 (n : Int)).toNat = n := by
    rw [BitVec.ofInt_natCast, BitVec.toNat_ofNat]; exact Nat.mod_eq_of_lt (by omega)
  show IntKind.u8.wrap ((BitVec.ofInt 8 (x.toNat : Int) ^^^ BitVec.ofInt 8 (n : Int)).toNat : Int) = _
  rw [BitVec.toNat_xor, e1, e2, UInt8.toNat_xor, UInt8.toNat_ofNat', Int.toNat_natCast]
  have h3 : n % 2 ^ 8 = n := Nat.mod_eq_of_lt (by omega)
  rw [h3]
  have h2 : x.toNat ^^^ n < 2 ^ 8 := Nat.xor_lt_two_pow (by omega) (by omega)
  generalize x.toNat ^^^ n = z at *
  simp [IntKind.wrap, IntKind.bits, IntKind.signed]
  omega

theorem xor_same (x : UInt8) (y : Int) (h0 : 0 ≤ y) (h1 : y ≤ 255) : (x ^^^ UInt8.ofNat y.toNat = x) ↔ y = 0 := by
  obtain ⟨n, rfl⟩ := Int.eq_ofNat_of_zero_le h0
  have hn : n < 256 := by omega
  rw [Int.toNat_natCast]
  constructor
  · intro h
    have h2 := congrArg (fun z => x ^^^ z) h
    simp [← UInt8.xor_assoc] at h2
    have h3 := congrArg UInt8.toNat h2
    rw [UInt8.toNat_ofNat'] at h3
    simp at h3
    omega
  · intro h
    have : n = 0 := by omega
    subst this
    simp

set_option maxRecDepth 10000 in
theorem walk (A : Option Addr) (n c : Nat) (l : List UInt8) (at_ by_ : Int) (w : World) (hb : RB w A n l) (hnc : n ≤ c) (w1 : (Lit.int .u16 at_).wf = true) (w2 : (Lit.int .u8 by_).wf = true) :
    Calls Try.prog 3 #[.slice A n c, .int .u16 at_, .int .u8 by_] w fun e w' => e = .returned (.bool true) ∧ Below w.heap.size w w' := by
  have ha : 0 ≤ at_ ∧ at_ ≤ 65535 := by simpa [Lit.wf, IntKind.min, IntKind.max, IntKind.signed, IntKind.bits] using w1
  have hy : 0 ≤ by_ ∧ by_ ≤ 255 := by simpa [Lit.wf, IntKind.min, IntKind.max, IntKind.signed, IntKind.bits] using w2
  clear w1 w2
  have hm := hb.2.1
  by_cases h0 : n = 0
  · subst h0
    go_enter Try.func3, Try.ntmps3
    go_wp2_with (go_at_call 21; refine (known1_c _).mono ?_; rintro e w' ⟨rfl, hf⟩)
    go_ret
    exact ⟨rfl, hf.all⟩
  · have h0b : ((n : Int) == 0) = false := by simp; omega
    have h0c : ¬ (n : Int) = 0 := by omega
    by_cases h3 : 300 < n
    · have h3b : 300 < (n : Int) := by omega
      go_enter Try.func3, Try.ntmps3
      go_wp2_with (go_at_call 21; refine (known1_c _).mono ?_; rintro e w' ⟨rfl, hf⟩)
      go_ret
      exact ⟨rfl, hf.all⟩
    · have h3b : ¬ 300 < (n : Int) := by omega
      have hln := hb.1
      have hm0 : 0 ≤ at_ % (n : Int) := Int.emod_nonneg _ (by omega)
      have hm1 : at_ % (n : Int) < n := Int.emod_lt_of_pos _ (by omega)
      obtain ⟨j, hj⟩ : ∃ j : Nat, (at_ % (n : Int)).toNat = j := ⟨_, rfl⟩
      have hjl : j < l.length := by omega
      have hxor := xor_u8 l[j] by_ hy.1 hy.2
      have hiff : (sumB l = sumB (l.set j (l[j] ^^^ UInt8.ofNat by_.toNat))) ↔ by_ = 0 := by
        rw [eq_comm, sumB_set l j hjl, xor_same _ _ hy.1 hy.2]
      generalize hys : l[j] ^^^ UInt8.ofNat by_.toNat = y at *
      have hln' := hid hln
      have hj' := hid hj
      have hys' := hid hys
      have hxor' := hid hxor
      have hiff' := hid hiff
      have hl3 : ([] : List UInt8).length + n ≤ 140737488355328 := by simp; omega
      clear hln hj hys hxor hiff
      go_enter Try.func3, Try.ntmps3
      go_wp2_with (first | (go_at_call 21; refine (known1_c _).mono ?_; rintro e w' ⟨rfl, hf⟩; have hb1 := hb.below hf.all; have hz1 : w.heap.size ≤ w'.heap.size := hf.size) | (at_builtin; refine appN w.heap.size rfl _ _ 22 5 rfl Try.underlying22 infoByte (OB.nil _ _ _) hb1 rfl rfl hz1 hl3 ?_; intro v1 w1 ho1 hf1 hn1; rw [List.nil_append] at ho1; obtain ⟨g, cap, rfl, hcap, hg1, hg2, hc1, hz2⟩ := ho1.pos (by have := hln'.out; omega); rw [hln'.out] at ho1; rw [hln'.out]; have hcj : w1.cell? ⟨g, (at_ % (n : Int)).toNat, none⟩ = some (.int .u8 (l[j].toNat : Int)) := (by rw [hj'.out]; exact hc1 j hjl); have hzj : w1.frozen? ⟨g, (at_ % (n : Int)).toNat, none⟩ = false := hz2 _; clear hc1 hz2))
      rw [hj'.out, hxor'.out]
      have hF : Fr [] w (w1.setCell ⟨g, j, none⟩ (.int .u8 (y.toNat : Int))) := (hf.trans hf1 (by simp [Value.ownBlock])).setCell _ (.inr hg1) _
      have ho2 := ho1.store j y
      have hb2 := hb.below hF.all
      obtain ⟨A3, c3, hv3, _, hr3, _⟩ := ho2.form
      rw [List.length_set, hln'.out] at hr3 hv3
      have hc3 := hiff'.out
      rw [hv3]
      generalize w1.setCell ⟨g, j, none⟩ (.int .u8 (y.toNat : Int)) = w2 at *
      clear hcj hzj ho1 hf1 hn1 hv3 ho2
      refine (Sum_c A n c l w2 hb2).mono ?_
      rintro e w3 ⟨rfl, rfl⟩
      go_wp2_with fail
      refine (Sum_c A3 n c3 _ w2 hr3).mono ?_
      rintro e w3 ⟨rfl, rfl⟩
      clear hb1 hb2 hr3 hb
      by_cases hby : by_ = 0
      · have he := hid (hc3.2 hby)
        clear hc3 hiff'
        subst hby
        rw [← he.out]
        go_wp2_with fail
        go_ret
        exact ⟨by simp, hF.all⟩
      · have he : ((sumB l : Int) == (sumB (l.set j y) : Int)) = false := by
          rw [beq_eq_false_iff_ne]
          intro hh
          exact hby (hc3.1 (by exact_mod_cast hh))
        have hby2 : (by_ == 0) = false := by rw [beq_eq_false_iff_ne]; exact hby
        clear hc3 hiff' hby
        go_wp2_with fail
        go_ret
        exact ⟨by simp, hF.all⟩
end Go.Proofs.Ytiialjncdhhceaa.bitsSums
