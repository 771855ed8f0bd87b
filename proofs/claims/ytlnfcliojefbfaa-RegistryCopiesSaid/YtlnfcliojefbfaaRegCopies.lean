/- RegistryCopies: what the statement's function computes. -/
import Derived.Test.YtlnfcliojefbfaaRegFill
namespace Go.Proofs.Ytlnfcliojefbfaa
set_option linter.unusedVariables false
set_option linter.unusedSimpArgs false
open Go.RowKit

theorem signE_two (who : Int) (a b : Bs) : (signE who a = 1 ∧ signE who b = 1) ∨ ((signE who a = 0 ∨ signE who a = 2) ∧ (signE who b = 0 ∨ signE who b = 2)) := by
  unfold signE
  by_cases h : who < 1 ∨ who > 64
  · simp [h]
  · simp only [h, if_false]
    refine .inr ⟨?_, ?_⟩ <;> split <;> simp

set_option maxRecDepth 100000 in
theorem copies_walk {w : World} {av va vb : Value} {acts : List Act3} {ta tb : Bs} (who : Int) (hA : Acts3 (· < w.heap.size) w av acts) (hl : acts.length ≤ 9223372036854775807) (hTa : Byt (· < w.heap.size) w va ta) (_ : ta.length ≤ maxLen) (hTb : Byt (· < w.heap.size) w vb tb) (_ : tb.length ≤ maxLen) :
    Calls Try.prog 5 #[av, .int .i64 who, va, vb] w fun e w' => e = .returned (.bool true) ∧ Ext (fun _ => False) w w' := by
  obtain ⟨A, c, hav, hcap, hrow⟩ := id hA
  subst hav
  go_enter Try.func5, Try.ntmps5
  go_wp2_with fail
  refine (reg_small _).mono ?_
  rintro e w1 ⟨rfl, hx1⟩
  go_wp2_with fail
  refine (reg_new _).mono ?_
  rintro e w2 ⟨a, F2, rfl, hR2, hx2, hf2⟩
  go_upto_block 0 with (fail)
  have g1 := hx1.size
  go_cut [11] (fun _ W => ∃ (L : List (Int × Bs)) (F : Nat → Prop), RegRep F W a L ∧ Good L ∧ L.length ≤ 60 ∧ (∀ b, F b → w.heap.size ≤ b) ∧ Ext (fun _ => False) w W)
  case first =>
    go_wp2_with fail
    go_loopw [11] (fun i W => ∃ (k : Nat) (L : List (Int × Bs)) (F : Nat → Prop), k ≤ acts.length ∧ k ≤ 60 ∧ i = .int .i64 k ∧ RegRep F W a L ∧ Good L ∧ L.length ≤ k ∧ (∀ b, F b → w.heap.size ≤ b) ∧ Ext (fun _ => False) w W)
      (fun i _ => 60 - (intOf i).toNat)
    case atStart => exact ⟨0, [], F2, by omega, by omega, rfl, hR2, Good.nil, by simp, fun b hb => Nat.le_trans g1 (hf2 b hb), hx1.trans hx2⟩
    case round =>
      obtain ⟨k, L, F, hk, hk1, rfl, hR, hG, hL, hF, hx⟩ := hrel
      by_cases hlt : k < acts.length
      · by_cases h60 : k < 60
        · obtain ⟨g, off, c', hav, hdb, bv, c0, c1, c2, c3, hb⟩ := (hA.same fun ad i x h => h.same hx).at hlt
          obtain ⟨rfl, rfl⟩ : A = some ⟨g, off, none⟩ ∧ c = c' := by simpa using hav
          clear hav
          have hgl := hx.size
          have hgl' : g < wr.heap.size := by omega
          obtain ⟨bA, bc, rfl, _, _⟩ := id hb
          have hlt' : (k : Int) < (acts.length : Int) := by omega
          have h60' : decide ((k : Int) < 60) = true := by simp; omega
          by_cases hdo : acts[k].Do = 0
          · have hdo' : (acts[k].Do == 0) = true := by simpa using hdo
            go_wp2_with fail
            refine wp_region_mix (Cls [g] _) [([0, 1, 2, 3, 4, 5, 6, 7, 8, 9, 10], 11)] [] (by kernel_rfl) (by kernel_rfl) (Cls.refl _ _) ?_
            try dsimp only [wpMix, wpSegs, pick, List.getElem?_cons_zero, List.getElem?_cons_succ]
            repeat quiet_step (fail)
            refine wpQuiet_nil ?_
            try dsimp only [NoPan]
            go_wp2_with fail
            refine (reg_sign (hR.keep ((Ext.refl (fun _ => False) _).drew) fun _ _ => id) acts[k].Who (hb.same ((Ext.refl (fun _ => False) _).drew)) (by omega)).mono ?_
            rintro e w3 ⟨rfl, F3, hR3, hx3, hf3⟩
            have hl3 := signL_le acts[k].Who acts[k].B L
            go_wp2_with fail
            refine ⟨(Cls.refl _ _).step hx3 (by simp; exact ⟨hgl', fun hf => by have := hF g hf; omega⟩), ?_⟩
            have hx3' : Ext (fun _ => False) w w3 := hx.drew.trans' hx3 fun b hb => .inr (hF b hb)
            have hF3 : ∀ b, F3 b → w.heap.size ≤ b := fun b hb => (hf3 b hb).elim (hF b) fun h => by simp at h; omega
            try dsimp only [wpMix, wpSegs, pick, List.getElem?_cons_zero, List.getElem?_cons_succ]
            repeat quiet_step (fail)
            refine wpQuiet_nil ?_
            try dsimp only [NoPan]
            go_wp2_with fail
            go_roundw
            case rel => exact ⟨k + 1, _, F3, by omega, by omega, by go_num, hR3, hG.sign _ _, by omega, hF3, hx3'⟩
            case measure => simp [intOf]; omega
          · have hdo' : (acts[k].Do == 0) = false := by simpa using hdo
            go_wp2_with fail
            go_roundw
            case rel => exact ⟨k + 1, _, F, by omega, by omega, by go_num, hR, hG, by omega, hF, hx⟩
            case measure => simp [intOf]; omega
        · have hlt' : (k : Int) < (acts.length : Int) := by omega
          have h60' : decide ((k : Int) < 60) = false := by simp; omega
          go_wp2_with fail
          go_meet
          case rel => exact ⟨L, F, hR, hG, by omega, hF, hx⟩
      · have hlt' : decide ((k : Int) < (acts.length : Int)) = false := by simp; omega
        go_wp2_with fail
        go_meet
        case rel => exact ⟨L, F, hR, hG, by omega, hF, hx⟩
  case rest =>
    obtain ⟨L, F, hR, hG, hL, hF, hx⟩ := hcut
    go_wp2_with fail
    refine (reg_copy hR (by omega)).mono ?_
    rintro e wk ⟨c', F', rfl, hC, hxk, hF'⟩
    have hRk := hR.keep hxk fun _ _ => id
    have hgc := hx.size
    go_wp2_with fail
    refine (reg_count hC).mono ?_
    rintro e _ ⟨rfl, rfl⟩
    go_wp2_with fail
    refine (reg_count hRk).mono ?_
    rintro e _ ⟨rfl, rfl⟩
    go_wp2_with fail
    have hxk' := hx.trans hxk
    refine (reg_knows hRk who (hTa.same hxk')).mono ?_
    rintro e w4 ⟨rfl, hx4⟩
    go_wp2_with fail
    have hx4' := hxk'.trans hx4
    refine (reg_knows (hRk.keep hx4 fun _ _ => id) who (hTb.same hx4')).mono ?_
    rintro e w5 ⟨rfl, hx5⟩
    have hx45 := hx4.trans hx5
    have hx5' := hx4'.trans hx5
    go_wp2_with fail
    refine (reg_sign (hC.keep hx45 fun _ _ => id) who (hTa.same hx5') (by omega)).mono ?_
    rintro e w6 ⟨rfl, F6, hC6, hx6, hf6⟩
    clear hrow hA
    have hlt := hR.lt
    have hR6 := (hRk.keep hx45 fun _ _ => id).keep hx6 fun b hb hf => by
      have := hlt b hb
      have := hF' b hf
      omega
    have hx6' : Ext (fun _ => False) w w6 := hx5'.trans' hx6 fun b hb => .inr (Nat.le_trans hgc (hF' b hb))
    have hF6 : ∀ b, F6 b → wc.heap.size ≤ b := fun b hb => (hf6 b hb).elim (hF' b) fun h => by
      have := (hxk.trans hx45).size
      omega
    have hmem : ∀ t, decide ((who, t) ∈ signL who ta L) = (decide ((who, t) ∈ L) || (decide (signE who ta = 0) && decide (ta = t))) := fun t => by
      have := mem_signL (who, t) who ta L
      rw [Bool.eq_iff_iff, decide_eq_true_iff, this, Bool.or_eq_true, Bool.and_eq_true, decide_eq_true_iff, decide_eq_true_iff, decide_eq_true_iff, Prod.mk.injEq]
      exact ⟨fun h => h.imp id fun ⟨a, _, b⟩ => ⟨a, b.symm⟩, fun h => h.imp id fun ⟨a, b⟩ => ⟨a, rfl, b.symm⟩⟩
    have hmem2 : signE who tb = 0 → decide ((who, tb) ∈ signL who tb L) = true := fun h0 => by
      rw [decide_eq_true_iff, mem_signL]
      exact .inr ⟨h0, rfl⟩
    have hka := hmem ta
    have hkb := hmem tb
    clear hmem
    have hne := signE_two who ta tb
    generalize hA0 : decide ((who, ta) ∈ L) = kA at hka ⊢
    generalize hB0 : decide ((who, tb) ∈ L) = kB at hkb ⊢
    generalize hea : signE who ta = ea at hne hka hkb ⊢
    generalize hfb : signE who tb = fb at hne hmem2 ⊢
    have hA0 := Lib.hid hA0
    have hB0 := Lib.hid hB0
    have hfb := Lib.hid hfb
    have hka := Lib.hid hka
    have hkb := Lib.hid hkb
    have hmem2 := Lib.hid hmem2
    clear hgc hea
    have hlen : L.length < 1073741824 := by omega
    have hlen := Lib.hid hlen
    rcases hne with ⟨rfl, rfl⟩ | ⟨rfl | rfl, rfl | rfl⟩
    case inl =>
      go_wp2_with fail
      refine (reg_knows hR6 who (hTa.same hx6')).mono ?_
      rintro e w7 ⟨he, hx7⟩
      rw [hA0.out] at he
      subst he
      go_wp2_with fail
      refine (reg_sign (hR6.keep hx7 fun _ _ => id) who (hTb.same (hx6'.trans hx7)) hlen.out).mono ?_
      rintro e w8 ⟨he, F8, hR8, hx8, hf8⟩
      rw [hfb.out] at he
      subst he
      go_wp2_with fail
      go_ret
      exact ⟨by simp, (hx6'.trans hx7).trans' hx8 fun b hb => .inr (hF b hb)⟩
    all_goals
      have hka := hka.out
      have hkb := hkb.out
      simp only [Int.reduceEq, decide_true, decide_false, Bool.true_and, Bool.false_and, Bool.or_true, Bool.or_false] at hka hkb
      have hka := Lib.hid hka
      have hkb := Lib.hid hkb
      go_wp2_with fail
      refine (reg_knows hR6 who (hTa.same hx6')).mono ?_
      rintro e w7 ⟨he, hx7⟩
      rw [hA0.out] at he
      subst he
      go_wp2_with fail
    · refine (reg_knows (hC6.keep hx7 fun _ _ => id) who (hTa.same (hx6'.trans hx7))).mono ?_
      rintro e w7b ⟨he, hx7b⟩
      rw [hka.out] at he
      subst he
      replace hx7 := hx7.trans hx7b
      go_wp2_with fail
      refine (reg_sign (hR6.keep hx7 fun _ _ => id) who (hTb.same (hx6'.trans hx7)) hlen.out).mono ?_
      rintro e w8 ⟨he, F8, hR8, hx8, hf8⟩
      rw [hfb.out] at he
      subst he
      have hx8' := (hx6'.trans hx7).trans' hx8 fun b hb => .inr (hF b hb)
      have hC8 := (hC6.keep hx7 fun _ _ => id).keep hx8 fun b hb hf => by
        have := hlt b hf
        have := hF6 b hb
        omega
      go_wp2_with fail
      refine (reg_knows hC8 who (hTb.same hx8')).mono ?_
      rintro e w9 ⟨he, hx9⟩
      rw [hkb.out] at he
      have hx9' := hx8'.trans hx9
      have hR9 := hR8.keep hx9 fun _ _ => id
      have hca := hTa.conv 23 5 9 Try.underlying23 Try.underlying5 Try.underlying9
      have hca := (hTa.same hx9').conv 23 5 9 Try.underlying23 Try.underlying5 Try.underlying9 w9 rfl
      have hcb := (hTb.same hx9').conv 23 5 9 Try.underlying23 Try.underlying5 Try.underlying9 w9 rfl
      cases kB
      · by_cases hab : ta = tb
        · have hab' : (ta == tb) = true := by simpa using hab
          simp only [hab, decide_true, Bool.or_true, Bool.false_or] at he
          subst he
          go_wp2_with fail
          refine (reg_knows hR9 who (hTb.same hx9')).mono ?_
          rintro e wA ⟨he, hxA⟩
          rw [hmem2.out (by trivial)] at he
          subst he
          go_wp2_with fail
          go_ret
          exact ⟨by simp, hx9'.trans hxA⟩
        · have hab' : (ta == tb) = false := by simpa using hab
          simp only [decide_eq_false hab, Bool.or_false] at he
          subst he
          go_wp2_with fail
          refine (reg_knows hR9 who (hTb.same hx9')).mono ?_
          rintro e wA ⟨he, hxA⟩
          rw [hmem2.out (by trivial)] at he
          subst he
          go_wp2_with fail
          go_ret
          exact ⟨by simp, hx9'.trans hxA⟩
      · try simp only [Bool.true_or] at he
        subst he
        go_wp2_with fail
        refine (reg_knows hR9 who (hTb.same hx9')).mono ?_
        rintro e wA ⟨he, hxA⟩
        rw [hmem2.out (by trivial)] at he
        subst he
        go_wp2_with fail
        go_ret
        exact ⟨by simp, hx9'.trans hxA⟩
    · refine (reg_knows (hC6.keep hx7 fun _ _ => id) who (hTa.same (hx6'.trans hx7))).mono ?_
      rintro e w7b ⟨he, hx7b⟩
      rw [hka.out] at he
      subst he
      replace hx7 := hx7.trans hx7b
      go_wp2_with fail
      refine (reg_sign (hR6.keep hx7 fun _ _ => id) who (hTb.same (hx6'.trans hx7)) hlen.out).mono ?_
      rintro e w8 ⟨he, F8, hR8, hx8, hf8⟩
      rw [hfb.out] at he
      subst he
      have hx8' := (hx6'.trans hx7).trans' hx8 fun b hb => .inr (hF b hb)
      have hC8 := (hC6.keep hx7 fun _ _ => id).keep hx8 fun b hb hf => by
        have := hlt b hf
        have := hF6 b hb
        omega
      go_wp2_with fail
      refine (reg_knows hC8 who (hTb.same hx8')).mono ?_
      rintro e w9 ⟨he, hx9⟩
      rw [hkb.out] at he
      have hx9' := hx8'.trans hx9
      have hR9 := hR8.keep hx9 fun _ _ => id
      have hca := hTa.conv 23 5 9 Try.underlying23 Try.underlying5 Try.underlying9
      have hca := (hTa.same hx9').conv 23 5 9 Try.underlying23 Try.underlying5 Try.underlying9 w9 rfl
      have hcb := (hTb.same hx9').conv 23 5 9 Try.underlying23 Try.underlying5 Try.underlying9 w9 rfl
      cases kB
      · by_cases hab : ta = tb
        · have hab' : (ta == tb) = true := by simpa using hab
          simp only [hab, decide_true, Bool.or_true, Bool.false_or] at he
          subst he
          go_wp2_with fail
          go_ret
          exact ⟨by simp, hx9'⟩
        · have hab' : (ta == tb) = false := by simpa using hab
          simp only [decide_eq_false hab, Bool.or_false] at he
          subst he
          go_wp2_with fail
          go_ret
          exact ⟨by simp, hx9'⟩
      · try simp only [Bool.true_or] at he
        subst he
        go_wp2_with fail
        go_ret
        exact ⟨by simp, hx9'⟩
    · refine (reg_sign (hR6.keep hx7 fun _ _ => id) who (hTb.same (hx6'.trans hx7)) hlen.out).mono ?_
      rintro e w8 ⟨he, F8, hR8, hx8, hf8⟩
      rw [hfb.out] at he
      subst he
      have hx8' := (hx6'.trans hx7).trans' hx8 fun b hb => .inr (hF b hb)
      have hC8 := (hC6.keep hx7 fun _ _ => id).keep hx8 fun b hb hf => by
        have := hlt b hf
        have := hF6 b hb
        omega
      go_wp2_with fail
      refine (reg_knows hC8 who (hTb.same hx8')).mono ?_
      rintro e w9 ⟨he, hx9⟩
      rw [hkb.out] at he
      have hx9' := hx8'.trans hx9
      have hR9 := hR8.keep hx9 fun _ _ => id
      have hca := hTa.conv 23 5 9 Try.underlying23 Try.underlying5 Try.underlying9
      have hca := (hTa.same hx9').conv 23 5 9 Try.underlying23 Try.underlying5 Try.underlying9 w9 rfl
      have hcb := (hTb.same hx9').conv 23 5 9 Try.underlying23 Try.underlying5 Try.underlying9 w9 rfl
      cases kB
      · subst he
        go_wp2_with fail
        all_goals
          refine (reg_knows hR9 who (hTb.same hx9')).mono ?_
          rintro e wA ⟨he, hxA⟩
          rw [hmem2.out (by trivial)] at he
          subst he
          go_wp2_with fail
          go_ret
          exact ⟨by simp, hx9'.trans hxA⟩
      · try simp only [Bool.true_or] at he
        subst he
        go_wp2_with fail
        refine (reg_knows hR9 who (hTb.same hx9')).mono ?_
        rintro e wA ⟨he, hxA⟩
        rw [hmem2.out (by trivial)] at he
        subst he
        go_wp2_with fail
        go_ret
        exact ⟨by simp, hx9'.trans hxA⟩
    · refine (reg_sign (hR6.keep hx7 fun _ _ => id) who (hTb.same (hx6'.trans hx7)) hlen.out).mono ?_
      rintro e w8 ⟨he, F8, hR8, hx8, hf8⟩
      rw [hfb.out] at he
      subst he
      have hx8' := (hx6'.trans hx7).trans' hx8 fun b hb => .inr (hF b hb)
      have hC8 := (hC6.keep hx7 fun _ _ => id).keep hx8 fun b hb hf => by
        have := hlt b hf
        have := hF6 b hb
        omega
      go_wp2_with fail
      refine (reg_knows hC8 who (hTb.same hx8')).mono ?_
      rintro e w9 ⟨he, hx9⟩
      rw [hkb.out] at he
      have hx9' := hx8'.trans hx9
      have hR9 := hR8.keep hx9 fun _ _ => id
      have hca := hTa.conv 23 5 9 Try.underlying23 Try.underlying5 Try.underlying9
      have hca := (hTa.same hx9').conv 23 5 9 Try.underlying23 Try.underlying5 Try.underlying9 w9 rfl
      have hcb := (hTb.same hx9').conv 23 5 9 Try.underlying23 Try.underlying5 Try.underlying9 w9 rfl
      cases kB
      · subst he
        go_wp2_with fail
        all_goals
          go_ret
          exact ⟨by simp, hx9'⟩
      · try simp only [Bool.true_or] at he
        subst he
        go_wp2_with fail
        go_ret
        exact ⟨by simp, hx9'⟩
end Go.Proofs.Ytlnfcliojefbfaa
