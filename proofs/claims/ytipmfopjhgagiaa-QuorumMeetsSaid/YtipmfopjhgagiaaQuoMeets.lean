/- QuorumMeets: what the statement's function computes; no condition. -/
import Derived.Test.YtipmfopjhgagiaaQuoBits
namespace Go.Proofs.Ytipmfopjhgagiaa
set_option linter.unusedVariables false
set_option linter.unusedSimpArgs false
open Go.RowKit

/-- A number as its sixty-four bits. -/
def uns (x : Int) : Nat := (BitVec.ofInt 64 x).toNat
theorem i64_andAny (x : Int) (k : Nat) (hk : k < 65536) : bits .and .i64 x (k : Int) = ((uns x &&& k : Nat) : Int) := by
  have hle : uns x &&& k ≤ k := Nat.and_le_right
  show IntKind.i64.wrap ((BitVec.ofInt 64 x &&& BitVec.ofInt 64 (k : Int)).toNat : Int) = _
  rw [BitVec.toNat_and, BitVec.ofInt_natCast, BitVec.toNat_ofNat, Nat.mod_eq_of_lt (by omega), IntKind.wrap_i64]
  unfold uns at *
  omega
theorem i64_andNot (c : Nat) (hc : c < 65536) (x : Int) : ∃ E : Nat, bits .andNot .i64 (c : Int) x = (E : Int) ∧ E ≤ c ∧ ∀ j, E.testBit j = (c.testBit j && !(uns x).testBit j) := by
  have hlt : c < 2 ^ 64 := by omega
  refine ⟨(BitVec.ofNat 64 c &&& ~~~ (BitVec.ofInt 64 x)).toNat, ?_, ?_, fun j => ?_⟩
  · have hle : (BitVec.ofNat 64 c &&& ~~~ (BitVec.ofInt 64 x)).toNat ≤ c := by
      rw [BitVec.toNat_and, BitVec.toNat_ofNat, Nat.mod_eq_of_lt hlt]
      exact Nat.and_le_left
    show IntKind.i64.wrap ((BitVec.ofInt 64 (c : Int) &&& ~~~ (BitVec.ofInt 64 x)).toNat : Int) = _
    rw [BitVec.ofInt_natCast, IntKind.wrap_i64]
    omega
  · rw [BitVec.toNat_and, BitVec.toNat_ofNat, Nat.mod_eq_of_lt hlt]
    exact Nat.and_le_left
  · rw [← BitVec.getLsbD, BitVec.getLsbD_and, BitVec.getLsbD_not, BitVec.getLsbD_ofNat]
    by_cases hj : j < 64
    · simp [hj, uns, BitVec.getLsbD]
    · have : c.testBit j = false := Nat.testBit_lt_two_pow (Nat.lt_of_lt_of_le hlt (Nat.pow_le_pow_right (by decide) (by omega)))
      simp [hj, this]
theorem setN_nat {m : Nat} (h : m < 65536) : setN (m : Int) = m := by
  unfold setN
  rw [if_pos (by omega)]
  simp
theorem bit_le (j m : Nat) : bit m j ≤ 1 := by unfold bit; omega
/-- Of two sets within a first one. -/
theorem meet_two {first a b : Nat} : pc (a &&& first) + pc (b &&& first) ≤ pc (a &&& b &&& first) + pc first := by
  simp only [pc_cnt]
  refine cnt_le (fun j => ?_) 16
  simp only [bit_test, Nat.testBit_and]
  cases a.testBit j <;> cases b.testBit j <;> cases first.testBit j <;> simp
/-- What is left without some. -/
theorem meet_rest {c E first φ : Nat} (hc : ∀ j, c.testBit j = true → first.testBit j = true) (hE : ∀ j, E.testBit j = (c.testBit j && !φ.testBit j)) : pc c ≤ pc E + pc (φ &&& first) := by
  have : cnt c 16 + cnt 0 16 ≤ cnt E 16 + cnt (φ &&& first) 16 := by
    refine cnt_le (fun j => ?_) 16
    have := hc j
    simp only [bit_test, hE, Nat.testBit_and, Nat.zero_testBit]
    cases h1 : c.testBit j <;> cases h2 : φ.testBit j <;> cases h3 : first.testBit j <;> simp_all
  simp only [pc_cnt]
  rw [cnt_zero] at this
  omega
theorem and_first {x first : Nat} (j : Nat) (h : (x &&& first).testBit j = true) : first.testBit j = true := by
  rw [Nat.testBit_and] at h
  simp at h
  exact h.2


set_option maxRecDepth 100000 in
set_option maxHeartbeats 4000000 in
theorem meets_walk1 {w : World} (a b faulty : Int) : Calls Try.prog 5 #[.int .i64 1, .int .i64 a, .int .i64 b, .int .i64 faulty] w fun e w' => e = .returned (.bool true) ∧ Ext (fun _ => False) w w' := by
  have hs := quo_size 1
  rw [show sizeQ 1 = (4, 0) by decide +kernel] at hs
  have ef : bits .and .i64 faulty 15 = ((uns faulty &&& 15 : Nat) : Int) := i64_andAny faulty 15 (by decide)
  have hfl : (uns faulty &&& 15) ≤ 15 := Nat.and_le_right
  have hcf := quo_count ((uns faulty &&& 15 : Nat) : Int)
  rw [setN_nat (by omega)] at hcf
  have hrest := fun (c E : Nat) h1 h2 => meet_rest (c := c) (E := E) (first := 15) (φ := uns faulty) h1 h2
  obtain ⟨h, eh', hhl, hbit⟩ := i64_andNot 15 (by decide) ((uns faulty &&& 15 : Nat) : Int)
  have eh : bits .andNot .i64 15 ((uns faulty &&& 15 : Nat) : Int) = (h : Int) := eh'
  clear eh'
  have hbit2 : ∀ j, h.testBit j = (Nat.testBit 15 j && !(uns faulty).testBit j) := by
    intro j
    rw [hbit]
    have : uns ((uns faulty &&& 15 : Nat) : Int) = (uns faulty &&& 15) := by
      rw [uns, BitVec.ofInt_natCast, BitVec.toNat_ofNat, Nat.mod_eq_of_lt (by omega)]
    rw [this, Nat.testBit_and]
    cases (uns faulty).testBit j <;> cases Nat.testBit 15 j <;> rfl
  have hhon := hrest 15 h (fun _ h => h) hbit2
  rw [show pc 15 = 4 by decide +kernel] at hhon
  have hhand : h &&& 15 = h := by
    apply Nat.eq_of_testBit_eq
    intro j
    rw [Nat.testBit_and, hbit2]
    cases (uns faulty).testBit j <;> cases Nat.testBit 15 j <;> rfl
  have hish' := fun w => quo_is 4 (h : Int) w
  have hIs : ∀ x : Int, isQ 4 x ↔ 3 ≤ pc (setN x &&& 15) := by
    intro x
    unfold isQ
    rw [show mostQ 4 = 3 by decide +kernel, show (2 ^ Int.toNat 4 - 1) = 15 by decide +kernel]
    constructor
    · rintro ⟨_, hq⟩; omega
    · intro hq; exact ⟨by decide +kernel, by omega⟩
  generalize hfm : (uns faulty &&& 15) = fm at *
  have H := Lib.hid (And.intro hs (And.intro hcf (And.intro hrest hrest)))
  have hrest' := hrest
  clear hs hcf hrest hbit hfl
  generalize hpm : pc fm = pm at *
  have Hpm := Lib.hid (And.intro hpm (And.intro hhon hIs))
  clear hpm hhon hIs
  by_cases hpf : 1 < pm
  · have hpf' : decide (1 < pm) = true := by simpa using hpf
    have hpf2 : decide ((1 : Int) < (pm : Int)) = true := by simp; omega
    go_enter Try.func5, Try.ntmps5
    go_wp2_with fail
    refine (quo_small _).mono ?_
    rintro e w1 ⟨rfl, hx1⟩
    have Hx := Lib.hid hx1
    clear hx1
    go_wp2_with fail
    refine (H.out.1 _).mono ?_
    rintro e _ ⟨rfl, rfl⟩
    go_wp2_with fail
    refine (H.out.2.1 _).mono ?_
    rintro e _ ⟨rfl, rfl⟩
    go_wp2_with fail
    go_ret
    exact ⟨rfl, Hx.out⟩
  have hpf' : decide (1 < pm) = false := by simpa using hpf
  have hpf2 : decide ((1 : Int) < (pm : Int)) = false := by simp; omega
  by_cases ha0 : a < 0
  · have ha0' : decide (a < 0) = true := by simpa using ha0
    go_enter Try.func5, Try.ntmps5
    go_wp2_with fail
    refine (quo_small _).mono ?_
    rintro e w1 ⟨rfl, hx1⟩
    have Hx := Lib.hid hx1
    clear hx1
    go_wp2_with fail
    refine (H.out.1 _).mono ?_
    rintro e _ ⟨rfl, rfl⟩
    go_wp2_with fail
    refine (H.out.2.1 _).mono ?_
    rintro e _ ⟨rfl, rfl⟩
    go_wp2_with fail
    go_ret
    exact ⟨rfl, Hx.out⟩
  have ha0' : decide (a < 0) = false := by simpa using ha0
  by_cases ha1 : 65535 < a
  · have ha1' : decide (65535 < a) = true := by simpa using ha1
    go_enter Try.func5, Try.ntmps5
    go_wp2_with fail
    refine (quo_small _).mono ?_
    rintro e w1 ⟨rfl, hx1⟩
    have Hx := Lib.hid hx1
    clear hx1
    go_wp2_with fail
    refine (H.out.1 _).mono ?_
    rintro e _ ⟨rfl, rfl⟩
    go_wp2_with fail
    refine (H.out.2.1 _).mono ?_
    rintro e _ ⟨rfl, rfl⟩
    go_wp2_with fail
    go_ret
    exact ⟨rfl, Hx.out⟩
  have ha1' : decide (65535 < a) = false := by simpa using ha1
  by_cases hb0 : b < 0
  · have hb0' : decide (b < 0) = true := by simpa using hb0
    go_enter Try.func5, Try.ntmps5
    go_wp2_with fail
    refine (quo_small _).mono ?_
    rintro e w1 ⟨rfl, hx1⟩
    have Hx := Lib.hid hx1
    clear hx1
    go_wp2_with fail
    refine (H.out.1 _).mono ?_
    rintro e _ ⟨rfl, rfl⟩
    go_wp2_with fail
    refine (H.out.2.1 _).mono ?_
    rintro e _ ⟨rfl, rfl⟩
    go_wp2_with fail
    go_ret
    exact ⟨rfl, Hx.out⟩
  have hb0' : decide (b < 0) = false := by simpa using hb0
  by_cases hb1 : 65535 < b
  · have hb1' : decide (65535 < b) = true := by simpa using hb1
    go_enter Try.func5, Try.ntmps5
    go_wp2_with fail
    refine (quo_small _).mono ?_
    rintro e w1 ⟨rfl, hx1⟩
    have Hx := Lib.hid hx1
    clear hx1
    go_wp2_with fail
    refine (H.out.1 _).mono ?_
    rintro e _ ⟨rfl, rfl⟩
    go_wp2_with fail
    refine (H.out.2.1 _).mono ?_
    rintro e _ ⟨rfl, rfl⟩
    go_wp2_with fail
    go_ret
    exact ⟨rfl, Hx.out⟩
  have hb1' : decide (65535 < b) = false := by simpa using hb1
  obtain ⟨A, rfl⟩ : ∃ A : Nat, a = A := ⟨a.toNat, by omega⟩
  obtain ⟨B, rfl⟩ : ∃ B : Nat, b = B := ⟨b.toNat, by omega⟩
  have hA : A < 65536 := by omega
  have hB : B < 65536 := by omega
  have hqa := quo_is 4 (A : Int)
  have hqb := quo_is 4 (B : Int)
  have hqh : isQ 4 (h : Int) := by
    rw [Hpm.out.2.2, setN_nat (by omega), hhand]
    have := Hpm.out.2.1
    omega
  rw [decide_eq_true hqh] at hish'
  have iA := Hpm.out.2.2 (A : Int)
  have iB := Hpm.out.2.2 (B : Int)
  rw [setN_nat hA] at iA
  rw [setN_nat hB] at iB
  have eAB : bits .and .i64 (A : Int) (B : Int) = ((A &&& B : Nat) : Int) := i64_and A B (by omega) (by omega)
  have hABl : (A &&& B) ≤ A := Nat.and_le_left
  have eC : bits .and .i64 ((A &&& B : Nat) : Int) 15 = ((A &&& B &&& 15 : Nat) : Int) := i64_and (A &&& B) 15 (by omega) (by decide)
  have hCl : (A &&& B &&& 15) ≤ 15 := Nat.and_le_right
  have h2 := meet_two (first := 15) (a := A) (b := B)
  rw [show pc 15 = 4 by decide +kernel] at h2
  have hCf : ∀ j, (A &&& B &&& 15).testBit j = true → Nat.testBit 15 j = true := fun j hj => and_first j hj
  generalize (A &&& B) = AB at *
  generalize (AB &&& 15) = C at *
  obtain ⟨E, eE, hEl, hEb⟩ := i64_andNot C (by omega) faulty
  have h3 := H.out.2.2.1 C E hCf hEb

  have hcC := quo_count (C : Int)
  have hcE := quo_count (E : Int)
  rw [setN_nat (by omega)] at hcC hcE
  have hfew := quo_few 4
  rw [show fewQ 4 = 2 by decide +kernel] at hfew
  generalize pc C = pC at *
  generalize pc E = pE at *
  have H2 := Lib.hid (And.intro (And.intro hqa hqb) (And.intro hish' (And.intro hcC (And.intro hcE hfew))))
  have H3 := Lib.hid (And.intro h2 h3)
  clear hqa hqb hish' hcC hcE hfew h2 h3 hCf hEb hhand hbit2 hrest' hqh
  by_cases qa : isQ 4 (A : Int)
  · have qa' : decide (isQ 4 (A : Int)) = true := by simpa using qa
    by_cases qb : isQ 4 (B : Int)
    · have qb' : decide (isQ 4 (B : Int)) = true := by simpa using qb
      have g1 : 2 ≤ pC := by have := iA.1 qa; have := iB.1 qb; have := H3.out.1; omega
      have g2 : 1 ≤ pE := by have := H3.out.2; omega
      have g1' : decide (2 ≤ pC) = true := by simpa using g1
      have g2' : decide (1 ≤ pE) = true := by simpa using g2
      have g1'' : decide ((2 : Int) ≤ (pC : Int)) = true := by simp; omega
      have g2'' : decide ((1 : Int) ≤ (pE : Int)) = true := by simp; omega
      rw [qa', qb'] at H2
      clear iA iB qa qb qa' qb' g1 g2
      go_enter Try.func5, Try.ntmps5
      go_wp2_with fail
      refine (quo_small _).mono ?_
      rintro e w1 ⟨rfl, hx1⟩
      have Hx := Lib.hid hx1
      clear hx1
      go_wp2_with fail
      refine (H.out.1 _).mono ?_
      rintro e _ ⟨rfl, rfl⟩
      go_wp2_with fail
      refine (H.out.2.1 _).mono ?_
      rintro e _ ⟨rfl, rfl⟩
      go_wp2_with fail
      refine (H2.out.1.1 _).mono ?_
      rintro e w2 ⟨rfl, hx2⟩
      go_wp2_with fail
      refine (H2.out.1.2 _).mono ?_
      rintro e w3 ⟨rfl, hx3⟩
      go_wp2_with fail
      refine (H2.out.2.1 _).mono ?_
      rintro e w4 ⟨rfl, hx4⟩
      have Hx4 := Lib.hid (((Hx.out.trans hx2).trans hx3).trans hx4)
      clear hx2 hx3 hx4
      go_wp2_with fail
      refine (H2.out.2.2.1 _).mono ?_
      rintro e _ ⟨rfl, rfl⟩
      go_wp2_with fail
      refine (H2.out.2.2.2.2 _).mono ?_
      rintro e _ ⟨rfl, rfl⟩
      go_wp2_with fail
      refine (H2.out.2.2.2.1 _).mono ?_
      rintro e _ ⟨rfl, rfl⟩
      go_wp2_with fail
      go_ret
      exact ⟨rfl, Hx4.out⟩
    · have qb' : decide (isQ 4 (B : Int)) = false := by simpa using qb
      rw [qa', qb'] at H2
      clear iA iB qa qb qa' qb'
      go_enter Try.func5, Try.ntmps5
      go_wp2_with fail
      refine (quo_small _).mono ?_
      rintro e w1 ⟨rfl, hx1⟩
      have Hx := Lib.hid hx1
      clear hx1
      go_wp2_with fail
      refine (H.out.1 _).mono ?_
      rintro e _ ⟨rfl, rfl⟩
      go_wp2_with fail
      refine (H.out.2.1 _).mono ?_
      rintro e _ ⟨rfl, rfl⟩
      go_wp2_with fail
      refine (H2.out.1.1 _).mono ?_
      rintro e w2 ⟨rfl, hx2⟩
      go_wp2_with fail
      refine (H2.out.1.2 _).mono ?_
      rintro e w3 ⟨rfl, hx3⟩
      go_wp2_with fail
      refine (H2.out.2.1 _).mono ?_
      rintro e w4 ⟨rfl, hx4⟩
      have Hx4 := Lib.hid (((Hx.out.trans hx2).trans hx3).trans hx4)
      clear hx2 hx3 hx4
      go_wp2_with fail
      go_ret
      exact ⟨rfl, Hx4.out⟩
  · have qa' : decide (isQ 4 (A : Int)) = false := by simpa using qa
    rw [qa'] at H2
    clear iA iB qa qa'
    by_cases qb : isQ 4 (B : Int)
    · rw [decide_eq_true qb] at H2
      clear qb
      go_enter Try.func5, Try.ntmps5
      go_wp2_with fail
      refine (quo_small _).mono ?_
      rintro e w1 ⟨rfl, hx1⟩
      have Hx := Lib.hid hx1
      clear hx1
      go_wp2_with fail
      refine (H.out.1 _).mono ?_
      rintro e _ ⟨rfl, rfl⟩
      go_wp2_with fail
      refine (H.out.2.1 _).mono ?_
      rintro e _ ⟨rfl, rfl⟩
      go_wp2_with fail
      refine (H2.out.1.1 _).mono ?_
      rintro e w2 ⟨rfl, hx2⟩
      go_wp2_with fail
      refine (H2.out.1.2 _).mono ?_
      rintro e w3 ⟨rfl, hx3⟩
      go_wp2_with fail
      refine (H2.out.2.1 _).mono ?_
      rintro e w4 ⟨rfl, hx4⟩
      have Hx4 := Lib.hid (((Hx.out.trans hx2).trans hx3).trans hx4)
      clear hx2 hx3 hx4
      go_wp2_with fail
      go_ret
      exact ⟨rfl, Hx4.out⟩
    · rw [decide_eq_false qb] at H2
      clear qb
      go_enter Try.func5, Try.ntmps5
      go_wp2_with fail
      refine (quo_small _).mono ?_
      rintro e w1 ⟨rfl, hx1⟩
      have Hx := Lib.hid hx1
      clear hx1
      go_wp2_with fail
      refine (H.out.1 _).mono ?_
      rintro e _ ⟨rfl, rfl⟩
      go_wp2_with fail
      refine (H.out.2.1 _).mono ?_
      rintro e _ ⟨rfl, rfl⟩
      go_wp2_with fail
      refine (H2.out.1.1 _).mono ?_
      rintro e w2 ⟨rfl, hx2⟩
      go_wp2_with fail
      refine (H2.out.1.2 _).mono ?_
      rintro e w3 ⟨rfl, hx3⟩
      go_wp2_with fail
      refine (H2.out.2.1 _).mono ?_
      rintro e w4 ⟨rfl, hx4⟩
      have Hx4 := Lib.hid (((Hx.out.trans hx2).trans hx3).trans hx4)
      clear hx2 hx3 hx4
      go_wp2_with fail
      go_ret
      exact ⟨rfl, Hx4.out⟩


set_option maxRecDepth 100000 in
set_option maxHeartbeats 4000000 in
theorem meets_walk2 {w : World} (a b faulty : Int) : Calls Try.prog 5 #[.int .i64 2, .int .i64 a, .int .i64 b, .int .i64 faulty] w fun e w' => e = .returned (.bool true) ∧ Ext (fun _ => False) w w' := by
  have hs := quo_size 2
  rw [show sizeQ 2 = (7, 0) by decide +kernel] at hs
  have ef : bits .and .i64 faulty 127 = ((uns faulty &&& 127 : Nat) : Int) := i64_andAny faulty 127 (by decide)
  have hfl : (uns faulty &&& 127) ≤ 127 := Nat.and_le_right
  have hcf := quo_count ((uns faulty &&& 127 : Nat) : Int)
  rw [setN_nat (by omega)] at hcf
  have hrest := fun (c E : Nat) h1 h2 => meet_rest (c := c) (E := E) (first := 127) (φ := uns faulty) h1 h2
  obtain ⟨h, eh', hhl, hbit⟩ := i64_andNot 127 (by decide) ((uns faulty &&& 127 : Nat) : Int)
  have eh : bits .andNot .i64 127 ((uns faulty &&& 127 : Nat) : Int) = (h : Int) := eh'
  clear eh'
  have hbit2 : ∀ j, h.testBit j = (Nat.testBit 127 j && !(uns faulty).testBit j) := by
    intro j
    rw [hbit]
    have : uns ((uns faulty &&& 127 : Nat) : Int) = (uns faulty &&& 127) := by
      rw [uns, BitVec.ofInt_natCast, BitVec.toNat_ofNat, Nat.mod_eq_of_lt (by omega)]
    rw [this, Nat.testBit_and]
    cases (uns faulty).testBit j <;> cases Nat.testBit 127 j <;> rfl
  have hhon := hrest 127 h (fun _ h => h) hbit2
  rw [show pc 127 = 7 by decide +kernel] at hhon
  have hhand : h &&& 127 = h := by
    apply Nat.eq_of_testBit_eq
    intro j
    rw [Nat.testBit_and, hbit2]
    cases (uns faulty).testBit j <;> cases Nat.testBit 127 j <;> rfl
  have hish' := fun w => quo_is 7 (h : Int) w
  have hIs : ∀ x : Int, isQ 7 x ↔ 5 ≤ pc (setN x &&& 127) := by
    intro x
    unfold isQ
    rw [show mostQ 7 = 5 by decide +kernel, show (2 ^ Int.toNat 7 - 1) = 127 by decide +kernel]
    constructor
    · rintro ⟨_, hq⟩; omega
    · intro hq; exact ⟨by decide +kernel, by omega⟩
  generalize hfm : (uns faulty &&& 127) = fm at *
  have H := Lib.hid (And.intro hs (And.intro hcf (And.intro hrest hrest)))
  have hrest' := hrest
  clear hs hcf hrest hbit hfl
  generalize hpm : pc fm = pm at *
  have Hpm := Lib.hid (And.intro hpm (And.intro hhon hIs))
  clear hpm hhon hIs
  by_cases hpf : 2 < pm
  · have hpf' : decide (2 < pm) = true := by simpa using hpf
    have hpf2 : decide ((2 : Int) < (pm : Int)) = true := by simp; omega
    go_enter Try.func5, Try.ntmps5
    go_wp2_with fail
    refine (quo_small _).mono ?_
    rintro e w1 ⟨rfl, hx1⟩
    have Hx := Lib.hid hx1
    clear hx1
    go_wp2_with fail
    refine (H.out.1 _).mono ?_
    rintro e _ ⟨rfl, rfl⟩
    go_wp2_with fail
    refine (H.out.2.1 _).mono ?_
    rintro e _ ⟨rfl, rfl⟩
    go_wp2_with fail
    go_ret
    exact ⟨rfl, Hx.out⟩
  have hpf' : decide (2 < pm) = false := by simpa using hpf
  have hpf2 : decide ((2 : Int) < (pm : Int)) = false := by simp; omega
  by_cases ha0 : a < 0
  · have ha0' : decide (a < 0) = true := by simpa using ha0
    go_enter Try.func5, Try.ntmps5
    go_wp2_with fail
    refine (quo_small _).mono ?_
    rintro e w1 ⟨rfl, hx1⟩
    have Hx := Lib.hid hx1
    clear hx1
    go_wp2_with fail
    refine (H.out.1 _).mono ?_
    rintro e _ ⟨rfl, rfl⟩
    go_wp2_with fail
    refine (H.out.2.1 _).mono ?_
    rintro e _ ⟨rfl, rfl⟩
    go_wp2_with fail
    go_ret
    exact ⟨rfl, Hx.out⟩
  have ha0' : decide (a < 0) = false := by simpa using ha0
  by_cases ha1 : 65535 < a
  · have ha1' : decide (65535 < a) = true := by simpa using ha1
    go_enter Try.func5, Try.ntmps5
    go_wp2_with fail
    refine (quo_small _).mono ?_
    rintro e w1 ⟨rfl, hx1⟩
    have Hx := Lib.hid hx1
    clear hx1
    go_wp2_with fail
    refine (H.out.1 _).mono ?_
    rintro e _ ⟨rfl, rfl⟩
    go_wp2_with fail
    refine (H.out.2.1 _).mono ?_
    rintro e _ ⟨rfl, rfl⟩
    go_wp2_with fail
    go_ret
    exact ⟨rfl, Hx.out⟩
  have ha1' : decide (65535 < a) = false := by simpa using ha1
  by_cases hb0 : b < 0
  · have hb0' : decide (b < 0) = true := by simpa using hb0
    go_enter Try.func5, Try.ntmps5
    go_wp2_with fail
    refine (quo_small _).mono ?_
    rintro e w1 ⟨rfl, hx1⟩
    have Hx := Lib.hid hx1
    clear hx1
    go_wp2_with fail
    refine (H.out.1 _).mono ?_
    rintro e _ ⟨rfl, rfl⟩
    go_wp2_with fail
    refine (H.out.2.1 _).mono ?_
    rintro e _ ⟨rfl, rfl⟩
    go_wp2_with fail
    go_ret
    exact ⟨rfl, Hx.out⟩
  have hb0' : decide (b < 0) = false := by simpa using hb0
  by_cases hb1 : 65535 < b
  · have hb1' : decide (65535 < b) = true := by simpa using hb1
    go_enter Try.func5, Try.ntmps5
    go_wp2_with fail
    refine (quo_small _).mono ?_
    rintro e w1 ⟨rfl, hx1⟩
    have Hx := Lib.hid hx1
    clear hx1
    go_wp2_with fail
    refine (H.out.1 _).mono ?_
    rintro e _ ⟨rfl, rfl⟩
    go_wp2_with fail
    refine (H.out.2.1 _).mono ?_
    rintro e _ ⟨rfl, rfl⟩
    go_wp2_with fail
    go_ret
    exact ⟨rfl, Hx.out⟩
  have hb1' : decide (65535 < b) = false := by simpa using hb1
  obtain ⟨A, rfl⟩ : ∃ A : Nat, a = A := ⟨a.toNat, by omega⟩
  obtain ⟨B, rfl⟩ : ∃ B : Nat, b = B := ⟨b.toNat, by omega⟩
  have hA : A < 65536 := by omega
  have hB : B < 65536 := by omega
  have hqa := quo_is 7 (A : Int)
  have hqb := quo_is 7 (B : Int)
  have hqh : isQ 7 (h : Int) := by
    rw [Hpm.out.2.2, setN_nat (by omega), hhand]
    have := Hpm.out.2.1
    omega
  rw [decide_eq_true hqh] at hish'
  have iA := Hpm.out.2.2 (A : Int)
  have iB := Hpm.out.2.2 (B : Int)
  rw [setN_nat hA] at iA
  rw [setN_nat hB] at iB
  have eAB : bits .and .i64 (A : Int) (B : Int) = ((A &&& B : Nat) : Int) := i64_and A B (by omega) (by omega)
  have hABl : (A &&& B) ≤ A := Nat.and_le_left
  have eC : bits .and .i64 ((A &&& B : Nat) : Int) 127 = ((A &&& B &&& 127 : Nat) : Int) := i64_and (A &&& B) 127 (by omega) (by decide)
  have hCl : (A &&& B &&& 127) ≤ 127 := Nat.and_le_right
  have h2 := meet_two (first := 127) (a := A) (b := B)
  rw [show pc 127 = 7 by decide +kernel] at h2
  have hCf : ∀ j, (A &&& B &&& 127).testBit j = true → Nat.testBit 127 j = true := fun j hj => and_first j hj
  generalize (A &&& B) = AB at *
  generalize (AB &&& 127) = C at *
  obtain ⟨E, eE, hEl, hEb⟩ := i64_andNot C (by omega) faulty
  have h3 := H.out.2.2.1 C E hCf hEb

  have hcC := quo_count (C : Int)
  have hcE := quo_count (E : Int)
  rw [setN_nat (by omega)] at hcC hcE
  have hfew := quo_few 7
  rw [show fewQ 7 = 3 by decide +kernel] at hfew
  generalize pc C = pC at *
  generalize pc E = pE at *
  have H2 := Lib.hid (And.intro (And.intro hqa hqb) (And.intro hish' (And.intro hcC (And.intro hcE hfew))))
  have H3 := Lib.hid (And.intro h2 h3)
  clear hqa hqb hish' hcC hcE hfew h2 h3 hCf hEb hhand hbit2 hrest' hqh
  by_cases qa : isQ 7 (A : Int)
  · have qa' : decide (isQ 7 (A : Int)) = true := by simpa using qa
    by_cases qb : isQ 7 (B : Int)
    · have qb' : decide (isQ 7 (B : Int)) = true := by simpa using qb
      have g1 : 3 ≤ pC := by have := iA.1 qa; have := iB.1 qb; have := H3.out.1; omega
      have g2 : 1 ≤ pE := by have := H3.out.2; omega
      have g1' : decide (3 ≤ pC) = true := by simpa using g1
      have g2' : decide (1 ≤ pE) = true := by simpa using g2
      have g1'' : decide ((3 : Int) ≤ (pC : Int)) = true := by simp; omega
      have g2'' : decide ((1 : Int) ≤ (pE : Int)) = true := by simp; omega
      rw [qa', qb'] at H2
      clear iA iB qa qb qa' qb' g1 g2
      go_enter Try.func5, Try.ntmps5
      go_wp2_with fail
      refine (quo_small _).mono ?_
      rintro e w1 ⟨rfl, hx1⟩
      have Hx := Lib.hid hx1
      clear hx1
      go_wp2_with fail
      refine (H.out.1 _).mono ?_
      rintro e _ ⟨rfl, rfl⟩
      go_wp2_with fail
      refine (H.out.2.1 _).mono ?_
      rintro e _ ⟨rfl, rfl⟩
      go_wp2_with fail
      refine (H2.out.1.1 _).mono ?_
      rintro e w2 ⟨rfl, hx2⟩
      go_wp2_with fail
      refine (H2.out.1.2 _).mono ?_
      rintro e w3 ⟨rfl, hx3⟩
      go_wp2_with fail
      refine (H2.out.2.1 _).mono ?_
      rintro e w4 ⟨rfl, hx4⟩
      have Hx4 := Lib.hid (((Hx.out.trans hx2).trans hx3).trans hx4)
      clear hx2 hx3 hx4
      go_wp2_with fail
      refine (H2.out.2.2.1 _).mono ?_
      rintro e _ ⟨rfl, rfl⟩
      go_wp2_with fail
      refine (H2.out.2.2.2.2 _).mono ?_
      rintro e _ ⟨rfl, rfl⟩
      go_wp2_with fail
      refine (H2.out.2.2.2.1 _).mono ?_
      rintro e _ ⟨rfl, rfl⟩
      go_wp2_with fail
      go_ret
      exact ⟨rfl, Hx4.out⟩
    · have qb' : decide (isQ 7 (B : Int)) = false := by simpa using qb
      rw [qa', qb'] at H2
      clear iA iB qa qb qa' qb'
      go_enter Try.func5, Try.ntmps5
      go_wp2_with fail
      refine (quo_small _).mono ?_
      rintro e w1 ⟨rfl, hx1⟩
      have Hx := Lib.hid hx1
      clear hx1
      go_wp2_with fail
      refine (H.out.1 _).mono ?_
      rintro e _ ⟨rfl, rfl⟩
      go_wp2_with fail
      refine (H.out.2.1 _).mono ?_
      rintro e _ ⟨rfl, rfl⟩
      go_wp2_with fail
      refine (H2.out.1.1 _).mono ?_
      rintro e w2 ⟨rfl, hx2⟩
      go_wp2_with fail
      refine (H2.out.1.2 _).mono ?_
      rintro e w3 ⟨rfl, hx3⟩
      go_wp2_with fail
      refine (H2.out.2.1 _).mono ?_
      rintro e w4 ⟨rfl, hx4⟩
      have Hx4 := Lib.hid (((Hx.out.trans hx2).trans hx3).trans hx4)
      clear hx2 hx3 hx4
      go_wp2_with fail
      go_ret
      exact ⟨rfl, Hx4.out⟩
  · have qa' : decide (isQ 7 (A : Int)) = false := by simpa using qa
    rw [qa'] at H2
    clear iA iB qa qa'
    by_cases qb : isQ 7 (B : Int)
    · rw [decide_eq_true qb] at H2
      clear qb
      go_enter Try.func5, Try.ntmps5
      go_wp2_with fail
      refine (quo_small _).mono ?_
      rintro e w1 ⟨rfl, hx1⟩
      have Hx := Lib.hid hx1
      clear hx1
      go_wp2_with fail
      refine (H.out.1 _).mono ?_
      rintro e _ ⟨rfl, rfl⟩
      go_wp2_with fail
      refine (H.out.2.1 _).mono ?_
      rintro e _ ⟨rfl, rfl⟩
      go_wp2_with fail
      refine (H2.out.1.1 _).mono ?_
      rintro e w2 ⟨rfl, hx2⟩
      go_wp2_with fail
      refine (H2.out.1.2 _).mono ?_
      rintro e w3 ⟨rfl, hx3⟩
      go_wp2_with fail
      refine (H2.out.2.1 _).mono ?_
      rintro e w4 ⟨rfl, hx4⟩
      have Hx4 := Lib.hid (((Hx.out.trans hx2).trans hx3).trans hx4)
      clear hx2 hx3 hx4
      go_wp2_with fail
      go_ret
      exact ⟨rfl, Hx4.out⟩
    · rw [decide_eq_false qb] at H2
      clear qb
      go_enter Try.func5, Try.ntmps5
      go_wp2_with fail
      refine (quo_small _).mono ?_
      rintro e w1 ⟨rfl, hx1⟩
      have Hx := Lib.hid hx1
      clear hx1
      go_wp2_with fail
      refine (H.out.1 _).mono ?_
      rintro e _ ⟨rfl, rfl⟩
      go_wp2_with fail
      refine (H.out.2.1 _).mono ?_
      rintro e _ ⟨rfl, rfl⟩
      go_wp2_with fail
      refine (H2.out.1.1 _).mono ?_
      rintro e w2 ⟨rfl, hx2⟩
      go_wp2_with fail
      refine (H2.out.1.2 _).mono ?_
      rintro e w3 ⟨rfl, hx3⟩
      go_wp2_with fail
      refine (H2.out.2.1 _).mono ?_
      rintro e w4 ⟨rfl, hx4⟩
      have Hx4 := Lib.hid (((Hx.out.trans hx2).trans hx3).trans hx4)
      clear hx2 hx3 hx4
      go_wp2_with fail
      go_ret
      exact ⟨rfl, Hx4.out⟩


set_option maxRecDepth 100000 in
set_option maxHeartbeats 4000000 in
theorem meets_walk3 {w : World} (a b faulty : Int) : Calls Try.prog 5 #[.int .i64 3, .int .i64 a, .int .i64 b, .int .i64 faulty] w fun e w' => e = .returned (.bool true) ∧ Ext (fun _ => False) w w' := by
  have hs := quo_size 3
  rw [show sizeQ 3 = (10, 0) by decide +kernel] at hs
  have ef : bits .and .i64 faulty 1023 = ((uns faulty &&& 1023 : Nat) : Int) := i64_andAny faulty 1023 (by decide)
  have hfl : (uns faulty &&& 1023) ≤ 1023 := Nat.and_le_right
  have hcf := quo_count ((uns faulty &&& 1023 : Nat) : Int)
  rw [setN_nat (by omega)] at hcf
  have hrest := fun (c E : Nat) h1 h2 => meet_rest (c := c) (E := E) (first := 1023) (φ := uns faulty) h1 h2
  obtain ⟨h, eh', hhl, hbit⟩ := i64_andNot 1023 (by decide) ((uns faulty &&& 1023 : Nat) : Int)
  have eh : bits .andNot .i64 1023 ((uns faulty &&& 1023 : Nat) : Int) = (h : Int) := eh'
  clear eh'
  have hbit2 : ∀ j, h.testBit j = (Nat.testBit 1023 j && !(uns faulty).testBit j) := by
    intro j
    rw [hbit]
    have : uns ((uns faulty &&& 1023 : Nat) : Int) = (uns faulty &&& 1023) := by
      rw [uns, BitVec.ofInt_natCast, BitVec.toNat_ofNat, Nat.mod_eq_of_lt (by omega)]
    rw [this, Nat.testBit_and]
    cases (uns faulty).testBit j <;> cases Nat.testBit 1023 j <;> rfl
  have hhon := hrest 1023 h (fun _ h => h) hbit2
  rw [show pc 1023 = 10 by decide +kernel] at hhon
  have hhand : h &&& 1023 = h := by
    apply Nat.eq_of_testBit_eq
    intro j
    rw [Nat.testBit_and, hbit2]
    cases (uns faulty).testBit j <;> cases Nat.testBit 1023 j <;> rfl
  have hish' := fun w => quo_is 10 (h : Int) w
  have hIs : ∀ x : Int, isQ 10 x ↔ 7 ≤ pc (setN x &&& 1023) := by
    intro x
    unfold isQ
    rw [show mostQ 10 = 7 by decide +kernel, show (2 ^ Int.toNat 10 - 1) = 1023 by decide +kernel]
    constructor
    · rintro ⟨_, hq⟩; omega
    · intro hq; exact ⟨by decide +kernel, by omega⟩
  generalize hfm : (uns faulty &&& 1023) = fm at *
  have H := Lib.hid (And.intro hs (And.intro hcf (And.intro hrest hrest)))
  have hrest' := hrest
  clear hs hcf hrest hbit hfl
  generalize hpm : pc fm = pm at *
  have Hpm := Lib.hid (And.intro hpm (And.intro hhon hIs))
  clear hpm hhon hIs
  by_cases hpf : 3 < pm
  · have hpf' : decide (3 < pm) = true := by simpa using hpf
    have hpf2 : decide ((3 : Int) < (pm : Int)) = true := by simp; omega
    go_enter Try.func5, Try.ntmps5
    go_wp2_with fail
    refine (quo_small _).mono ?_
    rintro e w1 ⟨rfl, hx1⟩
    have Hx := Lib.hid hx1
    clear hx1
    go_wp2_with fail
    refine (H.out.1 _).mono ?_
    rintro e _ ⟨rfl, rfl⟩
    go_wp2_with fail
    refine (H.out.2.1 _).mono ?_
    rintro e _ ⟨rfl, rfl⟩
    go_wp2_with fail
    go_ret
    exact ⟨rfl, Hx.out⟩
  have hpf' : decide (3 < pm) = false := by simpa using hpf
  have hpf2 : decide ((3 : Int) < (pm : Int)) = false := by simp; omega
  by_cases ha0 : a < 0
  · have ha0' : decide (a < 0) = true := by simpa using ha0
    go_enter Try.func5, Try.ntmps5
    go_wp2_with fail
    refine (quo_small _).mono ?_
    rintro e w1 ⟨rfl, hx1⟩
    have Hx := Lib.hid hx1
    clear hx1
    go_wp2_with fail
    refine (H.out.1 _).mono ?_
    rintro e _ ⟨rfl, rfl⟩
    go_wp2_with fail
    refine (H.out.2.1 _).mono ?_
    rintro e _ ⟨rfl, rfl⟩
    go_wp2_with fail
    go_ret
    exact ⟨rfl, Hx.out⟩
  have ha0' : decide (a < 0) = false := by simpa using ha0
  by_cases ha1 : 65535 < a
  · have ha1' : decide (65535 < a) = true := by simpa using ha1
    go_enter Try.func5, Try.ntmps5
    go_wp2_with fail
    refine (quo_small _).mono ?_
    rintro e w1 ⟨rfl, hx1⟩
    have Hx := Lib.hid hx1
    clear hx1
    go_wp2_with fail
    refine (H.out.1 _).mono ?_
    rintro e _ ⟨rfl, rfl⟩
    go_wp2_with fail
    refine (H.out.2.1 _).mono ?_
    rintro e _ ⟨rfl, rfl⟩
    go_wp2_with fail
    go_ret
    exact ⟨rfl, Hx.out⟩
  have ha1' : decide (65535 < a) = false := by simpa using ha1
  by_cases hb0 : b < 0
  · have hb0' : decide (b < 0) = true := by simpa using hb0
    go_enter Try.func5, Try.ntmps5
    go_wp2_with fail
    refine (quo_small _).mono ?_
    rintro e w1 ⟨rfl, hx1⟩
    have Hx := Lib.hid hx1
    clear hx1
    go_wp2_with fail
    refine (H.out.1 _).mono ?_
    rintro e _ ⟨rfl, rfl⟩
    go_wp2_with fail
    refine (H.out.2.1 _).mono ?_
    rintro e _ ⟨rfl, rfl⟩
    go_wp2_with fail
    go_ret
    exact ⟨rfl, Hx.out⟩
  have hb0' : decide (b < 0) = false := by simpa using hb0
  by_cases hb1 : 65535 < b
  · have hb1' : decide (65535 < b) = true := by simpa using hb1
    go_enter Try.func5, Try.ntmps5
    go_wp2_with fail
    refine (quo_small _).mono ?_
    rintro e w1 ⟨rfl, hx1⟩
    have Hx := Lib.hid hx1
    clear hx1
    go_wp2_with fail
    refine (H.out.1 _).mono ?_
    rintro e _ ⟨rfl, rfl⟩
    go_wp2_with fail
    refine (H.out.2.1 _).mono ?_
    rintro e _ ⟨rfl, rfl⟩
    go_wp2_with fail
    go_ret
    exact ⟨rfl, Hx.out⟩
  have hb1' : decide (65535 < b) = false := by simpa using hb1
  obtain ⟨A, rfl⟩ : ∃ A : Nat, a = A := ⟨a.toNat, by omega⟩
  obtain ⟨B, rfl⟩ : ∃ B : Nat, b = B := ⟨b.toNat, by omega⟩
  have hA : A < 65536 := by omega
  have hB : B < 65536 := by omega
  have hqa := quo_is 10 (A : Int)
  have hqb := quo_is 10 (B : Int)
  have hqh : isQ 10 (h : Int) := by
    rw [Hpm.out.2.2, setN_nat (by omega), hhand]
    have := Hpm.out.2.1
    omega
  rw [decide_eq_true hqh] at hish'
  have iA := Hpm.out.2.2 (A : Int)
  have iB := Hpm.out.2.2 (B : Int)
  rw [setN_nat hA] at iA
  rw [setN_nat hB] at iB
  have eAB : bits .and .i64 (A : Int) (B : Int) = ((A &&& B : Nat) : Int) := i64_and A B (by omega) (by omega)
  have hABl : (A &&& B) ≤ A := Nat.and_le_left
  have eC : bits .and .i64 ((A &&& B : Nat) : Int) 1023 = ((A &&& B &&& 1023 : Nat) : Int) := i64_and (A &&& B) 1023 (by omega) (by decide)
  have hCl : (A &&& B &&& 1023) ≤ 1023 := Nat.and_le_right
  have h2 := meet_two (first := 1023) (a := A) (b := B)
  rw [show pc 1023 = 10 by decide +kernel] at h2
  have hCf : ∀ j, (A &&& B &&& 1023).testBit j = true → Nat.testBit 1023 j = true := fun j hj => and_first j hj
  generalize (A &&& B) = AB at *
  generalize (AB &&& 1023) = C at *
  obtain ⟨E, eE, hEl, hEb⟩ := i64_andNot C (by omega) faulty
  have h3 := H.out.2.2.1 C E hCf hEb

  have hcC := quo_count (C : Int)
  have hcE := quo_count (E : Int)
  rw [setN_nat (by omega)] at hcC hcE
  have hfew := quo_few 10
  rw [show fewQ 10 = 4 by decide +kernel] at hfew
  generalize pc C = pC at *
  generalize pc E = pE at *
  have H2 := Lib.hid (And.intro (And.intro hqa hqb) (And.intro hish' (And.intro hcC (And.intro hcE hfew))))
  have H3 := Lib.hid (And.intro h2 h3)
  clear hqa hqb hish' hcC hcE hfew h2 h3 hCf hEb hhand hbit2 hrest' hqh
  by_cases qa : isQ 10 (A : Int)
  · have qa' : decide (isQ 10 (A : Int)) = true := by simpa using qa
    by_cases qb : isQ 10 (B : Int)
    · have qb' : decide (isQ 10 (B : Int)) = true := by simpa using qb
      have g1 : 4 ≤ pC := by have := iA.1 qa; have := iB.1 qb; have := H3.out.1; omega
      have g2 : 1 ≤ pE := by have := H3.out.2; omega
      have g1' : decide (4 ≤ pC) = true := by simpa using g1
      have g2' : decide (1 ≤ pE) = true := by simpa using g2
      have g1'' : decide ((4 : Int) ≤ (pC : Int)) = true := by simp; omega
      have g2'' : decide ((1 : Int) ≤ (pE : Int)) = true := by simp; omega
      rw [qa', qb'] at H2
      clear iA iB qa qb qa' qb' g1 g2
      go_enter Try.func5, Try.ntmps5
      go_wp2_with fail
      refine (quo_small _).mono ?_
      rintro e w1 ⟨rfl, hx1⟩
      have Hx := Lib.hid hx1
      clear hx1
      go_wp2_with fail
      refine (H.out.1 _).mono ?_
      rintro e _ ⟨rfl, rfl⟩
      go_wp2_with fail
      refine (H.out.2.1 _).mono ?_
      rintro e _ ⟨rfl, rfl⟩
      go_wp2_with fail
      refine (H2.out.1.1 _).mono ?_
      rintro e w2 ⟨rfl, hx2⟩
      go_wp2_with fail
      refine (H2.out.1.2 _).mono ?_
      rintro e w3 ⟨rfl, hx3⟩
      go_wp2_with fail
      refine (H2.out.2.1 _).mono ?_
      rintro e w4 ⟨rfl, hx4⟩
      have Hx4 := Lib.hid (((Hx.out.trans hx2).trans hx3).trans hx4)
      clear hx2 hx3 hx4
      go_wp2_with fail
      refine (H2.out.2.2.1 _).mono ?_
      rintro e _ ⟨rfl, rfl⟩
      go_wp2_with fail
      refine (H2.out.2.2.2.2 _).mono ?_
      rintro e _ ⟨rfl, rfl⟩
      go_wp2_with fail
      refine (H2.out.2.2.2.1 _).mono ?_
      rintro e _ ⟨rfl, rfl⟩
      go_wp2_with fail
      go_ret
      exact ⟨rfl, Hx4.out⟩
    · have qb' : decide (isQ 10 (B : Int)) = false := by simpa using qb
      rw [qa', qb'] at H2
      clear iA iB qa qb qa' qb'
      go_enter Try.func5, Try.ntmps5
      go_wp2_with fail
      refine (quo_small _).mono ?_
      rintro e w1 ⟨rfl, hx1⟩
      have Hx := Lib.hid hx1
      clear hx1
      go_wp2_with fail
      refine (H.out.1 _).mono ?_
      rintro e _ ⟨rfl, rfl⟩
      go_wp2_with fail
      refine (H.out.2.1 _).mono ?_
      rintro e _ ⟨rfl, rfl⟩
      go_wp2_with fail
      refine (H2.out.1.1 _).mono ?_
      rintro e w2 ⟨rfl, hx2⟩
      go_wp2_with fail
      refine (H2.out.1.2 _).mono ?_
      rintro e w3 ⟨rfl, hx3⟩
      go_wp2_with fail
      refine (H2.out.2.1 _).mono ?_
      rintro e w4 ⟨rfl, hx4⟩
      have Hx4 := Lib.hid (((Hx.out.trans hx2).trans hx3).trans hx4)
      clear hx2 hx3 hx4
      go_wp2_with fail
      go_ret
      exact ⟨rfl, Hx4.out⟩
  · have qa' : decide (isQ 10 (A : Int)) = false := by simpa using qa
    rw [qa'] at H2
    clear iA iB qa qa'
    by_cases qb : isQ 10 (B : Int)
    · rw [decide_eq_true qb] at H2
      clear qb
      go_enter Try.func5, Try.ntmps5
      go_wp2_with fail
      refine (quo_small _).mono ?_
      rintro e w1 ⟨rfl, hx1⟩
      have Hx := Lib.hid hx1
      clear hx1
      go_wp2_with fail
      refine (H.out.1 _).mono ?_
      rintro e _ ⟨rfl, rfl⟩
      go_wp2_with fail
      refine (H.out.2.1 _).mono ?_
      rintro e _ ⟨rfl, rfl⟩
      go_wp2_with fail
      refine (H2.out.1.1 _).mono ?_
      rintro e w2 ⟨rfl, hx2⟩
      go_wp2_with fail
      refine (H2.out.1.2 _).mono ?_
      rintro e w3 ⟨rfl, hx3⟩
      go_wp2_with fail
      refine (H2.out.2.1 _).mono ?_
      rintro e w4 ⟨rfl, hx4⟩
      have Hx4 := Lib.hid (((Hx.out.trans hx2).trans hx3).trans hx4)
      clear hx2 hx3 hx4
      go_wp2_with fail
      go_ret
      exact ⟨rfl, Hx4.out⟩
    · rw [decide_eq_false qb] at H2
      clear qb
      go_enter Try.func5, Try.ntmps5
      go_wp2_with fail
      refine (quo_small _).mono ?_
      rintro e w1 ⟨rfl, hx1⟩
      have Hx := Lib.hid hx1
      clear hx1
      go_wp2_with fail
      refine (H.out.1 _).mono ?_
      rintro e _ ⟨rfl, rfl⟩
      go_wp2_with fail
      refine (H.out.2.1 _).mono ?_
      rintro e _ ⟨rfl, rfl⟩
      go_wp2_with fail
      refine (H2.out.1.1 _).mono ?_
      rintro e w2 ⟨rfl, hx2⟩
      go_wp2_with fail
      refine (H2.out.1.2 _).mono ?_
      rintro e w3 ⟨rfl, hx3⟩
      go_wp2_with fail
      refine (H2.out.2.1 _).mono ?_
      rintro e w4 ⟨rfl, hx4⟩
      have Hx4 := Lib.hid (((Hx.out.trans hx2).trans hx3).trans hx4)
      clear hx2 hx3 hx4
      go_wp2_with fail
      go_ret
      exact ⟨rfl, Hx4.out⟩


set_option maxRecDepth 100000 in
set_option maxHeartbeats 4000000 in
theorem meets_walk4 {w : World} (a b faulty : Int) : Calls Try.prog 5 #[.int .i64 4, .int .i64 a, .int .i64 b, .int .i64 faulty] w fun e w' => e = .returned (.bool true) ∧ Ext (fun _ => False) w w' := by
  have hs := quo_size 4
  rw [show sizeQ 4 = (13, 0) by decide +kernel] at hs
  have ef : bits .and .i64 faulty 8191 = ((uns faulty &&& 8191 : Nat) : Int) := i64_andAny faulty 8191 (by decide)
  have hfl : (uns faulty &&& 8191) ≤ 8191 := Nat.and_le_right
  have hcf := quo_count ((uns faulty &&& 8191 : Nat) : Int)
  rw [setN_nat (by omega)] at hcf
  have hrest := fun (c E : Nat) h1 h2 => meet_rest (c := c) (E := E) (first := 8191) (φ := uns faulty) h1 h2
  obtain ⟨h, eh', hhl, hbit⟩ := i64_andNot 8191 (by decide) ((uns faulty &&& 8191 : Nat) : Int)
  have eh : bits .andNot .i64 8191 ((uns faulty &&& 8191 : Nat) : Int) = (h : Int) := eh'
  clear eh'
  have hbit2 : ∀ j, h.testBit j = (Nat.testBit 8191 j && !(uns faulty).testBit j) := by
    intro j
    rw [hbit]
    have : uns ((uns faulty &&& 8191 : Nat) : Int) = (uns faulty &&& 8191) := by
      rw [uns, BitVec.ofInt_natCast, BitVec.toNat_ofNat, Nat.mod_eq_of_lt (by omega)]
    rw [this, Nat.testBit_and]
    cases (uns faulty).testBit j <;> cases Nat.testBit 8191 j <;> rfl
  have hhon := hrest 8191 h (fun _ h => h) hbit2
  rw [show pc 8191 = 13 by decide +kernel] at hhon
  have hhand : h &&& 8191 = h := by
    apply Nat.eq_of_testBit_eq
    intro j
    rw [Nat.testBit_and, hbit2]
    cases (uns faulty).testBit j <;> cases Nat.testBit 8191 j <;> rfl
  have hish' := fun w => quo_is 13 (h : Int) w
  have hIs : ∀ x : Int, isQ 13 x ↔ 9 ≤ pc (setN x &&& 8191) := by
    intro x
    unfold isQ
    rw [show mostQ 13 = 9 by decide +kernel, show (2 ^ Int.toNat 13 - 1) = 8191 by decide +kernel]
    constructor
    · rintro ⟨_, hq⟩; omega
    · intro hq; exact ⟨by decide +kernel, by omega⟩
  generalize hfm : (uns faulty &&& 8191) = fm at *
  have H := Lib.hid (And.intro hs (And.intro hcf (And.intro hrest hrest)))
  have hrest' := hrest
  clear hs hcf hrest hbit hfl
  generalize hpm : pc fm = pm at *
  have Hpm := Lib.hid (And.intro hpm (And.intro hhon hIs))
  clear hpm hhon hIs
  by_cases hpf : 4 < pm
  · have hpf' : decide (4 < pm) = true := by simpa using hpf
    have hpf2 : decide ((4 : Int) < (pm : Int)) = true := by simp; omega
    go_enter Try.func5, Try.ntmps5
    go_wp2_with fail
    refine (quo_small _).mono ?_
    rintro e w1 ⟨rfl, hx1⟩
    have Hx := Lib.hid hx1
    clear hx1
    go_wp2_with fail
    refine (H.out.1 _).mono ?_
    rintro e _ ⟨rfl, rfl⟩
    go_wp2_with fail
    refine (H.out.2.1 _).mono ?_
    rintro e _ ⟨rfl, rfl⟩
    go_wp2_with fail
    go_ret
    exact ⟨rfl, Hx.out⟩
  have hpf' : decide (4 < pm) = false := by simpa using hpf
  have hpf2 : decide ((4 : Int) < (pm : Int)) = false := by simp; omega
  by_cases ha0 : a < 0
  · have ha0' : decide (a < 0) = true := by simpa using ha0
    go_enter Try.func5, Try.ntmps5
    go_wp2_with fail
    refine (quo_small _).mono ?_
    rintro e w1 ⟨rfl, hx1⟩
    have Hx := Lib.hid hx1
    clear hx1
    go_wp2_with fail
    refine (H.out.1 _).mono ?_
    rintro e _ ⟨rfl, rfl⟩
    go_wp2_with fail
    refine (H.out.2.1 _).mono ?_
    rintro e _ ⟨rfl, rfl⟩
    go_wp2_with fail
    go_ret
    exact ⟨rfl, Hx.out⟩
  have ha0' : decide (a < 0) = false := by simpa using ha0
  by_cases ha1 : 65535 < a
  · have ha1' : decide (65535 < a) = true := by simpa using ha1
    go_enter Try.func5, Try.ntmps5
    go_wp2_with fail
    refine (quo_small _).mono ?_
    rintro e w1 ⟨rfl, hx1⟩
    have Hx := Lib.hid hx1
    clear hx1
    go_wp2_with fail
    refine (H.out.1 _).mono ?_
    rintro e _ ⟨rfl, rfl⟩
    go_wp2_with fail
    refine (H.out.2.1 _).mono ?_
    rintro e _ ⟨rfl, rfl⟩
    go_wp2_with fail
    go_ret
    exact ⟨rfl, Hx.out⟩
  have ha1' : decide (65535 < a) = false := by simpa using ha1
  by_cases hb0 : b < 0
  · have hb0' : decide (b < 0) = true := by simpa using hb0
    go_enter Try.func5, Try.ntmps5
    go_wp2_with fail
    refine (quo_small _).mono ?_
    rintro e w1 ⟨rfl, hx1⟩
    have Hx := Lib.hid hx1
    clear hx1
    go_wp2_with fail
    refine (H.out.1 _).mono ?_
    rintro e _ ⟨rfl, rfl⟩
    go_wp2_with fail
    refine (H.out.2.1 _).mono ?_
    rintro e _ ⟨rfl, rfl⟩
    go_wp2_with fail
    go_ret
    exact ⟨rfl, Hx.out⟩
  have hb0' : decide (b < 0) = false := by simpa using hb0
  by_cases hb1 : 65535 < b
  · have hb1' : decide (65535 < b) = true := by simpa using hb1
    go_enter Try.func5, Try.ntmps5
    go_wp2_with fail
    refine (quo_small _).mono ?_
    rintro e w1 ⟨rfl, hx1⟩
    have Hx := Lib.hid hx1
    clear hx1
    go_wp2_with fail
    refine (H.out.1 _).mono ?_
    rintro e _ ⟨rfl, rfl⟩
    go_wp2_with fail
    refine (H.out.2.1 _).mono ?_
    rintro e _ ⟨rfl, rfl⟩
    go_wp2_with fail
    go_ret
    exact ⟨rfl, Hx.out⟩
  have hb1' : decide (65535 < b) = false := by simpa using hb1
  obtain ⟨A, rfl⟩ : ∃ A : Nat, a = A := ⟨a.toNat, by omega⟩
  obtain ⟨B, rfl⟩ : ∃ B : Nat, b = B := ⟨b.toNat, by omega⟩
  have hA : A < 65536 := by omega
  have hB : B < 65536 := by omega
  have hqa := quo_is 13 (A : Int)
  have hqb := quo_is 13 (B : Int)
  have hqh : isQ 13 (h : Int) := by
    rw [Hpm.out.2.2, setN_nat (by omega), hhand]
    have := Hpm.out.2.1
    omega
  rw [decide_eq_true hqh] at hish'
  have iA := Hpm.out.2.2 (A : Int)
  have iB := Hpm.out.2.2 (B : Int)
  rw [setN_nat hA] at iA
  rw [setN_nat hB] at iB
  have eAB : bits .and .i64 (A : Int) (B : Int) = ((A &&& B : Nat) : Int) := i64_and A B (by omega) (by omega)
  have hABl : (A &&& B) ≤ A := Nat.and_le_left
  have eC : bits .and .i64 ((A &&& B : Nat) : Int) 8191 = ((A &&& B &&& 8191 : Nat) : Int) := i64_and (A &&& B) 8191 (by omega) (by decide)
  have hCl : (A &&& B &&& 8191) ≤ 8191 := Nat.and_le_right
  have h2 := meet_two (first := 8191) (a := A) (b := B)
  rw [show pc 8191 = 13 by decide +kernel] at h2
  have hCf : ∀ j, (A &&& B &&& 8191).testBit j = true → Nat.testBit 8191 j = true := fun j hj => and_first j hj
  generalize (A &&& B) = AB at *
  generalize (AB &&& 8191) = C at *
  obtain ⟨E, eE, hEl, hEb⟩ := i64_andNot C (by omega) faulty
  have h3 := H.out.2.2.1 C E hCf hEb

  have hcC := quo_count (C : Int)
  have hcE := quo_count (E : Int)
  rw [setN_nat (by omega)] at hcC hcE
  have hfew := quo_few 13
  rw [show fewQ 13 = 5 by decide +kernel] at hfew
  generalize pc C = pC at *
  generalize pc E = pE at *
  have H2 := Lib.hid (And.intro (And.intro hqa hqb) (And.intro hish' (And.intro hcC (And.intro hcE hfew))))
  have H3 := Lib.hid (And.intro h2 h3)
  clear hqa hqb hish' hcC hcE hfew h2 h3 hCf hEb hhand hbit2 hrest' hqh
  by_cases qa : isQ 13 (A : Int)
  · have qa' : decide (isQ 13 (A : Int)) = true := by simpa using qa
    by_cases qb : isQ 13 (B : Int)
    · have qb' : decide (isQ 13 (B : Int)) = true := by simpa using qb
      have g1 : 5 ≤ pC := by have := iA.1 qa; have := iB.1 qb; have := H3.out.1; omega
      have g2 : 1 ≤ pE := by have := H3.out.2; omega
      have g1' : decide (5 ≤ pC) = true := by simpa using g1
      have g2' : decide (1 ≤ pE) = true := by simpa using g2
      have g1'' : decide ((5 : Int) ≤ (pC : Int)) = true := by simp; omega
      have g2'' : decide ((1 : Int) ≤ (pE : Int)) = true := by simp; omega
      rw [qa', qb'] at H2
      clear iA iB qa qb qa' qb' g1 g2
      go_enter Try.func5, Try.ntmps5
      go_wp2_with fail
      refine (quo_small _).mono ?_
      rintro e w1 ⟨rfl, hx1⟩
      have Hx := Lib.hid hx1
      clear hx1
      go_wp2_with fail
      refine (H.out.1 _).mono ?_
      rintro e _ ⟨rfl, rfl⟩
      go_wp2_with fail
      refine (H.out.2.1 _).mono ?_
      rintro e _ ⟨rfl, rfl⟩
      go_wp2_with fail
      refine (H2.out.1.1 _).mono ?_
      rintro e w2 ⟨rfl, hx2⟩
      go_wp2_with fail
      refine (H2.out.1.2 _).mono ?_
      rintro e w3 ⟨rfl, hx3⟩
      go_wp2_with fail
      refine (H2.out.2.1 _).mono ?_
      rintro e w4 ⟨rfl, hx4⟩
      have Hx4 := Lib.hid (((Hx.out.trans hx2).trans hx3).trans hx4)
      clear hx2 hx3 hx4
      go_wp2_with fail
      refine (H2.out.2.2.1 _).mono ?_
      rintro e _ ⟨rfl, rfl⟩
      go_wp2_with fail
      refine (H2.out.2.2.2.2 _).mono ?_
      rintro e _ ⟨rfl, rfl⟩
      go_wp2_with fail
      refine (H2.out.2.2.2.1 _).mono ?_
      rintro e _ ⟨rfl, rfl⟩
      go_wp2_with fail
      go_ret
      exact ⟨rfl, Hx4.out⟩
    · have qb' : decide (isQ 13 (B : Int)) = false := by simpa using qb
      rw [qa', qb'] at H2
      clear iA iB qa qb qa' qb'
      go_enter Try.func5, Try.ntmps5
      go_wp2_with fail
      refine (quo_small _).mono ?_
      rintro e w1 ⟨rfl, hx1⟩
      have Hx := Lib.hid hx1
      clear hx1
      go_wp2_with fail
      refine (H.out.1 _).mono ?_
      rintro e _ ⟨rfl, rfl⟩
      go_wp2_with fail
      refine (H.out.2.1 _).mono ?_
      rintro e _ ⟨rfl, rfl⟩
      go_wp2_with fail
      refine (H2.out.1.1 _).mono ?_
      rintro e w2 ⟨rfl, hx2⟩
      go_wp2_with fail
      refine (H2.out.1.2 _).mono ?_
      rintro e w3 ⟨rfl, hx3⟩
      go_wp2_with fail
      refine (H2.out.2.1 _).mono ?_
      rintro e w4 ⟨rfl, hx4⟩
      have Hx4 := Lib.hid (((Hx.out.trans hx2).trans hx3).trans hx4)
      clear hx2 hx3 hx4
      go_wp2_with fail
      go_ret
      exact ⟨rfl, Hx4.out⟩
  · have qa' : decide (isQ 13 (A : Int)) = false := by simpa using qa
    rw [qa'] at H2
    clear iA iB qa qa'
    by_cases qb : isQ 13 (B : Int)
    · rw [decide_eq_true qb] at H2
      clear qb
      go_enter Try.func5, Try.ntmps5
      go_wp2_with fail
      refine (quo_small _).mono ?_
      rintro e w1 ⟨rfl, hx1⟩
      have Hx := Lib.hid hx1
      clear hx1
      go_wp2_with fail
      refine (H.out.1 _).mono ?_
      rintro e _ ⟨rfl, rfl⟩
      go_wp2_with fail
      refine (H.out.2.1 _).mono ?_
      rintro e _ ⟨rfl, rfl⟩
      go_wp2_with fail
      refine (H2.out.1.1 _).mono ?_
      rintro e w2 ⟨rfl, hx2⟩
      go_wp2_with fail
      refine (H2.out.1.2 _).mono ?_
      rintro e w3 ⟨rfl, hx3⟩
      go_wp2_with fail
      refine (H2.out.2.1 _).mono ?_
      rintro e w4 ⟨rfl, hx4⟩
      have Hx4 := Lib.hid (((Hx.out.trans hx2).trans hx3).trans hx4)
      clear hx2 hx3 hx4
      go_wp2_with fail
      go_ret
      exact ⟨rfl, Hx4.out⟩
    · rw [decide_eq_false qb] at H2
      clear qb
      go_enter Try.func5, Try.ntmps5
      go_wp2_with fail
      refine (quo_small _).mono ?_
      rintro e w1 ⟨rfl, hx1⟩
      have Hx := Lib.hid hx1
      clear hx1
      go_wp2_with fail
      refine (H.out.1 _).mono ?_
      rintro e _ ⟨rfl, rfl⟩
      go_wp2_with fail
      refine (H.out.2.1 _).mono ?_
      rintro e _ ⟨rfl, rfl⟩
      go_wp2_with fail
      refine (H2.out.1.1 _).mono ?_
      rintro e w2 ⟨rfl, hx2⟩
      go_wp2_with fail
      refine (H2.out.1.2 _).mono ?_
      rintro e w3 ⟨rfl, hx3⟩
      go_wp2_with fail
      refine (H2.out.2.1 _).mono ?_
      rintro e w4 ⟨rfl, hx4⟩
      have Hx4 := Lib.hid (((Hx.out.trans hx2).trans hx3).trans hx4)
      clear hx2 hx3 hx4
      go_wp2_with fail
      go_ret
      exact ⟨rfl, Hx4.out⟩


set_option maxRecDepth 100000 in
set_option maxHeartbeats 4000000 in
theorem meets_walk5 {w : World} (a b faulty : Int) : Calls Try.prog 5 #[.int .i64 5, .int .i64 a, .int .i64 b, .int .i64 faulty] w fun e w' => e = .returned (.bool true) ∧ Ext (fun _ => False) w w' := by
  have hs := quo_size 5
  rw [show sizeQ 5 = (16, 0) by decide +kernel] at hs
  have ef : bits .and .i64 faulty 65535 = ((uns faulty &&& 65535 : Nat) : Int) := i64_andAny faulty 65535 (by decide)
  have hfl : (uns faulty &&& 65535) ≤ 65535 := Nat.and_le_right
  have hcf := quo_count ((uns faulty &&& 65535 : Nat) : Int)
  rw [setN_nat (by omega)] at hcf
  have hrest := fun (c E : Nat) h1 h2 => meet_rest (c := c) (E := E) (first := 65535) (φ := uns faulty) h1 h2
  obtain ⟨h, eh', hhl, hbit⟩ := i64_andNot 65535 (by decide) ((uns faulty &&& 65535 : Nat) : Int)
  have eh : bits .andNot .i64 65535 ((uns faulty &&& 65535 : Nat) : Int) = (h : Int) := eh'
  clear eh'
  have hbit2 : ∀ j, h.testBit j = (Nat.testBit 65535 j && !(uns faulty).testBit j) := by
    intro j
    rw [hbit]
    have : uns ((uns faulty &&& 65535 : Nat) : Int) = (uns faulty &&& 65535) := by
      rw [uns, BitVec.ofInt_natCast, BitVec.toNat_ofNat, Nat.mod_eq_of_lt (by omega)]
    rw [this, Nat.testBit_and]
    cases (uns faulty).testBit j <;> cases Nat.testBit 65535 j <;> rfl
  have hhon := hrest 65535 h (fun _ h => h) hbit2
  rw [show pc 65535 = 16 by decide +kernel] at hhon
  have hhand : h &&& 65535 = h := by
    apply Nat.eq_of_testBit_eq
    intro j
    rw [Nat.testBit_and, hbit2]
    cases (uns faulty).testBit j <;> cases Nat.testBit 65535 j <;> rfl
  have hish' := fun w => quo_is 16 (h : Int) w
  have hIs : ∀ x : Int, isQ 16 x ↔ 11 ≤ pc (setN x &&& 65535) := by
    intro x
    unfold isQ
    rw [show mostQ 16 = 11 by decide +kernel, show (2 ^ Int.toNat 16 - 1) = 65535 by decide +kernel]
    constructor
    · rintro ⟨_, hq⟩; omega
    · intro hq; exact ⟨by decide +kernel, by omega⟩
  generalize hfm : (uns faulty &&& 65535) = fm at *
  have H := Lib.hid (And.intro hs (And.intro hcf (And.intro hrest hrest)))
  have hrest' := hrest
  clear hs hcf hrest hbit hfl
  generalize hpm : pc fm = pm at *
  have Hpm := Lib.hid (And.intro hpm (And.intro hhon hIs))
  clear hpm hhon hIs
  by_cases hpf : 5 < pm
  · have hpf' : decide (5 < pm) = true := by simpa using hpf
    have hpf2 : decide ((5 : Int) < (pm : Int)) = true := by simp; omega
    go_enter Try.func5, Try.ntmps5
    go_wp2_with fail
    refine (quo_small _).mono ?_
    rintro e w1 ⟨rfl, hx1⟩
    have Hx := Lib.hid hx1
    clear hx1
    go_wp2_with fail
    refine (H.out.1 _).mono ?_
    rintro e _ ⟨rfl, rfl⟩
    go_wp2_with fail
    refine (H.out.2.1 _).mono ?_
    rintro e _ ⟨rfl, rfl⟩
    go_wp2_with fail
    go_ret
    exact ⟨rfl, Hx.out⟩
  have hpf' : decide (5 < pm) = false := by simpa using hpf
  have hpf2 : decide ((5 : Int) < (pm : Int)) = false := by simp; omega
  by_cases ha0 : a < 0
  · have ha0' : decide (a < 0) = true := by simpa using ha0
    go_enter Try.func5, Try.ntmps5
    go_wp2_with fail
    refine (quo_small _).mono ?_
    rintro e w1 ⟨rfl, hx1⟩
    have Hx := Lib.hid hx1
    clear hx1
    go_wp2_with fail
    refine (H.out.1 _).mono ?_
    rintro e _ ⟨rfl, rfl⟩
    go_wp2_with fail
    refine (H.out.2.1 _).mono ?_
    rintro e _ ⟨rfl, rfl⟩
    go_wp2_with fail
    go_ret
    exact ⟨rfl, Hx.out⟩
  have ha0' : decide (a < 0) = false := by simpa using ha0
  by_cases ha1 : 65535 < a
  · have ha1' : decide (65535 < a) = true := by simpa using ha1
    go_enter Try.func5, Try.ntmps5
    go_wp2_with fail
    refine (quo_small _).mono ?_
    rintro e w1 ⟨rfl, hx1⟩
    have Hx := Lib.hid hx1
    clear hx1
    go_wp2_with fail
    refine (H.out.1 _).mono ?_
    rintro e _ ⟨rfl, rfl⟩
    go_wp2_with fail
    refine (H.out.2.1 _).mono ?_
    rintro e _ ⟨rfl, rfl⟩
    go_wp2_with fail
    go_ret
    exact ⟨rfl, Hx.out⟩
  have ha1' : decide (65535 < a) = false := by simpa using ha1
  by_cases hb0 : b < 0
  · have hb0' : decide (b < 0) = true := by simpa using hb0
    go_enter Try.func5, Try.ntmps5
    go_wp2_with fail
    refine (quo_small _).mono ?_
    rintro e w1 ⟨rfl, hx1⟩
    have Hx := Lib.hid hx1
    clear hx1
    go_wp2_with fail
    refine (H.out.1 _).mono ?_
    rintro e _ ⟨rfl, rfl⟩
    go_wp2_with fail
    refine (H.out.2.1 _).mono ?_
    rintro e _ ⟨rfl, rfl⟩
    go_wp2_with fail
    go_ret
    exact ⟨rfl, Hx.out⟩
  have hb0' : decide (b < 0) = false := by simpa using hb0
  by_cases hb1 : 65535 < b
  · have hb1' : decide (65535 < b) = true := by simpa using hb1
    go_enter Try.func5, Try.ntmps5
    go_wp2_with fail
    refine (quo_small _).mono ?_
    rintro e w1 ⟨rfl, hx1⟩
    have Hx := Lib.hid hx1
    clear hx1
    go_wp2_with fail
    refine (H.out.1 _).mono ?_
    rintro e _ ⟨rfl, rfl⟩
    go_wp2_with fail
    refine (H.out.2.1 _).mono ?_
    rintro e _ ⟨rfl, rfl⟩
    go_wp2_with fail
    go_ret
    exact ⟨rfl, Hx.out⟩
  have hb1' : decide (65535 < b) = false := by simpa using hb1
  obtain ⟨A, rfl⟩ : ∃ A : Nat, a = A := ⟨a.toNat, by omega⟩
  obtain ⟨B, rfl⟩ : ∃ B : Nat, b = B := ⟨b.toNat, by omega⟩
  have hA : A < 65536 := by omega
  have hB : B < 65536 := by omega
  have hqa := quo_is 16 (A : Int)
  have hqb := quo_is 16 (B : Int)
  have hqh : isQ 16 (h : Int) := by
    rw [Hpm.out.2.2, setN_nat (by omega), hhand]
    have := Hpm.out.2.1
    omega
  rw [decide_eq_true hqh] at hish'
  have iA := Hpm.out.2.2 (A : Int)
  have iB := Hpm.out.2.2 (B : Int)
  rw [setN_nat hA] at iA
  rw [setN_nat hB] at iB
  have eAB : bits .and .i64 (A : Int) (B : Int) = ((A &&& B : Nat) : Int) := i64_and A B (by omega) (by omega)
  have hABl : (A &&& B) ≤ A := Nat.and_le_left
  have eC : bits .and .i64 ((A &&& B : Nat) : Int) 65535 = ((A &&& B &&& 65535 : Nat) : Int) := i64_and (A &&& B) 65535 (by omega) (by decide)
  have hCl : (A &&& B &&& 65535) ≤ 65535 := Nat.and_le_right
  have h2 := meet_two (first := 65535) (a := A) (b := B)
  rw [show pc 65535 = 16 by decide +kernel] at h2
  have hCf : ∀ j, (A &&& B &&& 65535).testBit j = true → Nat.testBit 65535 j = true := fun j hj => and_first j hj
  generalize (A &&& B) = AB at *
  generalize (AB &&& 65535) = C at *
  obtain ⟨E, eE, hEl, hEb⟩ := i64_andNot C (by omega) faulty
  have h3 := H.out.2.2.1 C E hCf hEb

  have hcC := quo_count (C : Int)
  have hcE := quo_count (E : Int)
  rw [setN_nat (by omega)] at hcC hcE
  have hfew := quo_few 16
  rw [show fewQ 16 = 6 by decide +kernel] at hfew
  generalize pc C = pC at *
  generalize pc E = pE at *
  have H2 := Lib.hid (And.intro (And.intro hqa hqb) (And.intro hish' (And.intro hcC (And.intro hcE hfew))))
  have H3 := Lib.hid (And.intro h2 h3)
  clear hqa hqb hish' hcC hcE hfew h2 h3 hCf hEb hhand hbit2 hrest' hqh
  by_cases qa : isQ 16 (A : Int)
  · have qa' : decide (isQ 16 (A : Int)) = true := by simpa using qa
    by_cases qb : isQ 16 (B : Int)
    · have qb' : decide (isQ 16 (B : Int)) = true := by simpa using qb
      have g1 : 6 ≤ pC := by have := iA.1 qa; have := iB.1 qb; have := H3.out.1; omega
      have g2 : 1 ≤ pE := by have := H3.out.2; omega
      have g1' : decide (6 ≤ pC) = true := by simpa using g1
      have g2' : decide (1 ≤ pE) = true := by simpa using g2
      have g1'' : decide ((6 : Int) ≤ (pC : Int)) = true := by simp; omega
      have g2'' : decide ((1 : Int) ≤ (pE : Int)) = true := by simp; omega
      rw [qa', qb'] at H2
      clear iA iB qa qb qa' qb' g1 g2
      go_enter Try.func5, Try.ntmps5
      go_wp2_with fail
      refine (quo_small _).mono ?_
      rintro e w1 ⟨rfl, hx1⟩
      have Hx := Lib.hid hx1
      clear hx1
      go_wp2_with fail
      refine (H.out.1 _).mono ?_
      rintro e _ ⟨rfl, rfl⟩
      go_wp2_with fail
      refine (H.out.2.1 _).mono ?_
      rintro e _ ⟨rfl, rfl⟩
      go_wp2_with fail
      refine (H2.out.1.1 _).mono ?_
      rintro e w2 ⟨rfl, hx2⟩
      go_wp2_with fail
      refine (H2.out.1.2 _).mono ?_
      rintro e w3 ⟨rfl, hx3⟩
      go_wp2_with fail
      refine (H2.out.2.1 _).mono ?_
      rintro e w4 ⟨rfl, hx4⟩
      have Hx4 := Lib.hid (((Hx.out.trans hx2).trans hx3).trans hx4)
      clear hx2 hx3 hx4
      go_wp2_with fail
      refine (H2.out.2.2.1 _).mono ?_
      rintro e _ ⟨rfl, rfl⟩
      go_wp2_with fail
      refine (H2.out.2.2.2.2 _).mono ?_
      rintro e _ ⟨rfl, rfl⟩
      go_wp2_with fail
      refine (H2.out.2.2.2.1 _).mono ?_
      rintro e _ ⟨rfl, rfl⟩
      go_wp2_with fail
      go_ret
      exact ⟨rfl, Hx4.out⟩
    · have qb' : decide (isQ 16 (B : Int)) = false := by simpa using qb
      rw [qa', qb'] at H2
      clear iA iB qa qb qa' qb'
      go_enter Try.func5, Try.ntmps5
      go_wp2_with fail
      refine (quo_small _).mono ?_
      rintro e w1 ⟨rfl, hx1⟩
      have Hx := Lib.hid hx1
      clear hx1
      go_wp2_with fail
      refine (H.out.1 _).mono ?_
      rintro e _ ⟨rfl, rfl⟩
      go_wp2_with fail
      refine (H.out.2.1 _).mono ?_
      rintro e _ ⟨rfl, rfl⟩
      go_wp2_with fail
      refine (H2.out.1.1 _).mono ?_
      rintro e w2 ⟨rfl, hx2⟩
      go_wp2_with fail
      refine (H2.out.1.2 _).mono ?_
      rintro e w3 ⟨rfl, hx3⟩
      go_wp2_with fail
      refine (H2.out.2.1 _).mono ?_
      rintro e w4 ⟨rfl, hx4⟩
      have Hx4 := Lib.hid (((Hx.out.trans hx2).trans hx3).trans hx4)
      clear hx2 hx3 hx4
      go_wp2_with fail
      go_ret
      exact ⟨rfl, Hx4.out⟩
  · have qa' : decide (isQ 16 (A : Int)) = false := by simpa using qa
    rw [qa'] at H2
    clear iA iB qa qa'
    by_cases qb : isQ 16 (B : Int)
    · rw [decide_eq_true qb] at H2
      clear qb
      go_enter Try.func5, Try.ntmps5
      go_wp2_with fail
      refine (quo_small _).mono ?_
      rintro e w1 ⟨rfl, hx1⟩
      have Hx := Lib.hid hx1
      clear hx1
      go_wp2_with fail
      refine (H.out.1 _).mono ?_
      rintro e _ ⟨rfl, rfl⟩
      go_wp2_with fail
      refine (H.out.2.1 _).mono ?_
      rintro e _ ⟨rfl, rfl⟩
      go_wp2_with fail
      refine (H2.out.1.1 _).mono ?_
      rintro e w2 ⟨rfl, hx2⟩
      go_wp2_with fail
      refine (H2.out.1.2 _).mono ?_
      rintro e w3 ⟨rfl, hx3⟩
      go_wp2_with fail
      refine (H2.out.2.1 _).mono ?_
      rintro e w4 ⟨rfl, hx4⟩
      have Hx4 := Lib.hid (((Hx.out.trans hx2).trans hx3).trans hx4)
      clear hx2 hx3 hx4
      go_wp2_with fail
      go_ret
      exact ⟨rfl, Hx4.out⟩
    · rw [decide_eq_false qb] at H2
      clear qb
      go_enter Try.func5, Try.ntmps5
      go_wp2_with fail
      refine (quo_small _).mono ?_
      rintro e w1 ⟨rfl, hx1⟩
      have Hx := Lib.hid hx1
      clear hx1
      go_wp2_with fail
      refine (H.out.1 _).mono ?_
      rintro e _ ⟨rfl, rfl⟩
      go_wp2_with fail
      refine (H.out.2.1 _).mono ?_
      rintro e _ ⟨rfl, rfl⟩
      go_wp2_with fail
      refine (H2.out.1.1 _).mono ?_
      rintro e w2 ⟨rfl, hx2⟩
      go_wp2_with fail
      refine (H2.out.1.2 _).mono ?_
      rintro e w3 ⟨rfl, hx3⟩
      go_wp2_with fail
      refine (H2.out.2.1 _).mono ?_
      rintro e w4 ⟨rfl, hx4⟩
      have Hx4 := Lib.hid (((Hx.out.trans hx2).trans hx3).trans hx4)
      clear hx2 hx3 hx4
      go_wp2_with fail
      go_ret
      exact ⟨rfl, Hx4.out⟩


theorem meets_walk {w : World} (f a b faulty : Int) : Calls Try.prog 5 #[.int .i64 f, .int .i64 a, .int .i64 b, .int .i64 faulty] w fun e w' => e = .returned (.bool true) ∧ Ext (fun _ => False) w w' := by
  by_cases hf : 1 ≤ f ∧ f ≤ 5
  · have : f = 1 ∨ f = 2 ∨ f = 3 ∨ f = 4 ∨ f = 5 := by omega
    rcases this with rfl | rfl | rfl | rfl | rfl
    · exact meets_walk1 a b faulty
    · exact meets_walk2 a b faulty
    · exact meets_walk3 a b faulty
    · exact meets_walk4 a b faulty
    · exact meets_walk5 a b faulty
  · have hs := quo_size f
    rw [sizeQ, if_neg hf] at hs
    have H := Lib.hid hs
    clear hs
    go_enter Try.func5, Try.ntmps5
    go_wp2_with fail
    refine (quo_small _).mono ?_
    rintro e w1 ⟨rfl, hx1⟩
    have Hx := Lib.hid hx1
    clear hx1
    go_wp2_with fail
    refine (H.out _).mono ?_
    rintro e _ ⟨rfl, rfl⟩
    go_wp2_with fail
    go_ret
    exact ⟨rfl, Hx.out⟩
end Go.Proofs.Ytipmfopjhgagiaa
