/- Sets as numbers: Count, Has, Is, Set; no condition. -/
import Derived.Test.YtipmfopjhgagiaaDoorQuo2
namespace Go.Proofs.YtipmfopjhgagiaaDoor
set_option linter.unusedVariables false
set_option linter.unusedSimpArgs false
open Go.RowKit

def setN (n : Int) : Nat := if 0 ≤ n ∧ n ≤ 65535 then n.toNat else 0
theorem setN_lt (n : Int) : setN n < 65536 := by
  unfold setN
  split <;> omega
theorem quo_set (n : Int) (w : World) : Calls Tryd.prog 21 #[.int .i64 n] w fun e w' => e = .returned (.int .u64 (setN n)) ∧ w = w' := by
  by_cases h1 : n < 0
  · have h1' : decide (n < 0) = true := by simpa using h1
    rw [setN, if_neg (by omega)]
    go_enter Tryd.func21, Tryd.ntmps21
    go_wp2_with fail
    go_ret
    exact ⟨rfl, rfl⟩
  have h1' : decide (n < 0) = false := by simpa using h1
  by_cases h2 : 65535 < n
  · have h2' : decide (65535 < n) = true := by simpa using h2
    rw [setN, if_neg (by omega)]
    go_enter Tryd.func21, Tryd.ntmps21
    go_wp2_with fail
    go_ret
    exact ⟨rfl, rfl⟩
  have h2' : decide (65535 < n) = false := by simpa using h2
  rw [setN, if_pos (by omega), Int.toNat_of_nonneg (by omega)]
  go_enter Tryd.func21, Tryd.ntmps21
  go_wp2_with fail
  go_ret
  exact ⟨rfl, rfl⟩
theorem ones_walk (m : Nat) (hm : m < 65536) (w : World) : Calls Tryd.prog 23 #[.int .u64 (m : Int)] w fun e w' => e = .returned (.int .i64 (pc m)) ∧ w = w' := by
  have ho := fun w => ones64_walk m hm w
  have Ho := Lib.hid ho
  clear ho
  go_enter Tryd.func23, Tryd.ntmps23
  go_wp2_with fail
  refine (Ho.out _).mono ?_
  rintro e _ ⟨rfl, rfl⟩
  go_wp2_with fail
  go_ret
  exact ⟨rfl, rfl⟩
theorem quo_count (n : Int) (w : World) : Calls Tryd.prog 11 #[.int .i64 n] w fun e w' => e = .returned (.int .i64 (pc (setN n))) ∧ w = w' := by
  go_enter Tryd.func11, Tryd.ntmps11
  go_wp2_with fail
  refine (quo_set n _).mono ?_
  rintro e _ ⟨rfl, rfl⟩
  go_wp2_with fail
  refine (ones_walk _ (setN_lt n) _).mono ?_
  rintro e _ ⟨rfl, rfl⟩
  go_wp2_with fail
  go_ret
  exact ⟨rfl, rfl⟩
theorem has_bit (m k : Nat) (hm : m < 65536) : (bits .and .u64 ((m : Int) / 2 ^ k) 1 == 1) = m.testBit k := by
  have hle : m / 2 ^ k ≤ m := Nat.div_le_self _ _
  have h := u64_and (m / 2 ^ k) 1 (by omega) (by decide)
  rw [Nat.and_one_is_mod] at h
  have e : ((m / 2 ^ k : Nat) : Int) = (m : Int) / 2 ^ k := by simp
  rw [e] at h
  rw [show ((1 : Nat) : Int) = 1 from rfl] at h
  rw [h, Nat.testBit_eq_decide_div_mod_eq]
  by_cases hb : m / 2 ^ k % 2 = 1
  · rw [hb]; simp
  · have : m / 2 ^ k % 2 = 0 := by omega
    rw [this]; simp
theorem quo_has (n who : Int) (w : World) : Calls Tryd.prog 13 #[.int .i64 n, .int .i64 who] w fun e w' => e = .returned (.bool (decide (1 ≤ who ∧ who ≤ 16 ∧ (setN n).testBit (who - 1).toNat = true))) ∧ w = w' := by
  by_cases h1 : 1 ≤ who
  · have h1' : decide (1 ≤ who) = true := by simpa using h1
    by_cases h2 : who ≤ 16
    · have h2' : decide (who ≤ 16) = true := by simpa using h2
      obtain ⟨k, rfl⟩ : ∃ k : Nat, who = k + 1 := ⟨(who - 1).toNat, by omega⟩
      have hm := setN_lt n
      have hs := quo_set n
      generalize setN n = m at *
      have hb := has_bit m k hm
      have hr : decide (1 ≤ (k : Int) + 1 ∧ (k : Int) + 1 ≤ 16 ∧ m.testBit ((k : Int) + 1 - 1).toNat = true) = m.testBit k := by
        rw [show ((k : Int) + 1 - 1).toNat = k by omega]
        by_cases hb : m.testBit k = true <;> simp [hb] <;> omega
      rw [hr]
      have Hs := Lib.hid hs
      clear hs hr
      go_enter Tryd.func13, Tryd.ntmps13
      go_wp2_with fail
      refine (Hs.out _).mono ?_
      rintro e _ ⟨rfl, rfl⟩
      go_wp2_with fail
      go_ret
      exact ⟨rfl, rfl⟩
    · have h2' : decide (who ≤ 16) = false := by simpa using h2
      rw [decide_eq_false (fun h => h2 h.2.1)]
      go_enter Tryd.func13, Tryd.ntmps13
      go_wp2_with fail
      go_ret
      exact ⟨rfl, rfl⟩
  · have h1' : decide (1 ≤ who) = false := by simpa using h1
    rw [decide_eq_false (fun h => h1 h.1)]
    go_enter Tryd.func13, Tryd.ntmps13
    go_wp2_with fail
    go_ret
    exact ⟨rfl, rfl⟩

theorem and_mask (m j : Nat) (hm : m < 65536) (hj : j ≤ 16) : bits .and .u64 (m : Int) (((2 ^ j - 1 : Nat)) : Int) = ((m &&& (2 ^ j - 1) : Nat) : Int) := by
  have : 2 ^ j ≤ 2 ^ 16 := Nat.pow_le_pow_right (by decide) hj
  exact u64_and m _ (by omega) (by omega)
def isQ (n s : Int) : Prop := okN n ∧ mostQ n ≤ (pc (setN s &&& (2 ^ n.toNat - 1)) : Int)
instance (n s : Int) : Decidable (isQ n s) := by unfold isQ; exact inferInstance
theorem okN_cases {n : Int} (h : okN n) : n = 4 ∨ n = 7 ∨ n = 10 ∨ n = 13 ∨ n = 16 := by
  obtain ⟨h1, h2, h3⟩ := h
  omega
theorem quo_is4 (s : Int) (w : World) : Calls Tryd.prog 15 #[.int .i64 4, .int .i64 s] w fun e w' => e = .returned (.bool (decide (isQ 4 s))) ∧ Ext (fun _ => False) w w' := by
  have hm := quo_most 4 w
  rw [show mostQ 4 = 3 by decide +kernel] at hm
  have hs := quo_set s
  have hlt := setN_lt s
  have hr : decide (isQ 4 s) = decide (3 ≤ pc (setN s &&& 15)) := by
    have : isQ 4 s ↔ 3 ≤ pc (setN s &&& 15) := by
      unfold isQ
      rw [show mostQ 4 = 3 by decide +kernel, show (2 ^ Int.toNat 4 - 1) = 15 by decide +kernel]
      constructor
      · rintro ⟨_, h⟩; omega
      · intro h; exact ⟨by decide +kernel, by omega⟩
    simp [this]
  rw [hr]
  generalize setN s = m at *
  have he : bits .and .u64 (m : Int) 15 = ((m &&& 15 : Nat) : Int) := u64_and m 15 (by omega) (by decide)
  have hle : (m &&& 15) ≤ m := Nat.and_le_left
  have ho := fun w => ones_walk (m &&& 15) (by omega) w
  generalize (m &&& 15) = m2 at *
  generalize pc m2 = p at *
  have H := Lib.hid (And.intro hm (And.intro hs ho))
  clear hm hs ho hr hle hlt
  go_enter Tryd.func15, Tryd.ntmps15
  go_wp2_with fail
  refine H.out.1.mono ?_
  rintro e _ ⟨rfl, rfl⟩
  go_wp2_with fail
  refine wp_region_mix (Cls [0] _) [([0, 1, 2, 3, 5, 6, 7, 10], 4), ([8], 9)] [11, 12, 13] (by kernel_rfl) (by kernel_rfl) (Cls.refl _ _) ?_
  try dsimp only [wpMix, wpSegs, pick, List.getElem?_cons_zero, List.getElem?_cons_succ]
  generalize hz : Act.mk _ _ = z
  repeat (first | (refine wpQuiet_step (fun K hK => ?_); replace hK := Lib.hid hK; subst hz; go_simp; generalize hz : Act.mk _ _ = z; refine hK.out z ?_; clear hK K) | (refine wpQuiet_step (fun K hK => ?_); replace hK := Lib.hid hK; subst hz; refine iteSkip (by kernel_rfl) ?_; go_simp; generalize hz : Act.mk _ _ = z; refine hK.out z ?_; clear hK K))
  refine wpQuiet_nil ?_
  subst hz
  try dsimp only [NoPan]
  go_wp2_with fail
  refine (H.out.2.1 _).mono ?_
  rintro e _ ⟨rfl, rfl⟩
  go_wp2_with fail
  refine ⟨Cls.refl _ _, ?_⟩
  try dsimp only [wpMix, wpSegs, pick, List.getElem?_cons_zero, List.getElem?_cons_succ]
  generalize hz : Act.mk _ _ = z
  repeat (first | (refine wpQuiet_step (fun K hK => ?_); replace hK := Lib.hid hK; subst hz; go_simp; generalize hz : Act.mk _ _ = z; refine hK.out z ?_; clear hK K) | (refine wpQuiet_step (fun K hK => ?_); replace hK := Lib.hid hK; subst hz; refine iteSkip (by kernel_rfl) ?_; go_simp; generalize hz : Act.mk _ _ = z; refine hK.out z ?_; clear hK K))
  refine wpQuiet_nil ?_
  subst hz
  try dsimp only [NoPan]
  go_wp2_with fail
  rw [show ((16 : Int) - 1) = 15 by decide, he]
  refine (H.out.2.2 _).mono ?_
  rintro e _ ⟨rfl, rfl⟩
  go_wp2_with fail
  refine ⟨Cls.refl _ _, ?_⟩
  try dsimp only [wpMix, wpSegs, pick, List.getElem?_cons_zero, List.getElem?_cons_succ]
  generalize hz : Act.mk _ _ = z
  repeat (first | (refine wpQuiet_step (fun K hK => ?_); replace hK := Lib.hid hK; subst hz; go_simp; generalize hz : Act.mk _ _ = z; refine hK.out z ?_; clear hK K) | (refine wpQuiet_step (fun K hK => ?_); replace hK := Lib.hid hK; subst hz; refine iteSkip (by kernel_rfl) ?_; go_simp; generalize hz : Act.mk _ _ = z; refine hK.out z ?_; clear hK K))
  refine wpQuiet_nil ?_
  subst hz
  try dsimp only [NoPan]
  go_wp2_with fail
  go_ret
  refine ⟨?_, (Ext.refl _ _).drew⟩
  first | rfl | (congr 2; simp; omega)
theorem quo_is7 (s : Int) (w : World) : Calls Tryd.prog 15 #[.int .i64 7, .int .i64 s] w fun e w' => e = .returned (.bool (decide (isQ 7 s))) ∧ Ext (fun _ => False) w w' := by
  have hm := quo_most 7 w
  rw [show mostQ 7 = 5 by decide +kernel] at hm
  have hs := quo_set s
  have hlt := setN_lt s
  have hr : decide (isQ 7 s) = decide (5 ≤ pc (setN s &&& 127)) := by
    have : isQ 7 s ↔ 5 ≤ pc (setN s &&& 127) := by
      unfold isQ
      rw [show mostQ 7 = 5 by decide +kernel, show (2 ^ Int.toNat 7 - 1) = 127 by decide +kernel]
      constructor
      · rintro ⟨_, h⟩; omega
      · intro h; exact ⟨by decide +kernel, by omega⟩
    simp [this]
  rw [hr]
  generalize setN s = m at *
  have he : bits .and .u64 (m : Int) 127 = ((m &&& 127 : Nat) : Int) := u64_and m 127 (by omega) (by decide)
  have hle : (m &&& 127) ≤ m := Nat.and_le_left
  have ho := fun w => ones_walk (m &&& 127) (by omega) w
  generalize (m &&& 127) = m2 at *
  generalize pc m2 = p at *
  have H := Lib.hid (And.intro hm (And.intro hs ho))
  clear hm hs ho hr hle hlt
  go_enter Tryd.func15, Tryd.ntmps15
  go_wp2_with fail
  refine H.out.1.mono ?_
  rintro e _ ⟨rfl, rfl⟩
  go_wp2_with fail
  refine wp_region_mix (Cls [0] _) [([0, 1, 2, 3, 5, 6, 7, 10], 4), ([8], 9)] [11, 12, 13] (by kernel_rfl) (by kernel_rfl) (Cls.refl _ _) ?_
  try dsimp only [wpMix, wpSegs, pick, List.getElem?_cons_zero, List.getElem?_cons_succ]
  generalize hz : Act.mk _ _ = z
  repeat (first | (refine wpQuiet_step (fun K hK => ?_); replace hK := Lib.hid hK; subst hz; go_simp; generalize hz : Act.mk _ _ = z; refine hK.out z ?_; clear hK K) | (refine wpQuiet_step (fun K hK => ?_); replace hK := Lib.hid hK; subst hz; refine iteSkip (by kernel_rfl) ?_; go_simp; generalize hz : Act.mk _ _ = z; refine hK.out z ?_; clear hK K))
  refine wpQuiet_nil ?_
  subst hz
  try dsimp only [NoPan]
  go_wp2_with fail
  refine (H.out.2.1 _).mono ?_
  rintro e _ ⟨rfl, rfl⟩
  go_wp2_with fail
  refine ⟨Cls.refl _ _, ?_⟩
  try dsimp only [wpMix, wpSegs, pick, List.getElem?_cons_zero, List.getElem?_cons_succ]
  generalize hz : Act.mk _ _ = z
  repeat (first | (refine wpQuiet_step (fun K hK => ?_); replace hK := Lib.hid hK; subst hz; go_simp; generalize hz : Act.mk _ _ = z; refine hK.out z ?_; clear hK K) | (refine wpQuiet_step (fun K hK => ?_); replace hK := Lib.hid hK; subst hz; refine iteSkip (by kernel_rfl) ?_; go_simp; generalize hz : Act.mk _ _ = z; refine hK.out z ?_; clear hK K))
  refine wpQuiet_nil ?_
  subst hz
  try dsimp only [NoPan]
  go_wp2_with fail
  rw [show ((128 : Int) - 1) = 127 by decide, he]
  refine (H.out.2.2 _).mono ?_
  rintro e _ ⟨rfl, rfl⟩
  go_wp2_with fail
  refine ⟨Cls.refl _ _, ?_⟩
  try dsimp only [wpMix, wpSegs, pick, List.getElem?_cons_zero, List.getElem?_cons_succ]
  generalize hz : Act.mk _ _ = z
  repeat (first | (refine wpQuiet_step (fun K hK => ?_); replace hK := Lib.hid hK; subst hz; go_simp; generalize hz : Act.mk _ _ = z; refine hK.out z ?_; clear hK K) | (refine wpQuiet_step (fun K hK => ?_); replace hK := Lib.hid hK; subst hz; refine iteSkip (by kernel_rfl) ?_; go_simp; generalize hz : Act.mk _ _ = z; refine hK.out z ?_; clear hK K))
  refine wpQuiet_nil ?_
  subst hz
  try dsimp only [NoPan]
  go_wp2_with fail
  go_ret
  refine ⟨?_, (Ext.refl _ _).drew⟩
  first | rfl | (congr 2; simp; omega)
theorem quo_is10 (s : Int) (w : World) : Calls Tryd.prog 15 #[.int .i64 10, .int .i64 s] w fun e w' => e = .returned (.bool (decide (isQ 10 s))) ∧ Ext (fun _ => False) w w' := by
  have hm := quo_most 10 w
  rw [show mostQ 10 = 7 by decide +kernel] at hm
  have hs := quo_set s
  have hlt := setN_lt s
  have hr : decide (isQ 10 s) = decide (7 ≤ pc (setN s &&& 1023)) := by
    have : isQ 10 s ↔ 7 ≤ pc (setN s &&& 1023) := by
      unfold isQ
      rw [show mostQ 10 = 7 by decide +kernel, show (2 ^ Int.toNat 10 - 1) = 1023 by decide +kernel]
      constructor
      · rintro ⟨_, h⟩; omega
      · intro h; exact ⟨by decide +kernel, by omega⟩
    simp [this]
  rw [hr]
  generalize setN s = m at *
  have he : bits .and .u64 (m : Int) 1023 = ((m &&& 1023 : Nat) : Int) := u64_and m 1023 (by omega) (by decide)
  have hle : (m &&& 1023) ≤ m := Nat.and_le_left
  have ho := fun w => ones_walk (m &&& 1023) (by omega) w
  generalize (m &&& 1023) = m2 at *
  generalize pc m2 = p at *
  have H := Lib.hid (And.intro hm (And.intro hs ho))
  clear hm hs ho hr hle hlt
  go_enter Tryd.func15, Tryd.ntmps15
  go_wp2_with fail
  refine H.out.1.mono ?_
  rintro e _ ⟨rfl, rfl⟩
  go_wp2_with fail
  refine wp_region_mix (Cls [0] _) [([0, 1, 2, 3, 5, 6, 7, 10], 4), ([8], 9)] [11, 12, 13] (by kernel_rfl) (by kernel_rfl) (Cls.refl _ _) ?_
  try dsimp only [wpMix, wpSegs, pick, List.getElem?_cons_zero, List.getElem?_cons_succ]
  generalize hz : Act.mk _ _ = z
  repeat (first | (refine wpQuiet_step (fun K hK => ?_); replace hK := Lib.hid hK; subst hz; go_simp; generalize hz : Act.mk _ _ = z; refine hK.out z ?_; clear hK K) | (refine wpQuiet_step (fun K hK => ?_); replace hK := Lib.hid hK; subst hz; refine iteSkip (by kernel_rfl) ?_; go_simp; generalize hz : Act.mk _ _ = z; refine hK.out z ?_; clear hK K))
  refine wpQuiet_nil ?_
  subst hz
  try dsimp only [NoPan]
  go_wp2_with fail
  refine (H.out.2.1 _).mono ?_
  rintro e _ ⟨rfl, rfl⟩
  go_wp2_with fail
  refine ⟨Cls.refl _ _, ?_⟩
  try dsimp only [wpMix, wpSegs, pick, List.getElem?_cons_zero, List.getElem?_cons_succ]
  generalize hz : Act.mk _ _ = z
  repeat (first | (refine wpQuiet_step (fun K hK => ?_); replace hK := Lib.hid hK; subst hz; go_simp; generalize hz : Act.mk _ _ = z; refine hK.out z ?_; clear hK K) | (refine wpQuiet_step (fun K hK => ?_); replace hK := Lib.hid hK; subst hz; refine iteSkip (by kernel_rfl) ?_; go_simp; generalize hz : Act.mk _ _ = z; refine hK.out z ?_; clear hK K))
  refine wpQuiet_nil ?_
  subst hz
  try dsimp only [NoPan]
  go_wp2_with fail
  rw [show ((1024 : Int) - 1) = 1023 by decide, he]
  refine (H.out.2.2 _).mono ?_
  rintro e _ ⟨rfl, rfl⟩
  go_wp2_with fail
  refine ⟨Cls.refl _ _, ?_⟩
  try dsimp only [wpMix, wpSegs, pick, List.getElem?_cons_zero, List.getElem?_cons_succ]
  generalize hz : Act.mk _ _ = z
  repeat (first | (refine wpQuiet_step (fun K hK => ?_); replace hK := Lib.hid hK; subst hz; go_simp; generalize hz : Act.mk _ _ = z; refine hK.out z ?_; clear hK K) | (refine wpQuiet_step (fun K hK => ?_); replace hK := Lib.hid hK; subst hz; refine iteSkip (by kernel_rfl) ?_; go_simp; generalize hz : Act.mk _ _ = z; refine hK.out z ?_; clear hK K))
  refine wpQuiet_nil ?_
  subst hz
  try dsimp only [NoPan]
  go_wp2_with fail
  go_ret
  refine ⟨?_, (Ext.refl _ _).drew⟩
  first | rfl | (congr 2; simp; omega)
theorem quo_is13 (s : Int) (w : World) : Calls Tryd.prog 15 #[.int .i64 13, .int .i64 s] w fun e w' => e = .returned (.bool (decide (isQ 13 s))) ∧ Ext (fun _ => False) w w' := by
  have hm := quo_most 13 w
  rw [show mostQ 13 = 9 by decide +kernel] at hm
  have hs := quo_set s
  have hlt := setN_lt s
  have hr : decide (isQ 13 s) = decide (9 ≤ pc (setN s &&& 8191)) := by
    have : isQ 13 s ↔ 9 ≤ pc (setN s &&& 8191) := by
      unfold isQ
      rw [show mostQ 13 = 9 by decide +kernel, show (2 ^ Int.toNat 13 - 1) = 8191 by decide +kernel]
      constructor
      · rintro ⟨_, h⟩; omega
      · intro h; exact ⟨by decide +kernel, by omega⟩
    simp [this]
  rw [hr]
  generalize setN s = m at *
  have he : bits .and .u64 (m : Int) 8191 = ((m &&& 8191 : Nat) : Int) := u64_and m 8191 (by omega) (by decide)
  have hle : (m &&& 8191) ≤ m := Nat.and_le_left
  have ho := fun w => ones_walk (m &&& 8191) (by omega) w
  generalize (m &&& 8191) = m2 at *
  generalize pc m2 = p at *
  have H := Lib.hid (And.intro hm (And.intro hs ho))
  clear hm hs ho hr hle hlt
  go_enter Tryd.func15, Tryd.ntmps15
  go_wp2_with fail
  refine H.out.1.mono ?_
  rintro e _ ⟨rfl, rfl⟩
  go_wp2_with fail
  refine wp_region_mix (Cls [0] _) [([0, 1, 2, 3, 5, 6, 7, 10], 4), ([8], 9)] [11, 12, 13] (by kernel_rfl) (by kernel_rfl) (Cls.refl _ _) ?_
  try dsimp only [wpMix, wpSegs, pick, List.getElem?_cons_zero, List.getElem?_cons_succ]
  generalize hz : Act.mk _ _ = z
  repeat (first | (refine wpQuiet_step (fun K hK => ?_); replace hK := Lib.hid hK; subst hz; go_simp; generalize hz : Act.mk _ _ = z; refine hK.out z ?_; clear hK K) | (refine wpQuiet_step (fun K hK => ?_); replace hK := Lib.hid hK; subst hz; refine iteSkip (by kernel_rfl) ?_; go_simp; generalize hz : Act.mk _ _ = z; refine hK.out z ?_; clear hK K))
  refine wpQuiet_nil ?_
  subst hz
  try dsimp only [NoPan]
  go_wp2_with fail
  refine (H.out.2.1 _).mono ?_
  rintro e _ ⟨rfl, rfl⟩
  go_wp2_with fail
  refine ⟨Cls.refl _ _, ?_⟩
  try dsimp only [wpMix, wpSegs, pick, List.getElem?_cons_zero, List.getElem?_cons_succ]
  generalize hz : Act.mk _ _ = z
  repeat (first | (refine wpQuiet_step (fun K hK => ?_); replace hK := Lib.hid hK; subst hz; go_simp; generalize hz : Act.mk _ _ = z; refine hK.out z ?_; clear hK K) | (refine wpQuiet_step (fun K hK => ?_); replace hK := Lib.hid hK; subst hz; refine iteSkip (by kernel_rfl) ?_; go_simp; generalize hz : Act.mk _ _ = z; refine hK.out z ?_; clear hK K))
  refine wpQuiet_nil ?_
  subst hz
  try dsimp only [NoPan]
  go_wp2_with fail
  rw [show ((8192 : Int) - 1) = 8191 by decide, he]
  refine (H.out.2.2 _).mono ?_
  rintro e _ ⟨rfl, rfl⟩
  go_wp2_with fail
  refine ⟨Cls.refl _ _, ?_⟩
  try dsimp only [wpMix, wpSegs, pick, List.getElem?_cons_zero, List.getElem?_cons_succ]
  generalize hz : Act.mk _ _ = z
  repeat (first | (refine wpQuiet_step (fun K hK => ?_); replace hK := Lib.hid hK; subst hz; go_simp; generalize hz : Act.mk _ _ = z; refine hK.out z ?_; clear hK K) | (refine wpQuiet_step (fun K hK => ?_); replace hK := Lib.hid hK; subst hz; refine iteSkip (by kernel_rfl) ?_; go_simp; generalize hz : Act.mk _ _ = z; refine hK.out z ?_; clear hK K))
  refine wpQuiet_nil ?_
  subst hz
  try dsimp only [NoPan]
  go_wp2_with fail
  go_ret
  refine ⟨?_, (Ext.refl _ _).drew⟩
  first | rfl | (congr 2; simp; omega)
theorem quo_is16 (s : Int) (w : World) : Calls Tryd.prog 15 #[.int .i64 16, .int .i64 s] w fun e w' => e = .returned (.bool (decide (isQ 16 s))) ∧ Ext (fun _ => False) w w' := by
  have hm := quo_most 16 w
  rw [show mostQ 16 = 11 by decide +kernel] at hm
  have hs := quo_set s
  have hlt := setN_lt s
  have hr : decide (isQ 16 s) = decide (11 ≤ pc (setN s &&& 65535)) := by
    have : isQ 16 s ↔ 11 ≤ pc (setN s &&& 65535) := by
      unfold isQ
      rw [show mostQ 16 = 11 by decide +kernel, show (2 ^ Int.toNat 16 - 1) = 65535 by decide +kernel]
      constructor
      · rintro ⟨_, h⟩; omega
      · intro h; exact ⟨by decide +kernel, by omega⟩
    simp [this]
  rw [hr]
  generalize setN s = m at *
  have he : bits .and .u64 (m : Int) 65535 = ((m &&& 65535 : Nat) : Int) := u64_and m 65535 (by omega) (by decide)
  have hle : (m &&& 65535) ≤ m := Nat.and_le_left
  have ho := fun w => ones_walk (m &&& 65535) (by omega) w
  generalize (m &&& 65535) = m2 at *
  generalize pc m2 = p at *
  have H := Lib.hid (And.intro hm (And.intro hs ho))
  clear hm hs ho hr hle hlt
  go_enter Tryd.func15, Tryd.ntmps15
  go_wp2_with fail
  refine H.out.1.mono ?_
  rintro e _ ⟨rfl, rfl⟩
  go_wp2_with fail
  refine wp_region_mix (Cls [0] _) [([0, 1, 2, 3, 5, 6, 7, 10], 4), ([8], 9)] [11, 12, 13] (by kernel_rfl) (by kernel_rfl) (Cls.refl _ _) ?_
  try dsimp only [wpMix, wpSegs, pick, List.getElem?_cons_zero, List.getElem?_cons_succ]
  generalize hz : Act.mk _ _ = z
  repeat (first | (refine wpQuiet_step (fun K hK => ?_); replace hK := Lib.hid hK; subst hz; go_simp; generalize hz : Act.mk _ _ = z; refine hK.out z ?_; clear hK K) | (refine wpQuiet_step (fun K hK => ?_); replace hK := Lib.hid hK; subst hz; refine iteSkip (by kernel_rfl) ?_; go_simp; generalize hz : Act.mk _ _ = z; refine hK.out z ?_; clear hK K))
  refine wpQuiet_nil ?_
  subst hz
  try dsimp only [NoPan]
  go_wp2_with fail
  refine (H.out.2.1 _).mono ?_
  rintro e _ ⟨rfl, rfl⟩
  go_wp2_with fail
  refine ⟨Cls.refl _ _, ?_⟩
  try dsimp only [wpMix, wpSegs, pick, List.getElem?_cons_zero, List.getElem?_cons_succ]
  generalize hz : Act.mk _ _ = z
  repeat (first | (refine wpQuiet_step (fun K hK => ?_); replace hK := Lib.hid hK; subst hz; go_simp; generalize hz : Act.mk _ _ = z; refine hK.out z ?_; clear hK K) | (refine wpQuiet_step (fun K hK => ?_); replace hK := Lib.hid hK; subst hz; refine iteSkip (by kernel_rfl) ?_; go_simp; generalize hz : Act.mk _ _ = z; refine hK.out z ?_; clear hK K))
  refine wpQuiet_nil ?_
  subst hz
  try dsimp only [NoPan]
  go_wp2_with fail
  rw [show ((65536 : Int) - 1) = 65535 by decide, he]
  refine (H.out.2.2 _).mono ?_
  rintro e _ ⟨rfl, rfl⟩
  go_wp2_with fail
  refine ⟨Cls.refl _ _, ?_⟩
  try dsimp only [wpMix, wpSegs, pick, List.getElem?_cons_zero, List.getElem?_cons_succ]
  generalize hz : Act.mk _ _ = z
  repeat (first | (refine wpQuiet_step (fun K hK => ?_); replace hK := Lib.hid hK; subst hz; go_simp; generalize hz : Act.mk _ _ = z; refine hK.out z ?_; clear hK K) | (refine wpQuiet_step (fun K hK => ?_); replace hK := Lib.hid hK; subst hz; refine iteSkip (by kernel_rfl) ?_; go_simp; generalize hz : Act.mk _ _ = z; refine hK.out z ?_; clear hK K))
  refine wpQuiet_nil ?_
  subst hz
  try dsimp only [NoPan]
  go_wp2_with fail
  go_ret
  refine ⟨?_, (Ext.refl _ _).drew⟩
  first | rfl | (congr 2; simp; omega)
theorem quo_is (n s : Int) (w : World) : Calls Tryd.prog 15 #[.int .i64 n, .int .i64 s] w fun e w' => e = .returned (.bool (decide (isQ n s))) ∧ Ext (fun _ => False) w w' := by
  by_cases h : okN n
  · rcases okN_cases h with rfl | rfl | rfl | rfl | rfl
    · exact quo_is4 s w
    · exact quo_is7 s w
    · exact quo_is10 s w
    · exact quo_is13 s w
    · exact quo_is16 s w
  · have hm := quo_most n w
    rw [mostQ, if_neg h] at hm
    rw [decide_eq_false (fun h' => h h'.1)]
    have Hm := Lib.hid hm
    clear hm h
    go_enter Tryd.func15, Tryd.ntmps15
    go_wp2_with fail
    refine Hm.out.mono ?_
    rintro e _ ⟨rfl, rfl⟩
    go_wp2_with fail
    refine wp_region_mix (Cls [0] _) [([0, 1, 2, 3, 5, 6, 7, 10], 4), ([8], 9)] [11, 12, 13] (by kernel_rfl) (by kernel_rfl) (Cls.refl _ _) ?_
    try dsimp only [wpMix, wpSegs, pick, List.getElem?_cons_zero, List.getElem?_cons_succ]
    generalize hz : Act.mk _ _ = z
    repeat (first | (refine wpQuiet_step (fun K hK => ?_); replace hK := Lib.hid hK; subst hz; go_simp; generalize hz : Act.mk _ _ = z; refine hK.out z ?_; clear hK K) | (refine wpQuiet_step (fun K hK => ?_); replace hK := Lib.hid hK; subst hz; refine iteSkip (by kernel_rfl) ?_; go_simp; generalize hz : Act.mk _ _ = z; refine hK.out z ?_; clear hK K))
    refine wpQuiet_nil ?_
    subst hz
    try dsimp only [NoPan]
    go_wp2_with fail
    refine ⟨Cls.refl _ _, ?_⟩
    try dsimp only [wpMix, wpSegs, pick, List.getElem?_cons_zero, List.getElem?_cons_succ]
    generalize hz : Act.mk _ _ = z
    repeat (first | (refine wpQuiet_step (fun K hK => ?_); replace hK := Lib.hid hK; subst hz; go_simp; generalize hz : Act.mk _ _ = z; refine hK.out z ?_; clear hK K) | (refine wpQuiet_step (fun K hK => ?_); replace hK := Lib.hid hK; subst hz; refine iteSkip (by kernel_rfl) ?_; go_simp; generalize hz : Act.mk _ _ = z; refine hK.out z ?_; clear hK K))
    refine wpQuiet_nil ?_
    subst hz
    try dsimp only [NoPan]
    go_wp2_with fail
    refine ⟨Cls.refl _ _, ?_⟩
    try dsimp only [wpMix, wpSegs, pick, List.getElem?_cons_zero, List.getElem?_cons_succ]
    generalize hz : Act.mk _ _ = z
    repeat (first | (refine wpQuiet_step (fun K hK => ?_); replace hK := Lib.hid hK; subst hz; go_simp; generalize hz : Act.mk _ _ = z; refine hK.out z ?_; clear hK K) | (refine wpQuiet_step (fun K hK => ?_); replace hK := Lib.hid hK; subst hz; refine iteSkip (by kernel_rfl) ?_; go_simp; generalize hz : Act.mk _ _ = z; refine hK.out z ?_; clear hK K))
    refine wpQuiet_nil ?_
    subst hz
    try dsimp only [NoPan]
    go_wp2_with fail
    go_ret
    exact ⟨rfl, (Ext.refl _ _).drew⟩
end Go.Proofs.YtipmfopjhgagiaaDoor
