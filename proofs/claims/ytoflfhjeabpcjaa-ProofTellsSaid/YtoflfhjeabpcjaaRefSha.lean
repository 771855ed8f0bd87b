/- The document's words, and how it turns them; no condition. -/
import Derived.Test.YtoflfhjeabpcjaaShaLaw
import Derived.Test.YtoflfhjeabpcjaaLent
namespace Go.Proofs.Ytoflfhjeabpcjaa
set_option linter.unusedVariables false
set_option linter.unusedSimpArgs false
open Go.RowKit

theorem i64_and (a b : Nat) (ha : a < 4294967296) (hb : b < 4294967296) : bits .and .i64 (a : Int) (b : Int) = ((a &&& b : Nat) : Int) :=
  (bits_nat .i64 63 (by decide) (fun n h0 h1 => by rw [IntKind.wrap_i64]; omega) a b (by omega) (by omega)).1
theorem i64_or (a b : Nat) (ha : a < 4294967296) (hb : b < 4294967296) : bits .or .i64 (a : Int) (b : Int) = ((a ||| b : Nat) : Int) :=
  (bits_nat .i64 63 (by decide) (fun n h0 h1 => by rw [IntKind.wrap_i64]; omega) a b (by omega) (by omega)).2
theorem i64_xor (a b : Nat) (ha : a < 4294967296) (hb : b < 4294967296) : bits .xor .i64 (a : Int) (b : Int) = ((a ^^^ b : Nat) : Int) := by
  have ha' : a % 2 ^ 64 = a := Nat.mod_eq_of_lt (by omega)
  have hb' : b % 2 ^ 64 = b := Nat.mod_eq_of_lt (by omega)
  have hx : a ^^^ b < 2 ^ 32 := Nat.xor_lt_two_pow ha hb
  show IntKind.i64.wrap ((BitVec.ofInt 64 (a : Int) ^^^ BitVec.ofInt 64 (b : Int)).toNat : Int) = _
  rw [BitVec.toNat_xor, BitVec.ofInt_natCast, BitVec.ofInt_natCast, BitVec.toNat_ofNat, BitVec.toNat_ofNat, ha', hb', IntKind.wrap_i64]
  omega

theorem dturn_facts2 (x : Nat) (hx : x < 4294967296) : ∃ a b : Nat, IntKind.i64.wrap ((x : Int) * 1073741824) = (x : Int) * 1073741824 ∧ (x : Int) * 1073741824 % 4294967296 = (a : Int) ∧ (x : Int) / 4 = (b : Int) ∧ bits .or .i64 (b : Int) (a : Int) = (rot x 2 : Int) ∧ ((x : Int) * 1073741824).tmod 4294967296 = (a : Int) := by
  refine ⟨x * 2 ^ 30 % 4294967296, x / 2 ^ 2, ?_, ?_, ?_, ?_, ?_⟩
  · rw [IntKind.wrap_i64]
    omega
  · omega
  · omega
  · rw [← rot_doc]
    exact i64_or _ _ (Nat.lt_of_le_of_lt (Nat.div_le_self _ _) hx) (Nat.mod_lt _ (by decide))
  · rw [Int.tmod_eq_emod_of_nonneg (by omega)]
    omega
theorem dturn_walk2 (x : Nat) (hx : x < 4294967296) (w : World) : Calls Try.prog 83 #[.int .i64 (x : Int), .int .i64 2] w fun e w' => e = .returned (.int .i64 (rot x 2 : Nat)) ∧ w.drew = w' := by
  obtain ⟨a, b, e1, e2, e3, e4, e5⟩ := dturn_facts2 x hx
  generalize rot x 2 = r at *
  have hmul : (x : Int) * 1073741824 < 9223372036854775808 := by omega
  have hmul0 : 0 ≤ (x : Int) * 1073741824 := by omega
  have q0 : IntKind.i64.wrap 30 = 30 := by decide +kernel
  go_enter Try.func83, Try.ntmps83
  go_wp2_with fail
  refine wp_region_mix (Cls [] _) [] [0, 1, 2, 3, 4, 5, 6, 7, 8, 9] (by kernel_rfl) (by kernel_rfl) (Cls.refl _ _) ?_
  try dsimp only [wpMix, wpSegs, pick, List.getElem?_cons_zero, List.getElem?_cons_succ]
  generalize hz : Act.mk _ _ = z
  repeat (first | (refine wpQuiet_step (fun K hK => ?_); replace hK := Lib.hid hK; subst hz; go_simp; generalize hz : Act.mk _ _ = z; refine hK.out z ?_; clear hK K) | (refine wpQuiet_step (fun K hK => ?_); replace hK := Lib.hid hK; subst hz; refine iteSkip (by kernel_rfl) ?_; go_simp; generalize hz : Act.mk _ _ = z; refine hK.out z ?_; clear hK K))
  try refine wpQuiet_nil ?_
  subst hz
  try dsimp only [NoPan]
  go_wp2_with fail
  go_ret
  exact ⟨rfl, rfl⟩

theorem dturn_facts6 (x : Nat) (hx : x < 4294967296) : ∃ a b : Nat, IntKind.i64.wrap ((x : Int) * 67108864) = (x : Int) * 67108864 ∧ (x : Int) * 67108864 % 4294967296 = (a : Int) ∧ (x : Int) / 64 = (b : Int) ∧ bits .or .i64 (b : Int) (a : Int) = (rot x 6 : Int) ∧ ((x : Int) * 67108864).tmod 4294967296 = (a : Int) := by
  refine ⟨x * 2 ^ 26 % 4294967296, x / 2 ^ 6, ?_, ?_, ?_, ?_, ?_⟩
  · rw [IntKind.wrap_i64]
    omega
  · omega
  · omega
  · rw [← rot_doc]
    exact i64_or _ _ (Nat.lt_of_le_of_lt (Nat.div_le_self _ _) hx) (Nat.mod_lt _ (by decide))
  · rw [Int.tmod_eq_emod_of_nonneg (by omega)]
    omega
theorem dturn_walk6 (x : Nat) (hx : x < 4294967296) (w : World) : Calls Try.prog 83 #[.int .i64 (x : Int), .int .i64 6] w fun e w' => e = .returned (.int .i64 (rot x 6 : Nat)) ∧ w.drew = w' := by
  obtain ⟨a, b, e1, e2, e3, e4, e5⟩ := dturn_facts6 x hx
  generalize rot x 6 = r at *
  have hmul : (x : Int) * 67108864 < 9223372036854775808 := by omega
  have hmul0 : 0 ≤ (x : Int) * 67108864 := by omega
  have q0 : IntKind.i64.wrap 26 = 26 := by decide +kernel
  go_enter Try.func83, Try.ntmps83
  go_wp2_with fail
  refine wp_region_mix (Cls [] _) [] [0, 1, 2, 3, 4, 5, 6, 7, 8, 9] (by kernel_rfl) (by kernel_rfl) (Cls.refl _ _) ?_
  try dsimp only [wpMix, wpSegs, pick, List.getElem?_cons_zero, List.getElem?_cons_succ]
  generalize hz : Act.mk _ _ = z
  repeat (first | (refine wpQuiet_step (fun K hK => ?_); replace hK := Lib.hid hK; subst hz; go_simp; generalize hz : Act.mk _ _ = z; refine hK.out z ?_; clear hK K) | (refine wpQuiet_step (fun K hK => ?_); replace hK := Lib.hid hK; subst hz; refine iteSkip (by kernel_rfl) ?_; go_simp; generalize hz : Act.mk _ _ = z; refine hK.out z ?_; clear hK K))
  try refine wpQuiet_nil ?_
  subst hz
  try dsimp only [NoPan]
  go_wp2_with fail
  go_ret
  exact ⟨rfl, rfl⟩

theorem dturn_facts7 (x : Nat) (hx : x < 4294967296) : ∃ a b : Nat, IntKind.i64.wrap ((x : Int) * 33554432) = (x : Int) * 33554432 ∧ (x : Int) * 33554432 % 4294967296 = (a : Int) ∧ (x : Int) / 128 = (b : Int) ∧ bits .or .i64 (b : Int) (a : Int) = (rot x 7 : Int) ∧ ((x : Int) * 33554432).tmod 4294967296 = (a : Int) := by
  refine ⟨x * 2 ^ 25 % 4294967296, x / 2 ^ 7, ?_, ?_, ?_, ?_, ?_⟩
  · rw [IntKind.wrap_i64]
    omega
  · omega
  · omega
  · rw [← rot_doc]
    exact i64_or _ _ (Nat.lt_of_le_of_lt (Nat.div_le_self _ _) hx) (Nat.mod_lt _ (by decide))
  · rw [Int.tmod_eq_emod_of_nonneg (by omega)]
    omega
theorem dturn_walk7 (x : Nat) (hx : x < 4294967296) (w : World) : Calls Try.prog 83 #[.int .i64 (x : Int), .int .i64 7] w fun e w' => e = .returned (.int .i64 (rot x 7 : Nat)) ∧ w.drew = w' := by
  obtain ⟨a, b, e1, e2, e3, e4, e5⟩ := dturn_facts7 x hx
  generalize rot x 7 = r at *
  have hmul : (x : Int) * 33554432 < 9223372036854775808 := by omega
  have hmul0 : 0 ≤ (x : Int) * 33554432 := by omega
  have q0 : IntKind.i64.wrap 25 = 25 := by decide +kernel
  go_enter Try.func83, Try.ntmps83
  go_wp2_with fail
  refine wp_region_mix (Cls [] _) [] [0, 1, 2, 3, 4, 5, 6, 7, 8, 9] (by kernel_rfl) (by kernel_rfl) (Cls.refl _ _) ?_
  try dsimp only [wpMix, wpSegs, pick, List.getElem?_cons_zero, List.getElem?_cons_succ]
  generalize hz : Act.mk _ _ = z
  repeat (first | (refine wpQuiet_step (fun K hK => ?_); replace hK := Lib.hid hK; subst hz; go_simp; generalize hz : Act.mk _ _ = z; refine hK.out z ?_; clear hK K) | (refine wpQuiet_step (fun K hK => ?_); replace hK := Lib.hid hK; subst hz; refine iteSkip (by kernel_rfl) ?_; go_simp; generalize hz : Act.mk _ _ = z; refine hK.out z ?_; clear hK K))
  try refine wpQuiet_nil ?_
  subst hz
  try dsimp only [NoPan]
  go_wp2_with fail
  go_ret
  exact ⟨rfl, rfl⟩

theorem dturn_facts11 (x : Nat) (hx : x < 4294967296) : ∃ a b : Nat, IntKind.i64.wrap ((x : Int) * 2097152) = (x : Int) * 2097152 ∧ (x : Int) * 2097152 % 4294967296 = (a : Int) ∧ (x : Int) / 2048 = (b : Int) ∧ bits .or .i64 (b : Int) (a : Int) = (rot x 11 : Int) ∧ ((x : Int) * 2097152).tmod 4294967296 = (a : Int) := by
  refine ⟨x * 2 ^ 21 % 4294967296, x / 2 ^ 11, ?_, ?_, ?_, ?_, ?_⟩
  · rw [IntKind.wrap_i64]
    omega
  · omega
  · omega
  · rw [← rot_doc]
    exact i64_or _ _ (Nat.lt_of_le_of_lt (Nat.div_le_self _ _) hx) (Nat.mod_lt _ (by decide))
  · rw [Int.tmod_eq_emod_of_nonneg (by omega)]
    omega
theorem dturn_walk11 (x : Nat) (hx : x < 4294967296) (w : World) : Calls Try.prog 83 #[.int .i64 (x : Int), .int .i64 11] w fun e w' => e = .returned (.int .i64 (rot x 11 : Nat)) ∧ w.drew = w' := by
  obtain ⟨a, b, e1, e2, e3, e4, e5⟩ := dturn_facts11 x hx
  generalize rot x 11 = r at *
  have hmul : (x : Int) * 2097152 < 9223372036854775808 := by omega
  have hmul0 : 0 ≤ (x : Int) * 2097152 := by omega
  have q0 : IntKind.i64.wrap 21 = 21 := by decide +kernel
  go_enter Try.func83, Try.ntmps83
  go_wp2_with fail
  refine wp_region_mix (Cls [] _) [] [0, 1, 2, 3, 4, 5, 6, 7, 8, 9] (by kernel_rfl) (by kernel_rfl) (Cls.refl _ _) ?_
  try dsimp only [wpMix, wpSegs, pick, List.getElem?_cons_zero, List.getElem?_cons_succ]
  generalize hz : Act.mk _ _ = z
  repeat (first | (refine wpQuiet_step (fun K hK => ?_); replace hK := Lib.hid hK; subst hz; go_simp; generalize hz : Act.mk _ _ = z; refine hK.out z ?_; clear hK K) | (refine wpQuiet_step (fun K hK => ?_); replace hK := Lib.hid hK; subst hz; refine iteSkip (by kernel_rfl) ?_; go_simp; generalize hz : Act.mk _ _ = z; refine hK.out z ?_; clear hK K))
  try refine wpQuiet_nil ?_
  subst hz
  try dsimp only [NoPan]
  go_wp2_with fail
  go_ret
  exact ⟨rfl, rfl⟩

theorem dturn_facts13 (x : Nat) (hx : x < 4294967296) : ∃ a b : Nat, IntKind.i64.wrap ((x : Int) * 524288) = (x : Int) * 524288 ∧ (x : Int) * 524288 % 4294967296 = (a : Int) ∧ (x : Int) / 8192 = (b : Int) ∧ bits .or .i64 (b : Int) (a : Int) = (rot x 13 : Int) ∧ ((x : Int) * 524288).tmod 4294967296 = (a : Int) := by
  refine ⟨x * 2 ^ 19 % 4294967296, x / 2 ^ 13, ?_, ?_, ?_, ?_, ?_⟩
  · rw [IntKind.wrap_i64]
    omega
  · omega
  · omega
  · rw [← rot_doc]
    exact i64_or _ _ (Nat.lt_of_le_of_lt (Nat.div_le_self _ _) hx) (Nat.mod_lt _ (by decide))
  · rw [Int.tmod_eq_emod_of_nonneg (by omega)]
    omega
theorem dturn_walk13 (x : Nat) (hx : x < 4294967296) (w : World) : Calls Try.prog 83 #[.int .i64 (x : Int), .int .i64 13] w fun e w' => e = .returned (.int .i64 (rot x 13 : Nat)) ∧ w.drew = w' := by
  obtain ⟨a, b, e1, e2, e3, e4, e5⟩ := dturn_facts13 x hx
  generalize rot x 13 = r at *
  have hmul : (x : Int) * 524288 < 9223372036854775808 := by omega
  have hmul0 : 0 ≤ (x : Int) * 524288 := by omega
  have q0 : IntKind.i64.wrap 19 = 19 := by decide +kernel
  go_enter Try.func83, Try.ntmps83
  go_wp2_with fail
  refine wp_region_mix (Cls [] _) [] [0, 1, 2, 3, 4, 5, 6, 7, 8, 9] (by kernel_rfl) (by kernel_rfl) (Cls.refl _ _) ?_
  try dsimp only [wpMix, wpSegs, pick, List.getElem?_cons_zero, List.getElem?_cons_succ]
  generalize hz : Act.mk _ _ = z
  repeat (first | (refine wpQuiet_step (fun K hK => ?_); replace hK := Lib.hid hK; subst hz; go_simp; generalize hz : Act.mk _ _ = z; refine hK.out z ?_; clear hK K) | (refine wpQuiet_step (fun K hK => ?_); replace hK := Lib.hid hK; subst hz; refine iteSkip (by kernel_rfl) ?_; go_simp; generalize hz : Act.mk _ _ = z; refine hK.out z ?_; clear hK K))
  try refine wpQuiet_nil ?_
  subst hz
  try dsimp only [NoPan]
  go_wp2_with fail
  go_ret
  exact ⟨rfl, rfl⟩

theorem dturn_facts17 (x : Nat) (hx : x < 4294967296) : ∃ a b : Nat, IntKind.i64.wrap ((x : Int) * 32768) = (x : Int) * 32768 ∧ (x : Int) * 32768 % 4294967296 = (a : Int) ∧ (x : Int) / 131072 = (b : Int) ∧ bits .or .i64 (b : Int) (a : Int) = (rot x 17 : Int) ∧ ((x : Int) * 32768).tmod 4294967296 = (a : Int) := by
  refine ⟨x * 2 ^ 15 % 4294967296, x / 2 ^ 17, ?_, ?_, ?_, ?_, ?_⟩
  · rw [IntKind.wrap_i64]
    omega
  · omega
  · omega
  · rw [← rot_doc]
    exact i64_or _ _ (Nat.lt_of_le_of_lt (Nat.div_le_self _ _) hx) (Nat.mod_lt _ (by decide))
  · rw [Int.tmod_eq_emod_of_nonneg (by omega)]
    omega
theorem dturn_walk17 (x : Nat) (hx : x < 4294967296) (w : World) : Calls Try.prog 83 #[.int .i64 (x : Int), .int .i64 17] w fun e w' => e = .returned (.int .i64 (rot x 17 : Nat)) ∧ w.drew = w' := by
  obtain ⟨a, b, e1, e2, e3, e4, e5⟩ := dturn_facts17 x hx
  generalize rot x 17 = r at *
  have hmul : (x : Int) * 32768 < 9223372036854775808 := by omega
  have hmul0 : 0 ≤ (x : Int) * 32768 := by omega
  have q0 : IntKind.i64.wrap 15 = 15 := by decide +kernel
  go_enter Try.func83, Try.ntmps83
  go_wp2_with fail
  refine wp_region_mix (Cls [] _) [] [0, 1, 2, 3, 4, 5, 6, 7, 8, 9] (by kernel_rfl) (by kernel_rfl) (Cls.refl _ _) ?_
  try dsimp only [wpMix, wpSegs, pick, List.getElem?_cons_zero, List.getElem?_cons_succ]
  generalize hz : Act.mk _ _ = z
  repeat (first | (refine wpQuiet_step (fun K hK => ?_); replace hK := Lib.hid hK; subst hz; go_simp; generalize hz : Act.mk _ _ = z; refine hK.out z ?_; clear hK K) | (refine wpQuiet_step (fun K hK => ?_); replace hK := Lib.hid hK; subst hz; refine iteSkip (by kernel_rfl) ?_; go_simp; generalize hz : Act.mk _ _ = z; refine hK.out z ?_; clear hK K))
  try refine wpQuiet_nil ?_
  subst hz
  try dsimp only [NoPan]
  go_wp2_with fail
  go_ret
  exact ⟨rfl, rfl⟩

theorem dturn_facts18 (x : Nat) (hx : x < 4294967296) : ∃ a b : Nat, IntKind.i64.wrap ((x : Int) * 16384) = (x : Int) * 16384 ∧ (x : Int) * 16384 % 4294967296 = (a : Int) ∧ (x : Int) / 262144 = (b : Int) ∧ bits .or .i64 (b : Int) (a : Int) = (rot x 18 : Int) ∧ ((x : Int) * 16384).tmod 4294967296 = (a : Int) := by
  refine ⟨x * 2 ^ 14 % 4294967296, x / 2 ^ 18, ?_, ?_, ?_, ?_, ?_⟩
  · rw [IntKind.wrap_i64]
    omega
  · omega
  · omega
  · rw [← rot_doc]
    exact i64_or _ _ (Nat.lt_of_le_of_lt (Nat.div_le_self _ _) hx) (Nat.mod_lt _ (by decide))
  · rw [Int.tmod_eq_emod_of_nonneg (by omega)]
    omega
theorem dturn_walk18 (x : Nat) (hx : x < 4294967296) (w : World) : Calls Try.prog 83 #[.int .i64 (x : Int), .int .i64 18] w fun e w' => e = .returned (.int .i64 (rot x 18 : Nat)) ∧ w.drew = w' := by
  obtain ⟨a, b, e1, e2, e3, e4, e5⟩ := dturn_facts18 x hx
  generalize rot x 18 = r at *
  have hmul : (x : Int) * 16384 < 9223372036854775808 := by omega
  have hmul0 : 0 ≤ (x : Int) * 16384 := by omega
  have q0 : IntKind.i64.wrap 14 = 14 := by decide +kernel
  go_enter Try.func83, Try.ntmps83
  go_wp2_with fail
  refine wp_region_mix (Cls [] _) [] [0, 1, 2, 3, 4, 5, 6, 7, 8, 9] (by kernel_rfl) (by kernel_rfl) (Cls.refl _ _) ?_
  try dsimp only [wpMix, wpSegs, pick, List.getElem?_cons_zero, List.getElem?_cons_succ]
  generalize hz : Act.mk _ _ = z
  repeat (first | (refine wpQuiet_step (fun K hK => ?_); replace hK := Lib.hid hK; subst hz; go_simp; generalize hz : Act.mk _ _ = z; refine hK.out z ?_; clear hK K) | (refine wpQuiet_step (fun K hK => ?_); replace hK := Lib.hid hK; subst hz; refine iteSkip (by kernel_rfl) ?_; go_simp; generalize hz : Act.mk _ _ = z; refine hK.out z ?_; clear hK K))
  try refine wpQuiet_nil ?_
  subst hz
  try dsimp only [NoPan]
  go_wp2_with fail
  go_ret
  exact ⟨rfl, rfl⟩

theorem dturn_facts19 (x : Nat) (hx : x < 4294967296) : ∃ a b : Nat, IntKind.i64.wrap ((x : Int) * 8192) = (x : Int) * 8192 ∧ (x : Int) * 8192 % 4294967296 = (a : Int) ∧ (x : Int) / 524288 = (b : Int) ∧ bits .or .i64 (b : Int) (a : Int) = (rot x 19 : Int) ∧ ((x : Int) * 8192).tmod 4294967296 = (a : Int) := by
  refine ⟨x * 2 ^ 13 % 4294967296, x / 2 ^ 19, ?_, ?_, ?_, ?_, ?_⟩
  · rw [IntKind.wrap_i64]
    omega
  · omega
  · omega
  · rw [← rot_doc]
    exact i64_or _ _ (Nat.lt_of_le_of_lt (Nat.div_le_self _ _) hx) (Nat.mod_lt _ (by decide))
  · rw [Int.tmod_eq_emod_of_nonneg (by omega)]
    omega
theorem dturn_walk19 (x : Nat) (hx : x < 4294967296) (w : World) : Calls Try.prog 83 #[.int .i64 (x : Int), .int .i64 19] w fun e w' => e = .returned (.int .i64 (rot x 19 : Nat)) ∧ w.drew = w' := by
  obtain ⟨a, b, e1, e2, e3, e4, e5⟩ := dturn_facts19 x hx
  generalize rot x 19 = r at *
  have hmul : (x : Int) * 8192 < 9223372036854775808 := by omega
  have hmul0 : 0 ≤ (x : Int) * 8192 := by omega
  have q0 : IntKind.i64.wrap 13 = 13 := by decide +kernel
  go_enter Try.func83, Try.ntmps83
  go_wp2_with fail
  refine wp_region_mix (Cls [] _) [] [0, 1, 2, 3, 4, 5, 6, 7, 8, 9] (by kernel_rfl) (by kernel_rfl) (Cls.refl _ _) ?_
  try dsimp only [wpMix, wpSegs, pick, List.getElem?_cons_zero, List.getElem?_cons_succ]
  generalize hz : Act.mk _ _ = z
  repeat (first | (refine wpQuiet_step (fun K hK => ?_); replace hK := Lib.hid hK; subst hz; go_simp; generalize hz : Act.mk _ _ = z; refine hK.out z ?_; clear hK K) | (refine wpQuiet_step (fun K hK => ?_); replace hK := Lib.hid hK; subst hz; refine iteSkip (by kernel_rfl) ?_; go_simp; generalize hz : Act.mk _ _ = z; refine hK.out z ?_; clear hK K))
  try refine wpQuiet_nil ?_
  subst hz
  try dsimp only [NoPan]
  go_wp2_with fail
  go_ret
  exact ⟨rfl, rfl⟩

theorem dturn_facts22 (x : Nat) (hx : x < 4294967296) : ∃ a b : Nat, IntKind.i64.wrap ((x : Int) * 1024) = (x : Int) * 1024 ∧ (x : Int) * 1024 % 4294967296 = (a : Int) ∧ (x : Int) / 4194304 = (b : Int) ∧ bits .or .i64 (b : Int) (a : Int) = (rot x 22 : Int) ∧ ((x : Int) * 1024).tmod 4294967296 = (a : Int) := by
  refine ⟨x * 2 ^ 10 % 4294967296, x / 2 ^ 22, ?_, ?_, ?_, ?_, ?_⟩
  · rw [IntKind.wrap_i64]
    omega
  · omega
  · omega
  · rw [← rot_doc]
    exact i64_or _ _ (Nat.lt_of_le_of_lt (Nat.div_le_self _ _) hx) (Nat.mod_lt _ (by decide))
  · rw [Int.tmod_eq_emod_of_nonneg (by omega)]
    omega
theorem dturn_walk22 (x : Nat) (hx : x < 4294967296) (w : World) : Calls Try.prog 83 #[.int .i64 (x : Int), .int .i64 22] w fun e w' => e = .returned (.int .i64 (rot x 22 : Nat)) ∧ w.drew = w' := by
  obtain ⟨a, b, e1, e2, e3, e4, e5⟩ := dturn_facts22 x hx
  generalize rot x 22 = r at *
  have hmul : (x : Int) * 1024 < 9223372036854775808 := by omega
  have hmul0 : 0 ≤ (x : Int) * 1024 := by omega
  have q0 : IntKind.i64.wrap 10 = 10 := by decide +kernel
  go_enter Try.func83, Try.ntmps83
  go_wp2_with fail
  refine wp_region_mix (Cls [] _) [] [0, 1, 2, 3, 4, 5, 6, 7, 8, 9] (by kernel_rfl) (by kernel_rfl) (Cls.refl _ _) ?_
  try dsimp only [wpMix, wpSegs, pick, List.getElem?_cons_zero, List.getElem?_cons_succ]
  generalize hz : Act.mk _ _ = z
  repeat (first | (refine wpQuiet_step (fun K hK => ?_); replace hK := Lib.hid hK; subst hz; go_simp; generalize hz : Act.mk _ _ = z; refine hK.out z ?_; clear hK K) | (refine wpQuiet_step (fun K hK => ?_); replace hK := Lib.hid hK; subst hz; refine iteSkip (by kernel_rfl) ?_; go_simp; generalize hz : Act.mk _ _ = z; refine hK.out z ?_; clear hK K))
  try refine wpQuiet_nil ?_
  subst hz
  try dsimp only [NoPan]
  go_wp2_with fail
  go_ret
  exact ⟨rfl, rfl⟩

theorem dturn_facts25 (x : Nat) (hx : x < 4294967296) : ∃ a b : Nat, IntKind.i64.wrap ((x : Int) * 128) = (x : Int) * 128 ∧ (x : Int) * 128 % 4294967296 = (a : Int) ∧ (x : Int) / 33554432 = (b : Int) ∧ bits .or .i64 (b : Int) (a : Int) = (rot x 25 : Int) ∧ ((x : Int) * 128).tmod 4294967296 = (a : Int) := by
  refine ⟨x * 2 ^ 7 % 4294967296, x / 2 ^ 25, ?_, ?_, ?_, ?_, ?_⟩
  · rw [IntKind.wrap_i64]
    omega
  · omega
  · omega
  · rw [← rot_doc]
    exact i64_or _ _ (Nat.lt_of_le_of_lt (Nat.div_le_self _ _) hx) (Nat.mod_lt _ (by decide))
  · rw [Int.tmod_eq_emod_of_nonneg (by omega)]
    omega
theorem dturn_walk25 (x : Nat) (hx : x < 4294967296) (w : World) : Calls Try.prog 83 #[.int .i64 (x : Int), .int .i64 25] w fun e w' => e = .returned (.int .i64 (rot x 25 : Nat)) ∧ w.drew = w' := by
  obtain ⟨a, b, e1, e2, e3, e4, e5⟩ := dturn_facts25 x hx
  generalize rot x 25 = r at *
  have hmul : (x : Int) * 128 < 9223372036854775808 := by omega
  have hmul0 : 0 ≤ (x : Int) * 128 := by omega
  have q0 : IntKind.i64.wrap 7 = 7 := by decide +kernel
  go_enter Try.func83, Try.ntmps83
  go_wp2_with fail
  refine wp_region_mix (Cls [] _) [] [0, 1, 2, 3, 4, 5, 6, 7, 8, 9] (by kernel_rfl) (by kernel_rfl) (Cls.refl _ _) ?_
  try dsimp only [wpMix, wpSegs, pick, List.getElem?_cons_zero, List.getElem?_cons_succ]
  generalize hz : Act.mk _ _ = z
  repeat (first | (refine wpQuiet_step (fun K hK => ?_); replace hK := Lib.hid hK; subst hz; go_simp; generalize hz : Act.mk _ _ = z; refine hK.out z ?_; clear hK K) | (refine wpQuiet_step (fun K hK => ?_); replace hK := Lib.hid hK; subst hz; refine iteSkip (by kernel_rfl) ?_; go_simp; generalize hz : Act.mk _ _ = z; refine hK.out z ?_; clear hK K))
  try refine wpQuiet_nil ?_
  subst hz
  try dsimp only [NoPan]
  go_wp2_with fail
  go_ret
  exact ⟨rfl, rfl⟩

end Go.Proofs.Ytoflfhjeabpcjaa
