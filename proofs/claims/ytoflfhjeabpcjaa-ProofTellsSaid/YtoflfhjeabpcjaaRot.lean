/- Words of thirty-two bits turned; no condition. -/
import Derived.Test.YtoflfhjeabpcjaaOps
import Derived.Laws.BitsLemmas
namespace Go.Proofs.Ytoflfhjeabpcjaa
set_option linter.unusedVariables false
set_option linter.unusedSimpArgs false
open Go.RowKit

/-- x turned right by n. -/
def rot (x n : Nat) : Nat := (x * 2 ^ (32 - n) % 4294967296) ||| (x / 2 ^ n)
theorem wrap_u32' (n : Int) (h0 : 0 ≤ n) (h1 : n < 4294967296) : IntKind.u32.wrap n = n := by rw [IntKind.wrap_u32]; omega
theorem u32_or (a b : Nat) (ha : a < 4294967296) (hb : b < 4294967296) : bits .or .u32 (a : Int) (b : Int) = ((a ||| b : Nat) : Int) :=
  (bits_nat .u32 32 (by decide) (fun n h0 h1 => wrap_u32' n h0 (by omega)) a b (by omega) (by omega)).2
theorem u32_and (a b : Nat) (ha : a < 4294967296) (hb : b < 4294967296) : bits .and .u32 (a : Int) (b : Int) = ((a &&& b : Nat) : Int) :=
  (bits_nat .u32 32 (by decide) (fun n h0 h1 => wrap_u32' n h0 (by omega)) a b (by omega) (by omega)).1
theorem u32_xor (a b : Nat) (ha : a < 4294967296) (hb : b < 4294967296) : bits .xor .u32 (a : Int) (b : Int) = ((a ^^^ b : Nat) : Int) := by
  have ha' : a % 2 ^ 32 = a := Nat.mod_eq_of_lt ha
  have hb' : b % 2 ^ 32 = b := Nat.mod_eq_of_lt hb
  have hx : a ^^^ b < 2 ^ 32 := Nat.xor_lt_two_pow ha hb
  show IntKind.u32.wrap ((BitVec.ofInt 32 (a : Int) ^^^ BitVec.ofInt 32 (b : Int)).toNat : Int) = _
  rw [BitVec.toNat_xor, BitVec.ofInt_natCast, BitVec.ofInt_natCast, BitVec.toNat_ofNat, BitVec.toNat_ofNat, ha', hb']
  exact wrap_u32' _ (by omega) (by omega)
theorem rot_lt {x : Nat} (n : Nat) (hx : x < 4294967296) : rot x n < 4294967296 := by
  unfold rot
  refine Nat.or_lt_two_pow (n := 32) (Nat.mod_lt _ (by decide)) (Nat.lt_of_le_of_lt (Nat.div_le_self _ _) hx)
theorem xor_lt {a b : Nat} (ha : a < 4294967296) (hb : b < 4294967296) : a ^^^ b < 4294967296 := Nat.xor_lt_two_pow (n := 32) ha hb

theorem rot_facts2 (x : Nat) (hx : x < 4294967296) : ∃ a b : Nat, IntKind.u32.wrap ((x : Int) * 1073741824) = (a : Int) ∧ (x : Int) / 4 = (b : Int) ∧ bits .or .u32 (a : Int) (b : Int) = (rot x 2 : Int) := by
  refine ⟨x * 2 ^ 30 % 4294967296, x / 2 ^ 2, ?_, ?_, ?_⟩
  · rw [IntKind.wrap_u32]
    omega
  · omega
  · exact u32_or _ _ (Nat.mod_lt _ (by decide)) (Nat.lt_of_le_of_lt (Nat.div_le_self _ _) hx)
theorem turn_walk2 (x : Nat) (hx : x < 4294967296) (w : World) : Calls Try.prog 125 #[.int .u32 (x : Int), .int .i64 2] w fun e w' => e = .returned (.int .u32 (rot x 2 : Nat)) ∧ w = w' := by
  have hr : ∀ w, Calls Try.prog 127 #[.int .u32 (x : Int), .int .i64 (-2)] w fun e w' => e = .returned (.int .u32 (rot x 2 : Nat)) ∧ w = w' := by
    intro w
    obtain ⟨a, b, e1, e2, e3⟩ := rot_facts2 x hx
    have e0 : bits .and .u64 (IntKind.u64.wrap (-2)) 31 = 30 := by decide +kernel
    generalize rot x 2 = r at *
    go_enter Try.func127, Try.ntmps127
    go_wp2_with fail
    go_ret
    exact ⟨rfl, rfl⟩
  have H := Lib.hid hr
  generalize rot x 2 = r at *
  clear hr
  go_enter Try.func125, Try.ntmps125
  go_wp2_with fail
  refine (H.out _).mono ?_
  rintro e _ ⟨rfl, rfl⟩
  go_wp2_with fail
  go_ret
  exact ⟨rfl, rfl⟩

theorem rot_facts6 (x : Nat) (hx : x < 4294967296) : ∃ a b : Nat, IntKind.u32.wrap ((x : Int) * 67108864) = (a : Int) ∧ (x : Int) / 64 = (b : Int) ∧ bits .or .u32 (a : Int) (b : Int) = (rot x 6 : Int) := by
  refine ⟨x * 2 ^ 26 % 4294967296, x / 2 ^ 6, ?_, ?_, ?_⟩
  · rw [IntKind.wrap_u32]
    omega
  · omega
  · exact u32_or _ _ (Nat.mod_lt _ (by decide)) (Nat.lt_of_le_of_lt (Nat.div_le_self _ _) hx)
theorem turn_walk6 (x : Nat) (hx : x < 4294967296) (w : World) : Calls Try.prog 125 #[.int .u32 (x : Int), .int .i64 6] w fun e w' => e = .returned (.int .u32 (rot x 6 : Nat)) ∧ w = w' := by
  have hr : ∀ w, Calls Try.prog 127 #[.int .u32 (x : Int), .int .i64 (-6)] w fun e w' => e = .returned (.int .u32 (rot x 6 : Nat)) ∧ w = w' := by
    intro w
    obtain ⟨a, b, e1, e2, e3⟩ := rot_facts6 x hx
    have e0 : bits .and .u64 (IntKind.u64.wrap (-6)) 31 = 26 := by decide +kernel
    generalize rot x 6 = r at *
    go_enter Try.func127, Try.ntmps127
    go_wp2_with fail
    go_ret
    exact ⟨rfl, rfl⟩
  have H := Lib.hid hr
  generalize rot x 6 = r at *
  clear hr
  go_enter Try.func125, Try.ntmps125
  go_wp2_with fail
  refine (H.out _).mono ?_
  rintro e _ ⟨rfl, rfl⟩
  go_wp2_with fail
  go_ret
  exact ⟨rfl, rfl⟩

theorem rot_facts7 (x : Nat) (hx : x < 4294967296) : ∃ a b : Nat, IntKind.u32.wrap ((x : Int) * 33554432) = (a : Int) ∧ (x : Int) / 128 = (b : Int) ∧ bits .or .u32 (a : Int) (b : Int) = (rot x 7 : Int) := by
  refine ⟨x * 2 ^ 25 % 4294967296, x / 2 ^ 7, ?_, ?_, ?_⟩
  · rw [IntKind.wrap_u32]
    omega
  · omega
  · exact u32_or _ _ (Nat.mod_lt _ (by decide)) (Nat.lt_of_le_of_lt (Nat.div_le_self _ _) hx)
theorem turn_walk7 (x : Nat) (hx : x < 4294967296) (w : World) : Calls Try.prog 125 #[.int .u32 (x : Int), .int .i64 7] w fun e w' => e = .returned (.int .u32 (rot x 7 : Nat)) ∧ w = w' := by
  have hr : ∀ w, Calls Try.prog 127 #[.int .u32 (x : Int), .int .i64 (-7)] w fun e w' => e = .returned (.int .u32 (rot x 7 : Nat)) ∧ w = w' := by
    intro w
    obtain ⟨a, b, e1, e2, e3⟩ := rot_facts7 x hx
    have e0 : bits .and .u64 (IntKind.u64.wrap (-7)) 31 = 25 := by decide +kernel
    generalize rot x 7 = r at *
    go_enter Try.func127, Try.ntmps127
    go_wp2_with fail
    go_ret
    exact ⟨rfl, rfl⟩
  have H := Lib.hid hr
  generalize rot x 7 = r at *
  clear hr
  go_enter Try.func125, Try.ntmps125
  go_wp2_with fail
  refine (H.out _).mono ?_
  rintro e _ ⟨rfl, rfl⟩
  go_wp2_with fail
  go_ret
  exact ⟨rfl, rfl⟩

theorem rot_facts11 (x : Nat) (hx : x < 4294967296) : ∃ a b : Nat, IntKind.u32.wrap ((x : Int) * 2097152) = (a : Int) ∧ (x : Int) / 2048 = (b : Int) ∧ bits .or .u32 (a : Int) (b : Int) = (rot x 11 : Int) := by
  refine ⟨x * 2 ^ 21 % 4294967296, x / 2 ^ 11, ?_, ?_, ?_⟩
  · rw [IntKind.wrap_u32]
    omega
  · omega
  · exact u32_or _ _ (Nat.mod_lt _ (by decide)) (Nat.lt_of_le_of_lt (Nat.div_le_self _ _) hx)
theorem turn_walk11 (x : Nat) (hx : x < 4294967296) (w : World) : Calls Try.prog 125 #[.int .u32 (x : Int), .int .i64 11] w fun e w' => e = .returned (.int .u32 (rot x 11 : Nat)) ∧ w = w' := by
  have hr : ∀ w, Calls Try.prog 127 #[.int .u32 (x : Int), .int .i64 (-11)] w fun e w' => e = .returned (.int .u32 (rot x 11 : Nat)) ∧ w = w' := by
    intro w
    obtain ⟨a, b, e1, e2, e3⟩ := rot_facts11 x hx
    have e0 : bits .and .u64 (IntKind.u64.wrap (-11)) 31 = 21 := by decide +kernel
    generalize rot x 11 = r at *
    go_enter Try.func127, Try.ntmps127
    go_wp2_with fail
    go_ret
    exact ⟨rfl, rfl⟩
  have H := Lib.hid hr
  generalize rot x 11 = r at *
  clear hr
  go_enter Try.func125, Try.ntmps125
  go_wp2_with fail
  refine (H.out _).mono ?_
  rintro e _ ⟨rfl, rfl⟩
  go_wp2_with fail
  go_ret
  exact ⟨rfl, rfl⟩

theorem rot_facts13 (x : Nat) (hx : x < 4294967296) : ∃ a b : Nat, IntKind.u32.wrap ((x : Int) * 524288) = (a : Int) ∧ (x : Int) / 8192 = (b : Int) ∧ bits .or .u32 (a : Int) (b : Int) = (rot x 13 : Int) := by
  refine ⟨x * 2 ^ 19 % 4294967296, x / 2 ^ 13, ?_, ?_, ?_⟩
  · rw [IntKind.wrap_u32]
    omega
  · omega
  · exact u32_or _ _ (Nat.mod_lt _ (by decide)) (Nat.lt_of_le_of_lt (Nat.div_le_self _ _) hx)
theorem turn_walk13 (x : Nat) (hx : x < 4294967296) (w : World) : Calls Try.prog 125 #[.int .u32 (x : Int), .int .i64 13] w fun e w' => e = .returned (.int .u32 (rot x 13 : Nat)) ∧ w = w' := by
  have hr : ∀ w, Calls Try.prog 127 #[.int .u32 (x : Int), .int .i64 (-13)] w fun e w' => e = .returned (.int .u32 (rot x 13 : Nat)) ∧ w = w' := by
    intro w
    obtain ⟨a, b, e1, e2, e3⟩ := rot_facts13 x hx
    have e0 : bits .and .u64 (IntKind.u64.wrap (-13)) 31 = 19 := by decide +kernel
    generalize rot x 13 = r at *
    go_enter Try.func127, Try.ntmps127
    go_wp2_with fail
    go_ret
    exact ⟨rfl, rfl⟩
  have H := Lib.hid hr
  generalize rot x 13 = r at *
  clear hr
  go_enter Try.func125, Try.ntmps125
  go_wp2_with fail
  refine (H.out _).mono ?_
  rintro e _ ⟨rfl, rfl⟩
  go_wp2_with fail
  go_ret
  exact ⟨rfl, rfl⟩

theorem rot_facts17 (x : Nat) (hx : x < 4294967296) : ∃ a b : Nat, IntKind.u32.wrap ((x : Int) * 32768) = (a : Int) ∧ (x : Int) / 131072 = (b : Int) ∧ bits .or .u32 (a : Int) (b : Int) = (rot x 17 : Int) := by
  refine ⟨x * 2 ^ 15 % 4294967296, x / 2 ^ 17, ?_, ?_, ?_⟩
  · rw [IntKind.wrap_u32]
    omega
  · omega
  · exact u32_or _ _ (Nat.mod_lt _ (by decide)) (Nat.lt_of_le_of_lt (Nat.div_le_self _ _) hx)
theorem turn_walk17 (x : Nat) (hx : x < 4294967296) (w : World) : Calls Try.prog 125 #[.int .u32 (x : Int), .int .i64 17] w fun e w' => e = .returned (.int .u32 (rot x 17 : Nat)) ∧ w = w' := by
  have hr : ∀ w, Calls Try.prog 127 #[.int .u32 (x : Int), .int .i64 (-17)] w fun e w' => e = .returned (.int .u32 (rot x 17 : Nat)) ∧ w = w' := by
    intro w
    obtain ⟨a, b, e1, e2, e3⟩ := rot_facts17 x hx
    have e0 : bits .and .u64 (IntKind.u64.wrap (-17)) 31 = 15 := by decide +kernel
    generalize rot x 17 = r at *
    go_enter Try.func127, Try.ntmps127
    go_wp2_with fail
    go_ret
    exact ⟨rfl, rfl⟩
  have H := Lib.hid hr
  generalize rot x 17 = r at *
  clear hr
  go_enter Try.func125, Try.ntmps125
  go_wp2_with fail
  refine (H.out _).mono ?_
  rintro e _ ⟨rfl, rfl⟩
  go_wp2_with fail
  go_ret
  exact ⟨rfl, rfl⟩

theorem rot_facts18 (x : Nat) (hx : x < 4294967296) : ∃ a b : Nat, IntKind.u32.wrap ((x : Int) * 16384) = (a : Int) ∧ (x : Int) / 262144 = (b : Int) ∧ bits .or .u32 (a : Int) (b : Int) = (rot x 18 : Int) := by
  refine ⟨x * 2 ^ 14 % 4294967296, x / 2 ^ 18, ?_, ?_, ?_⟩
  · rw [IntKind.wrap_u32]
    omega
  · omega
  · exact u32_or _ _ (Nat.mod_lt _ (by decide)) (Nat.lt_of_le_of_lt (Nat.div_le_self _ _) hx)
theorem turn_walk18 (x : Nat) (hx : x < 4294967296) (w : World) : Calls Try.prog 125 #[.int .u32 (x : Int), .int .i64 18] w fun e w' => e = .returned (.int .u32 (rot x 18 : Nat)) ∧ w = w' := by
  have hr : ∀ w, Calls Try.prog 127 #[.int .u32 (x : Int), .int .i64 (-18)] w fun e w' => e = .returned (.int .u32 (rot x 18 : Nat)) ∧ w = w' := by
    intro w
    obtain ⟨a, b, e1, e2, e3⟩ := rot_facts18 x hx
    have e0 : bits .and .u64 (IntKind.u64.wrap (-18)) 31 = 14 := by decide +kernel
    generalize rot x 18 = r at *
    go_enter Try.func127, Try.ntmps127
    go_wp2_with fail
    go_ret
    exact ⟨rfl, rfl⟩
  have H := Lib.hid hr
  generalize rot x 18 = r at *
  clear hr
  go_enter Try.func125, Try.ntmps125
  go_wp2_with fail
  refine (H.out _).mono ?_
  rintro e _ ⟨rfl, rfl⟩
  go_wp2_with fail
  go_ret
  exact ⟨rfl, rfl⟩

theorem rot_facts19 (x : Nat) (hx : x < 4294967296) : ∃ a b : Nat, IntKind.u32.wrap ((x : Int) * 8192) = (a : Int) ∧ (x : Int) / 524288 = (b : Int) ∧ bits .or .u32 (a : Int) (b : Int) = (rot x 19 : Int) := by
  refine ⟨x * 2 ^ 13 % 4294967296, x / 2 ^ 19, ?_, ?_, ?_⟩
  · rw [IntKind.wrap_u32]
    omega
  · omega
  · exact u32_or _ _ (Nat.mod_lt _ (by decide)) (Nat.lt_of_le_of_lt (Nat.div_le_self _ _) hx)
theorem turn_walk19 (x : Nat) (hx : x < 4294967296) (w : World) : Calls Try.prog 125 #[.int .u32 (x : Int), .int .i64 19] w fun e w' => e = .returned (.int .u32 (rot x 19 : Nat)) ∧ w = w' := by
  have hr : ∀ w, Calls Try.prog 127 #[.int .u32 (x : Int), .int .i64 (-19)] w fun e w' => e = .returned (.int .u32 (rot x 19 : Nat)) ∧ w = w' := by
    intro w
    obtain ⟨a, b, e1, e2, e3⟩ := rot_facts19 x hx
    have e0 : bits .and .u64 (IntKind.u64.wrap (-19)) 31 = 13 := by decide +kernel
    generalize rot x 19 = r at *
    go_enter Try.func127, Try.ntmps127
    go_wp2_with fail
    go_ret
    exact ⟨rfl, rfl⟩
  have H := Lib.hid hr
  generalize rot x 19 = r at *
  clear hr
  go_enter Try.func125, Try.ntmps125
  go_wp2_with fail
  refine (H.out _).mono ?_
  rintro e _ ⟨rfl, rfl⟩
  go_wp2_with fail
  go_ret
  exact ⟨rfl, rfl⟩

theorem rot_facts22 (x : Nat) (hx : x < 4294967296) : ∃ a b : Nat, IntKind.u32.wrap ((x : Int) * 1024) = (a : Int) ∧ (x : Int) / 4194304 = (b : Int) ∧ bits .or .u32 (a : Int) (b : Int) = (rot x 22 : Int) := by
  refine ⟨x * 2 ^ 10 % 4294967296, x / 2 ^ 22, ?_, ?_, ?_⟩
  · rw [IntKind.wrap_u32]
    omega
  · omega
  · exact u32_or _ _ (Nat.mod_lt _ (by decide)) (Nat.lt_of_le_of_lt (Nat.div_le_self _ _) hx)
theorem turn_walk22 (x : Nat) (hx : x < 4294967296) (w : World) : Calls Try.prog 125 #[.int .u32 (x : Int), .int .i64 22] w fun e w' => e = .returned (.int .u32 (rot x 22 : Nat)) ∧ w = w' := by
  have hr : ∀ w, Calls Try.prog 127 #[.int .u32 (x : Int), .int .i64 (-22)] w fun e w' => e = .returned (.int .u32 (rot x 22 : Nat)) ∧ w = w' := by
    intro w
    obtain ⟨a, b, e1, e2, e3⟩ := rot_facts22 x hx
    have e0 : bits .and .u64 (IntKind.u64.wrap (-22)) 31 = 10 := by decide +kernel
    generalize rot x 22 = r at *
    go_enter Try.func127, Try.ntmps127
    go_wp2_with fail
    go_ret
    exact ⟨rfl, rfl⟩
  have H := Lib.hid hr
  generalize rot x 22 = r at *
  clear hr
  go_enter Try.func125, Try.ntmps125
  go_wp2_with fail
  refine (H.out _).mono ?_
  rintro e _ ⟨rfl, rfl⟩
  go_wp2_with fail
  go_ret
  exact ⟨rfl, rfl⟩

theorem rot_facts25 (x : Nat) (hx : x < 4294967296) : ∃ a b : Nat, IntKind.u32.wrap ((x : Int) * 128) = (a : Int) ∧ (x : Int) / 33554432 = (b : Int) ∧ bits .or .u32 (a : Int) (b : Int) = (rot x 25 : Int) := by
  refine ⟨x * 2 ^ 7 % 4294967296, x / 2 ^ 25, ?_, ?_, ?_⟩
  · rw [IntKind.wrap_u32]
    omega
  · omega
  · exact u32_or _ _ (Nat.mod_lt _ (by decide)) (Nat.lt_of_le_of_lt (Nat.div_le_self _ _) hx)
theorem turn_walk25 (x : Nat) (hx : x < 4294967296) (w : World) : Calls Try.prog 125 #[.int .u32 (x : Int), .int .i64 25] w fun e w' => e = .returned (.int .u32 (rot x 25 : Nat)) ∧ w = w' := by
  have hr : ∀ w, Calls Try.prog 127 #[.int .u32 (x : Int), .int .i64 (-25)] w fun e w' => e = .returned (.int .u32 (rot x 25 : Nat)) ∧ w = w' := by
    intro w
    obtain ⟨a, b, e1, e2, e3⟩ := rot_facts25 x hx
    have e0 : bits .and .u64 (IntKind.u64.wrap (-25)) 31 = 7 := by decide +kernel
    generalize rot x 25 = r at *
    go_enter Try.func127, Try.ntmps127
    go_wp2_with fail
    go_ret
    exact ⟨rfl, rfl⟩
  have H := Lib.hid hr
  generalize rot x 25 = r at *
  clear hr
  go_enter Try.func125, Try.ntmps125
  go_wp2_with fail
  refine (H.out _).mono ?_
  rintro e _ ⟨rfl, rfl⟩
  go_wp2_with fail
  go_ret
  exact ⟨rfl, rfl⟩

end Go.Proofs.Ytoflfhjeabpcjaa
