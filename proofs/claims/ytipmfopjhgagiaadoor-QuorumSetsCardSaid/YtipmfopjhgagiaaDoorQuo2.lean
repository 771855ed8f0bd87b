/- Sets as numbers: how many members; no condition. -/
import Derived.Test.YtipmfopjhgagiaaDoorQuo
import Derived.Test.YtipmfopjhgagiaaDoorPop
import Derived.Laws.BitsLemmas
namespace Go.Proofs.YtipmfopjhgagiaaDoor
set_option linter.unusedVariables false
set_option linter.unusedSimpArgs false
open Go.RowKit

theorem u64_and (x k : Nat) (hx : x < 18446744073709551616) (hk : k < 18446744073709551616) : bits .and .u64 (x : Int) (k : Int) = ((x &&& k : Nat) : Int) :=
  (bits_nat .u64 64 (by decide) (fun n h0 h1 => by simp [IntKind.wrap, IntKind.bits, IntKind.signed]; omega) x k (by omega) (by omega)).1
theorem i64_and (x k : Nat) (hx : x < 9223372036854775808) (hk : k < 9223372036854775808) : bits .and .i64 (x : Int) (k : Int) = ((x &&& k : Nat) : Int) :=
  (bits_nat .i64 63 (by decide) (fun n h0 h1 => by rw [IntKind.wrap_i64]; omega) x k (by omega) (by omega)).1

theorem ones64_walk (m : Nat) (hm : m < 65536) (w : World) : Calls Tryd.prog 29 #[.int .u64 (m : Int)] w fun e w' => e = .returned (.int .i64 (pc m)) ∧ w = w' := by
  have hp := popF_eq m hm
  have Hp := Lib.hid hp
  clear hp
  have e1 : bits .and .u64 ((m : Int) / 2) 6148914691236517205 = ((m / 2 &&& 6148914691236517205 : Nat) : Int) := by
    have := u64_and (m / 2) 6148914691236517205 (by omega) (by decide)
    simpa using this
  have e2 : bits .and .u64 (m : Int) 6148914691236517205 = ((m &&& 6148914691236517205 : Nat) : Int) := u64_and m _ (by omega) (by decide)
  have b1 : (m / 2 &&& 6148914691236517205) ≤ m / 2 := Nat.and_le_left
  have b2 : (m &&& 6148914691236517205) ≤ m := Nat.and_le_left
  have hd : popF m = (fun x => pop4 ((x / 16 + x) &&& 1085102592571150095)) (pop3 ((m / 2 &&& 6148914691236517205) + (m &&& 6148914691236517205))) := rfl
  have Hd := Lib.hid hd
  clear hd
  generalize (m / 2 &&& 6148914691236517205) = a1 at *
  generalize (m &&& 6148914691236517205) = a2 at *
  have e3 : bits .and .u64 (((a1 : Int) + (a2 : Int)) / 4) 3689348814741910323 = (((a1 + a2) / 4 &&& 3689348814741910323 : Nat) : Int) := by
    have := u64_and ((a1 + a2) / 4) 3689348814741910323 (by omega) (by decide)
    simpa using this
  have e4 : bits .and .u64 ((a1 : Int) + (a2 : Int)) 3689348814741910323 = ((a1 + a2 &&& 3689348814741910323 : Nat) : Int) := by
    have := u64_and (a1 + a2) 3689348814741910323 (by omega) (by decide)
    simpa using this
  have b3 : ((a1 + a2) / 4 &&& 3689348814741910323) ≤ (a1 + a2) / 4 := Nat.and_le_left
  have b4 : (a1 + a2 &&& 3689348814741910323) ≤ a1 + a2 := Nat.and_le_left
  have hd : pop3 (a1 + a2) = ((a1 + a2) / 4 &&& 3689348814741910323) + (a1 + a2 &&& 3689348814741910323) := rfl
  have Hd2 := Lib.hid hd
  clear hd
  generalize ((a1 + a2) / 4 &&& 3689348814741910323) = a3 at *
  generalize (a1 + a2 &&& 3689348814741910323) = a4 at *
  have e5 : bits .and .u64 (((a3 : Int) + (a4 : Int)) / 16 + ((a3 : Int) + (a4 : Int))) 1085102592571150095 = (((a3 + a4) / 16 + (a3 + a4) &&& 1085102592571150095 : Nat) : Int) := by
    have := u64_and ((a3 + a4) / 16 + (a3 + a4)) 1085102592571150095 (by omega) (by decide)
    simpa using this
  have b5 : ((a3 + a4) / 16 + (a3 + a4) &&& 1085102592571150095) ≤ (a3 + a4) / 16 + (a3 + a4) := Nat.and_le_left
  have hd : ∀ x, x = a3 + a4 → ((x / 16 + x) &&& 1085102592571150095) = ((a3 + a4) / 16 + (a3 + a4) &&& 1085102592571150095) := fun x h => by rw [h]
  have Hd3 := Lib.hid hd
  clear hd
  generalize ((a3 + a4) / 16 + (a3 + a4) &&& 1085102592571150095) = a5 at *
  have b6 : a5 / 256 / 65536 = 0 := by omega
  have hfin : popF m = (((a5 + a5 / 256) + (a5 + a5 / 256) / 65536) + ((a5 + a5 / 256) + (a5 + a5 / 256) / 65536) / 4294967296) &&& 127 := by
    rw [Hd.out, Hd2.out]
    show pop4 _ = _
    rw [Hd3.out _ rfl]
    rfl
  have e6 : bits .and .i64 (((a5 : Int) + (a5 : Int) / 256 + ((a5 : Int) + (a5 : Int) / 256) / 65536) + ((a5 : Int) + (a5 : Int) / 256 + ((a5 : Int) + (a5 : Int) / 256) / 65536) / 4294967296) 127 = ((pc m : Nat) : Int) := by
    have := i64_and (((a5 + a5 / 256) + (a5 + a5 / 256) / 65536) + ((a5 + a5 / 256) + (a5 + a5 / 256) / 65536) / 4294967296) 127 (by omega) (by decide)
    rw [← hfin, Hp.out] at this
    simpa using this
  clear hfin
  go_enter Tryd.func29, Tryd.ntmps29
  go_wp2_with fail
  go_ret
  exact ⟨rfl, rfl⟩
end Go.Proofs.YtipmfopjhgagiaaDoor
