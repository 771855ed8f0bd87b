/- Sets as numbers: Count, Has, Is, Set; no condition. -/
import Derived.Test.YtcedpdjjjfdbiaaQuo2
namespace Go.Proofs.Ytcedpdjjjfdbiaa
set_option linter.unusedVariables false
set_option linter.unusedSimpArgs false
open Go.RowKit

def setN (n : Int) : Nat := if 0 ≤ n ∧ n ≤ 65535 then n.toNat else 0
theorem setN_lt (n : Int) : setN n < 65536 := by
  unfold setN
  split <;> omega
theorem has_bit (m k : Nat) (hm : m < 65536) : (bits .and .u64 ((m : Int) / 2 ^ k) 1 == 1) = m.testBit k := by
  have hle : m / 2 ^ k ≤ m := Nat.div_le_self _ _
  have h := u64_and (m / 2 ^ k) 1 (by omega) (by decide)
  rw [Nat.and_one_is_mod] at h
  have e : ((m / 2 ^ k : Nat) : Int) = (m : Int) / 2 ^ k := by simp
  rw [e] at h
  rw [show ((1 : Nat) : Int) = 1 from rfl] at h
  rw [h, Nat.testBit_eq_decide_div_mod_eq]
  by_cases hb : m / 2 ^ k % 2 = 1
  · rw [hb]; simp
  · have : m / 2 ^ k % 2 = 0 := by omega
    rw [this]; simp
theorem and_mask (m j : Nat) (hm : m < 65536) (hj : j ≤ 16) : bits .and .u64 (m : Int) (((2 ^ j - 1 : Nat)) : Int) = ((m &&& (2 ^ j - 1) : Nat) : Int) := by
  have : 2 ^ j ≤ 2 ^ 16 := Nat.pow_le_pow_right (by decide) hj
  exact u64_and m _ (by omega) (by omega)
def isQ (n s : Int) : Prop := okN n ∧ mostQ n ≤ (pc (setN s &&& (2 ^ n.toNat - 1)) : Int)
instance (n s : Int) : Decidable (isQ n s) := by unfold isQ; exact inferInstance
theorem okN_cases {n : Int} (h : okN n) : n = 4 ∨ n = 7 ∨ n = 10 ∨ n = 13 ∨ n = 16 := by
  obtain ⟨h1, h2, h3⟩ := h
  omega
end Go.Proofs.Ytcedpdjjjfdbiaa
