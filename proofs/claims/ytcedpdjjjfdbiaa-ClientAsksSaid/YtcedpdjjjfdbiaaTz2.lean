/- TrailingZeros; members of a set; no condition. -/
import Derived.Test.YtcedpdjjjfdbiaaTz
namespace Go.Proofs.Ytcedpdjjjfdbiaa
set_option linter.unusedVariables false
set_option linter.unusedSimpArgs false
open Go.RowKit

theorem low_spec {m : Nat} (h0 : m ≠ 0) (hm : m < 65536) : low m < 16 ∧ lowIdx m < 64 ∧ m % 2 ^ low m = 0 ∧ m / 2 ^ low m % 2 = 1 ∧ (m &&& (m - 1)) = m - 2 ^ low m := by
  have h := lowOk_bytes ⟨m / 256, by omega⟩ ⟨m % 256, by omega⟩
  simp only [show m / 256 * 256 + m % 256 = m by omega] at h
  simp only [lowOk, Bool.or_eq_true, Bool.and_eq_true, beq_iff_eq, decide_eq_true_eq] at h
  rcases h with h | ⟨⟨⟨⟨h1, h2⟩, h3⟩, h4⟩, h5⟩
  · exact absurd h h0
  · exact ⟨h1, h2, h3, h4, h5⟩
theorem tab_at {i : Nat} (h : i < 64) : tab64[i]? = some (tab64.getD i 0) := by
  have hl : i < tab64.length := h
  rw [List.getD_eq_getElem?_getD, List.getElem?_eq_getElem hl, Option.getD_some]
theorem low_tab {m : Nat} (h0 : m ≠ 0) (hm : m < 65536) : tab64[lowIdx m]? = some (low m) := by
  have h := (low_spec h0 hm).2.1
  unfold low
  generalize lowIdx m = i at *
  exact tab_at h

theorem neg_wrap (x : Int) (h0 : 0 < x) (h1 : x < 65536) : IntKind.u64.wrap (-x) = 18446744073709551616 - x := by
  simp only [IntKind.wrap, IntKind.bits, IntKind.signed]
  simp
  omega
theorem sub_cast (N m : Nat) (h : m ≤ N) : ((N - m : Nat) : Int) = (N : Int) - (m : Int) := by omega
theorem neg_u64 (N m : Nat) (hN : (N : Int) = 18446744073709551616) (h0 : m ≠ 0) (hm : m < 65536) : IntKind.u64.wrap (-(m : Int)) = ((N - m : Nat) : Int) := by
  rw [neg_wrap (m : Int) (by omega) (by omega), sub_cast _ _ (by omega), hN]
theorem lowBit_eq (N m : Nat) (hN : N = 18446744073709551616) : lowBit m = m &&& (N - m) := by rw [hN, lowBit]
theorem big_cast : ((18446744073709551616 : Nat) : Int) = 18446744073709551616 := by decide
theorem idx_u64 (b : Nat) : IntKind.u64.wrap ((b : Int) * 285870213051353865) / 288230376151711744 = ((b * 285870213051353865 % 18446744073709551616 / 288230376151711744 : Nat) : Int) := by
  simp [IntKind.wrap, IntKind.bits, IntKind.signed]

theorem tz64_facts (m : Nat) (h0 : m ≠ 0) (hm : m < 65536) : ∃ nm : Nat, IntKind.u64.wrap (-(m : Int)) = (nm : Int) ∧ bits .and .u64 (m : Int) (nm : Int) = (lowBit m : Int) := by
  obtain ⟨N, hN⟩ : ∃ N : Nat, N = 18446744073709551616 := ⟨_, rfl⟩
  have hNi : (N : Int) = 18446744073709551616 := by rw [hN]; exact big_cast
  refine ⟨N - m, neg_u64 N m hNi h0 hm, ?_⟩
  have hnb : N - m < 18446744073709551616 := by omega
  rw [lowBit_eq N m hN]
  exact u64_and m (N - m) (by omega) hnb
end Go.Proofs.Ytcedpdjjjfdbiaa
