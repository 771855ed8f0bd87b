/- Sets and their members: plain laws; no condition. -/
import Derived.Test.YtcedpdjjjfdbiaaMem
import Derived.Test.YtcedpdjjjfdbiaaQuoSmall
namespace Go.Proofs.Ytcedpdjjjfdbiaa
set_option linter.unusedVariables false
set_option linter.unusedSimpArgs false
open Go.RowKit

def bit (m j : Nat) : Nat := m / 2 ^ j % 2
def cnt (m : Nat) : Nat → Nat
  | 0 => 0
  | k + 1 => cnt m k + bit m k
theorem pc_cnt (m : Nat) : pc m = cnt m 16 := by
  simp only [cnt, bit, pc]
  simp
theorem bit_test (m j : Nat) : bit m j = if m.testBit j then 1 else 0 := by
  rw [Nat.testBit_eq_decide_div_mod_eq, bit]
  by_cases h : m / 2 ^ j % 2 = 1
  · simp [h]
  · simp [h]; omega
theorem cnt_le {a b c d : Nat} (h : ∀ j, bit a j + bit b j ≤ bit c j + bit d j) : ∀ k, cnt a k + cnt b k ≤ cnt c k + cnt d k
  | 0 => by simp [cnt]
  | k + 1 => by
    have := cnt_le h k
    have := h k
    simp only [cnt]
    omega
theorem cnt_zero : ∀ k, cnt 0 k = 0
  | 0 => rfl
  | k + 1 => by simp [cnt, cnt_zero k, bit]

theorem setN_nat {m : Nat} (h : m < 65536) : setN (m : Int) = m := by
  unfold setN
  rw [if_pos (by omega)]
  simp
theorem memB_range (p : Nat → Bool) : ∀ (c i : Nat) (x : Int), x ∈ memB p i c ↔ ∃ j, i ≤ j ∧ j < i + c ∧ p j = true ∧ x = (j : Int) + 1
  | 0, i, x => by simp [memB]; omega
  | c + 1, i, x => by
    have ih := memB_range p c (i + 1) x
    have hsplit : (∃ j, i ≤ j ∧ j < i + (c + 1) ∧ p j = true ∧ x = (j : Int) + 1) ↔ (p i = true ∧ x = (i : Int) + 1) ∨ ∃ j, i + 1 ≤ j ∧ j < i + 1 + c ∧ p j = true ∧ x = (j : Int) + 1 := by
      constructor
      · rintro ⟨j, h1, h2, h3, h4⟩
        by_cases hj : j = i
        · subst hj; exact .inl ⟨h3, h4⟩
        · exact .inr ⟨j, by omega, by omega, h3, h4⟩
      · rintro (⟨h3, h4⟩ | ⟨j, h1, h2, h3, h4⟩)
        · exact ⟨i, by omega, by omega, h3, h4⟩
        · exact ⟨j, by omega, by omega, h3, h4⟩
    rw [hsplit, ← ih]
    simp only [memB]
    by_cases hp : p i = true
    · simp [hp]
    · simp [hp]
theorem mem_ok (m : Nat) : okS (mem m) := by
  intro x hx
  obtain ⟨j, h1, h2, h3, h4⟩ := (memB_range _ _ _ _).1 hx
  omega
theorem mem_iff (m : Nat) (hm : m < 65536) (x : Int) : x ∈ mem m ↔ 1 ≤ x ∧ x ≤ 16 ∧ m.testBit (x - 1).toNat = true := by
  rw [mem, memB_range]
  constructor
  · rintro ⟨j, h1, h2, h3, h4⟩
    refine ⟨by omega, by omega, ?_⟩
    rw [show (x - 1).toNat = j by omega]; exact h3
  · rintro ⟨h1, h2, h3⟩
    exact ⟨(x - 1).toNat, by omega, by omega, h3, by omega⟩
theorem fold_bits (p : Nat → Bool) (j : Nat) : ∀ (c i s : Nat), ((memB p i c).foldl (fun s x => s ||| 2 ^ (x - 1).toNat) s).testBit j = (s.testBit j || (decide (i ≤ j ∧ j < i + c) && p j))
  | 0, i, s => by simp [memB]; omega
  | c + 1, i, s => by
    simp only [memB]
    by_cases hp : p i = true
    · rw [if_pos hp, List.foldl_cons, fold_bits p j c (i + 1), show ((i : Int) + 1 - 1).toNat = i by omega, Nat.testBit_or, Nat.testBit_two_pow]
      by_cases hij : i = j
      · subst hij; simp [hp]
      · have : (decide (i ≤ j ∧ j < i + (c + 1))) = decide (i + 1 ≤ j ∧ j < i + 1 + c) := by
          rw [decide_eq_decide]; omega
        rw [this]
        simp [hij]
    · rw [if_neg hp, fold_bits p j c (i + 1)]
      by_cases hij : i = j
      · subst hij; simp [hp]
      · have : (decide (i ≤ j ∧ j < i + (c + 1))) = decide (i + 1 ≤ j ∧ j < i + 1 + c) := by
          rw [decide_eq_decide]; omega
        rw [this]
theorem orAll_mem {m : Nat} (hm : m < 65536) : orAll (mem m) = m := by
  apply Nat.eq_of_testBit_eq
  intro j
  unfold orAll mem
  rw [fold_bits]
  by_cases hj : j < 16
  · simp [hj]
  · have : m.testBit j = false := Nat.testBit_lt_two_pow (Nat.lt_of_lt_of_le (show m < 2 ^ 16 from hm) (Nat.pow_le_pow_right (by decide) (by omega)))
    simp [hj, this]
theorem memB_len (m : Nat) : ∀ (c i : Nat), (memB m.testBit i c).length + cnt m i = cnt m (i + c)
  | 0, i => by simp [memB]
  | c + 1, i => by
    have ih := memB_len m c (i + 1)
    rw [show i + (c + 1) = i + 1 + c by omega, ← ih]
    simp only [memB, cnt, bit_test]
    by_cases hp : m.testBit i = true
    · simp [hp]; omega
    · simp [hp]
theorem mem_pc (m : Nat) : (mem m).length = pc m := by
  have := memB_len m 16 0
  rw [pc_cnt]
  simpa [cnt, mem] using this
theorem orAll_has : ∀ {l : List Int}, okS l → ∀ x ∈ l, (orAll l).testBit (x - 1).toNat = true := by
  have key : ∀ (l : List Int) (s j : Nat), (s.testBit j = true ∨ ∃ x ∈ l, (x - 1).toNat = j) → (l.foldl (fun s x => s ||| 2 ^ (x - 1).toNat) s).testBit j = true := by
    intro l
    induction l with
    | nil => intro s j h; rcases h with h | ⟨x, hx, _⟩
             · exact h
             · cases hx
    | cons y l ih =>
      intro s j h
      refine ih _ j ?_
      rcases h with h | ⟨x, hx, he⟩
      · left; rw [Nat.testBit_or, h]; rfl
      · rcases List.mem_cons.1 hx with rfl | hx
        · left; rw [Nat.testBit_or, he]; simp [Nat.testBit_two_pow]
        · exact .inr ⟨x, hx, he⟩
  intro l _ x hx
  exact key l 0 _ (.inr ⟨x, hx, rfl⟩)
theorem pc_or (a b : Nat) : pc (a ||| b) ≤ pc a + pc b := by
  have : cnt (a ||| b) 16 + cnt 0 16 ≤ cnt a 16 + cnt b 16 := by
    refine cnt_le (fun j => ?_) 16
    simp only [bit_test, Nat.testBit_or, Nat.zero_testBit]
    cases a.testBit j <;> cases b.testBit j <;> simp
  rw [cnt_zero] at this
  simp only [pc_cnt]
  omega
theorem pc_two : ∀ k : Fin 16, pc (2 ^ k.val) = 1 := by decide +kernel
theorem orAll_pc : ∀ {l : List Int}, okS l → pc (orAll l) ≤ l.length := by
  have key : ∀ (l : List Int) (s : Nat), okS l → pc (l.foldl (fun s x => s ||| 2 ^ (x - 1).toNat) s) ≤ pc s + l.length := by
    intro l
    induction l with
    | nil => intro s _; simp
    | cons y l ih =>
      intro s h
      have hy := h y (by simp)
      have h1 := ih (s ||| 2 ^ (y - 1).toNat) (fun x hx => h x (by simp [hx]))
      have h2 := pc_or s (2 ^ (y - 1).toNat)
      have h3 := pc_two ⟨(y - 1).toNat, by omega⟩
      simp only [List.foldl_cons, List.length_cons]
      simp only at h3
      omega
  intro l h
  have := key l 0 h
  simpa [orAll, show pc 0 = 0 by decide] using this
end Go.Proofs.Ytcedpdjjjfdbiaa
