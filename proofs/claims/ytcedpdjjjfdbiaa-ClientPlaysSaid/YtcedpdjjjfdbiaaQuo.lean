/- Sizes and quorums: the program's and the document's; no condition. -/
import Derived.Test.YtcedpdjjjfdbiaaOpens
import Derived.Test.YtcedpdjjjfdbiaaOps
namespace Go.Proofs.Ytcedpdjjjfdbiaa
set_option linter.unusedVariables false
set_option linter.unusedSimpArgs false
open Go.RowKit

def okN (n : Int) : Prop := 4 ≤ n ∧ n ≤ 16 ∧ n % 3 = 1
instance (n : Int) : Decidable (okN n) := by unfold okN; exact inferInstance
def faultsQ (n : Int) : Int × Int := if okN n then (n / 3, 0) else (0, 1)
def sizeQ (f : Int) : Int × Int := if 1 ≤ f ∧ f ≤ 5 then (3 * f + 1, 0) else (0, 1)
def mostQ (n : Int) : Int := if okN n then 2 * (n / 3) + 1 else 0
def fewQ (n : Int) : Int := if okN n then n / 3 + 1 else 0

theorem ref_size (f : Int) (w : World) : Calls Try.prog 8 #[.int .i64 f] w fun e w' => e = .returned (.tuple #[.int .i64 (sizeQ f).1, .int .i64 (sizeQ f).2]) ∧ w = w' := by
  by_cases h1 : f < 1
  · have h1' : decide (f < 1) = true := by simpa using h1
    rw [sizeQ, if_neg (by omega)]
    go_enter Try.func8, Try.ntmps8
    go_wp2_with fail
    go_ret2
    exact ⟨rfl, rfl⟩
  have h1' : decide (f < 1) = false := by simpa using h1
  by_cases h2 : 5 < f
  · have h2' : decide (5 < f) = true := by simpa using h2
    rw [sizeQ, if_neg (by omega)]
    go_enter Try.func8, Try.ntmps8
    go_wp2_with fail
    go_ret2
    exact ⟨rfl, rfl⟩
  have h2' : decide (5 < f) = false := by simpa using h2
  rw [sizeQ, if_pos (by omega)]
  go_enter Try.func8, Try.ntmps8
  go_wp2_with fail
  go_ret2
  exact ⟨rfl, rfl⟩

theorem quo_faults (n : Int) (w : World) : Calls Try.prog 45 #[.int .i64 n] w fun e w' => e = .returned (.tuple #[.int .i64 (faultsQ n).1, .int .i64 (faultsQ n).2]) ∧ w = w' := by
  by_cases h1 : n < 4
  · have h1' : decide (n < 4) = true := by simpa using h1
    rw [faultsQ, if_neg (by unfold okN; omega)]
    go_enter Try.func45, Try.ntmps45
    go_wp2_with fail
    go_ret2
    exact ⟨rfl, rfl⟩
  have h1' : decide (n < 4) = false := by simpa using h1
  by_cases h2 : 16 < n
  · have h2' : decide (16 < n) = true := by simpa using h2
    rw [faultsQ, if_neg (by unfold okN; omega)]
    go_enter Try.func45, Try.ntmps45
    go_wp2_with fail
    go_ret2
    exact ⟨rfl, rfl⟩
  have h2' : decide (16 < n) = false := by simpa using h2
  have ht : n.tmod 3 = n % 3 := Int.tmod_eq_emod_of_nonneg (by omega)
  have hd : n.tdiv 3 = n / 3 := Int.tdiv_eq_ediv_of_nonneg (by omega)
  by_cases h3 : n % 3 = 1
  · have h3' : (n % 3 != 1) = false := by rw [h3]; rfl
    have h3'' : (n % 3 == 1) = true := by rw [h3]; rfl
    rw [← ht] at h3' h3''
    rw [faultsQ, if_pos (by unfold okN; omega), ← hd]
    go_enter Try.func45, Try.ntmps45
    go_wp2_with fail
    go_ret2
    exact ⟨rfl, rfl⟩
  · have h3' : (n % 3 != 1) = true := by simpa using h3
    have h3'' : (n % 3 == 1) = false := by simpa using h3
    rw [← ht] at h3' h3''
    rw [faultsQ, if_neg (by unfold okN; omega)]
    go_enter Try.func45, Try.ntmps45
    go_wp2_with fail
    go_ret2
    exact ⟨rfl, rfl⟩
theorem ref_faults (n : Int) (w : World) : Calls Try.prog 52 #[.int .i64 n] w fun e w' => e = .returned (.tuple #[.int .i64 (faultsQ n).1, .int .i64 (faultsQ n).2]) ∧ w = w' := by
  go_enter Try.func52, Try.ntmps52
  go_wp2_with fail
  go_loopw [4] (fun i W => ∃ k : Nat, 1 ≤ k ∧ k ≤ 6 ∧ i = .int .i64 k ∧ w = W ∧ ∀ j : Nat, 1 ≤ j → j < k → 3 * (j : Int) + 1 ≠ n) (fun i _ => 6 - (intOf i).toNat)
  case atStart => exact ⟨1, by omega, by omega, rfl, rfl, fun j h1 h2 => by omega⟩
  case round =>
    obtain ⟨k, hk1, hk, rfl, rfl, hn⟩ := hrel
    by_cases hlt : k ≤ 5
    · have hlt' : decide ((k : Int) ≤ 5) = true := by simp; omega
      by_cases he : 3 * (k : Int) + 1 = n
      · have he' : (3 * (k : Int) + 1 == n) = true := by simpa using he
        have hr : faultsQ n = ((k : Int), 0) := by rw [faultsQ, if_pos (by unfold okN; omega)]; congr 1; omega
        have Hr := Lib.hid hr
        clear hr he
        go_wp2_with fail
        go_ret2
        exact ⟨by rw [Hr.out]; rfl, rfl⟩
      · have he' : (3 * (k : Int) + 1 == n) = false := by simpa using he
        have He := Lib.hid he
        clear he
        go_wp2_with fail
        refine ⟨⟨k + 1, by omega, by omega, by go_num, by first | rfl | trivial, fun j h1 h2 => ?_⟩, by simp [intOf]; omega⟩
        by_cases hj : j = k
        · subst hj; exact He.out
        · exact hn j h1 (by omega)
    · have hlt' : decide ((k : Int) ≤ 5) = false := by simp; omega
      have hr : faultsQ n = (0, 1) := by
        rw [faultsQ, if_neg]
        intro ⟨h1, h2, h3⟩
        have := hn (n / 3).toNat (by omega) (by omega)
        omega
      have Hr := Lib.hid hr
      clear hr
      go_wp2_with fail
      go_ret2
      exact ⟨by rw [Hr.out]; rfl, rfl⟩
theorem faults_range (n : Int) : (okN n ∧ faultsQ n = (n / 3, 0) ∧ 4 ≤ n ∧ n ≤ 16) ∨ (¬ okN n ∧ faultsQ n = (0, 1)) := by
  by_cases h : okN n
  · exact .inl ⟨h, by rw [faultsQ, if_pos h], h.1, h.2.1⟩
  · exact .inr ⟨h, by rw [faultsQ, if_neg h]⟩
theorem quo_most (n : Int) (w : World) : Calls Try.prog 28 #[.int .i64 n] w fun e w' => e = .returned (.int .i64 (mostQ n)) ∧ w = w' := by
  have hf := quo_faults n w
  rcases faults_range n with ⟨h, hr, h4, h16⟩ | ⟨h, hr⟩
  · rw [hr] at hf
    rw [mostQ, if_pos h]
    have Hf := Lib.hid hf
    have h3 : 1 ≤ n / 3 ∧ n / 3 ≤ 5 := by omega
    generalize n / 3 = f at *
    clear hf h hr
    go_enter Try.func28, Try.ntmps28
    go_wp2_with fail
    refine Hf.out.mono ?_
    rintro e _ ⟨rfl, rfl⟩
    go_wp2_with fail
    go_ret
    exact ⟨rfl, rfl⟩
  · rw [hr] at hf
    rw [mostQ, if_neg h]
    have Hf := Lib.hid hf
    clear hf h hr
    go_enter Try.func28, Try.ntmps28
    go_wp2_with fail
    refine Hf.out.mono ?_
    rintro e _ ⟨rfl, rfl⟩
    go_wp2_with fail
    go_ret
    exact ⟨rfl, rfl⟩
theorem quo_few (n : Int) (w : World) : Calls Try.prog 50 #[.int .i64 n] w fun e w' => e = .returned (.int .i64 (fewQ n)) ∧ w = w' := by
  have hf := quo_faults n w
  rcases faults_range n with ⟨h, hr, h4, h16⟩ | ⟨h, hr⟩
  · rw [hr] at hf
    rw [fewQ, if_pos h]
    have Hf := Lib.hid hf
    have h3 : 1 ≤ n / 3 ∧ n / 3 ≤ 5 := by omega
    generalize n / 3 = f at *
    clear hf h hr
    go_enter Try.func50, Try.ntmps50
    go_wp2_with fail
    refine Hf.out.mono ?_
    rintro e _ ⟨rfl, rfl⟩
    go_wp2_with fail
    go_ret
    exact ⟨rfl, rfl⟩
  · rw [hr] at hf
    rw [fewQ, if_neg h]
    have Hf := Lib.hid hf
    clear hf h hr
    go_enter Try.func50, Try.ntmps50
    go_wp2_with fail
    refine Hf.out.mono ?_
    rintro e _ ⟨rfl, rfl⟩
    go_wp2_with fail
    go_ret
    exact ⟨rfl, rfl⟩
theorem ref_most (n : Int) (w : World) : Calls Try.prog 36 #[.int .i64 n] w fun e w' => e = .returned (.int .i64 (mostQ n)) ∧ w = w' := by
  have hf := ref_faults n w
  rcases faults_range n with ⟨h, hr, h4, h16⟩ | ⟨h, hr⟩
  · rw [hr] at hf
    rw [mostQ, if_pos h]
    have Hf := Lib.hid hf
    have h3 : 1 ≤ n / 3 ∧ n / 3 ≤ 5 := by omega
    generalize n / 3 = f at *
    clear hf h hr
    go_enter Try.func36, Try.ntmps36
    go_wp2_with fail
    refine Hf.out.mono ?_
    rintro e _ ⟨rfl, rfl⟩
    go_wp2_with fail
    go_ret
    exact ⟨rfl, rfl⟩
  · rw [hr] at hf
    rw [mostQ, if_neg h]
    have Hf := Lib.hid hf
    clear hf h hr
    go_enter Try.func36, Try.ntmps36
    go_wp2_with fail
    refine Hf.out.mono ?_
    rintro e _ ⟨rfl, rfl⟩
    go_wp2_with fail
    go_ret
    exact ⟨rfl, rfl⟩
theorem ref_few (n : Int) (w : World) : Calls Try.prog 57 #[.int .i64 n] w fun e w' => e = .returned (.int .i64 (fewQ n)) ∧ w = w' := by
  have hf := ref_faults n w
  rcases faults_range n with ⟨h, hr, h4, h16⟩ | ⟨h, hr⟩
  · rw [hr] at hf
    rw [fewQ, if_pos h]
    have Hf := Lib.hid hf
    have h3 : 1 ≤ n / 3 ∧ n / 3 ≤ 5 := by omega
    generalize n / 3 = f at *
    clear hf h hr
    go_enter Try.func57, Try.ntmps57
    go_wp2_with fail
    refine Hf.out.mono ?_
    rintro e _ ⟨rfl, rfl⟩
    go_wp2_with fail
    go_ret
    exact ⟨rfl, rfl⟩
  · rw [hr] at hf
    rw [fewQ, if_neg h]
    have Hf := Lib.hid hf
    clear hf h hr
    go_enter Try.func57, Try.ntmps57
    go_wp2_with fail
    refine Hf.out.mono ?_
    rintro e _ ⟨rfl, rfl⟩
    go_wp2_with fail
    go_ret
    exact ⟨rfl, rfl⟩
end Go.Proofs.Ytcedpdjjjfdbiaa
