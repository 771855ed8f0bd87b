/- QuorumSizes, QuorumNumbers, QuorumAgrees: what the statements' functions compute; no condition. -/
import Derived.Test.YtipmfopjhgagiaaQuoSmall
namespace Go.Proofs.Ytipmfopjhgagiaa
set_option linter.unusedVariables false
set_option linter.unusedSimpArgs false
open Go.RowKit

theorem sizes_walk {w : World} (f n : Int) : Calls Try.prog 3 #[.int .i64 f, .int .i64 n] w fun e w' => e = .returned (.bool true) ∧ Ext (fun _ => False) w w' := by
  have H := Lib.hid (And.intro (And.intro (quo_size f) (ref_size f)) (And.intro (And.intro (quo_faults n) (ref_faults n)) (And.intro (And.intro (quo_most n) (ref_most n)) (And.intro (quo_few n) (ref_few n)))))
  generalize sizeQ f = s at *
  generalize faultsQ n = q at *
  generalize mostQ n = m at *
  generalize fewQ n = k at *
  obtain ⟨s1, s2⟩ := s
  obtain ⟨q1, q2⟩ := q
  go_enter Try.func3, Try.ntmps3
  go_wp2_with fail
  refine (quo_small _).mono ?_
  rintro e w1 ⟨rfl, hx1⟩
  have Hx := Lib.hid hx1
  clear hx1
  go_wp2_with fail
  refine (H.out.1.1 _).mono ?_
  rintro e _ ⟨rfl, rfl⟩
  go_wp2_with fail
  refine (H.out.1.2 _).mono ?_
  rintro e _ ⟨rfl, rfl⟩
  go_wp2_with fail
  refine (H.out.2.1.1 _).mono ?_
  rintro e _ ⟨rfl, rfl⟩
  go_wp2_with fail
  refine (H.out.2.1.2 _).mono ?_
  rintro e _ ⟨rfl, rfl⟩
  go_wp2_with fail
  refine (H.out.2.2.1.1 _).mono ?_
  rintro e _ ⟨rfl, rfl⟩
  go_wp2_with fail
  refine (H.out.2.2.1.2 _).mono ?_
  rintro e _ ⟨rfl, rfl⟩
  go_wp2_with fail
  refine (H.out.2.2.2.1 _).mono ?_
  rintro e _ ⟨rfl, rfl⟩
  go_wp2_with fail
  refine (H.out.2.2.2.2 _).mono ?_
  rintro e _ ⟨rfl, rfl⟩
  go_wp2_with fail
  go_ret
  exact ⟨rfl, Hx.out⟩

theorem numbers_walk {w : World} (f : Int) : Calls Try.prog 6 #[.int .i64 f] w fun e w' => e = .returned (.bool true) ∧ Ext (fun _ => False) w w' := by
  have hs := quo_size f
  by_cases hf : 1 ≤ f ∧ f ≤ 5
  · have hok : okN (3 * f + 1) := by unfold okN; omega
    have h3 : (3 * f + 1) / 3 = f := by omega
    have h1 := quo_faults (3 * f + 1)
    have h2 := quo_most (3 * f + 1)
    have h4 := quo_few (3 * f + 1)
    rw [faultsQ, if_pos hok, h3] at h1
    rw [mostQ, if_pos hok, h3] at h2
    rw [fewQ, if_pos hok, h3] at h4
    rw [sizeQ, if_pos hf] at hs
    have H := Lib.hid (And.intro (And.intro hs h1) (And.intro h2 h4))
    obtain ⟨hf1, hf2⟩ := hf
    have e1 : (2 * f + 1 + f == 3 * f + 1) = true := by simp; omega
    have e2 : (2 * (2 * f + 1) - (3 * f + 1) == f + 1) = true := by simp; omega
    have e3 : decide (3 * f + 1 ≤ 16) = true := by simp; omega
    clear hs h1 h2 h4 hok h3
    go_enter Try.func6, Try.ntmps6
    go_wp2_with fail
    refine (quo_small _).mono ?_
    rintro e w1 ⟨rfl, hx1⟩
    have Hx := Lib.hid hx1
    clear hx1
    go_wp2_with fail
    refine (H.out.1.1 _).mono ?_
    rintro e _ ⟨rfl, rfl⟩
    go_wp2_with fail
    refine (H.out.1.2 _).mono ?_
    rintro e _ ⟨rfl, rfl⟩
    go_wp2_with fail
    refine (H.out.2.1 _).mono ?_
    rintro e _ ⟨rfl, rfl⟩
    go_wp2_with fail
    refine (H.out.2.2 _).mono ?_
    rintro e _ ⟨rfl, rfl⟩
    go_wp2_with fail
    go_ret
    exact ⟨rfl, Hx.out⟩
  · rw [sizeQ, if_neg hf] at hs
    have H := Lib.hid hs
    clear hs
    by_cases h1 : f < 1
    · have h1' : decide (f < 1) = true := by simpa using h1
      go_enter Try.func6, Try.ntmps6
      go_wp2_with fail
      refine (quo_small _).mono ?_
      rintro e w1 ⟨rfl, hx1⟩
      have Hx := Lib.hid hx1
      clear hx1
      go_wp2_with fail
      refine (H.out _).mono ?_
      rintro e _ ⟨rfl, rfl⟩
      go_wp2_with fail
      go_ret
      exact ⟨rfl, Hx.out⟩
    · have h1' : decide (f < 1) = false := by simpa using h1
      have h2' : decide (5 < f) = true := by simp; omega
      go_enter Try.func6, Try.ntmps6
      go_wp2_with fail
      refine (quo_small _).mono ?_
      rintro e w1 ⟨rfl, hx1⟩
      have Hx := Lib.hid hx1
      clear hx1
      go_wp2_with fail
      refine (H.out _).mono ?_
      rintro e _ ⟨rfl, rfl⟩
      go_wp2_with fail
      go_ret
      exact ⟨rfl, Hx.out⟩

theorem agrees_walk {w : World} {D : Nat → Prop} {v : Value} {l : List Bs} (n : Int) (h : Texts D w v l) (hl : l.length ≤ maxLen) :
    Calls Try.prog 4 #[.int .i64 n, v] w fun e w' => e = .returned (.bool true) ∧ Ext (fun _ => False) w w' := by
  obtain ⟨A, c, rfl, _, _⟩ := id h
  have hl' : l.length ≤ 9223372036854775807 := hl
  have same : ∀ W : World, Ext (fun _ => False) w W → Texts D W (.slice A l.length c) l := fun _ hx => h.same fun g n x hc => cell_same hc hx
  have Hs := Lib.hid same
  clear h same
  go_enter Try.func4, Try.ntmps4
  go_wp2_with fail
  refine (quo_small _).mono ?_
  rintro e w1 ⟨rfl, hx1⟩
  go_wp2_with fail
  refine (quo_agreed (Hs.out _ hx1) hl' n).mono ?_
  rintro e w2 ⟨b, rfl, hx2, hb⟩
  go_wp2_with fail
  refine (ref_agreed (Hs.out _ (hx1.trans hx2)) hl' n).mono ?_
  rintro e w3 ⟨b', rfl, hx3, hb'⟩
  obtain rfl : b = b' := hb.unique hb'
  have Hx := Lib.hid ((hx1.trans hx2).trans hx3)
  clear hx1 hx2 hx3 hb hb'
  go_wp2_with fail
  go_ret
  exact ⟨rfl, Hx.out⟩
end Go.Proofs.Ytipmfopjhgagiaa
