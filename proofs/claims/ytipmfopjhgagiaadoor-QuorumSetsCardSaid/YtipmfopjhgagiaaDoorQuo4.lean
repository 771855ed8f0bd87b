/- Set: a set of some; no condition. -/
import Derived.Test.YtipmfopjhgagiaaDoorQuo3
namespace Go.Proofs.YtipmfopjhgagiaaDoor
set_option linter.unusedVariables false
set_option linter.unusedSimpArgs false
open Go.RowKit

/-- A row of numbers. -/
abbrev Ints (D : Nat → Prop) (w : World) (v : Value) (l : List Int) : Prop := Row (fun w g n x => w.cell? ⟨g, n, none⟩ = some (.int .i64 x)) 1 D w v l
def orAll (l : List Int) : Nat := l.foldl (fun s x => s ||| 2 ^ (x - 1).toNat) 0
def okS (l : List Int) : Prop := ∀ x ∈ l, 1 ≤ x ∧ x ≤ 16
instance (l : List Int) : Decidable (okS l) := by unfold okS; exact inferInstance
def setS (l : List Int) : Int × Int := if okS l then ((orAll l : Nat), 0) else (0, 6)
theorem orAll_snoc (l : List Int) (x : Int) : orAll (l ++ [x]) = orAll l ||| 2 ^ (x - 1).toNat := by simp [orAll]
theorem orAll_lt : ∀ {l : List Int}, okS l → orAll l < 65536 := by
  intro l h
  have : ∀ (l : List Int) (s : Nat), okS l → s < 2 ^ 16 → l.foldl (fun s x => s ||| 2 ^ (x - 1).toNat) s < 2 ^ 16 := by
    intro l
    induction l with
    | nil => intro s _ hs; exact hs
    | cons x l ih =>
      intro s h hs
      have hx := h x (by simp)
      exact ih _ (fun y hy => h y (by simp [hy])) (Nat.or_lt_two_pow hs (Nat.pow_lt_pow_right (by decide) (by omega)))
  exact this l 0 h (by decide)
theorem i64_or (x k : Nat) (hx : x < 65536) (hk : k < 65536) : bits .or .i64 (x : Int) (k : Int) = ((x ||| k : Nat) : Int) :=
  (bits_nat .i64 16 (by decide) (fun n h0 h1 => by rw [IntKind.wrap_i64]; omega) x k (by omega) (by omega)).2

theorem quo_Set {w : World} {D : Nat → Prop} {v : Value} {l : List Int} (h : Ints D w v l) (hl : l.length ≤ 9223372036854775807) :
    Calls Tryd.prog 6 #[v] w fun e w' => e = .returned (.tuple #[.int .i64 (setS l).1, .int .i64 (setS l).2]) ∧ w = w' := by
  obtain ⟨A, c, rfl, _, _⟩ := id h
  go_enter Tryd.func6, Tryd.ntmps6
  go_wp2_with fail
  go_loopw [4, 9] (fun s i W => ∃ k : Nat, k ≤ l.length ∧ i = .int .i64 k ∧ s = .int .i64 (orAll (l.take k) : Nat) ∧ okS (l.take k) ∧ w = W) (fun _ i _ => l.length - (intOf i).toNat)
  case atStart => exact ⟨0, by omega, rfl, rfl, by simp [okS], rfl⟩
  case round =>
    obtain ⟨k, hk, rfl, rfl, hok, rfl⟩ := hrel
    have hlt := orAll_lt hok
    by_cases hkl : k < l.length
    · have hkl' : (k : Int) < (l.length : Int) := by omega
      obtain ⟨g, o, c', hav, _, hcell⟩ := h.at hkl
      obtain ⟨rfl, rfl⟩ : A = some ⟨g, o, none⟩ ∧ c = c' := by simpa using hav
      clear hav
      rw [Nat.mul_one] at hcell
      have htk : l.take (k + 1) = l.take k ++ [l[k]] := List.take_succ_eq_append_getElem hkl
      have hin : l[k] ∈ l := List.getElem_mem hkl
      generalize l[k] = x at *
      have Htk := Lib.hid (And.intro htk (And.intro hin hok))
      clear htk hin hok
      by_cases h1 : x < 1
      · have h1' : decide (x < 1) = true := by simpa using h1
        have hr : setS l = (0, 6) := by rw [setS, if_neg (fun hh => by have := (hh x Htk.out.2.1).1; omega)]
        have Hr := Lib.hid hr
        clear hr
        go_wp2_with fail
        go_ret2
        exact ⟨by rw [Hr.out]; rfl, rfl⟩
      have h1' : decide (x < 1) = false := by simpa using h1
      by_cases h2 : 16 < x
      · have h2' : decide (16 < x) = true := by simpa using h2
        have hr : setS l = (0, 6) := by rw [setS, if_neg (fun hh => by have := (hh x Htk.out.2.1).2; omega)]
        have Hr := Lib.hid hr
        clear hr
        go_wp2_with fail
        go_ret2
        exact ⟨by rw [Hr.out]; rfl, rfl⟩
      have h2' : decide (16 < x) = false := by simpa using h2
      obtain ⟨j, rfl⟩ : ∃ j : Nat, x = j + 1 := ⟨(x - 1).toNat, by omega⟩
      have hj : j < 16 := by omega
      have hp : 2 ^ j < 65536 := Nat.lt_of_lt_of_le (Nat.pow_lt_pow_right (by decide) hj) (by decide)
      have hor : bits .or .i64 (orAll (l.take k) : Int) ((2 : Int) ^ j) = ((orAll (l.take k) ||| 2 ^ j : Nat) : Int) := by
        have := i64_or (orAll (l.take k)) (2 ^ j) hlt hp
        rwa [Int.natCast_pow] at this
      have hpi : ((2 : Int) ^ j) < 65536 := by have : (((2 ^ j : Nat)) : Int) < ((65536 : Nat) : Int) := Int.ofNat_lt.2 hp; rwa [Int.natCast_pow] at this
      have hpi0 : 0 ≤ ((2 : Int) ^ j) := Int.pow_nonneg (by decide)
      have hw : wrap64 ((2 : Int) ^ j) = (2 : Int) ^ j := by unfold wrap64; omega
      have Hw := Lib.hid (And.intro hw hor)
      clear hw hor hpi hpi0
      go_wp2_with fail
      obtain ⟨hw, hor⟩ := Hw.out
      refine ⟨⟨k + 1, by omega, by go_num, ?_, ?_, by first | rfl | trivial⟩, by simp [intOf]; omega⟩
      · rw [hw, hor, Htk.out.1, orAll_snoc, show ((j : Int) + 1 - 1).toNat = j by omega]
      · rw [Htk.out.1]
        intro y hy
        rcases List.mem_append.1 hy with hy | hy
        · exact Htk.out.2.2 y hy
        · simp at hy
          omega
    · have : k = l.length := by omega
      subst this
      have hkl' : decide ((l.length : Int) < (l.length : Int)) = false := by simp
      rw [List.take_length] at hok ⊢
      have hr : setS l = (((orAll l : Nat) : Int), 0) := by rw [setS, if_pos hok]
      have Hr := Lib.hid hr
      clear hr
      go_wp2_with fail
      go_ret2
      exact ⟨by rw [Hr.out]; rfl, rfl⟩
end Go.Proofs.YtipmfopjhgagiaaDoor
