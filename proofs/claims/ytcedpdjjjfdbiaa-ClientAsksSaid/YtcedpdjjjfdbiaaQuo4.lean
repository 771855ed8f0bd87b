/- Set: a set of some; no condition. -/
import Derived.Test.YtcedpdjjjfdbiaaIntsDef
import Derived.Test.YtcedpdjjjfdbiaaQuo3
namespace Go.Proofs.Ytcedpdjjjfdbiaa
set_option linter.unusedVariables false
set_option linter.unusedSimpArgs false
open Go.RowKit

/-- A row of numbers. -/
def orAll (l : List Int) : Nat := l.foldl (fun s x => s ||| 2 ^ (x - 1).toNat) 0
def okS (l : List Int) : Prop := ∀ x ∈ l, 1 ≤ x ∧ x ≤ 16
instance (l : List Int) : Decidable (okS l) := by unfold okS; exact inferInstance
def setS (l : List Int) : Int × Int := if okS l then ((orAll l : Nat), 0) else (0, 6)
theorem orAll_snoc (l : List Int) (x : Int) : orAll (l ++ [x]) = orAll l ||| 2 ^ (x - 1).toNat := by simp [orAll]
theorem orAll_lt : ∀ {l : List Int}, okS l → orAll l < 65536 := by
  intro l h
  have : ∀ (l : List Int) (s : Nat), okS l → s < 2 ^ 16 → l.foldl (fun s x => s ||| 2 ^ (x - 1).toNat) s < 2 ^ 16 := by
    intro l
    induction l with
    | nil => intro s _ hs; exact hs
    | cons x l ih =>
      intro s h hs
      have hx := h x (by simp)
      exact ih _ (fun y hy => h y (by simp [hy])) (Nat.or_lt_two_pow hs (Nat.pow_lt_pow_right (by decide) (by omega)))
  exact this l 0 h (by decide)
theorem i64_or (x k : Nat) (hx : x < 65536) (hk : k < 65536) : bits .or .i64 (x : Int) (k : Int) = ((x ||| k : Nat) : Int) :=
  (bits_nat .i64 16 (by decide) (fun n h0 h1 => by rw [IntKind.wrap_i64]; omega) x k (by omega) (by omega)).2

end Go.Proofs.Ytcedpdjjjfdbiaa
