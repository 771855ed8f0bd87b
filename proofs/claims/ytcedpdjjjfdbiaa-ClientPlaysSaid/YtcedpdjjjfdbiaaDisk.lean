/- The disk: what it is, its power; no condition. -/
import Derived.Test.YtcedpdjjjfdbiaaBufs2
import Derived.Test.YtcedpdjjjfdbiaaMix
namespace Go.Proofs.Ytcedpdjjjfdbiaa
set_option linter.unusedVariables false
set_option linter.unusedSimpArgs false
open Go.RowKit

structure Dk where
  off : Bool
  armed : Bool
  acts : Int
  part : Int
  l : Bs
  s : Nat
def dkC (v : Value) (x : Dk) : Array Value := #[.bool x.off, .bool x.armed, .int .i64 x.acts, .int .i64 x.part, v, .int .i64 x.s]
def goesD (x : Dk) : Bool × Dk := if x.armed = false then (true, x) else if 0 < x.acts then (true, { x with acts := x.acts - 1 }) else (false, { x with off := true })

def armD (n m : Int) (x : Dk) : Dk := { x with armed := decide (0 ≤ n), acts := n, part := m }
theorem tmod_emod (n k : Int) (hk : 0 < k) : (if n.tmod k < 0 then n.tmod k + k else n.tmod k) = n % k := by
  have h1 := Int.emod_nonneg n (by omega : k ≠ 0)
  have h2 := Int.emod_lt_of_pos n hk
  rw [Int.tmod_eq_emod]
  split <;> split at * <;> omega

theorem OwnB.form {w : World} {v : Value} {l : Bs} (h : OwnB w v l) : ∃ A c, v = .slice A l.length c ∧ l.length ≤ c ∧ (∀ ad, A = some ad → ∃ g, ad = ⟨g, 0, none⟩) := by
  rcases h with ⟨rfl, rfl⟩ | ⟨g, c, cells, fr, rfl, hg, h1, r⟩
  · exact ⟨none, 0, rfl, Nat.le_refl _, fun _ h => by cases h⟩
  · exact ⟨_, c, rfl, h1, fun _ h => ⟨g, by cases h; rfl⟩⟩
/-- The beginning of what is owned, without room. -/
theorem OwnB.cut {w : World} {A : Option Addr} {c : Nat} {l : Bs} (h : OwnB w (.slice A l.length c) l) {n : Nat} (hn : n ≤ l.length) : OwnB w (.slice A n n) (l.take n) := by
  rcases h with ⟨h, rfl⟩ | ⟨g, c', cells, fr, h, hg, h1, h2, h3, h4, h5⟩
  · cases h
    have : n = 0 := by simpa using hn
    subst this
    exact .inl ⟨rfl, rfl⟩
  · cases h
    have hl : (l.take n).length = n := by simp; omega
    refine .inr ⟨g, n, cells, fr, by rw [hl], hg, by omega, by omega, by omega, fun i hi => h4 i (by omega), fun j u hu => ?_⟩
    have hj : j < n := by
      have := (List.getElem?_eq_some_iff.1 hu).1
      omega
    rw [List.getElem?_take_of_lt hj] at hu
    exact h5 j u hu

end Go.Proofs.Ytcedpdjjjfdbiaa
