/- The acts of a registry's statement, as they come in; no condition. -/
import Derived.Test.YtcedpdjjjfdbiaaRegSmall
import Derived.Test.YtcedpdjjjfdbiaaOpens
namespace Go.Proofs.Ytcedpdjjjfdbiaa
set_option linter.unusedVariables false
set_option linter.unusedSimpArgs false
open Go.RowKit

structure Act3 where
  Do : Int
  Who : Int
  B : Bs
  N : Int
def Act3.Is (D : Nat → Prop) (w : World) (g n : Nat) (x : Act3) : Prop :=
  ∃ bv, w.cell? ⟨g, n, none⟩ = some (.int .i64 x.Do) ∧ w.cell? ⟨g, n + 1, none⟩ = some (.int .i64 x.Who) ∧ w.cell? ⟨g, n + 2, none⟩ = some bv ∧ w.cell? ⟨g, n + 3, none⟩ = some (.int .i64 x.N) ∧ Byt D w bv x.B
abbrev Acts3 (D : Nat → Prop) (w : World) (v : Value) (l : List Act3) : Prop := Row (Act3.Is D) 4 D w v l

theorem Act3.Is.same {D : Nat → Prop} {w w' : World} {g n : Nat} {x : Act3} (h : Act3.Is D w g n x) (hx : Ext (fun _ => False) w w') : Act3.Is D w' g n x := by
  obtain ⟨bv, h1, h2, h3, h4, h5⟩ := h
  exact ⟨bv, cell_same h1 hx, cell_same h2 hx, cell_same h3 hx, cell_same h4 hx, h5.same hx⟩
theorem mem_addL (p q : Int × Bs) (L : List (Int × Bs)) : p ∈ addL q L ↔ p ∈ L ∨ p = q := by
  unfold addL
  split
  · rename_i h
    exact ⟨.inl, fun h' => h'.elim id fun e => e ▸ h⟩
  · simp
theorem mem_signL (p : Int × Bs) (who : Int) (t : Bs) (L : List (Int × Bs)) : p ∈ signL who t L ↔ p ∈ L ∨ (signE who t = 0 ∧ p = (who, t)) := by
  unfold signL
  split
  · rename_i h
    rw [mem_addL]
    simp [h]
  · rename_i h
    simp [h]
theorem signL_le (who : Int) (t : Bs) (L : List (Int × Bs)) : (signL who t L).length ≤ L.length + 1 := by
  unfold signL addL
  split
  · split <;> simp
  · omega

end Go.Proofs.Ytcedpdjjjfdbiaa
