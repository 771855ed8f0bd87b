/- What the joining texts share; no condition. -/
import Derived.Test.YtoflfhjeabpcjaaOpens
import Derived.ProofKit
namespace Go.Proofs.Ytoflfhjeabpcjaa
set_option linter.unusedVariables false
set_option linter.unusedSimpArgs false
open Go.RowKit

theorem own : ownKnob Try.prog.godebug = none := by kernel_rfl
theorem laidOut : laidOutB Try.prog = true := by kernel_rfl

theorem trod_row {H : Type} {enc : TypeId × Value → H} {W : World} {spare : Nat → Bool} {held : Bool} {α : Type} {R : World → Nat → Nat → α → Prop} {t e size : Nat} {A : Option Addr} {len cap : Nat} {d : DataW H} {p : List MemPlace} (ht : Try.prog.underlying t = some (.slice e)) (hC : Try.prog.cellsOf e = size) (hsz : 0 < size)
    (hop : ∀ (fuel : Nat) (cs : List Value) (x : DataW H × List MemPlace) (g n : Nat), DataW.trod enc Try.prog W 0 spare held fuel e cs = some x → cs.length = size → (∀ j u, cs[j]? = some u → W.cell? ⟨g, n + j, none⟩ = some u) → ∃ d, R W g n d)
    (h : ∃ fuel, DataW.trod enc Try.prog W 0 spare held fuel t (Value.slice A len cap).cells.toList = some (d, p)) : ∃ l, Row R size (· < W.heap.size) W (.slice A len cap) l ∧ l.length ≤ maxLen := by
  obtain ⟨fuel, hf⟩ := h
  obtain ⟨v, l, e, hr, hm⟩ := opens_row ht hC hsz hop hf
  simp [Value.cells] at e
  exact ⟨l, e ▸ hr, hm⟩
end Go.Proofs.Ytoflfhjeabpcjaa
