/- Rows of texts opened; no condition. -/
import Derived.Test.YtcedpdjjjfdbiaaLawBase
namespace Go.Proofs.Ytcedpdjjjfdbiaa
set_option linter.unusedVariables false
set_option linter.unusedSimpArgs false
open Go.RowKit Go.ChangeShapes Go.WideShapes Go.ChangeAt
theorem opens_text {H : Type} {enc : TypeId × Value → H} {W : World} {spare : Nat → Bool} {held : Bool} (fuel : Nat) (cs : List Value) (x : DataW H × List MemPlace) (g n : Nat)
    (h : DataW.trod enc Try.prog W 0 spare held fuel 9 cs = some x) (_ : cs.length = 1) (hat : ∀ j u, cs[j]? = some u → W.cell? ⟨g, n + j, none⟩ = some u) : ∃ s : Bs, (fun w g n x => w.cell? ⟨g, n, none⟩ = some (str x)) W g n s := by
  obtain ⟨s, rfl, _, _⟩ := DataW.trod_string Try.underlying9 h
  refine ⟨s.data.toList, ?_⟩
  have := hat 0 _ rfl
  simpa [str] using this
end Go.Proofs.Ytcedpdjjjfdbiaa
