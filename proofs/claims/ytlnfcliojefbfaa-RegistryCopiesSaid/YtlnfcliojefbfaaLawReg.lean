/- How a registry's acts are opened; no condition. -/
import Derived.Test.YtlnfcliojefbfaaLawBase
import Derived.Test.YtlnfcliojefbfaaRegArgs
import Derived.OpenShut
namespace Go.Proofs.Ytlnfcliojefbfaa
set_option linter.unusedVariables false
set_option linter.unusedSimpArgs false
open Go.ChangeShapes Go.WideShapes Go.ChangeAt Go.RowKit

set_option maxRecDepth 100000 in
theorem opens_act3 {H : Type} {enc : TypeId × Value → H} {W : World} {spare : Nat → Bool} {held : Bool} (fuel : Nat) (cs : List Value) (x : DataW H × List MemPlace) (g n : Nat)
    (h : DataW.trod enc Try.prog W 0 spare held fuel 28 cs = some x) (hl : cs.length = 4) (hat : ∀ j u, cs[j]? = some u → W.cell? ⟨g, n + j, none⟩ = some u) : ∃ d, Act3.Is (· < W.heap.size) W g n d := by
  match cs, hl with
  | [c0, c1, c2, c3], _ =>
    have ki : Try.prog.cellsOf 3 = 1 := by kernel_rfl
    have kb : Try.prog.cellsOf 23 = 1 := by kernel_rfl
    obtain ⟨_, _, h0⟩ := opens_field Try.underlying28 h 0 rfl ki
    obtain ⟨_, _, h1⟩ := opens_field Try.underlying28 h 1 rfl ki
    obtain ⟨_, _, h2⟩ := opens_field Try.underlying28 h 2 rfl kb
    obtain ⟨_, _, h3⟩ := opens_field Try.underlying28 h 3 rfl ki
    obtain ⟨q0, e0, _, _⟩ := DataW.trod_int Try.underlying3 h0
    obtain ⟨q1, e1, _, _⟩ := DataW.trod_int Try.underlying3 h1
    obtain ⟨v, l, e2, hb, _⟩ := opens_byt Try.underlying23 Try.underlying5 (by kernel_rfl) h2
    obtain ⟨q3, e3, _, _⟩ := DataW.trod_int Try.underlying3 h3
    simp at e0 e1 e2 e3
    subst e0 e1 e2 e3
    exact ⟨⟨q0, q1, l, q3⟩, _, hat 0 _ rfl, hat 1 _ rfl, hat 2 _ rfl, hat 3 _ rfl, hb⟩
end Go.Proofs.Ytlnfcliojefbfaa
