/- Rows of bytes opened, without a bound; no condition. -/
import Derived.Test.YtcedpdjjjfdbiaaLawBase
import Derived.Test.YtcedpdjjjfdbiaaPlain2
namespace Go.Proofs.Ytcedpdjjjfdbiaa
set_option linter.unusedVariables false
set_option linter.unusedSimpArgs false
open Go.RowKit Go.ChangeShapes Go.WideShapes Go.ChangeAt
theorem opens_byt_at {H : Type} {enc : TypeId × Value → H} {W : World} {spare : Nat → Bool} {held : Bool} (fuel : Nat) (cs : List Value) (x : DataW H × List MemPlace) (g n : Nat)
    (h : DataW.trod enc Try.prog W 0 spare held fuel 33 cs = some x) (_ : cs.length = 1) (hat : ∀ j u, cs[j]? = some u → W.cell? ⟨g, n + j, none⟩ = some u) : ∃ d : Bs, ∃ u, W.cell? ⟨g, n, none⟩ = some u ∧ Byt (· < W.heap.size) W u d := by
  obtain ⟨v, l, rfl, hb, _⟩ := opens_byt Try.underlying33 Try.underlying5 (by kernel_rfl) h
  exact ⟨l, v, hat 0 v rfl, hb⟩
theorem opens_num {H : Type} {enc : TypeId × Value → H} {W : World} {spare : Nat → Bool} {held : Bool} (fuel : Nat) (cs : List Value) (x : DataW H × List MemPlace) (g n : Nat)
    (h : DataW.trod enc Try.prog W 0 spare held fuel 3 cs = some x) (_ : cs.length = 1) (hat : ∀ j u, cs[j]? = some u → W.cell? ⟨g, n + j, none⟩ = some u) : ∃ s : Int, (fun w g n x => w.cell? ⟨g, n, none⟩ = some (.int .i64 x)) W g n s := by
  obtain ⟨s, rfl, _, _⟩ := DataW.trod_int Try.underlying3 h
  exact ⟨s, by simpa using hat 0 _ rfl⟩

end Go.Proofs.Ytcedpdjjjfdbiaa
