/- A row of numbers; no condition. -/
import Derived.Test.YtcedpdjjjfdbiaaOpens
namespace Go.Proofs.Ytcedpdjjjfdbiaa
set_option linter.unusedVariables false
set_option linter.unusedSimpArgs false
open Go.RowKit
abbrev Ints (D : Nat → Prop) (w : World) (v : Value) (l : List Int) : Prop := Row (fun w g n x => w.cell? ⟨g, n, none⟩ = some (.int .i64 x)) 1 D w v l
end Go.Proofs.Ytcedpdjjjfdbiaa
