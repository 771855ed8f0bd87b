/- Sets as numbers: how many members; no condition. -/
import Derived.Test.YtcedpdjjjfdbiaaQuo
import Derived.Test.YtcedpdjjjfdbiaaPop
import Derived.Laws.BitsLemmas
namespace Go.Proofs.Ytcedpdjjjfdbiaa
set_option linter.unusedVariables false
set_option linter.unusedSimpArgs false
open Go.RowKit

theorem u64_and (x k : Nat) (hx : x < 18446744073709551616) (hk : k < 18446744073709551616) : bits .and .u64 (x : Int) (k : Int) = ((x &&& k : Nat) : Int) :=
  (bits_nat .u64 64 (by decide) (fun n h0 h1 => by simp [IntKind.wrap, IntKind.bits, IntKind.signed]; omega) x k (by omega) (by omega)).1
theorem i64_and (x k : Nat) (hx : x < 9223372036854775808) (hk : k < 9223372036854775808) : bits .and .i64 (x : Int) (k : Int) = ((x &&& k : Nat) : Int) :=
  (bits_nat .i64 63 (by decide) (fun n h0 h1 => by rw [IntKind.wrap_i64]; omega) x k (by omega) (by omega)).1

end Go.Proofs.Ytcedpdjjjfdbiaa
