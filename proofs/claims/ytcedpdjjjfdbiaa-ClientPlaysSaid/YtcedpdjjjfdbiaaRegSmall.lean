/- The small case of the registry's statements; no condition. -/
import Derived.Test.YtcedpdjjjfdbiaaReg2
import Derived.Test.YtcedpdjjjfdbiaaConst
import Derived.Lib.SlBytesConst
import Derived.Laws.Pointers
namespace Go.Proofs.Ytcedpdjjjfdbiaa
set_option linter.unusedVariables false
set_option linter.unusedSimpArgs false
open Go.RowKit

end Go.Proofs.Ytcedpdjjjfdbiaa
