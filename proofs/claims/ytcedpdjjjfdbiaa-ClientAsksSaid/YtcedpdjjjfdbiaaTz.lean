/- The lowest bit that is set, as the library finds it; no condition. -/
import Derived.Test.YtcedpdjjjfdbiaaQuo4
namespace Go.Proofs.Ytcedpdjjjfdbiaa
set_option linter.unusedVariables false
set_option linter.unusedSimpArgs false
open Go.RowKit

def tab64 : List Nat := [0, 1, 56, 2, 57, 49, 28, 3, 61, 58, 42, 50, 38, 29, 17, 4, 62, 47, 59, 36, 45, 43, 51, 22, 53, 39, 33, 30, 24, 18, 12, 5, 63, 55, 48, 27, 60, 41, 37, 16, 46, 35, 44, 21, 52, 32, 23, 11, 54, 26, 40, 15, 34, 20, 31, 10, 25, 14, 19, 9, 13, 8, 7, 6]
/-- The library's table stands. -/
def TabOk (w : World) : Prop := ∀ (i n : Nat), tab64[i]? = some n → w.cell? ⟨1, i, none⟩ = some (.int .u8 (n : Int))
theorem TabOk.same {w w' : World} (h : TabOk w) (hx : Ext (fun _ => False) w w') : TabOk w' := fun i n hi => cell_same (h i n hi) hx

def lowBit (m : Nat) : Nat := m &&& (18446744073709551616 - m)
def lowIdx (m : Nat) : Nat := lowBit m * 285870213051353865 % 18446744073709551616 / 288230376151711744
def low (m : Nat) : Nat := tab64.getD (lowIdx m) 0
def lowOk (m : Nat) : Bool := m == 0 || (decide (low m < 16) && decide (lowIdx m < 64) && m % 2 ^ low m == 0 && m / 2 ^ low m % 2 == 1 && ((m &&& (m - 1)) == m - 2 ^ low m))
theorem lowOk_bytes : ∀ hi : Fin 256, ∀ lo : Fin 256, lowOk (hi.val * 256 + lo.val) = true := by decide +kernel
end Go.Proofs.Ytcedpdjjjfdbiaa
