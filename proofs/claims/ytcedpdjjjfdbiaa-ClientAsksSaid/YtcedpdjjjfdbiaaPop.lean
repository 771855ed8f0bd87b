/- How many bits are set, as the library counts them; no condition. -/
import Derived.Test.YtcedpdjjjfdbiaaBase
namespace Go.Proofs.Ytcedpdjjjfdbiaa
set_option linter.unusedVariables false
set_option linter.unusedSimpArgs false
open Go.RowKit

/-- How many of the lowest sixteen bits are set. -/
def pc (m : Nat) : Nat :=
  m % 2 + m / 2 % 2 + m / 4 % 2 + m / 8 % 2 + m / 16 % 2 + m / 32 % 2 + m / 64 % 2 + m / 128 % 2 + m / 256 % 2 + m / 512 % 2 + m / 1024 % 2 + m / 2048 % 2 + m / 4096 % 2 + m / 8192 % 2 + m / 16384 % 2 + m / 32768 % 2
def pop3 (m : Nat) : Nat := (m / 4 &&& 3689348814741910323) + (m &&& 3689348814741910323)
def pop2 (m : Nat) : Nat := pop3 ((m / 2 &&& 6148914691236517205) + (m &&& 6148914691236517205))
def pop6 (x : Nat) : Nat := (x + x / 4294967296) &&& 127
def pop5 (x : Nat) : Nat := pop6 (x + x / 65536)
def pop4 (x : Nat) : Nat := pop5 (x + x / 256)
def popF (m : Nat) : Nat := (fun x => pop4 ((x / 16 + x) &&& 1085102592571150095)) (pop2 m)
theorem popF_bytes : ∀ hi : Fin 256, ∀ lo : Fin 256, popF (hi.val * 256 + lo.val) = pc (hi.val * 256 + lo.val) := by decide +kernel
theorem popF_eq (m : Nat) (hm : m < 65536) : popF m = pc m := by
  have := popF_bytes ⟨m / 256, by omega⟩ ⟨m % 256, by omega⟩
  simpa [show m / 256 * 256 + m % 256 = m by omega] using this
end Go.Proofs.Ytcedpdjjjfdbiaa
