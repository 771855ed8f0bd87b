/- Digests in digits, the code's and the document's; no condition. -/
import Derived.Test.YtoflfhjeabpcjaaSha7
namespace Go.Proofs.Ytoflfhjeabpcjaa
set_option linter.unusedVariables false
set_option linter.unusedSimpArgs false
open Go.RowKit

def digs : Bs := [48, 49, 50, 51, 52, 53, 54, 55, 56, 57, 97, 98, 99, 100, 101, 102]
def dig (n : Nat) : UInt8 := digs.getD n 0
def hexB (s : Bs) : Bs := s.flatMap fun c => [dig (c.toNat / 16), dig (c.toNat % 16)]
theorem hexB_len (s : Bs) : (hexB s).length = 2 * s.length := by
  induction s with
  | nil => rfl
  | cons c s ih => simp only [hexB, List.flatMap_cons, List.length_append, List.length_cons, List.length_nil] at *; omega
theorem hexB_take (s : Bs) (k : Nat) (h : k < s.length) : hexB (s.take (k + 1)) = hexB (s.take k) ++ [dig (s[k].toNat / 16), dig (s[k].toNat % 16)] := by
  rw [List.take_succ_eq_append_getElem h, hexB, hexB, List.flatMap_append, List.flatMap_singleton]
theorem digs_at (n : Nat) (h : n < 16) : (#[48, 49, 50, 51, 52, 53, 54, 55, 56, 57, 97, 98, 99, 100, 101, 102] : Array UInt8)[n]? = some (dig n) := by
  have : n = 0 ∨ n = 1 ∨ n = 2 ∨ n = 3 ∨ n = 4 ∨ n = 5 ∨ n = 6 ∨ n = 7 ∨ n = 8 ∨ n = 9 ∨ n = 10 ∨ n = 11 ∨ n = 12 ∨ n = 13 ∨ n = 14 ∨ n = 15 := by omega
  rcases this with rfl | rfl | rfl | rfl | rfl | rfl | rfl | rfl | rfl | rfl | rfl | rfl | rfl | rfl | rfl | rfl <;> rfl
theorem run_index_digs (n : Nat) (h : n < 16) (w : World) : (Instr.index 9 (.string ⟨#[48, 49, 50, 51, 52, 53, 54, 55, 56, 57, 97, 98, 99, 100, 101, 102]⟩) (.int .u8 (n : Int))).run Try.prog w = .ok (.int .u8 ((dig n).toNat : Int)) w := by
  have : n = 0 ∨ n = 1 ∨ n = 2 ∨ n = 3 ∨ n = 4 ∨ n = 5 ∨ n = 6 ∨ n = 7 ∨ n = 8 ∨ n = 9 ∨ n = 10 ∨ n = 11 ∨ n = 12 ∨ n = 13 ∨ n = 14 ∨ n = 15 := by omega
  rcases this with rfl | rfl | rfl | rfl | rfl | rfl | rfl | rfl | rfl | rfl | rfl | rfl | rfl | rfl | rfl | rfl <;> (simp [Instr.index, run_underlying Try.underlying9, asIntOf, go_sem]; rfl)
theorem u8_and15 (c : Nat) (h : c < 256) : bits .and .u8 (c : Int) 15 = ((c % 16 : Nat) : Int) := by
  have := (bits_nat .u8 8 (by decide) (fun n h0 h1 => by rw [IntKind.wrap_u8]; omega) c 15 (by omega) (by decide)).1
  rw [show (c &&& 15) = c % 16 from Nat.and_two_pow_sub_one_eq_mod c 4] at this
  exact this
theorem sumV_cells (s : Bs) : sumV s = .agg (s.map byteV).toArray := rfl

end Go.Proofs.Ytoflfhjeabpcjaa
