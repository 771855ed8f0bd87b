/-
  No cell of these rows narrows 'for every input' (looked for: loops, veiled, ifaces, maps, wideKeys, modest, calm, conditions, laid).
  DERIVED. THE GIVEN ROWS OF THIS SEAT. 5 by the template 'for every input the law returns true; each argument reads behind the call as it read before'; 0 by the template 'total and deterministic' (their statements: YtipmfopjhgagiaaTotals.lean).
  GIVEN WITH THE SEED: the statements are not yours to turn. If you find one false, say at which input.
  Laid BY PROGRAM, IN A SANDBOX (cutbox-rows.mjs): the forced cells as the released guide's own fill.sh prints them over the translation 8d70454120fb5e6b… (all of the seat's roots in one cut). By AI agents, Wed Nov 11 2026. No macro, syntax, notation, axiom, sorry.
-/
import Derived.Test.YtipmfopjhgagiaaChecked
import GoSem.Claim
import GoSem.ClaimJoined
import GoSem.ClaimMapViews
import Derived.JoinedTies
import Derived.KernelRfl
namespace Go.Proofs.Ytipmfopjhgagiaa
/- THE CELL 'sum', in the pinned program and in every row, IS THE sha256 OF THE DUMP (.gsa) THAT YtipmfopjhgagiaaProg.lean LOADS. Nothing in Lean hashes anything: it is a label: what it is worth is what the hold of that sum in a sandbox is worth. -/
noncomputable def Try.pinned : Pinned := { name := "ytipmfopjhgagiaa", sum := "8d70454120fb5e6b2e524df47962c5f2893d7ef0ee5bd6e999eb40cd837db484", checked := Try.checked }
namespace Rows
def none {H : Type} : Left H := { results := [], args := [] }

/-- 'vestrylaw06.QuorumSizes': WHATEVER THE INPUT: true; the input reads as it did. -/
def quorumSizesSpec : ChangeSpec := { name := "quorumSizes", fn := fun _ => fun
  | [d1, d2] => { results := [.lit (.bool true)], args := [d1, d2] }
  | _ => none }
def quorumSizesRow : OpenClaim := { program := "ytipmfopjhgagiaa", sum := "8d70454120fb5e6b2e524df47962c5f2893d7ef0ee5bd6e999eb40cd837db484", func := "vestry/vestrylaw06.QuorumSizes", spec := "quorumSizes", apart := false }
def QuorumSizesSaid : Prop := quorumSizesRow.holds Try.pinned (OpenSpec.ofChange quorumSizesSpec)

/-- ITS FALSE NEIGHBOUR: 'it returns false'. Refute it at one input. -/
def quorumSizesWrong : ChangeSpec := { name := "quorumSizes", fn := fun _ => fun
  | [d1, d2] => { results := [.lit (.bool false)], args := [d1, d2] }
  | _ => none }
def QuorumSizesWrongFalsely : Prop := quorumSizesRow.holds Try.pinned (OpenSpec.ofChange quorumSizesWrong)

/-- 'vestrylaw06.QuorumAgrees': WHATEVER THE INPUT: true; the input reads as it did. -/
def quorumAgreesSpec : ChangeSpec := { name := "quorumAgrees", fn := fun _ => fun
  | [d1, d2] => { results := [.lit (.bool true)], args := [d1, d2] }
  | _ => none }
def quorumAgreesRow : OpenClaim := { program := "ytipmfopjhgagiaa", sum := "8d70454120fb5e6b2e524df47962c5f2893d7ef0ee5bd6e999eb40cd837db484", func := "vestry/vestrylaw06.QuorumAgrees", spec := "quorumAgrees", apart := false }
def QuorumAgreesSaid : Prop := quorumAgreesRow.holds Try.pinned (OpenSpec.ofChange quorumAgreesSpec)

/-- ITS FALSE NEIGHBOUR: 'it returns false'. Refute it at one input. -/
def quorumAgreesWrong : ChangeSpec := { name := "quorumAgrees", fn := fun _ => fun
  | [d1, d2] => { results := [.lit (.bool false)], args := [d1, d2] }
  | _ => none }
def QuorumAgreesWrongFalsely : Prop := quorumAgreesRow.holds Try.pinned (OpenSpec.ofChange quorumAgreesWrong)

/-- 'vestrylaw06.QuorumMeets': WHATEVER THE INPUT: true; the input reads as it did. -/
def quorumMeetsSpec : ChangeSpec := { name := "quorumMeets", fn := fun _ => fun
  | [d1, d2, d3, d4] => { results := [.lit (.bool true)], args := [d1, d2, d3, d4] }
  | _ => none }
def quorumMeetsRow : OpenClaim := { program := "ytipmfopjhgagiaa", sum := "8d70454120fb5e6b2e524df47962c5f2893d7ef0ee5bd6e999eb40cd837db484", func := "vestry/vestrylaw06.QuorumMeets", spec := "quorumMeets", apart := false }
def QuorumMeetsSaid : Prop := quorumMeetsRow.holds Try.pinned (OpenSpec.ofChange quorumMeetsSpec)

/-- ITS FALSE NEIGHBOUR: 'it returns false'. Refute it at one input. -/
def quorumMeetsWrong : ChangeSpec := { name := "quorumMeets", fn := fun _ => fun
  | [d1, d2, d3, d4] => { results := [.lit (.bool false)], args := [d1, d2, d3, d4] }
  | _ => none }
def QuorumMeetsWrongFalsely : Prop := quorumMeetsRow.holds Try.pinned (OpenSpec.ofChange quorumMeetsWrong)

/-- 'vestrylaw06.QuorumNumbers': WHATEVER THE INPUT: true; the input reads as it did. -/
def quorumNumbersSpec : ChangeSpec := { name := "quorumNumbers", fn := fun _ => fun
  | [d] => { results := [.lit (.bool true)], args := [d] }
  | _ => none }
def quorumNumbersRow : OpenClaim := { program := "ytipmfopjhgagiaa", sum := "8d70454120fb5e6b2e524df47962c5f2893d7ef0ee5bd6e999eb40cd837db484", func := "vestry/vestrylaw06.QuorumNumbers", spec := "quorumNumbers", apart := false }
def QuorumNumbersSaid : Prop := quorumNumbersRow.holds Try.pinned (OpenSpec.ofChange quorumNumbersSpec)

/-- ITS FALSE NEIGHBOUR: 'it returns false'. Refute it at one input. -/
def quorumNumbersWrong : ChangeSpec := { name := "quorumNumbers", fn := fun _ => fun
  | [d] => { results := [.lit (.bool false)], args := [d] }
  | _ => none }
def QuorumNumbersWrongFalsely : Prop := quorumNumbersRow.holds Try.pinned (OpenSpec.ofChange quorumNumbersWrong)

/-- 'vestrylaw06.QuorumOne': WHATEVER THE INPUT: true; the input reads as it did. -/
def quorumOneSpec : ChangeSpec := { name := "quorumOne", fn := fun _ => fun
  | [d1, d2, d3] => { results := [.lit (.bool true)], args := [d1, d2, d3] }
  | _ => none }
def quorumOneRow : OpenClaim := { program := "ytipmfopjhgagiaa", sum := "8d70454120fb5e6b2e524df47962c5f2893d7ef0ee5bd6e999eb40cd837db484", func := "vestry/vestrylaw06.QuorumOne", spec := "quorumOne", apart := false }
def QuorumOneSaid : Prop := quorumOneRow.holds Try.pinned (OpenSpec.ofChange quorumOneSpec)

/-- ITS FALSE NEIGHBOUR: 'it returns false'. Refute it at one input. -/
def quorumOneWrong : ChangeSpec := { name := "quorumOne", fn := fun _ => fun
  | [d1, d2, d3] => { results := [.lit (.bool false)], args := [d1, d2, d3] }
  | _ => none }
def QuorumOneWrongFalsely : Prop := quorumOneRow.holds Try.pinned (OpenSpec.ofChange quorumOneWrong)

/- THE SECOND FORM. 'bulk': how many values and letters a reading holds, each counted each time it is reached (what is shared counts as often as it is met; a slice's spare places count too). A statement '..UptoSaid' is the law's where the arguments, and the package variables that the reading takes, are together of bulk at most 1048576: NARROWER than '..Said'. Prove '..Said' where nothing that the law and all that it calls make is longer than what came in: it says more and counts as full. Else prove '..UptoSaid'. A law counts once. -/
mutual
def uptoBulk {H : Type} : DataW H → Nat
  | .lit (.string bytes) => bytes.length + 1
  | .lit _ => 1
  | .nil => 1
  | .ptr d => uptoBulk d + 1
  | .slice elems spare => uptoBulkAll elems + uptoBulkAll spare + 1
  | .agg parts => uptoBulkAll parts + 1
  | .iface _ d => uptoBulk d + 1
  | .map entries => uptoBulkEntries entries + 1
  | .held _ => 1
def uptoBulkAll {H : Type} : List (DataW H) → Nat
  | [] => 0
  | d :: r => uptoBulk d + uptoBulkAll r
def uptoBulkEntries {H : Type} : List (Lit × DataW H) → Nat
  | [] => 0
  | x :: r => uptoBulkEntry x + uptoBulkEntries r
def uptoBulkEntry {H : Type} : Lit × DataW H → Nat
  | (.string bytes, d) => bytes.length + uptoBulk d + 1
  | (_, d) => uptoBulk d + 1
 end
def uptoSmall : (H : Type) → List (DataW H) → Bool := fun _ ds => decide (uptoBulkAll ds ≤ 1048576)
def OpenSpec.upto (s : _root_.Go.ChangeSpec) : _root_.Go.OpenSpec := { _root_.Go.OpenSpec.ofChange s with cond := some uptoSmall }

/-- 'vestrylaw06.QuorumSizes', WHERE WHAT IT READS IS OF BULK AT MOST 1048576: true; the input reads as it did. -/
def quorumSizesUptoRow : OpenClaim := { program := "ytipmfopjhgagiaa", sum := "8d70454120fb5e6b2e524df47962c5f2893d7ef0ee5bd6e999eb40cd837db484", func := "vestry/vestrylaw06.QuorumSizes", spec := "quorumSizes", apart := false, narrowed := true }
def QuorumSizesUptoSaid : Prop := quorumSizesUptoRow.holds Try.pinned (OpenSpec.upto quorumSizesSpec)

/-- 'vestrylaw06.QuorumAgrees', WHERE WHAT IT READS IS OF BULK AT MOST 1048576: true; the input reads as it did. -/
def quorumAgreesUptoRow : OpenClaim := { program := "ytipmfopjhgagiaa", sum := "8d70454120fb5e6b2e524df47962c5f2893d7ef0ee5bd6e999eb40cd837db484", func := "vestry/vestrylaw06.QuorumAgrees", spec := "quorumAgrees", apart := false, narrowed := true }
def QuorumAgreesUptoSaid : Prop := quorumAgreesUptoRow.holds Try.pinned (OpenSpec.upto quorumAgreesSpec)

/-- 'vestrylaw06.QuorumMeets', WHERE WHAT IT READS IS OF BULK AT MOST 1048576: true; the input reads as it did. -/
def quorumMeetsUptoRow : OpenClaim := { program := "ytipmfopjhgagiaa", sum := "8d70454120fb5e6b2e524df47962c5f2893d7ef0ee5bd6e999eb40cd837db484", func := "vestry/vestrylaw06.QuorumMeets", spec := "quorumMeets", apart := false, narrowed := true }
def QuorumMeetsUptoSaid : Prop := quorumMeetsUptoRow.holds Try.pinned (OpenSpec.upto quorumMeetsSpec)

/-- 'vestrylaw06.QuorumNumbers', WHERE WHAT IT READS IS OF BULK AT MOST 1048576: true; the input reads as it did. -/
def quorumNumbersUptoRow : OpenClaim := { program := "ytipmfopjhgagiaa", sum := "8d70454120fb5e6b2e524df47962c5f2893d7ef0ee5bd6e999eb40cd837db484", func := "vestry/vestrylaw06.QuorumNumbers", spec := "quorumNumbers", apart := false, narrowed := true }
def QuorumNumbersUptoSaid : Prop := quorumNumbersUptoRow.holds Try.pinned (OpenSpec.upto quorumNumbersSpec)

/-- 'vestrylaw06.QuorumOne', WHERE WHAT IT READS IS OF BULK AT MOST 1048576: true; the input reads as it did. -/
def quorumOneUptoRow : OpenClaim := { program := "ytipmfopjhgagiaa", sum := "8d70454120fb5e6b2e524df47962c5f2893d7ef0ee5bd6e999eb40cd837db484", func := "vestry/vestrylaw06.QuorumOne", spec := "quorumOne", apart := false, narrowed := true }
def QuorumOneUptoSaid : Prop := quorumOneUptoRow.holds Try.pinned (OpenSpec.upto quorumOneSpec)

end Rows
end Go.Proofs.Ytipmfopjhgagiaa
