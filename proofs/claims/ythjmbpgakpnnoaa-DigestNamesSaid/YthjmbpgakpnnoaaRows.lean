/-
  No cell of these rows narrows 'for every input' (looked for: loops, veiled, ifaces, maps, wideKeys, modest, calm, conditions, laid).
  DERIVED. THE GIVEN ROWS OF THIS SEAT. 6 by the template 'for every input the law returns true; each argument reads behind the call as it read before'; 0 by the template 'total and deterministic' (their statements: YthjmbpgakpnnoaaTotals.lean).
  GIVEN WITH THE SEED: the statements are not yours to turn. If you find one false, say at which input.
  Laid BY PROGRAM, IN A SANDBOX (cutbox-rows.mjs): the forced cells as the released guide's own fill.sh prints them over the translation f9d7be92e2fb4d1e… (all of the seat's roots in one cut). By AI agents, Wed Nov 11 2026. No macro, syntax, notation, axiom, sorry.
-/
import Derived.Test.YthjmbpgakpnnoaaChecked
import GoSem.Claim
import GoSem.ClaimJoined
import GoSem.ClaimMapViews
import Derived.JoinedTies
import Derived.KernelRfl
namespace Go.Proofs.Ythjmbpgakpnnoaa
/- THE CELL 'sum', in the pinned program and in every row, IS THE sha256 OF THE DUMP (.gsa) THAT YthjmbpgakpnnoaaProg.lean LOADS. Nothing in Lean hashes anything: it is a label: what it is worth is what the hold of that sum in a sandbox is worth. -/
noncomputable def Try.pinned : Pinned := { name := "ythjmbpgakpnnoaa", sum := "f9d7be92e2fb4d1e07fc4b9533271b6aa27e867f5ea6ab166fd672eb69c229da", checked := Try.checked }
namespace Rows
def none {H : Type} : Left H := { results := [], args := [] }

/-- 'vestrylaw02.DigestRaws': WHATEVER THE INPUT: true; the input reads as it did. -/
def digestRawsSpec : ChangeSpec := { name := "digestRaws", fn := fun _ => fun
  | [d] => { results := [.lit (.bool true)], args := [d] }
  | _ => none }
def digestRawsRow : OpenClaim := { program := "ythjmbpgakpnnoaa", sum := "f9d7be92e2fb4d1e07fc4b9533271b6aa27e867f5ea6ab166fd672eb69c229da", func := "vestry/vestrylaw02.DigestRaws", spec := "digestRaws", apart := false }
def DigestRawsSaid : Prop := digestRawsRow.holds Try.pinned (OpenSpec.ofChange digestRawsSpec)

/-- ITS FALSE NEIGHBOUR: 'it returns false'. Refute it at one input. -/
def digestRawsWrong : ChangeSpec := { name := "digestRaws", fn := fun _ => fun
  | [d] => { results := [.lit (.bool false)], args := [d] }
  | _ => none }
def DigestRawsWrongFalsely : Prop := digestRawsRow.holds Try.pinned (OpenSpec.ofChange digestRawsWrong)

/-- 'vestrylaw02.DigestApart': WHATEVER THE INPUT: true; the input reads as it did. -/
def digestApartSpec : ChangeSpec := { name := "digestApart", fn := fun _ => fun
  | [d1, d2, d3, d4] => { results := [.lit (.bool true)], args := [d1, d2, d3, d4] }
  | _ => none }
def digestApartRow : OpenClaim := { program := "ythjmbpgakpnnoaa", sum := "f9d7be92e2fb4d1e07fc4b9533271b6aa27e867f5ea6ab166fd672eb69c229da", func := "vestry/vestrylaw02.DigestApart", spec := "digestApart", apart := false }
def DigestApartSaid : Prop := digestApartRow.holds Try.pinned (OpenSpec.ofChange digestApartSpec)

/-- ITS FALSE NEIGHBOUR: 'it returns false'. Refute it at one input. -/
def digestApartWrong : ChangeSpec := { name := "digestApart", fn := fun _ => fun
  | [d1, d2, d3, d4] => { results := [.lit (.bool false)], args := [d1, d2, d3, d4] }
  | _ => none }
def DigestApartWrongFalsely : Prop := digestApartRow.holds Try.pinned (OpenSpec.ofChange digestApartWrong)

/-- 'vestrylaw02.DigestNames': WHATEVER THE INPUT: true; the input reads as it did. -/
def digestNamesSpec : ChangeSpec := { name := "digestNames", fn := fun _ => fun
  | [d1, d2] => { results := [.lit (.bool true)], args := [d1, d2] }
  | _ => none }
def digestNamesRow : OpenClaim := { program := "ythjmbpgakpnnoaa", sum := "f9d7be92e2fb4d1e07fc4b9533271b6aa27e867f5ea6ab166fd672eb69c229da", func := "vestry/vestrylaw02.DigestNames", spec := "digestNames", apart := false }
def DigestNamesSaid : Prop := digestNamesRow.holds Try.pinned (OpenSpec.ofChange digestNamesSpec)

/-- ITS FALSE NEIGHBOUR: 'it returns false'. Refute it at one input. -/
def digestNamesWrong : ChangeSpec := { name := "digestNames", fn := fun _ => fun
  | [d1, d2] => { results := [.lit (.bool false)], args := [d1, d2] }
  | _ => none }
def DigestNamesWrongFalsely : Prop := digestNamesRow.holds Try.pinned (OpenSpec.ofChange digestNamesWrong)

/-- 'vestrylaw02.DigestParts': WHATEVER THE INPUT: true; the input reads as it did. -/
def digestPartsSpec : ChangeSpec := { name := "digestParts", fn := fun _ => fun
  | [d1, d2] => { results := [.lit (.bool true)], args := [d1, d2] }
  | _ => none }
def digestPartsRow : OpenClaim := { program := "ythjmbpgakpnnoaa", sum := "f9d7be92e2fb4d1e07fc4b9533271b6aa27e867f5ea6ab166fd672eb69c229da", func := "vestry/vestrylaw02.DigestParts", spec := "digestParts", apart := false }
def DigestPartsSaid : Prop := digestPartsRow.holds Try.pinned (OpenSpec.ofChange digestPartsSpec)

/-- ITS FALSE NEIGHBOUR: 'it returns false'. Refute it at one input. -/
def digestPartsWrong : ChangeSpec := { name := "digestParts", fn := fun _ => fun
  | [d1, d2] => { results := [.lit (.bool false)], args := [d1, d2] }
  | _ => none }
def DigestPartsWrongFalsely : Prop := digestPartsRow.holds Try.pinned (OpenSpec.ofChange digestPartsWrong)

/-- 'vestrylaw02.DigestHexes': WHATEVER THE INPUT: true; the input reads as it did. -/
def digestHexesSpec : ChangeSpec := { name := "digestHexes", fn := fun _ => fun
  | [d1, d2] => { results := [.lit (.bool true)], args := [d1, d2] }
  | _ => none }
def digestHexesRow : OpenClaim := { program := "ythjmbpgakpnnoaa", sum := "f9d7be92e2fb4d1e07fc4b9533271b6aa27e867f5ea6ab166fd672eb69c229da", func := "vestry/vestrylaw02.DigestHexes", spec := "digestHexes", apart := false }
def DigestHexesSaid : Prop := digestHexesRow.holds Try.pinned (OpenSpec.ofChange digestHexesSpec)

/-- ITS FALSE NEIGHBOUR: 'it returns false'. Refute it at one input. -/
def digestHexesWrong : ChangeSpec := { name := "digestHexes", fn := fun _ => fun
  | [d1, d2] => { results := [.lit (.bool false)], args := [d1, d2] }
  | _ => none }
def DigestHexesWrongFalsely : Prop := digestHexesRow.holds Try.pinned (OpenSpec.ofChange digestHexesWrong)

/-- 'vestrylaw02.DigestBack': WHATEVER THE INPUT: true; the input reads as it did. -/
def digestBackSpec : ChangeSpec := { name := "digestBack", fn := fun _ => fun
  | [d1, d2] => { results := [.lit (.bool true)], args := [d1, d2] }
  | _ => none }
def digestBackRow : OpenClaim := { program := "ythjmbpgakpnnoaa", sum := "f9d7be92e2fb4d1e07fc4b9533271b6aa27e867f5ea6ab166fd672eb69c229da", func := "vestry/vestrylaw02.DigestBack", spec := "digestBack", apart := false }
def DigestBackSaid : Prop := digestBackRow.holds Try.pinned (OpenSpec.ofChange digestBackSpec)

/-- ITS FALSE NEIGHBOUR: 'it returns false'. Refute it at one input. -/
def digestBackWrong : ChangeSpec := { name := "digestBack", fn := fun _ => fun
  | [d1, d2] => { results := [.lit (.bool false)], args := [d1, d2] }
  | _ => none }
def DigestBackWrongFalsely : Prop := digestBackRow.holds Try.pinned (OpenSpec.ofChange digestBackWrong)

/- THE SECOND FORM. 'bulk': how many values and letters a reading holds, each counted each time it is reached (what is shared counts as often as it is met; a slice's spare places count too). A statement '..UptoSaid' is the law's where the arguments, and the package variables that the reading takes, are together of bulk at most 1048576: NARROWER than '..Said'. Prove '..Said' where nothing that the law and all that it calls make is longer than what came in: it says more and counts as full. Else prove '..UptoSaid'. A law counts once. -/
mutual
def uptoBulk {H : Type} : DataW H → Nat
  | .lit (.string bytes) => bytes.length + 1
  | .lit _ => 1
  | .nil => 1
  | .ptr d => uptoBulk d + 1
  | .slice elems spare => uptoBulkAll elems + uptoBulkAll spare + 1
  | .agg parts => uptoBulkAll parts + 1
  | .iface _ d => uptoBulk d + 1
  | .map entries => uptoBulkEntries entries + 1
  | .held _ => 1
def uptoBulkAll {H : Type} : List (DataW H) → Nat
  | [] => 0
  | d :: r => uptoBulk d + uptoBulkAll r
def uptoBulkEntries {H : Type} : List (Lit × DataW H) → Nat
  | [] => 0
  | x :: r => uptoBulkEntry x + uptoBulkEntries r
def uptoBulkEntry {H : Type} : Lit × DataW H → Nat
  | (.string bytes, d) => bytes.length + uptoBulk d + 1
  | (_, d) => uptoBulk d + 1
 end
def uptoSmall : (H : Type) → List (DataW H) → Bool := fun _ ds => decide (uptoBulkAll ds ≤ 1048576)
def OpenSpec.upto (s : _root_.Go.ChangeSpec) : _root_.Go.OpenSpec := { _root_.Go.OpenSpec.ofChange s with cond := some uptoSmall }

/-- 'vestrylaw02.DigestRaws', WHERE WHAT IT READS IS OF BULK AT MOST 1048576: true; the input reads as it did. -/
def digestRawsUptoRow : OpenClaim := { program := "ythjmbpgakpnnoaa", sum := "f9d7be92e2fb4d1e07fc4b9533271b6aa27e867f5ea6ab166fd672eb69c229da", func := "vestry/vestrylaw02.DigestRaws", spec := "digestRaws", apart := false, narrowed := true }
def DigestRawsUptoSaid : Prop := digestRawsUptoRow.holds Try.pinned (OpenSpec.upto digestRawsSpec)

/-- 'vestrylaw02.DigestApart', WHERE WHAT IT READS IS OF BULK AT MOST 1048576: true; the input reads as it did. -/
def digestApartUptoRow : OpenClaim := { program := "ythjmbpgakpnnoaa", sum := "f9d7be92e2fb4d1e07fc4b9533271b6aa27e867f5ea6ab166fd672eb69c229da", func := "vestry/vestrylaw02.DigestApart", spec := "digestApart", apart := false, narrowed := true }
def DigestApartUptoSaid : Prop := digestApartUptoRow.holds Try.pinned (OpenSpec.upto digestApartSpec)

/-- 'vestrylaw02.DigestNames', WHERE WHAT IT READS IS OF BULK AT MOST 1048576: true; the input reads as it did. -/
def digestNamesUptoRow : OpenClaim := { program := "ythjmbpgakpnnoaa", sum := "f9d7be92e2fb4d1e07fc4b9533271b6aa27e867f5ea6ab166fd672eb69c229da", func := "vestry/vestrylaw02.DigestNames", spec := "digestNames", apart := false, narrowed := true }
def DigestNamesUptoSaid : Prop := digestNamesUptoRow.holds Try.pinned (OpenSpec.upto digestNamesSpec)

/-- 'vestrylaw02.DigestParts', WHERE WHAT IT READS IS OF BULK AT MOST 1048576: true; the input reads as it did. -/
def digestPartsUptoRow : OpenClaim := { program := "ythjmbpgakpnnoaa", sum := "f9d7be92e2fb4d1e07fc4b9533271b6aa27e867f5ea6ab166fd672eb69c229da", func := "vestry/vestrylaw02.DigestParts", spec := "digestParts", apart := false, narrowed := true }
def DigestPartsUptoSaid : Prop := digestPartsUptoRow.holds Try.pinned (OpenSpec.upto digestPartsSpec)

/-- 'vestrylaw02.DigestHexes', WHERE WHAT IT READS IS OF BULK AT MOST 1048576: true; the input reads as it did. -/
def digestHexesUptoRow : OpenClaim := { program := "ythjmbpgakpnnoaa", sum := "f9d7be92e2fb4d1e07fc4b9533271b6aa27e867f5ea6ab166fd672eb69c229da", func := "vestry/vestrylaw02.DigestHexes", spec := "digestHexes", apart := false, narrowed := true }
def DigestHexesUptoSaid : Prop := digestHexesUptoRow.holds Try.pinned (OpenSpec.upto digestHexesSpec)

/-- 'vestrylaw02.DigestBack', WHERE WHAT IT READS IS OF BULK AT MOST 1048576: true; the input reads as it did. -/
def digestBackUptoRow : OpenClaim := { program := "ythjmbpgakpnnoaa", sum := "f9d7be92e2fb4d1e07fc4b9533271b6aa27e867f5ea6ab166fd672eb69c229da", func := "vestry/vestrylaw02.DigestBack", spec := "digestBack", apart := false, narrowed := true }
def DigestBackUptoSaid : Prop := digestBackUptoRow.holds Try.pinned (OpenSpec.upto digestBackSpec)

end Rows
end Go.Proofs.Ythjmbpgakpnnoaa
