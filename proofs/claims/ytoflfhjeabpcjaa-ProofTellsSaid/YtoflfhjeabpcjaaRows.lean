/-
  No cell of these rows narrows 'for every input' (looked for: loops, veiled, ifaces, maps, wideKeys, modest, calm, conditions, laid).
  DERIVED. THE GIVEN ROWS OF THIS SEAT. 10 by the template 'for every input the law returns true; each argument reads behind the call as it read before'; 0 by the template 'total and deterministic' (their statements: YtoflfhjeabpcjaaTotals.lean).
  GIVEN WITH THE SEED: the statements are not yours to turn. If you find one false, say at which input.
  Laid BY PROGRAM, IN A SANDBOX (cutbox-rows.mjs): the forced cells as the released guide's own fill.sh prints them over the translation 986bb097ea67c213… (all of the seat's roots in one cut). By AI agents, Wed Nov 11 2026. No macro, syntax, notation, axiom, sorry.
-/
import Derived.Test.YtoflfhjeabpcjaaChecked
import GoSem.Claim
import GoSem.ClaimJoined
import GoSem.ClaimMapViews
import Derived.JoinedTies
import Derived.KernelRfl
namespace Go.Proofs.Ytoflfhjeabpcjaa
/- THE CELL 'sum', in the pinned program and in every row, IS THE sha256 OF THE DUMP (.gsa) THAT YtoflfhjeabpcjaaProg.lean LOADS. Nothing in Lean hashes anything: it is a label: what it is worth is what the hold of that sum in a sandbox is worth. -/
noncomputable def Try.pinned : Pinned := { name := "ytoflfhjeabpcjaa", sum := "986bb097ea67c213d4fa93ab94ac4e62e7eb5810b26de2aa2aa5d47ba6ddc464", checked := Try.checked }
namespace Rows
def none {H : Type} : Left H := { results := [], args := [] }

/-- 'vestrylaw04.TrieForks': WHATEVER THE INPUT: true; the input reads as it did. -/
def trieForksSpec : ChangeSpec := { name := "trieForks", fn := fun _ => fun
  | [d1, d2] => { results := [.lit (.bool true)], args := [d1, d2] }
  | _ => none }
def trieForksRow : OpenClaim := { program := "ytoflfhjeabpcjaa", sum := "986bb097ea67c213d4fa93ab94ac4e62e7eb5810b26de2aa2aa5d47ba6ddc464", func := "vestry/vestrylaw04.TrieForks", spec := "trieForks", recurses := true, apart := false }
def TrieForksSaid : Prop := trieForksRow.holds Try.pinned (OpenSpec.ofChange trieForksSpec)

/-- ITS FALSE NEIGHBOUR: 'it returns false'. Refute it at one input. -/
def trieForksWrong : ChangeSpec := { name := "trieForks", fn := fun _ => fun
  | [d1, d2] => { results := [.lit (.bool false)], args := [d1, d2] }
  | _ => none }
def TrieForksWrongFalsely : Prop := trieForksRow.holds Try.pinned (OpenSpec.ofChange trieForksWrong)

/-- 'vestrylaw04.TriePaths': WHATEVER THE INPUT: true; the input reads as it did. -/
def triePathsSpec : ChangeSpec := { name := "triePaths", fn := fun _ => fun
  | [d1, d2] => { results := [.lit (.bool true)], args := [d1, d2] }
  | _ => none }
def triePathsRow : OpenClaim := { program := "ytoflfhjeabpcjaa", sum := "986bb097ea67c213d4fa93ab94ac4e62e7eb5810b26de2aa2aa5d47ba6ddc464", func := "vestry/vestrylaw04.TriePaths", spec := "triePaths", recurses := true, apart := false }
def TriePathsSaid : Prop := triePathsRow.holds Try.pinned (OpenSpec.ofChange triePathsSpec)

/-- ITS FALSE NEIGHBOUR: 'it returns false'. Refute it at one input. -/
def triePathsWrong : ChangeSpec := { name := "triePaths", fn := fun _ => fun
  | [d1, d2] => { results := [.lit (.bool false)], args := [d1, d2] }
  | _ => none }
def TriePathsWrongFalsely : Prop := triePathsRow.holds Try.pinned (OpenSpec.ofChange triePathsWrong)

/-- 'vestrylaw04.TrieBits': WHATEVER THE INPUT: true; the input reads as it did. -/
def trieBitsSpec : ChangeSpec := { name := "trieBits", fn := fun _ => fun
  | [d1, d2, d3] => { results := [.lit (.bool true)], args := [d1, d2, d3] }
  | _ => none }
def trieBitsRow : OpenClaim := { program := "ytoflfhjeabpcjaa", sum := "986bb097ea67c213d4fa93ab94ac4e62e7eb5810b26de2aa2aa5d47ba6ddc464", func := "vestry/vestrylaw04.TrieBits", spec := "trieBits", inPlace := ["internal/bytealg.Compare"], recurses := true, apart := false }
def TrieBitsSaid : Prop := trieBitsRow.holds Try.pinned (OpenSpec.ofChange trieBitsSpec)

/-- ITS FALSE NEIGHBOUR: 'it returns false'. Refute it at one input. -/
def trieBitsWrong : ChangeSpec := { name := "trieBits", fn := fun _ => fun
  | [d1, d2, d3] => { results := [.lit (.bool false)], args := [d1, d2, d3] }
  | _ => none }
def TrieBitsWrongFalsely : Prop := trieBitsRow.holds Try.pinned (OpenSpec.ofChange trieBitsWrong)

/-- 'vestrylaw04.TriePlays': WHATEVER THE INPUT: true; the input reads as it did. -/
def triePlaysSpec : ChangeSpec := { name := "triePlays", fn := fun _ => fun
  | [d] => { results := [.lit (.bool true)], args := [d] }
  | _ => none }
def triePlaysRow : OpenClaim := { program := "ytoflfhjeabpcjaa", sum := "986bb097ea67c213d4fa93ab94ac4e62e7eb5810b26de2aa2aa5d47ba6ddc464", func := "vestry/vestrylaw04.TriePlays", spec := "triePlays", unfollowed := true, recurses := true, apart := false }
def TriePlaysSaid : Prop := triePlaysRow.holds Try.pinned (OpenSpec.ofChange triePlaysSpec)

/-- ITS FALSE NEIGHBOUR: 'it returns false'. Refute it at one input. -/
def triePlaysWrong : ChangeSpec := { name := "triePlays", fn := fun _ => fun
  | [d] => { results := [.lit (.bool false)], args := [d] }
  | _ => none }
def TriePlaysWrongFalsely : Prop := triePlaysRow.holds Try.pinned (OpenSpec.ofChange triePlaysWrong)

/-- 'vestrylaw04.TrieRoots': WHATEVER THE INPUT: true; the input reads as it did. -/
def trieRootsSpec : ChangeSpec := { name := "trieRoots", fn := fun _ => fun
  | [d1, d2, d3] => { results := [.lit (.bool true)], args := [d1, d2, d3] }
  | _ => none }
def trieRootsRow : OpenClaim := { program := "ytoflfhjeabpcjaa", sum := "986bb097ea67c213d4fa93ab94ac4e62e7eb5810b26de2aa2aa5d47ba6ddc464", func := "vestry/vestrylaw04.TrieRoots", spec := "trieRoots", inPlace := ["internal/bytealg.Compare"], unfollowed := true, recurses := true, apart := false }
def TrieRootsSaid : Prop := trieRootsRow.holds Try.pinned (OpenSpec.ofChange trieRootsSpec)

/-- ITS FALSE NEIGHBOUR: 'it returns false'. Refute it at one input. -/
def trieRootsWrong : ChangeSpec := { name := "trieRoots", fn := fun _ => fun
  | [d1, d2, d3] => { results := [.lit (.bool false)], args := [d1, d2, d3] }
  | _ => none }
def TrieRootsWrongFalsely : Prop := trieRootsRow.holds Try.pinned (OpenSpec.ofChange trieRootsWrong)

/-- 'vestrylaw05.ProofTells': WHATEVER THE INPUT: true; the input reads as it did. -/
def proofTellsSpec : ChangeSpec := { name := "proofTells", fn := fun _ => fun
  | [d1, d2, d3, d4] => { results := [.lit (.bool true)], args := [d1, d2, d3, d4] }
  | _ => none }
def proofTellsRow : OpenClaim := { program := "ytoflfhjeabpcjaa", sum := "986bb097ea67c213d4fa93ab94ac4e62e7eb5810b26de2aa2aa5d47ba6ddc464", func := "vestry/vestrylaw05.ProofTells", spec := "proofTells", unfollowed := true, recurses := true, apart := false }
def ProofTellsSaid : Prop := proofTellsRow.holds Try.pinned (OpenSpec.ofChange proofTellsSpec)

/-- ITS FALSE NEIGHBOUR: 'it returns false'. Refute it at one input. -/
def proofTellsWrong : ChangeSpec := { name := "proofTells", fn := fun _ => fun
  | [d1, d2, d3, d4] => { results := [.lit (.bool false)], args := [d1, d2, d3, d4] }
  | _ => none }
def ProofTellsWrongFalsely : Prop := proofTellsRow.holds Try.pinned (OpenSpec.ofChange proofTellsWrong)

/-- 'vestrylaw05.ProofOwn': WHATEVER THE INPUT: true; the input reads as it did. -/
def proofOwnSpec : ChangeSpec := { name := "proofOwn", fn := fun _ => fun
  | [d] => { results := [.lit (.bool true)], args := [d] }
  | _ => none }
def proofOwnRow : OpenClaim := { program := "ytoflfhjeabpcjaa", sum := "986bb097ea67c213d4fa93ab94ac4e62e7eb5810b26de2aa2aa5d47ba6ddc464", func := "vestry/vestrylaw05.ProofOwn", spec := "proofOwn", unfollowed := true, recurses := true, apart := false }
def ProofOwnSaid : Prop := proofOwnRow.holds Try.pinned (OpenSpec.ofChange proofOwnSpec)

/-- ITS FALSE NEIGHBOUR: 'it returns false'. Refute it at one input. -/
def proofOwnWrong : ChangeSpec := { name := "proofOwn", fn := fun _ => fun
  | [d] => { results := [.lit (.bool false)], args := [d] }
  | _ => none }
def ProofOwnWrongFalsely : Prop := proofOwnRow.holds Try.pinned (OpenSpec.ofChange proofOwnWrong)

/-- 'vestrylaw05.ProofSound': WHATEVER THE INPUT: true; the input reads as it did. -/
def proofSoundSpec : ChangeSpec := { name := "proofSound", fn := fun _ => fun
  | [d1, d2, d3] => { results := [.lit (.bool true)], args := [d1, d2, d3] }
  | _ => none }
def proofSoundRow : OpenClaim := { program := "ytoflfhjeabpcjaa", sum := "986bb097ea67c213d4fa93ab94ac4e62e7eb5810b26de2aa2aa5d47ba6ddc464", func := "vestry/vestrylaw05.ProofSound", spec := "proofSound", unfollowed := true, recurses := true, apart := false }
def ProofSoundSaid : Prop := proofSoundRow.holds Try.pinned (OpenSpec.ofChange proofSoundSpec)

/-- ITS FALSE NEIGHBOUR: 'it returns false'. Refute it at one input. -/
def proofSoundWrong : ChangeSpec := { name := "proofSound", fn := fun _ => fun
  | [d1, d2, d3] => { results := [.lit (.bool false)], args := [d1, d2, d3] }
  | _ => none }
def ProofSoundWrongFalsely : Prop := proofSoundRow.holds Try.pinned (OpenSpec.ofChange proofSoundWrong)

/-- 'vestrylaw05.ProofCodes': WHATEVER THE INPUT: true; the input reads as it did. -/
def proofCodesSpec : ChangeSpec := { name := "proofCodes", fn := fun _ => fun
  | [d1, d2] => { results := [.lit (.bool true)], args := [d1, d2] }
  | _ => none }
def proofCodesRow : OpenClaim := { program := "ytoflfhjeabpcjaa", sum := "986bb097ea67c213d4fa93ab94ac4e62e7eb5810b26de2aa2aa5d47ba6ddc464", func := "vestry/vestrylaw05.ProofCodes", spec := "proofCodes", unfollowed := true, recurses := true, apart := false }
def ProofCodesSaid : Prop := proofCodesRow.holds Try.pinned (OpenSpec.ofChange proofCodesSpec)

/-- ITS FALSE NEIGHBOUR: 'it returns false'. Refute it at one input. -/
def proofCodesWrong : ChangeSpec := { name := "proofCodes", fn := fun _ => fun
  | [d1, d2] => { results := [.lit (.bool false)], args := [d1, d2] }
  | _ => none }
def ProofCodesWrongFalsely : Prop := proofCodesRow.holds Try.pinned (OpenSpec.ofChange proofCodesWrong)

/-- 'vestrylaw05.ProofMakes': WHATEVER THE INPUT: true; the input reads as it did. -/
def proofMakesSpec : ChangeSpec := { name := "proofMakes", fn := fun _ => fun
  | [d1, d2] => { results := [.lit (.bool true)], args := [d1, d2] }
  | _ => none }
def proofMakesRow : OpenClaim := { program := "ytoflfhjeabpcjaa", sum := "986bb097ea67c213d4fa93ab94ac4e62e7eb5810b26de2aa2aa5d47ba6ddc464", func := "vestry/vestrylaw05.ProofMakes", spec := "proofMakes", unfollowed := true, recurses := true, apart := false }
def ProofMakesSaid : Prop := proofMakesRow.holds Try.pinned (OpenSpec.ofChange proofMakesSpec)

/-- ITS FALSE NEIGHBOUR: 'it returns false'. Refute it at one input. -/
def proofMakesWrong : ChangeSpec := { name := "proofMakes", fn := fun _ => fun
  | [d1, d2] => { results := [.lit (.bool false)], args := [d1, d2] }
  | _ => none }
def ProofMakesWrongFalsely : Prop := proofMakesRow.holds Try.pinned (OpenSpec.ofChange proofMakesWrong)

/- THE SECOND FORM. 'bulk': how many values and letters a reading holds, each counted each time it is reached (what is shared counts as often as it is met; a slice's spare places count too). A statement '..UptoSaid' is the law's where the arguments, and the package variables that the reading takes, are together of bulk at most 1048576: NARROWER than '..Said'. Prove '..Said' where nothing that the law and all that it calls make is longer than what came in: it says more and counts as full. Else prove '..UptoSaid'. A law counts once. -/
mutual
def uptoBulk {H : Type} : DataW H → Nat
  | .lit (.string bytes) => bytes.length + 1
  | .lit _ => 1
  | .nil => 1
  | .ptr d => uptoBulk d + 1
  | .slice elems spare => uptoBulkAll elems + uptoBulkAll spare + 1
  | .agg parts => uptoBulkAll parts + 1
  | .iface _ d => uptoBulk d + 1
  | .map entries => uptoBulkEntries entries + 1
  | .held _ => 1
def uptoBulkAll {H : Type} : List (DataW H) → Nat
  | [] => 0
  | d :: r => uptoBulk d + uptoBulkAll r
def uptoBulkEntries {H : Type} : List (Lit × DataW H) → Nat
  | [] => 0
  | x :: r => uptoBulkEntry x + uptoBulkEntries r
def uptoBulkEntry {H : Type} : Lit × DataW H → Nat
  | (.string bytes, d) => bytes.length + uptoBulk d + 1
  | (_, d) => uptoBulk d + 1
 end
def uptoSmall : (H : Type) → List (DataW H) → Bool := fun _ ds => decide (uptoBulkAll ds ≤ 1048576)
def OpenSpec.upto (s : _root_.Go.ChangeSpec) : _root_.Go.OpenSpec := { _root_.Go.OpenSpec.ofChange s with cond := some uptoSmall }

/-- 'vestrylaw04.TrieForks', WHERE WHAT IT READS IS OF BULK AT MOST 1048576: true; the input reads as it did. -/
def trieForksUptoRow : OpenClaim := { program := "ytoflfhjeabpcjaa", sum := "986bb097ea67c213d4fa93ab94ac4e62e7eb5810b26de2aa2aa5d47ba6ddc464", func := "vestry/vestrylaw04.TrieForks", spec := "trieForks", recurses := true, apart := false, narrowed := true }
def TrieForksUptoSaid : Prop := trieForksUptoRow.holds Try.pinned (OpenSpec.upto trieForksSpec)

/-- 'vestrylaw04.TriePaths', WHERE WHAT IT READS IS OF BULK AT MOST 1048576: true; the input reads as it did. -/
def triePathsUptoRow : OpenClaim := { program := "ytoflfhjeabpcjaa", sum := "986bb097ea67c213d4fa93ab94ac4e62e7eb5810b26de2aa2aa5d47ba6ddc464", func := "vestry/vestrylaw04.TriePaths", spec := "triePaths", recurses := true, apart := false, narrowed := true }
def TriePathsUptoSaid : Prop := triePathsUptoRow.holds Try.pinned (OpenSpec.upto triePathsSpec)

/-- 'vestrylaw04.TrieBits', WHERE WHAT IT READS IS OF BULK AT MOST 1048576: true; the input reads as it did. -/
def trieBitsUptoRow : OpenClaim := { program := "ytoflfhjeabpcjaa", sum := "986bb097ea67c213d4fa93ab94ac4e62e7eb5810b26de2aa2aa5d47ba6ddc464", func := "vestry/vestrylaw04.TrieBits", spec := "trieBits", inPlace := ["internal/bytealg.Compare"], recurses := true, apart := false, narrowed := true }
def TrieBitsUptoSaid : Prop := trieBitsUptoRow.holds Try.pinned (OpenSpec.upto trieBitsSpec)

/-- 'vestrylaw04.TriePlays', WHERE WHAT IT READS IS OF BULK AT MOST 1048576: true; the input reads as it did. -/
def triePlaysUptoRow : OpenClaim := { program := "ytoflfhjeabpcjaa", sum := "986bb097ea67c213d4fa93ab94ac4e62e7eb5810b26de2aa2aa5d47ba6ddc464", func := "vestry/vestrylaw04.TriePlays", spec := "triePlays", unfollowed := true, recurses := true, apart := false, narrowed := true }
def TriePlaysUptoSaid : Prop := triePlaysUptoRow.holds Try.pinned (OpenSpec.upto triePlaysSpec)

/-- 'vestrylaw04.TrieRoots', WHERE WHAT IT READS IS OF BULK AT MOST 1048576: true; the input reads as it did. -/
def trieRootsUptoRow : OpenClaim := { program := "ytoflfhjeabpcjaa", sum := "986bb097ea67c213d4fa93ab94ac4e62e7eb5810b26de2aa2aa5d47ba6ddc464", func := "vestry/vestrylaw04.TrieRoots", spec := "trieRoots", inPlace := ["internal/bytealg.Compare"], unfollowed := true, recurses := true, apart := false, narrowed := true }
def TrieRootsUptoSaid : Prop := trieRootsUptoRow.holds Try.pinned (OpenSpec.upto trieRootsSpec)

/-- 'vestrylaw05.ProofTells', WHERE WHAT IT READS IS OF BULK AT MOST 1048576: true; the input reads as it did. -/
def proofTellsUptoRow : OpenClaim := { program := "ytoflfhjeabpcjaa", sum := "986bb097ea67c213d4fa93ab94ac4e62e7eb5810b26de2aa2aa5d47ba6ddc464", func := "vestry/vestrylaw05.ProofTells", spec := "proofTells", unfollowed := true, recurses := true, apart := false, narrowed := true }
def ProofTellsUptoSaid : Prop := proofTellsUptoRow.holds Try.pinned (OpenSpec.upto proofTellsSpec)

/-- 'vestrylaw05.ProofOwn', WHERE WHAT IT READS IS OF BULK AT MOST 1048576: true; the input reads as it did. -/
def proofOwnUptoRow : OpenClaim := { program := "ytoflfhjeabpcjaa", sum := "986bb097ea67c213d4fa93ab94ac4e62e7eb5810b26de2aa2aa5d47ba6ddc464", func := "vestry/vestrylaw05.ProofOwn", spec := "proofOwn", unfollowed := true, recurses := true, apart := false, narrowed := true }
def ProofOwnUptoSaid : Prop := proofOwnUptoRow.holds Try.pinned (OpenSpec.upto proofOwnSpec)

/-- 'vestrylaw05.ProofSound', WHERE WHAT IT READS IS OF BULK AT MOST 1048576: true; the input reads as it did. -/
def proofSoundUptoRow : OpenClaim := { program := "ytoflfhjeabpcjaa", sum := "986bb097ea67c213d4fa93ab94ac4e62e7eb5810b26de2aa2aa5d47ba6ddc464", func := "vestry/vestrylaw05.ProofSound", spec := "proofSound", unfollowed := true, recurses := true, apart := false, narrowed := true }
def ProofSoundUptoSaid : Prop := proofSoundUptoRow.holds Try.pinned (OpenSpec.upto proofSoundSpec)

/-- 'vestrylaw05.ProofCodes', WHERE WHAT IT READS IS OF BULK AT MOST 1048576: true; the input reads as it did. -/
def proofCodesUptoRow : OpenClaim := { program := "ytoflfhjeabpcjaa", sum := "986bb097ea67c213d4fa93ab94ac4e62e7eb5810b26de2aa2aa5d47ba6ddc464", func := "vestry/vestrylaw05.ProofCodes", spec := "proofCodes", unfollowed := true, recurses := true, apart := false, narrowed := true }
def ProofCodesUptoSaid : Prop := proofCodesUptoRow.holds Try.pinned (OpenSpec.upto proofCodesSpec)

/-- 'vestrylaw05.ProofMakes', WHERE WHAT IT READS IS OF BULK AT MOST 1048576: true; the input reads as it did. -/
def proofMakesUptoRow : OpenClaim := { program := "ytoflfhjeabpcjaa", sum := "986bb097ea67c213d4fa93ab94ac4e62e7eb5810b26de2aa2aa5d47ba6ddc464", func := "vestry/vestrylaw05.ProofMakes", spec := "proofMakes", unfollowed := true, recurses := true, apart := false, narrowed := true }
def ProofMakesUptoSaid : Prop := proofMakesUptoRow.holds Try.pinned (OpenSpec.upto proofMakesSpec)

end Rows
end Go.Proofs.Ytoflfhjeabpcjaa
