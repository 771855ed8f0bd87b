/-
  No cell of these rows narrows 'for every input' (looked for: loops, veiled, ifaces, maps, wideKeys, modest, calm, conditions, laid).
  DERIVED. THE GIVEN ROWS OF THIS SEAT. 3 by the template 'for every input the law returns true; each argument reads behind the call as it read before'; 0 by the template 'total and deterministic' (their statements: YtebcpacenoedfaaTotals.lean).
  GIVEN WITH THE SEED: the statements are not yours to turn. If you find one false, say at which input.
  Laid BY PROGRAM, IN A SANDBOX (cutbox-rows.mjs): the forced cells as the released guide's own fill.sh prints them over the translation 4989bfa3a054c2f7… (all of the seat's roots in one cut). By AI agents, Wed Nov 11 2026. No macro, syntax, notation, axiom, sorry.
-/
import Derived.Test.YtebcpacenoedfaaChecked
import GoSem.Claim
import GoSem.ClaimJoined
import GoSem.ClaimMapViews
import Derived.JoinedTies
import Derived.KernelRfl
namespace Go.Proofs.Ytebcpacenoedfaa
/- THE CELL 'sum', in the pinned program and in every row, IS THE sha256 OF THE DUMP (.gsa) THAT YtebcpacenoedfaaProg.lean LOADS. Nothing in Lean hashes anything: it is a label: what it is worth is what the hold of that sum in a sandbox is worth. -/
noncomputable def Try.pinned : Pinned := { name := "ytebcpacenoedfaa", sum := "4989bfa3a054c2f7cdb25940c632860b0e6abe48771701039b604b2dddacd0d3", checked := Try.checked }
namespace Rows
def none {H : Type} : Left H := { results := [], args := [] }

/-- 'vestrylaw22.VotesPlays': WHATEVER THE INPUT: true; the input reads as it did. -/
def votesPlaysSpec : ChangeSpec := { name := "votesPlays", fn := fun _ => fun
  | [d] => { results := [.lit (.bool true)], args := [d] }
  | _ => none }
def votesPlaysRow : OpenClaim := { program := "ytebcpacenoedfaa", sum := "4989bfa3a054c2f7cdb25940c632860b0e6abe48771701039b604b2dddacd0d3", func := "vestry/vestrylaw22.VotesPlays", spec := "votesPlays", apart := false }
def VotesPlaysSaid : Prop := votesPlaysRow.holds Try.pinned (OpenSpec.ofChange votesPlaysSpec)

/-- ITS FALSE NEIGHBOUR: 'it returns false'. Refute it at one input. -/
def votesPlaysWrong : ChangeSpec := { name := "votesPlays", fn := fun _ => fun
  | [d] => { results := [.lit (.bool false)], args := [d] }
  | _ => none }
def VotesPlaysWrongFalsely : Prop := votesPlaysRow.holds Try.pinned (OpenSpec.ofChange votesPlaysWrong)

/-- 'vestrylaw22.VotesLast': WHATEVER THE INPUT: true; the input reads as it did. -/
def votesLastSpec : ChangeSpec := { name := "votesLast", fn := fun _ => fun
  | [d] => { results := [.lit (.bool true)], args := [d] }
  | _ => none }
def votesLastRow : OpenClaim := { program := "ytebcpacenoedfaa", sum := "4989bfa3a054c2f7cdb25940c632860b0e6abe48771701039b604b2dddacd0d3", func := "vestry/vestrylaw22.VotesLast", spec := "votesLast", apart := false }
def VotesLastSaid : Prop := votesLastRow.holds Try.pinned (OpenSpec.ofChange votesLastSpec)

/-- ITS FALSE NEIGHBOUR: 'it returns false'. Refute it at one input. -/
def votesLastWrong : ChangeSpec := { name := "votesLast", fn := fun _ => fun
  | [d] => { results := [.lit (.bool false)], args := [d] }
  | _ => none }
def VotesLastWrongFalsely : Prop := votesLastRow.holds Try.pinned (OpenSpec.ofChange votesLastWrong)

/-- 'vestrylaw22.VotesCounts': WHATEVER THE INPUT: true; the input reads as it did. -/
def votesCountsSpec : ChangeSpec := { name := "votesCounts", fn := fun _ => fun
  | [d] => { results := [.lit (.bool true)], args := [d] }
  | _ => none }
def votesCountsRow : OpenClaim := { program := "ytebcpacenoedfaa", sum := "4989bfa3a054c2f7cdb25940c632860b0e6abe48771701039b604b2dddacd0d3", func := "vestry/vestrylaw22.VotesCounts", spec := "votesCounts", apart := false }
def VotesCountsSaid : Prop := votesCountsRow.holds Try.pinned (OpenSpec.ofChange votesCountsSpec)

/-- ITS FALSE NEIGHBOUR: 'it returns false'. Refute it at one input. -/
def votesCountsWrong : ChangeSpec := { name := "votesCounts", fn := fun _ => fun
  | [d] => { results := [.lit (.bool false)], args := [d] }
  | _ => none }
def VotesCountsWrongFalsely : Prop := votesCountsRow.holds Try.pinned (OpenSpec.ofChange votesCountsWrong)

/- THE SECOND FORM. 'bulk': how many values and letters a reading holds, each counted each time it is reached (what is shared counts as often as it is met; a slice's spare places count too). A statement '..UptoSaid' is the law's where the arguments, and the package variables that the reading takes, are together of bulk at most 1048576: NARROWER than '..Said'. Prove '..Said' where nothing that the law and all that it calls make is longer than what came in: it says more and counts as full. Else prove '..UptoSaid'. A law counts once. -/
mutual
def uptoBulk {H : Type} : DataW H → Nat
  | .lit (.string bytes) => bytes.length + 1
  | .lit _ => 1
  | .nil => 1
  | .ptr d => uptoBulk d + 1
  | .slice elems spare => uptoBulkAll elems + uptoBulkAll spare + 1
  | .agg parts => uptoBulkAll parts + 1
  | .iface _ d => uptoBulk d + 1
  | .map entries => uptoBulkEntries entries + 1
  | .held _ => 1
def uptoBulkAll {H : Type} : List (DataW H) → Nat
  | [] => 0
  | d :: r => uptoBulk d + uptoBulkAll r
def uptoBulkEntries {H : Type} : List (Lit × DataW H) → Nat
  | [] => 0
  | x :: r => uptoBulkEntry x + uptoBulkEntries r
def uptoBulkEntry {H : Type} : Lit × DataW H → Nat
  | (.string bytes, d) => bytes.length + uptoBulk d + 1
  | (_, d) => uptoBulk d + 1
 end
def uptoSmall : (H : Type) → List (DataW H) → Bool := fun _ ds => decide (uptoBulkAll ds ≤ 1048576)
def OpenSpec.upto (s : _root_.Go.ChangeSpec) : _root_.Go.OpenSpec := { _root_.Go.OpenSpec.ofChange s with cond := some uptoSmall }

/-- 'vestrylaw22.VotesPlays', WHERE WHAT IT READS IS OF BULK AT MOST 1048576: true; the input reads as it did. -/
def votesPlaysUptoRow : OpenClaim := { program := "ytebcpacenoedfaa", sum := "4989bfa3a054c2f7cdb25940c632860b0e6abe48771701039b604b2dddacd0d3", func := "vestry/vestrylaw22.VotesPlays", spec := "votesPlays", apart := false, narrowed := true }
def VotesPlaysUptoSaid : Prop := votesPlaysUptoRow.holds Try.pinned (OpenSpec.upto votesPlaysSpec)

/-- 'vestrylaw22.VotesLast', WHERE WHAT IT READS IS OF BULK AT MOST 1048576: true; the input reads as it did. -/
def votesLastUptoRow : OpenClaim := { program := "ytebcpacenoedfaa", sum := "4989bfa3a054c2f7cdb25940c632860b0e6abe48771701039b604b2dddacd0d3", func := "vestry/vestrylaw22.VotesLast", spec := "votesLast", apart := false, narrowed := true }
def VotesLastUptoSaid : Prop := votesLastUptoRow.holds Try.pinned (OpenSpec.upto votesLastSpec)

/-- 'vestrylaw22.VotesCounts', WHERE WHAT IT READS IS OF BULK AT MOST 1048576: true; the input reads as it did. -/
def votesCountsUptoRow : OpenClaim := { program := "ytebcpacenoedfaa", sum := "4989bfa3a054c2f7cdb25940c632860b0e6abe48771701039b604b2dddacd0d3", func := "vestry/vestrylaw22.VotesCounts", spec := "votesCounts", apart := false, narrowed := true }
def VotesCountsUptoSaid : Prop := votesCountsUptoRow.holds Try.pinned (OpenSpec.upto votesCountsSpec)

end Rows
end Go.Proofs.Ytebcpacenoedfaa
