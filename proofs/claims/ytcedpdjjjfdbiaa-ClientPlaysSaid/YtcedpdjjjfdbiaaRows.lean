/-
  No cell of these rows narrows 'for every input' (looked for: loops, veiled, ifaces, maps, wideKeys, modest, calm, conditions, laid).
  DERIVED. THE GIVEN ROWS OF THIS SEAT. 4 by the template 'for every input the law returns true; each argument reads behind the call as it read before'; 0 by the template 'total and deterministic' (their statements: YtcedpdjjjfdbiaaTotals.lean).
  GIVEN WITH THE SEED: the statements are not yours to turn. If you find one false, say at which input.
  Laid BY PROGRAM, IN A SANDBOX (cutbox-rows.mjs): the forced cells as the released guide's own fill.sh prints them over the translation 9b14eca68e1bde6c… (all of the seat's roots in one cut). By AI agents, Wed Nov 11 2026. No macro, syntax, notation, axiom, sorry.
-/
import Derived.Test.YtcedpdjjjfdbiaaChecked
import GoSem.Claim
import GoSem.ClaimJoined
import GoSem.ClaimMapViews
import Derived.JoinedTies
import Derived.KernelRfl
namespace Go.Proofs.Ytcedpdjjjfdbiaa
/- THE CELL 'sum', in the pinned program and in every row, IS THE sha256 OF THE DUMP (.gsa) THAT YtcedpdjjjfdbiaaProg.lean LOADS. Nothing in Lean hashes anything: it is a label: what it is worth is what the hold of that sum in a sandbox is worth. -/
noncomputable def Try.pinned : Pinned := { name := "ytcedpdjjjfdbiaa", sum := "9b14eca68e1bde6c44e8a57203c76b82d5d79d48e80c46849c242eba216fdafa", checked := Try.checked }
namespace Rows
def none {H : Type} : Left H := { results := [], args := [] }

/-- 'vestrylaw25.ClientTrue': WHATEVER THE INPUT: true; the input reads as it did. -/
def clientTrueSpec : ChangeSpec := { name := "clientTrue", fn := fun _ => fun
  | [d1, d2, d3, d4, d5] => { results := [.lit (.bool true)], args := [d1, d2, d3, d4, d5] }
  | _ => none }
def clientTrueRow : OpenClaim := { program := "ytcedpdjjjfdbiaa", sum := "9b14eca68e1bde6c44e8a57203c76b82d5d79d48e80c46849c242eba216fdafa", func := "vestry/vestrylaw25.ClientTrue", spec := "clientTrue", unfollowed := true, recurses := true, plainKeys := false, apart := false }
def ClientTrueSaid : Prop := clientTrueRow.holds Try.pinned (OpenSpec.ofChange clientTrueSpec)

/-- ITS FALSE NEIGHBOUR: 'it returns false'. Refute it at one input. -/
def clientTrueWrong : ChangeSpec := { name := "clientTrue", fn := fun _ => fun
  | [d1, d2, d3, d4, d5] => { results := [.lit (.bool false)], args := [d1, d2, d3, d4, d5] }
  | _ => none }
def ClientTrueWrongFalsely : Prop := clientTrueRow.holds Try.pinned (OpenSpec.ofChange clientTrueWrong)

/-- 'vestrylaw25.ClientNone': WHATEVER THE INPUT: true; the input reads as it did. -/
def clientNoneSpec : ChangeSpec := { name := "clientNone", fn := fun _ => fun
  | [d1, d2, d3, d4, d5] => { results := [.lit (.bool true)], args := [d1, d2, d3, d4, d5] }
  | _ => none }
def clientNoneRow : OpenClaim := { program := "ytcedpdjjjfdbiaa", sum := "9b14eca68e1bde6c44e8a57203c76b82d5d79d48e80c46849c242eba216fdafa", func := "vestry/vestrylaw25.ClientNone", spec := "clientNone", unfollowed := true, recurses := true, plainKeys := false, apart := false }
def ClientNoneSaid : Prop := clientNoneRow.holds Try.pinned (OpenSpec.ofChange clientNoneSpec)

/-- ITS FALSE NEIGHBOUR: 'it returns false'. Refute it at one input. -/
def clientNoneWrong : ChangeSpec := { name := "clientNone", fn := fun _ => fun
  | [d1, d2, d3, d4, d5] => { results := [.lit (.bool false)], args := [d1, d2, d3, d4, d5] }
  | _ => none }
def ClientNoneWrongFalsely : Prop := clientNoneRow.holds Try.pinned (OpenSpec.ofChange clientNoneWrong)

/-- 'vestrylaw25.ClientPlays': WHATEVER THE INPUT: true; the input reads as it did. -/
def clientPlaysSpec : ChangeSpec := { name := "clientPlays", fn := fun _ => fun
  | [d1, d2, d3] => { results := [.lit (.bool true)], args := [d1, d2, d3] }
  | _ => none }
def clientPlaysRow : OpenClaim := { program := "ytcedpdjjjfdbiaa", sum := "9b14eca68e1bde6c44e8a57203c76b82d5d79d48e80c46849c242eba216fdafa", func := "vestry/vestrylaw25.ClientPlays", spec := "clientPlays", unfollowed := true, recurses := true, plainKeys := false, apart := false }
def ClientPlaysSaid : Prop := clientPlaysRow.holds Try.pinned (OpenSpec.ofChange clientPlaysSpec)

/-- ITS FALSE NEIGHBOUR: 'it returns false'. Refute it at one input. -/
def clientPlaysWrong : ChangeSpec := { name := "clientPlays", fn := fun _ => fun
  | [d1, d2, d3] => { results := [.lit (.bool false)], args := [d1, d2, d3] }
  | _ => none }
def ClientPlaysWrongFalsely : Prop := clientPlaysRow.holds Try.pinned (OpenSpec.ofChange clientPlaysWrong)

/-- 'vestrylaw25.ClientAsks': WHATEVER THE INPUT: true; the input reads as it did. -/
def clientAsksSpec : ChangeSpec := { name := "clientAsks", fn := fun _ => fun
  | [d1, d2] => { results := [.lit (.bool true)], args := [d1, d2] }
  | _ => none }
def clientAsksRow : OpenClaim := { program := "ytcedpdjjjfdbiaa", sum := "9b14eca68e1bde6c44e8a57203c76b82d5d79d48e80c46849c242eba216fdafa", func := "vestry/vestrylaw25.ClientAsks", spec := "clientAsks", unfollowed := true, recurses := true, plainKeys := false, apart := false }
def ClientAsksSaid : Prop := clientAsksRow.holds Try.pinned (OpenSpec.ofChange clientAsksSpec)

/-- ITS FALSE NEIGHBOUR: 'it returns false'. Refute it at one input. -/
def clientAsksWrong : ChangeSpec := { name := "clientAsks", fn := fun _ => fun
  | [d1, d2] => { results := [.lit (.bool false)], args := [d1, d2] }
  | _ => none }
def ClientAsksWrongFalsely : Prop := clientAsksRow.holds Try.pinned (OpenSpec.ofChange clientAsksWrong)

/- THE SECOND FORM. 'bulk': how many values and letters a reading holds, each counted each time it is reached (what is shared counts as often as it is met; a slice's spare places count too). A statement '..UptoSaid' is the law's where the arguments, and the package variables that the reading takes, are together of bulk at most 1048576: NARROWER than '..Said'. Prove '..Said' where nothing that the law and all that it calls make is longer than what came in: it says more and counts as full. Else prove '..UptoSaid'. A law counts once. -/
mutual
def uptoBulk {H : Type} : DataW H → Nat
  | .lit (.string bytes) => bytes.length + 1
  | .lit _ => 1
  | .nil => 1
  | .ptr d => uptoBulk d + 1
  | .slice elems spare => uptoBulkAll elems + uptoBulkAll spare + 1
  | .agg parts => uptoBulkAll parts + 1
  | .iface _ d => uptoBulk d + 1
  | .map entries => uptoBulkEntries entries + 1
  | .held _ => 1
def uptoBulkAll {H : Type} : List (DataW H) → Nat
  | [] => 0
  | d :: r => uptoBulk d + uptoBulkAll r
def uptoBulkEntries {H : Type} : List (Lit × DataW H) → Nat
  | [] => 0
  | x :: r => uptoBulkEntry x + uptoBulkEntries r
def uptoBulkEntry {H : Type} : Lit × DataW H → Nat
  | (.string bytes, d) => bytes.length + uptoBulk d + 1
  | (_, d) => uptoBulk d + 1
 end
def uptoSmall : (H : Type) → List (DataW H) → Bool := fun _ ds => decide (uptoBulkAll ds ≤ 1048576)
def OpenSpec.upto (s : _root_.Go.ChangeSpec) : _root_.Go.OpenSpec := { _root_.Go.OpenSpec.ofChange s with cond := some uptoSmall }

/-- 'vestrylaw25.ClientTrue', WHERE WHAT IT READS IS OF BULK AT MOST 1048576: true; the input reads as it did. -/
def clientTrueUptoRow : OpenClaim := { program := "ytcedpdjjjfdbiaa", sum := "9b14eca68e1bde6c44e8a57203c76b82d5d79d48e80c46849c242eba216fdafa", func := "vestry/vestrylaw25.ClientTrue", spec := "clientTrue", unfollowed := true, recurses := true, plainKeys := false, apart := false, narrowed := true }
def ClientTrueUptoSaid : Prop := clientTrueUptoRow.holds Try.pinned (OpenSpec.upto clientTrueSpec)

/-- 'vestrylaw25.ClientNone', WHERE WHAT IT READS IS OF BULK AT MOST 1048576: true; the input reads as it did. -/
def clientNoneUptoRow : OpenClaim := { program := "ytcedpdjjjfdbiaa", sum := "9b14eca68e1bde6c44e8a57203c76b82d5d79d48e80c46849c242eba216fdafa", func := "vestry/vestrylaw25.ClientNone", spec := "clientNone", unfollowed := true, recurses := true, plainKeys := false, apart := false, narrowed := true }
def ClientNoneUptoSaid : Prop := clientNoneUptoRow.holds Try.pinned (OpenSpec.upto clientNoneSpec)

/-- 'vestrylaw25.ClientPlays', WHERE WHAT IT READS IS OF BULK AT MOST 1048576: true; the input reads as it did. -/
def clientPlaysUptoRow : OpenClaim := { program := "ytcedpdjjjfdbiaa", sum := "9b14eca68e1bde6c44e8a57203c76b82d5d79d48e80c46849c242eba216fdafa", func := "vestry/vestrylaw25.ClientPlays", spec := "clientPlays", unfollowed := true, recurses := true, plainKeys := false, apart := false, narrowed := true }
def ClientPlaysUptoSaid : Prop := clientPlaysUptoRow.holds Try.pinned (OpenSpec.upto clientPlaysSpec)

/-- 'vestrylaw25.ClientAsks', WHERE WHAT IT READS IS OF BULK AT MOST 1048576: true; the input reads as it did. -/
def clientAsksUptoRow : OpenClaim := { program := "ytcedpdjjjfdbiaa", sum := "9b14eca68e1bde6c44e8a57203c76b82d5d79d48e80c46849c242eba216fdafa", func := "vestry/vestrylaw25.ClientAsks", spec := "clientAsks", unfollowed := true, recurses := true, plainKeys := false, apart := false, narrowed := true }
def ClientAsksUptoSaid : Prop := clientAsksUptoRow.holds Try.pinned (OpenSpec.upto clientAsksSpec)

end Rows
end Go.Proofs.Ytcedpdjjjfdbiaa
