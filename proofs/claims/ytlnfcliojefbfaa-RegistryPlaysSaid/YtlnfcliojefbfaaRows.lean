/-
  No cell of these rows narrows 'for every input' (looked for: loops, veiled, ifaces, maps, wideKeys, modest, calm, conditions, laid).
  DERIVED. THE GIVEN ROWS OF THIS SEAT. 7 by the template 'for every input the law returns true; each argument reads behind the call as it read before'; 0 by the template 'total and deterministic' (their statements: YtlnfcliojefbfaaTotals.lean).
  GIVEN WITH THE SEED: the statements are not yours to turn. If you find one false, say at which input.
  Laid BY PROGRAM, IN A SANDBOX (cutbox-rows.mjs): the forced cells as the released guide's own fill.sh prints them over the translation 8eb44846963820a7… (all of the seat's roots in one cut). By AI agents, Wed Nov 11 2026. No macro, syntax, notation, axiom, sorry.
-/
import Derived.Test.YtlnfcliojefbfaaChecked
import GoSem.Claim
import GoSem.ClaimJoined
import GoSem.ClaimMapViews
import Derived.JoinedTies
import Derived.KernelRfl
namespace Go.Proofs.Ytlnfcliojefbfaa
/- THE CELL 'sum', in the pinned program and in every row, IS THE sha256 OF THE DUMP (.gsa) THAT YtlnfcliojefbfaaProg.lean LOADS. Nothing in Lean hashes anything: it is a label: what it is worth is what the hold of that sum in a sandbox is worth. -/
noncomputable def Try.pinned : Pinned := { name := "ytlnfcliojefbfaa", sum := "8eb44846963820a7c294a543de25ea87ef48152d0316eb98be2511a423c4aead", checked := Try.checked }
namespace Rows
def none {H : Type} : Left H := { results := [], args := [] }

/-- 'vestrylaw03.RegistryStays': WHATEVER THE INPUT: true; the input reads as it did. -/
def registryStaysSpec : ChangeSpec := { name := "registryStays", fn := fun _ => fun
  | [d1, d2, d3] => { results := [.lit (.bool true)], args := [d1, d2, d3] }
  | _ => none }
def registryStaysRow : OpenClaim := { program := "ytlnfcliojefbfaa", sum := "8eb44846963820a7c294a543de25ea87ef48152d0316eb98be2511a423c4aead", func := "vestry/vestrylaw03.RegistryStays", spec := "registryStays", plainKeys := false, apart := false }
def RegistryStaysSaid : Prop := registryStaysRow.holds Try.pinned (OpenSpec.ofChange registryStaysSpec)

/-- ITS FALSE NEIGHBOUR: 'it returns false'. Refute it at one input. -/
def registryStaysWrong : ChangeSpec := { name := "registryStays", fn := fun _ => fun
  | [d1, d2, d3] => { results := [.lit (.bool false)], args := [d1, d2, d3] }
  | _ => none }
def RegistryStaysWrongFalsely : Prop := registryStaysRow.holds Try.pinned (OpenSpec.ofChange registryStaysWrong)

/-- 'vestrylaw03.RegistryCounts': WHATEVER THE INPUT: true; the input reads as it did. -/
def registryCountsSpec : ChangeSpec := { name := "registryCounts", fn := fun _ => fun
  | [d] => { results := [.lit (.bool true)], args := [d] }
  | _ => none }
def registryCountsRow : OpenClaim := { program := "ytlnfcliojefbfaa", sum := "8eb44846963820a7c294a543de25ea87ef48152d0316eb98be2511a423c4aead", func := "vestry/vestrylaw03.RegistryCounts", spec := "registryCounts", plainKeys := false, apart := false }
def RegistryCountsSaid : Prop := registryCountsRow.holds Try.pinned (OpenSpec.ofChange registryCountsSpec)

/-- ITS FALSE NEIGHBOUR: 'it returns false'. Refute it at one input. -/
def registryCountsWrong : ChangeSpec := { name := "registryCounts", fn := fun _ => fun
  | [d] => { results := [.lit (.bool false)], args := [d] }
  | _ => none }
def RegistryCountsWrongFalsely : Prop := registryCountsRow.holds Try.pinned (OpenSpec.ofChange registryCountsWrong)

/-- 'vestrylaw03.RegistryCopies': WHATEVER THE INPUT: true; the input reads as it did. -/
def registryCopiesSpec : ChangeSpec := { name := "registryCopies", fn := fun _ => fun
  | [d1, d2, d3, d4] => { results := [.lit (.bool true)], args := [d1, d2, d3, d4] }
  | _ => none }
def registryCopiesRow : OpenClaim := { program := "ytlnfcliojefbfaa", sum := "8eb44846963820a7c294a543de25ea87ef48152d0316eb98be2511a423c4aead", func := "vestry/vestrylaw03.RegistryCopies", spec := "registryCopies", plainKeys := false, apart := false }
def RegistryCopiesSaid : Prop := registryCopiesRow.holds Try.pinned (OpenSpec.ofChange registryCopiesSpec)

/-- ITS FALSE NEIGHBOUR: 'it returns false'. Refute it at one input. -/
def registryCopiesWrong : ChangeSpec := { name := "registryCopies", fn := fun _ => fun
  | [d1, d2, d3, d4] => { results := [.lit (.bool false)], args := [d1, d2, d3, d4] }
  | _ => none }
def RegistryCopiesWrongFalsely : Prop := registryCopiesRow.holds Try.pinned (OpenSpec.ofChange registryCopiesWrong)

/-- 'vestrylaw03.RegistryPlays': WHATEVER THE INPUT: true; the input reads as it did. -/
def registryPlaysSpec : ChangeSpec := { name := "registryPlays", fn := fun _ => fun
  | [d] => { results := [.lit (.bool true)], args := [d] }
  | _ => none }
def registryPlaysRow : OpenClaim := { program := "ytlnfcliojefbfaa", sum := "8eb44846963820a7c294a543de25ea87ef48152d0316eb98be2511a423c4aead", func := "vestry/vestrylaw03.RegistryPlays", spec := "registryPlays", plainKeys := false, apart := false }
def RegistryPlaysSaid : Prop := registryPlaysRow.holds Try.pinned (OpenSpec.ofChange registryPlaysSpec)

/-- ITS FALSE NEIGHBOUR: 'it returns false'. Refute it at one input. -/
def registryPlaysWrong : ChangeSpec := { name := "registryPlays", fn := fun _ => fun
  | [d] => { results := [.lit (.bool false)], args := [d] }
  | _ => none }
def RegistryPlaysWrongFalsely : Prop := registryPlaysRow.holds Try.pinned (OpenSpec.ofChange registryPlaysWrong)

/-- 'vestrylaw21.DiskPlays': WHATEVER THE INPUT: true; the input reads as it did. -/
def diskPlaysSpec : ChangeSpec := { name := "diskPlays", fn := fun _ => fun
  | [d] => { results := [.lit (.bool true)], args := [d] }
  | _ => none }
def diskPlaysRow : OpenClaim := { program := "ytlnfcliojefbfaa", sum := "8eb44846963820a7c294a543de25ea87ef48152d0316eb98be2511a423c4aead", func := "vestry/vestrylaw21.DiskPlays", spec := "diskPlays", plainKeys := false, apart := false }
def DiskPlaysSaid : Prop := diskPlaysRow.holds Try.pinned (OpenSpec.ofChange diskPlaysSpec)

/-- ITS FALSE NEIGHBOUR: 'it returns false'. Refute it at one input. -/
def diskPlaysWrong : ChangeSpec := { name := "diskPlays", fn := fun _ => fun
  | [d] => { results := [.lit (.bool false)], args := [d] }
  | _ => none }
def DiskPlaysWrongFalsely : Prop := diskPlaysRow.holds Try.pinned (OpenSpec.ofChange diskPlaysWrong)

/-- 'vestrylaw21.DiskLasts': WHATEVER THE INPUT: true; the input reads as it did. -/
def diskLastsSpec : ChangeSpec := { name := "diskLasts", fn := fun _ => fun
  | [d] => { results := [.lit (.bool true)], args := [d] }
  | _ => none }
def diskLastsRow : OpenClaim := { program := "ytlnfcliojefbfaa", sum := "8eb44846963820a7c294a543de25ea87ef48152d0316eb98be2511a423c4aead", func := "vestry/vestrylaw21.DiskLasts", spec := "diskLasts", plainKeys := false, apart := false }
def DiskLastsSaid : Prop := diskLastsRow.holds Try.pinned (OpenSpec.ofChange diskLastsSpec)

/-- ITS FALSE NEIGHBOUR: 'it returns false'. Refute it at one input. -/
def diskLastsWrong : ChangeSpec := { name := "diskLasts", fn := fun _ => fun
  | [d] => { results := [.lit (.bool false)], args := [d] }
  | _ => none }
def DiskLastsWrongFalsely : Prop := diskLastsRow.holds Try.pinned (OpenSpec.ofChange diskLastsWrong)

/-- 'vestrylaw21.DiskArms': WHATEVER THE INPUT: true; the input reads as it did. -/
def diskArmsSpec : ChangeSpec := { name := "diskArms", fn := fun _ => fun
  | [d1, d2, d3] => { results := [.lit (.bool true)], args := [d1, d2, d3] }
  | _ => none }
def diskArmsRow : OpenClaim := { program := "ytlnfcliojefbfaa", sum := "8eb44846963820a7c294a543de25ea87ef48152d0316eb98be2511a423c4aead", func := "vestry/vestrylaw21.DiskArms", spec := "diskArms", plainKeys := false, apart := false }
def DiskArmsSaid : Prop := diskArmsRow.holds Try.pinned (OpenSpec.ofChange diskArmsSpec)

/-- ITS FALSE NEIGHBOUR: 'it returns false'. Refute it at one input. -/
def diskArmsWrong : ChangeSpec := { name := "diskArms", fn := fun _ => fun
  | [d1, d2, d3] => { results := [.lit (.bool false)], args := [d1, d2, d3] }
  | _ => none }
def DiskArmsWrongFalsely : Prop := diskArmsRow.holds Try.pinned (OpenSpec.ofChange diskArmsWrong)

/- THE SECOND FORM. 'bulk': how many values and letters a reading holds, each counted each time it is reached (what is shared counts as often as it is met; a slice's spare places count too). A statement '..UptoSaid' is the law's where the arguments, and the package variables that the reading takes, are together of bulk at most 1048576: NARROWER than '..Said'. Prove '..Said' where nothing that the law and all that it calls make is longer than what came in: it says more and counts as full. Else prove '..UptoSaid'. A law counts once. -/
mutual
def uptoBulk {H : Type} : DataW H → Nat
  | .lit (.string bytes) => bytes.length + 1
  | .lit _ => 1
  | .nil => 1
  | .ptr d => uptoBulk d + 1
  | .slice elems spare => uptoBulkAll elems + uptoBulkAll spare + 1
  | .agg parts => uptoBulkAll parts + 1
  | .iface _ d => uptoBulk d + 1
  | .map entries => uptoBulkEntries entries + 1
  | .held _ => 1
def uptoBulkAll {H : Type} : List (DataW H) → Nat
  | [] => 0
  | d :: r => uptoBulk d + uptoBulkAll r
def uptoBulkEntries {H : Type} : List (Lit × DataW H) → Nat
  | [] => 0
  | x :: r => uptoBulkEntry x + uptoBulkEntries r
def uptoBulkEntry {H : Type} : Lit × DataW H → Nat
  | (.string bytes, d) => bytes.length + uptoBulk d + 1
  | (_, d) => uptoBulk d + 1
 end
def uptoSmall : (H : Type) → List (DataW H) → Bool := fun _ ds => decide (uptoBulkAll ds ≤ 1048576)
def OpenSpec.upto (s : _root_.Go.ChangeSpec) : _root_.Go.OpenSpec := { _root_.Go.OpenSpec.ofChange s with cond := some uptoSmall }

/-- 'vestrylaw03.RegistryStays', WHERE WHAT IT READS IS OF BULK AT MOST 1048576: true; the input reads as it did. -/
def registryStaysUptoRow : OpenClaim := { program := "ytlnfcliojefbfaa", sum := "8eb44846963820a7c294a543de25ea87ef48152d0316eb98be2511a423c4aead", func := "vestry/vestrylaw03.RegistryStays", spec := "registryStays", plainKeys := false, apart := false, narrowed := true }
def RegistryStaysUptoSaid : Prop := registryStaysUptoRow.holds Try.pinned (OpenSpec.upto registryStaysSpec)

/-- 'vestrylaw03.RegistryCounts', WHERE WHAT IT READS IS OF BULK AT MOST 1048576: true; the input reads as it did. -/
def registryCountsUptoRow : OpenClaim := { program := "ytlnfcliojefbfaa", sum := "8eb44846963820a7c294a543de25ea87ef48152d0316eb98be2511a423c4aead", func := "vestry/vestrylaw03.RegistryCounts", spec := "registryCounts", plainKeys := false, apart := false, narrowed := true }
def RegistryCountsUptoSaid : Prop := registryCountsUptoRow.holds Try.pinned (OpenSpec.upto registryCountsSpec)

/-- 'vestrylaw03.RegistryCopies', WHERE WHAT IT READS IS OF BULK AT MOST 1048576: true; the input reads as it did. -/
def registryCopiesUptoRow : OpenClaim := { program := "ytlnfcliojefbfaa", sum := "8eb44846963820a7c294a543de25ea87ef48152d0316eb98be2511a423c4aead", func := "vestry/vestrylaw03.RegistryCopies", spec := "registryCopies", plainKeys := false, apart := false, narrowed := true }
def RegistryCopiesUptoSaid : Prop := registryCopiesUptoRow.holds Try.pinned (OpenSpec.upto registryCopiesSpec)

/-- 'vestrylaw03.RegistryPlays', WHERE WHAT IT READS IS OF BULK AT MOST 1048576: true; the input reads as it did. -/
def registryPlaysUptoRow : OpenClaim := { program := "ytlnfcliojefbfaa", sum := "8eb44846963820a7c294a543de25ea87ef48152d0316eb98be2511a423c4aead", func := "vestry/vestrylaw03.RegistryPlays", spec := "registryPlays", plainKeys := false, apart := false, narrowed := true }
def RegistryPlaysUptoSaid : Prop := registryPlaysUptoRow.holds Try.pinned (OpenSpec.upto registryPlaysSpec)

/-- 'vestrylaw21.DiskPlays', WHERE WHAT IT READS IS OF BULK AT MOST 1048576: true; the input reads as it did. -/
def diskPlaysUptoRow : OpenClaim := { program := "ytlnfcliojefbfaa", sum := "8eb44846963820a7c294a543de25ea87ef48152d0316eb98be2511a423c4aead", func := "vestry/vestrylaw21.DiskPlays", spec := "diskPlays", plainKeys := false, apart := false, narrowed := true }
def DiskPlaysUptoSaid : Prop := diskPlaysUptoRow.holds Try.pinned (OpenSpec.upto diskPlaysSpec)

/-- 'vestrylaw21.DiskLasts', WHERE WHAT IT READS IS OF BULK AT MOST 1048576: true; the input reads as it did. -/
def diskLastsUptoRow : OpenClaim := { program := "ytlnfcliojefbfaa", sum := "8eb44846963820a7c294a543de25ea87ef48152d0316eb98be2511a423c4aead", func := "vestry/vestrylaw21.DiskLasts", spec := "diskLasts", plainKeys := false, apart := false, narrowed := true }
def DiskLastsUptoSaid : Prop := diskLastsUptoRow.holds Try.pinned (OpenSpec.upto diskLastsSpec)

/-- 'vestrylaw21.DiskArms', WHERE WHAT IT READS IS OF BULK AT MOST 1048576: true; the input reads as it did. -/
def diskArmsUptoRow : OpenClaim := { program := "ytlnfcliojefbfaa", sum := "8eb44846963820a7c294a543de25ea87ef48152d0316eb98be2511a423c4aead", func := "vestry/vestrylaw21.DiskArms", spec := "diskArms", plainKeys := false, apart := false, narrowed := true }
def DiskArmsUptoSaid : Prop := diskArmsUptoRow.holds Try.pinned (OpenSpec.upto diskArmsSpec)

end Rows
end Go.Proofs.Ytlnfcliojefbfaa
