/-
  DERIVED. GIVEN WITH THE SEED: THE CARDS: each row of YtipmfopjhgagiaaDoorRows.lean that lists a variable, with what it lists TIED to the program's text (the seventh form; the later family's looks); each row that meets fmt, with fmt's text TOLD by the authors' own Lean function (tested against real Go, not proved from fmt's source: count such statements apart). THE CARD IS WHAT COUNTS. Prove the row's statement (the work); the ties are given (YtipmfopjhgagiaaDoorTie.lean); close each card by the builder's one call (the guide's Derived/Test/ToyasCard.lean, 'card_holds'). Laid BY PROGRAM, IN A SANDBOX (cutbox-door.mjs). By AI agents, Wed Nov 11 2026. No macro, syntax, notation, axiom, sorry.
-/
import Derived.Test.YtipmfopjhgagiaaDoorRows
import GoSem.ClaimSeven
namespace Go.Proofs.YtipmfopjhgagiaaDoor
namespace Rows

/-- THE TIED CARD OF 'vestrylaw06.QuorumSets'. -/
def quorumSetsCard : Claim7 := { stood := { row := quorumSetsRow, standIns := [], harness := (true, "c83328899468a1619615d1767c36636de37661217f0f63c89626e6bad22b92d7"), looks := false }, kinds := [], alts := [], laidByText := true, laidKinds := [.data, .data], laidTests := true, laidLooks := .later }
def QuorumSetsCardSaid : Prop := Claim7.holds Tryd.pinned (.plain (OpenSpec.ofChange quorumSetsSpec)) quorumSetsCard

/-- THE TIED CARD OF 'vestrylaw06.QuorumBack'. -/
def quorumBackCard : Claim7 := { stood := { row := quorumBackRow, standIns := [], harness := (true, "c83328899468a1619615d1767c36636de37661217f0f63c89626e6bad22b92d7"), looks := false }, kinds := [], alts := [], laidByText := true, laidKinds := [.data, .data], laidTests := true, laidLooks := .later }
def QuorumBackCardSaid : Prop := Claim7.holds Tryd.pinned (.plain (OpenSpec.ofChange quorumBackSpec)) quorumBackCard

/-- THE SECOND FORM's CARD OF 'vestrylaw06.QuorumSets'. -/
def quorumSetsUptoCard : Claim7 := { stood := { row := quorumSetsUptoRow, standIns := [], harness := (true, "c83328899468a1619615d1767c36636de37661217f0f63c89626e6bad22b92d7"), looks := false }, kinds := [], alts := [], laidByText := true, laidKinds := [.data, .data], laidTests := true, laidLooks := .later }
def QuorumSetsUptoCardSaid : Prop := Claim7.holds Tryd.pinned (.plain (OpenSpec.upto quorumSetsSpec)) quorumSetsUptoCard

/-- THE SECOND FORM's CARD OF 'vestrylaw06.QuorumBack'. -/
def quorumBackUptoCard : Claim7 := { stood := { row := quorumBackUptoRow, standIns := [], harness := (true, "c83328899468a1619615d1767c36636de37661217f0f63c89626e6bad22b92d7"), looks := false }, kinds := [], alts := [], laidByText := true, laidKinds := [.data, .data], laidTests := true, laidLooks := .later }
def QuorumBackUptoCardSaid : Prop := Claim7.holds Tryd.pinned (.plain (OpenSpec.upto quorumBackSpec)) quorumBackUptoCard
end Rows
end Go.Proofs.YtipmfopjhgagiaaDoor
