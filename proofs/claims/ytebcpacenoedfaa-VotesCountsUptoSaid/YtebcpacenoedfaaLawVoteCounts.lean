/- VotesCounts, where what it reads is of bulk at most 1048576: the statement's function returns true, and the argument reads as it did. -/
import Derived.Test.YtebcpacenoedfaaRows
import Derived.Test.YtebcpacenoedfaaBulk
import Derived.Test.YtebcpacenoedfaaVoteCounts
import Derived.ProofKit
import Derived.OpenShut
import Derived.ChangeOld
import Derived.JoinedCond
namespace Go.Proofs.Ytebcpacenoedfaa
set_option linter.unusedVariables false
set_option linter.unusedSimpArgs false
open Go.ChangeShapes Go.WideShapes Go.ChangeAt Go.RowKit

theorem open_bytss {H : Type} {enc : TypeId × Value → H} {W : World} {spare : Nat → Bool} {held : Bool} {A : Option Addr} {len cap N : Nat} {d : DataW H} {p : List MemPlace} (hsm : Rows.uptoBulk d ≤ N)
    (h : ∃ fuel, DataW.trod enc Try.prog W 0 spare held fuel 51 (Value.slice A len cap).cells.toList = some (d, p)) : ∃ l : List (List Bs), Bytss (· < W.heap.size) W (.slice A len cap) l ∧ l.length ≤ N ∧ ∀ ls ∈ l, ls.length ≤ N := by
  obtain ⟨fuel, hf⟩ := h
  obtain ⟨v, l, e, hr, hm⟩ := opens_row_u (R := fun w g n x => (∃ u, w.cell? ⟨g, n, none⟩ = some u ∧ Byts (· < W.heap.size) w u x) ∧ x.length ≤ N) (size := 1) (x := (d, p)) Try.underlying51 (by kernel_rfl) (by decide) hsm (fun f cs x g n hf hs _ hcell => by
    obtain ⟨v, l, rfl, hb, hl⟩ := opens_byts_u hs hf
    exact ⟨l, ⟨v, by simpa using hcell 0 v (by simp), hb⟩, hl⟩) hf
  simp [Value.cells] at e
  subst e
  exact ⟨l, hr.imp (R' := fun w g n x => ∃ u, w.cell? ⟨g, n, none⟩ = some u ∧ Byts (· < W.heap.size) w u x) (w' := W) fun _ _ _ _ h => h.1, hm, row_all hr fun _ _ _ h => h.2⟩

theorem votesCounts_contract (H : Type) (enc : TypeId × Value → H) (W : World) (base : Nat) (args : Array Value) (ds gs : List (DataW H)) (before : List MemPlace)
    (hval0 : ∀ (j : Nat) t v, Try.f5.params[j]? = some t → args[j]? = some v → Value.okWide Try.prog W .any base t v)
    (hW : DataW.Whole enc Try.prog Try.f5.params.toList Rows.votesCountsSpec.vars false W args.toList ds gs before) (hk : Rows.uptoSmall H (ds ++ gs) = true) :
    Calls Try.prog 5 args W fun e W' => ∃ v, e = .returned v ∧ Rows.votesCountsSpec.post enc Try.prog Try.f5 false true false false W args v W' := by
  have hval : ∀ (j : Nat) t v, Try.f5.params[j]? = some t → args[j]? = some v → Value.okWide Try.prog W .any base t v := hval0
  have hW' := hW
  obtain ⟨p, q, hA0, hV, rfl, hfz, hnd⟩ := hW
  have hA : DataW.TrodAll enc Try.prog W 0 (fun _ => true) true Try.f5.params.toList args.toList ds p := hA0
  rw [Try.params5] at hA hval
  obtain ⟨v0, vs0, d0, ds0, p0, q0, hargs, rfl, rfl, h0, r0⟩ := trodAll_cons hA
  obtain ⟨rfl, rfl, rfl⟩ := trodAll_nil r0
  obtain rfl : args = #[v0] := by cases args; simp_all
  obtain ⟨rfl, rfl⟩ := trodVars_none hV
  obtain ⟨a0, len0, cap0, rfl⟩ := okWide_slice Try.underlying51 (hval 0 51 v0 rfl rfl)
  have k0 := h0
  have lt0 : ∀ x ∈ p0, x.block < W.heap.size := by obtain ⟨m, hm⟩ := k0; exact DataW.trod_lt m _ _ _ hm
  have hb : Rows.uptoBulk d0 ≤ 1048576 := by
    have h : Rows.uptoBulkAll ([d0] ++ []) ≤ 1048576 := of_decide_eq_true hk
    exact Nat.le_trans (bulk_part (by simp)) h
  obtain ⟨l0, hl0, ml0, me0⟩ := open_bytss hb h0
  clear hA0 hval0 hk
  refine (counts_walk hl0 ml0 me0).mono fun e W' ⟨he, hx⟩ => ?_
  subst he
  have bel : Below W.heap.size W W' := hx.below fun _ => False.elim
  exact ⟨_, rfl, _, _, _, [], _, [], hW', trodAll_mk1 (shut_bool Try.underlying4 _), (trodAll_cons_mk (Below.trod laidOut (by kernel_rfl) (of_decide_eq_true (by kernel_rfl)) k0 bel lt0) trodAll_mk0), rfl, bel.frame _, fun h => by cases h⟩

set_option maxRecDepth 100000 in
theorem votesCounts_lifted (os : Os) (started : os.Started) (H : Type) (enc : TypeId × Value → H) (F : Stop.Interp) :
    ReturnsInHanded {} Try.checked os 5 .any ((Rows.OpenSpec.upto Rows.votesCountsSpec).pre6 enc Try.prog Try.f5 Rows.votesCountsUptoRow.domain false) (((Rows.OpenSpec.upto Rows.votesCountsSpec).at F).post enc Try.prog Try.f5 false true false false) := by
  refine returnsInHanded_of_cond (C := Try.checked) (s := Rows.OpenSpec.upto Rows.votesCountsSpec) (k := Rows.uptoSmall) rfl own started (by kernel_rfl) Try.func5
    (OpenSpec.witness (enc := enc) (C := Try.checked) (s := Rows.OpenSpec.upto Rows.votesCountsSpec) (k := Rows.uptoSmall) rfl false ⟨#[], #[.slice none 0 0], []⟩ 8 (by kernel_rfl) (by kernel_rfl) (by kernel_rfl)
      (x := ([.nil], [], [])) (by kernel_rfl) rfl (by kernel_rfl)) ?_
  intro W base args ds gs before hval hW _ hk _
  exact votesCounts_contract H enc W base args ds gs before hval hW hk

theorem votesCounts_over : Rows.votesCountsUptoRow.holds Try.pinned (Rows.OpenSpec.upto Rows.votesCountsSpec) :=
  OpenClaim.holds_of_cond 5 Try.f5 rfl rfl rfl rfl rfl rfl rfl ⟨rfl, rfl, rfl, rfl, rfl⟩ rfl rfl rfl rfl rfl (by kernel_rfl) Try.func5 (by kernel_rfl)
    (of_decide_eq_true (by kernel_rfl)) (by unfold Func.isWrapper; first | (rw [if_pos (by decide +kernel)]; kernel_rfl) | (rw [if_neg (by decide +kernel)]; exact ⟨rfl, rfl⟩))
    (fun os started H enc _ F => votesCounts_lifted os started H enc F)
theorem votesCounts_holds : Rows.VotesCountsUptoSaid := votesCounts_over
end Go.Proofs.Ytebcpacenoedfaa
