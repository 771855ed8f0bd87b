/- VotesPlays, where what it reads is of bulk at most 1048576: the statement's function returns true, and the argument reads as it did. -/
import Derived.Test.YtebcpacenoedfaaRows
import Derived.Test.YtebcpacenoedfaaBulk
import Derived.Test.YtebcpacenoedfaaVotePlays
import Derived.ProofKit
import Derived.OpenShut
import Derived.ChangeOld
import Derived.JoinedCond
namespace Go.Proofs.Ytebcpacenoedfaa
set_option linter.unusedVariables false
set_option linter.unusedSimpArgs false
open Go.ChangeShapes Go.WideShapes Go.ChangeAt Go.RowKit

section
variable {H : Type} {enc : TypeId × Value → H} {P : Program} {W : World} {spare : Nat → Bool} {held : Bool}
theorem opens_field_u {N : Nat} {t : TypeId} {fs : Array Field} {fuel : Nat} {cs : List Value} {x : DataW H × List MemPlace} (ht : P.underlying t = some (.struct fs)) (h : DataW.trod enc P W 0 spare held fuel t cs = some x) (hs : Rows.uptoBulk x.1 ≤ N)
    (i : Nat) {ft : TypeId} {off sz : Nat} (hf : (fs[i]?).map (fun f => (f.type, f.offset)) = some (ft, off)) (hsz : P.cellsOf ft = sz) : ∃ m y, DataW.trod enc P W 0 spare held m ft ((cs.drop off).take sz) = some y ∧ Rows.uptoBulk y.1 ≤ N := by
  obtain ⟨xs, n, _, rfl, _, hlen, hn⟩ := DataW.trod_struct ht h
  obtain ⟨f, hfi, hfe⟩ := Option.map_eq_some_iff.1 hf
  simp only [Prod.mk.injEq] at hfe
  obtain ⟨rfl, rfl⟩ := hfe
  subst hsz
  have hlt : i < xs.length := by rw [hlen]; exact (Array.getElem?_eq_some_iff.1 hfi).1
  refine ⟨n, xs[i], (hn i f hfi).trans (List.getElem?_eq_getElem hlt), ?_⟩
  simp only [Rows.uptoBulk] at hs
  have : Rows.uptoBulk (xs[i].1) ≤ Rows.uptoBulkAll (xs.map fun x => x.1) := bulk_part (List.mem_map_of_mem (f := fun x => x.1) (List.getElem_mem hlt))
  omega
end

theorem opens_act22 {H : Type} {enc : TypeId × Value → H} {W : World} {spare : Nat → Bool} {held : Bool} (fuel : Nat) (cs : List Value) (x : DataW H × List MemPlace) (g n : Nat)
    (h : DataW.trod enc Try.prog W 0 spare held fuel 35 cs = some x) (hs : Rows.uptoBulk x.1 ≤ 1048576) (hl : cs.length = 4) (hat : ∀ j u, cs[j]? = some u → W.cell? ⟨g, n + j, none⟩ = some u) : ∃ d, Act22.Is (· < W.heap.size) W g n d := by
  match cs, hl with
  | [c0, c1, c2, c3], _ =>
    have ki : Try.prog.cellsOf 3 = 1 := by kernel_rfl
    have kb : Try.prog.cellsOf 33 = 1 := by kernel_rfl
    obtain ⟨_, _, h0⟩ := opens_field Try.underlying35 h 0 rfl ki
    obtain ⟨_, _, h1⟩ := opens_field Try.underlying35 h 1 rfl ki
    obtain ⟨_, _, h2⟩ := opens_field Try.underlying35 h 2 rfl ki
    obtain ⟨_, _, h3, h4⟩ := opens_field_u Try.underlying35 h hs 3 rfl kb
    obtain ⟨q0, e0, _, _⟩ := DataW.trod_int Try.underlying3 h0
    obtain ⟨q1, e1, _, hw⟩ := DataW.trod_int Try.underlying3 h1
    obtain ⟨q2, e2, _, _⟩ := DataW.trod_int Try.underlying3 h2
    obtain ⟨v, l, e3, hb, hm⟩ := opens_byts_u h4 h3
    simp at e0 e1 e2 e3
    subst e0 e1 e2 e3
    have hq : q1 ≤ 9223372036854775807 := by
      simp [Lit.wf, IntKind.min, IntKind.max, IntKind.bits, IntKind.signed] at hw
      omega
    exact ⟨⟨q0, q1, q2, l⟩, _, hat 0 _ rfl, hat 1 _ rfl, hat 2 _ rfl, hat 3 _ rfl, hb, hq, hm⟩

theorem open_acts22 {H : Type} {enc : TypeId × Value → H} {W : World} {spare : Nat → Bool} {held : Bool} {A : Option Addr} {len cap : Nat} {d : DataW H} {p : List MemPlace} (hsm : Rows.uptoBulk d ≤ 1048576)
    (h : ∃ fuel, DataW.trod enc Try.prog W 0 spare held fuel 22 (Value.slice A len cap).cells.toList = some (d, p)) : ∃ l, Acts22 (· < W.heap.size) W (.slice A len cap) l ∧ l.length ≤ 1048576 := by
  obtain ⟨fuel, hf⟩ := h
  obtain ⟨v, l, e, hr, hm⟩ := opens_row_u (size := 4) (x := (d, p)) Try.underlying22 (by kernel_rfl) (by decide) hsm (fun f cs x g n h1 h2 h3 h4 => opens_act22 f cs x g n h1 h2 h3 h4) hf
  simp [Value.cells] at e
  subst e
  exact ⟨l, hr, hm⟩

theorem votesPlays_contract (H : Type) (enc : TypeId × Value → H) (W : World) (base : Nat) (args : Array Value) (ds gs : List (DataW H)) (before : List MemPlace)
    (hval0 : ∀ (j : Nat) t v, Try.f3.params[j]? = some t → args[j]? = some v → Value.okWide Try.prog W .any base t v)
    (hW : DataW.Whole enc Try.prog Try.f3.params.toList Rows.votesPlaysSpec.vars false W args.toList ds gs before) (hk : Rows.uptoSmall H (ds ++ gs) = true) :
    Calls Try.prog 3 args W fun e W' => ∃ v, e = .returned v ∧ Rows.votesPlaysSpec.post enc Try.prog Try.f3 false true false false W args v W' := by
  have hval : ∀ (j : Nat) t v, Try.f3.params[j]? = some t → args[j]? = some v → Value.okWide Try.prog W .any base t v := hval0
  have hW' := hW
  obtain ⟨p, q, hA0, hV, rfl, hfz, hnd⟩ := hW
  have hA : DataW.TrodAll enc Try.prog W 0 (fun _ => true) true Try.f3.params.toList args.toList ds p := hA0
  rw [Try.params3] at hA hval
  obtain ⟨v0, vs0, d0, ds0, p0, q0, hargs, rfl, rfl, h0, r0⟩ := trodAll_cons hA
  obtain ⟨rfl, rfl, rfl⟩ := trodAll_nil r0
  obtain rfl : args = #[v0] := by cases args; simp_all
  obtain ⟨rfl, rfl⟩ := trodVars_none hV
  obtain ⟨a0, len0, cap0, rfl⟩ := okWide_slice Try.underlying22 (hval 0 22 v0 rfl rfl)
  have k0 := h0
  have lt0 : ∀ x ∈ p0, x.block < W.heap.size := by obtain ⟨m, hm⟩ := k0; exact DataW.trod_lt m _ _ _ hm
  have hb : Rows.uptoBulk d0 ≤ 1048576 := by
    have h : Rows.uptoBulkAll ([d0] ++ []) ≤ 1048576 := of_decide_eq_true hk
    exact Nat.le_trans (bulk_part (by simp)) h
  obtain ⟨l0, hl0, ml0⟩ := open_acts22 hb h0
  clear hA0 hval0 hk
  refine (vplays_walk hl0 (by omega)).mono fun e W' ⟨he, hx⟩ => ?_
  subst he
  have bel : Below W.heap.size W W' := hx.below fun _ => False.elim
  exact ⟨_, rfl, _, _, _, [], _, [], hW', trodAll_mk1 (shut_bool Try.underlying4 _), (trodAll_cons_mk (Below.trod laidOut (by kernel_rfl) (of_decide_eq_true (by kernel_rfl)) k0 bel lt0) trodAll_mk0), rfl, bel.frame _, fun h => by cases h⟩

set_option maxRecDepth 100000 in
theorem votesPlays_lifted (os : Os) (started : os.Started) (H : Type) (enc : TypeId × Value → H) (F : Stop.Interp) :
    ReturnsInHanded {} Try.checked os 3 .any ((Rows.OpenSpec.upto Rows.votesPlaysSpec).pre6 enc Try.prog Try.f3 Rows.votesPlaysUptoRow.domain false) (((Rows.OpenSpec.upto Rows.votesPlaysSpec).at F).post enc Try.prog Try.f3 false true false false) := by
  refine returnsInHanded_of_cond (C := Try.checked) (s := Rows.OpenSpec.upto Rows.votesPlaysSpec) (k := Rows.uptoSmall) rfl own started (by kernel_rfl) Try.func3
    (OpenSpec.witness (enc := enc) (C := Try.checked) (s := Rows.OpenSpec.upto Rows.votesPlaysSpec) (k := Rows.uptoSmall) rfl false ⟨#[], #[.slice none 0 0], []⟩ 8 (by kernel_rfl) (by kernel_rfl) (by kernel_rfl)
      (x := ([.nil], [], [])) (by kernel_rfl) rfl (by kernel_rfl)) ?_
  intro W base args ds gs before hval hW _ hk _
  exact votesPlays_contract H enc W base args ds gs before hval hW hk

theorem votesPlays_over : Rows.votesPlaysUptoRow.holds Try.pinned (Rows.OpenSpec.upto Rows.votesPlaysSpec) :=
  OpenClaim.holds_of_cond 3 Try.f3 rfl rfl rfl rfl rfl rfl rfl ⟨rfl, rfl, rfl, rfl, rfl⟩ rfl rfl rfl rfl rfl (by kernel_rfl) Try.func3 (by kernel_rfl)
    (of_decide_eq_true (by kernel_rfl)) (by unfold Func.isWrapper; first | (rw [if_pos (by decide +kernel)]; kernel_rfl) | (rw [if_neg (by decide +kernel)]; exact ⟨rfl, rfl⟩))
    (fun os started H enc _ F => votesPlays_lifted os started H enc F)
theorem votesPlays_holds : Rows.VotesPlaysUptoSaid := votesPlays_over
end Go.Proofs.Ytebcpacenoedfaa
