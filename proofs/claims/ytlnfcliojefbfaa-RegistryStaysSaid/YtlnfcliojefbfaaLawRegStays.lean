/- RegistryStays: for every input the statement's function returns true, and each argument reads as it did. Conditions: none. -/
import Derived.Test.YtlnfcliojefbfaaRows
import Derived.Test.YtlnfcliojefbfaaRegArgs
import Derived.ProofKit
import Derived.OpenShut
import Derived.ShutString
import Derived.ChangeOld
import Derived.SizedLaws
namespace Go.Proofs.Ytlnfcliojefbfaa
set_option linter.unusedVariables false
set_option linter.unusedSimpArgs false
open Go.ChangeShapes Go.WideShapes Go.ChangeAt Go.RowKit
open Go.ChangeMaps (open_string shut_string)

theorem own : ownKnob Try.prog.godebug = none := by kernel_rfl
theorem laidOut : laidOutB Try.prog = true := by kernel_rfl

set_option maxRecDepth 100000 in
theorem opens_act3 {H : Type} {enc : TypeId × Value → H} {W : World} {spare : Nat → Bool} {held : Bool} (fuel : Nat) (cs : List Value) (x : DataW H × List MemPlace) (g n : Nat)
    (h : DataW.trod enc Try.prog W 0 spare held fuel 28 cs = some x) (hl : cs.length = 4) (hat : ∀ j u, cs[j]? = some u → W.cell? ⟨g, n + j, none⟩ = some u) : ∃ d, Act3.Is (· < W.heap.size) W g n d := by
  match cs, hl with
  | [c0, c1, c2, c3], _ =>
    have ki : Try.prog.cellsOf 3 = 1 := by kernel_rfl
    have kb : Try.prog.cellsOf 23 = 1 := by kernel_rfl
    obtain ⟨_, _, h0⟩ := opens_field Try.underlying28 h 0 rfl ki
    obtain ⟨_, _, h1⟩ := opens_field Try.underlying28 h 1 rfl ki
    obtain ⟨_, _, h2⟩ := opens_field Try.underlying28 h 2 rfl kb
    obtain ⟨_, _, h3⟩ := opens_field Try.underlying28 h 3 rfl ki
    obtain ⟨q0, e0, _, _⟩ := DataW.trod_int Try.underlying3 h0
    obtain ⟨q1, e1, _, _⟩ := DataW.trod_int Try.underlying3 h1
    obtain ⟨v, l, e2, hb, _⟩ := opens_byt Try.underlying23 Try.underlying5 (by kernel_rfl) h2
    obtain ⟨q3, e3, _, _⟩ := DataW.trod_int Try.underlying3 h3
    simp at e0 e1 e2 e3
    subst e0 e1 e2 e3
    exact ⟨⟨q0, q1, l, q3⟩, _, hat 0 _ rfl, hat 1 _ rfl, hat 2 _ rfl, hat 3 _ rfl, hb⟩

set_option maxRecDepth 100000 in
theorem stays_lifted (os : Os) (started : os.Started) (H : Type) (enc : TypeId × Value → H) :
    ReturnsInHanded {} Try.checked os 3 .any (Rows.registryStaysSpec.pre6 enc Try.prog Try.f3 Rows.registryStaysRow.domain false) (Rows.registryStaysSpec.post enc Try.prog Try.f3 false true false false) := by
  refine returnsInHanded_of_change_sized (C := Try.checked) own started (by kernel_rfl) Try.func3
    (ChangeSpec.witness6 (enc := enc) (C := Try.checked) false ⟨#[], #[.slice none 0 0, .int .i64 0, .slice none 0 0], []⟩ 8 (by kernel_rfl) (by kernel_rfl) (by kernel_rfl) (by kernel_rfl)) ?_
  intro W base args ds gs before hval0 hW hcnd hsz0 _
  have hsz : (DataW.weightsEach Try.prog (Try.f3.params.toList ++ Rows.registryStaysSpec.plain.varTypes Try.prog) (ds ++ gs)).all (· ≤ reachBytes) = true := hsz0
  have hval : ∀ (j : Nat) t v, Try.f3.params[j]? = some t → args[j]? = some v → Value.okWide Try.prog W .any base t v := hval0
  have hW' := hW
  obtain ⟨p, q, hA0, hV, rfl, hfz, hnd⟩ := hW
  have hA : DataW.TrodAll enc Try.prog W 0 (fun _ => true) true Try.f3.params.toList args.toList ds p := hA0
  rw [Try.params3] at hA hval hsz
  obtain ⟨v0, vs0, d0, ds0, p0, q0, hargs, rfl, rfl, h0, r0⟩ := trodAll_cons hA
  obtain ⟨v1, vs1, d1, ds1, p1, q1, rfl, rfl, rfl, h1, r1⟩ := trodAll_cons r0
  obtain ⟨v2, vs2, d2, ds2, p2, q2, rfl, rfl, rfl, h2, r2⟩ := trodAll_cons r1
  obtain ⟨rfl, rfl, rfl⟩ := trodAll_nil r2
  obtain rfl : args = #[v0, v1, v2] := by cases args; simp_all
  obtain ⟨rfl, rfl⟩ := trodVars_none hV
  obtain ⟨a0, len0, cap0, rfl⟩ := okWide_slice Try.underlying22 (hval 0 22 v0 rfl rfl)
  have k0 := h0
  have lt0 : ∀ x ∈ p0, x.block < W.heap.size := by obtain ⟨m, hm⟩ := k0; exact DataW.trod_lt m _ _ _ hm
  obtain ⟨a1, rfl, rfl, rfl, w1⟩ := open_int Try.underlying3 (hval 1 3 v1 rfl rfl) h1
  obtain ⟨a2, len2, cap2, rfl⟩ := okWide_slice Try.underlying23 (hval 2 23 v2 rfl rfl)
  have k2 := h2
  have lt2 : ∀ x ∈ p2, x.block < W.heap.size := by obtain ⟨m, hm⟩ := k2; exact DataW.trod_lt m _ _ _ hm
  obtain ⟨acts, hacts⟩ : ∃ acts, Acts3 (· < W.heap.size) W (.slice a0 len0 cap0) acts ∧ acts.length ≤ maxLen := by
    obtain ⟨fuel, hf⟩ := h0
    obtain ⟨v, l, e, hr, hm⟩ := opens_row Try.underlying22 (by kernel_rfl) (by decide) (fun f cs x g n => opens_act3 f cs x g n) hf
    simp [Value.cells] at e
    exact ⟨l, e ▸ hr, hm⟩
  obtain ⟨text, htext⟩ : ∃ l, Byt (· < W.heap.size) W (.slice a2 len2 cap2) l := by
    obtain ⟨fuel, hf⟩ := h2
    obtain ⟨v, l, e, hr, hm⟩ := opens_byt Try.underlying23 Try.underlying5 (by kernel_rfl) hf
    simp [Value.cells] at e
    exact ⟨l, e ▸ hr⟩
  clear hA0 hval0 hsz0 hsz
  refine (stays_walk W _ _ acts a1 text hacts.1 htext (by have := hacts.2; unfold maxLen at this; exact this)).mono fun e W' ⟨he, hx⟩ => ?_
  subst he
  have bel : Below W.heap.size W W' := hx.below fun _ => False.elim
  exact ⟨_, rfl, _, _, _, [], _, [], hW', trodAll_mk1 (shut_bool Try.underlying4 _), (trodAll_cons_mk (Below.trod laidOut (by kernel_rfl) (of_decide_eq_true (by kernel_rfl)) k0 bel lt0) (trodAll_cons_mk (shut_int Try.underlying3 w1) (trodAll_cons_mk (Below.trod laidOut (by kernel_rfl) (of_decide_eq_true (by kernel_rfl)) k2 bel lt2) trodAll_mk0))), rfl, bel.frame _, fun h => by cases h⟩

theorem stays_over : Rows.registryStaysRow.holds Try.pinned (OpenSpec.ofChange Rows.registryStaysSpec) :=
  OpenClaim.holds_of_wide 3 Try.f3 rfl rfl rfl rfl rfl rfl rfl ⟨rfl, rfl, rfl, rfl, rfl⟩ rfl rfl rfl rfl rfl (by kernel_rfl) Try.func3 (by kernel_rfl)
    (of_decide_eq_true (by kernel_rfl)) (by unfold Func.isWrapper; first | (rw [if_pos (by decide +kernel)]; kernel_rfl) | (rw [if_neg (by decide +kernel)]; exact ⟨rfl, rfl⟩))
    (fun os started H enc _ => stays_lifted os started H enc)
theorem registryStays_holds : Rows.RegistryStaysSaid := stays_over
end Go.Proofs.Ytlnfcliojefbfaa
