/- Acts of a client opened; no condition. -/
import Derived.Test.YtcedpdjjjfdbiaaCliAct
import Derived.Test.YtcedpdjjjfdbiaaLawBase
namespace Go.Proofs.Ytcedpdjjjfdbiaa
set_option linter.unusedVariables false
set_option linter.unusedSimpArgs false
open Go.RowKit Go.ChangeShapes Go.WideShapes Go.ChangeAt
theorem opens_act25 {H : Type} {enc : TypeId × Value → H} {W : World} {spare : Nat → Bool} {held : Bool} (fuel : Nat) (cs : List Value) (x : DataW H × List MemPlace) (g n : Nat)
    (h : DataW.trod enc Try.prog W 0 spare held fuel 35 cs = some x) (hl : cs.length = 6) (hat : ∀ j u, cs[j]? = some u → W.cell? ⟨g, n + j, none⟩ = some u) : ∃ d, Act25.Is (· < W.heap.size) W g n d := by
  match cs, hl with
  | [c0, c1, c2, c3, c4, c5], _ =>
    have ki : Try.prog.cellsOf 3 = 1 := by kernel_rfl
    have ks : Try.prog.cellsOf 9 = 1 := by kernel_rfl
    have kb : Try.prog.cellsOf 33 = 1 := by kernel_rfl
    obtain ⟨_, _, h0⟩ := opens_field Try.underlying35 h 0 rfl ki
    obtain ⟨_, _, h1⟩ := opens_field Try.underlying35 h 1 rfl ki
    obtain ⟨_, _, h2⟩ := opens_field Try.underlying35 h 2 rfl ki
    obtain ⟨_, _, h3⟩ := opens_field Try.underlying35 h 3 rfl ki
    obtain ⟨_, _, h4⟩ := opens_field Try.underlying35 h 4 rfl ks
    obtain ⟨_, _, h5⟩ := opens_field Try.underlying35 h 5 rfl kb
    obtain ⟨q0, e0, _, _⟩ := DataW.trod_int Try.underlying3 h0
    obtain ⟨q1, e1, _, _⟩ := DataW.trod_int Try.underlying3 h1
    obtain ⟨q2, e2, _, _⟩ := DataW.trod_int Try.underlying3 h2
    obtain ⟨q3, e3, _, _⟩ := DataW.trod_int Try.underlying3 h3
    obtain ⟨s, e4, _, _⟩ := DataW.trod_string Try.underlying9 h4
    obtain ⟨v, l, e5, hb, hm⟩ := opens_byt Try.underlying33 Try.underlying5 (by kernel_rfl) h5
    simp at e0 e1 e2 e3 e4 e5
    subst e0 e1 e2 e3 e4 e5
    have h4' := hat 4 _ rfl
    exact ⟨⟨q0, q1, q2, q3, s.data.toList, l⟩, _, hat 0 _ rfl, hat 1 _ rfl, hat 2 _ rfl, hat 3 _ rfl, by simpa [str] using h4', hat 5 _ rfl, hb⟩
end Go.Proofs.Ytcedpdjjjfdbiaa
