/- Entries, rows of entries and rows of acts that come in; no condition. -/
import Derived.Test.YtoflfhjeabpcjaaSized
namespace Go.Proofs.Ytoflfhjeabpcjaa
set_option linter.unusedVariables false
set_option linter.unusedSimpArgs false
open Go.RowKit Go.ChangeShapes Go.WideShapes Go.Deep

theorem two_of {α : Type} : ∀ {l : List α}, l.length = 2 → ∃ a b, l = [a, b]
  | [a, b], _ => ⟨a, b, rfl⟩
theorem trod_len2 {H : Type} {enc : TypeId × Value → H} {W : World} {spare : Nat → Bool} {held : Bool} {fuel : Nat} {cs : List Value} {x : DataW H × List MemPlace} (h : DataW.trod enc Try.prog W 0 spare held fuel 24 cs = some x) : cs.length = 2 := by
  obtain ⟨_, _, _, _, hl, _⟩ := DataW.trod_struct Try.underlying24 h
  rw [hl]
  kernel_rfl
set_option maxRecDepth 100000 in
theorem open_entry {H : Type} {enc : TypeId × Value → H} {W : World} {base : Nat} {spare : Nat → Bool} {held : Bool} {v : Value} {d : DataW H} {p : List MemPlace} (hval : Value.okWide Try.prog W .any base 24 v) (hsm : Small Try.prog 24 d)
    (h : ∃ fuel, DataW.trod enc Try.prog W 0 spare held fuel 24 v.cells.toList = some (d, p)) : ∃ a b k x, v = .agg #[a, b] ∧ Byt (· < W.heap.size) W a k ∧ k.length ≤ 140737488351232 ∧ Byt (· < W.heap.size) W b x ∧ x.length ≤ 140737488351232 := by
  obtain ⟨fuel, hf⟩ := h
  have kb : Try.prog.cellsOf 22 = 1 := by kernel_rfl
  obtain ⟨_, _, h0, hs0⟩ := opens_field_s Try.underlying24 hf hsm 0 rfl kb
  obtain ⟨_, _, h1, hs1⟩ := opens_field_s Try.underlying24 hf hsm 1 rfl kb
  obtain ⟨a, k, e0, ha, la⟩ := opens_byt_s Try.underlying22 Try.underlying5 (by kernel_rfl) (by kernel_rfl) h0 hs0
  obtain ⟨b, x, e1, hb, lb⟩ := opens_byt_s Try.underlying22 Try.underlying5 (by kernel_rfl) (by kernel_rfl) h1 hs1
  have hlen := trod_len2 hf
  refine ⟨a, b, k, x, ?_, ha, la, hb, lb⟩
  obtain ⟨c0, c1, hc⟩ := two_of hlen
  rw [hc] at e0 e1
  simp at e0 e1
  rw [e0, e1] at hc
  clear e0 e1 hf hval
  cases v
  case agg cs =>
    simp only [Value.cells] at hc
    congr 1
    exact Array.toList_inj.1 hc
  all_goals simp [Value.cells] at hc
structure EntryIs (D : Nat → Prop) (w : World) (g n : Nat) (x : Bs × Bs) : Prop where
  cells : ∃ a b, w.cell? ⟨g, n, none⟩ = some a ∧ w.cell? ⟨g, n + 1, none⟩ = some b ∧ Byt D w a x.1 ∧ Byt D w b x.2
  key : x.1.length ≤ 140737488351232
  value : x.2.length ≤ 140737488351232
theorem opens_entry_s {H : Type} {enc : TypeId × Value → H} {W : World} {spare : Nat → Bool} {held : Bool} (fuel : Nat) (cs : List Value) (x : DataW H × List MemPlace) (g n : Nat)
    (h : DataW.trod enc Try.prog W 0 spare held fuel 24 cs = some x) (hs : Small Try.prog 24 x.1) (hl : cs.length = 2) (hat : ∀ j u, cs[j]? = some u → W.cell? ⟨g, n + j, none⟩ = some u) : ∃ d, EntryIs (· < W.heap.size) W g n d := by
  match cs, hl with
  | [c0, c1], _ =>
    have kb : Try.prog.cellsOf 22 = 1 := by kernel_rfl
    obtain ⟨_, _, h0, hs0⟩ := opens_field_s Try.underlying24 h hs 0 rfl kb
    obtain ⟨_, _, h1, hs1⟩ := opens_field_s Try.underlying24 h hs 1 rfl kb
    obtain ⟨a, k, e0, ha, la⟩ := opens_byt_s Try.underlying22 Try.underlying5 (by kernel_rfl) (by kernel_rfl) h0 hs0
    obtain ⟨b, y, e1, hb, lb⟩ := opens_byt_s Try.underlying22 Try.underlying5 (by kernel_rfl) (by kernel_rfl) h1 hs1
    simp at e0 e1
    subst e0 e1
    exact ⟨(k, y), ⟨_, _, hat 0 _ rfl, hat 1 _ rfl, ha, hb⟩, la, lb⟩
structure Act4 where
  d : Int
  k : Bs
  v : Bs
structure Act4Is (D : Nat → Prop) (w : World) (g n : Nat) (x : Act4) : Prop where
  cells : ∃ a b, w.cell? ⟨g, n, none⟩ = some (.int .i64 x.d) ∧ w.cell? ⟨g, n + 1, none⟩ = some a ∧ w.cell? ⟨g, n + 2, none⟩ = some b ∧ Byt D w a x.k ∧ Byt D w b x.v
  key : x.k.length ≤ 140737488351232
  value : x.v.length ≤ 140737488351232
theorem opens_act4_s {H : Type} {enc : TypeId × Value → H} {W : World} {spare : Nat → Bool} {held : Bool} (fuel : Nat) (cs : List Value) (x : DataW H × List MemPlace) (g n : Nat)
    (h : DataW.trod enc Try.prog W 0 spare held fuel 56 cs = some x) (hs : Small Try.prog 56 x.1) (hl : cs.length = 3) (hat : ∀ j u, cs[j]? = some u → W.cell? ⟨g, n + j, none⟩ = some u) : ∃ d, Act4Is (· < W.heap.size) W g n d := by
  match cs, hl with
  | [c0, c1, c2], _ =>
    have ki : Try.prog.cellsOf 3 = 1 := by kernel_rfl
    have kb : Try.prog.cellsOf 22 = 1 := by kernel_rfl
    obtain ⟨_, _, h0⟩ := opens_field Try.underlying56 h 0 rfl ki
    obtain ⟨_, _, h1, hs1⟩ := opens_field_s Try.underlying56 h hs 1 rfl kb
    obtain ⟨_, _, h2, hs2⟩ := opens_field_s Try.underlying56 h hs 2 rfl kb
    obtain ⟨q0, e0, _, _⟩ := DataW.trod_int Try.underlying3 h0
    obtain ⟨a, k, e1, ha, la⟩ := opens_byt_s Try.underlying22 Try.underlying5 (by kernel_rfl) (by kernel_rfl) h1 hs1
    obtain ⟨b, y, e2, hb, lb⟩ := opens_byt_s Try.underlying22 Try.underlying5 (by kernel_rfl) (by kernel_rfl) h2 hs2
    simp at e0 e1 e2
    subst e0 e1 e2
    exact ⟨⟨q0, k, y⟩, ⟨_, _, hat 0 _ rfl, hat 1 _ rfl, hat 2 _ rfl, ha, hb⟩, la, lb⟩
end Go.Proofs.Ytoflfhjeabpcjaa
