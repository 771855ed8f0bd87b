/- Digests, texts and rows of byte slices that come in; no condition. -/
import Derived.Test.YthjmbpgakpnnoaaSized
import Derived.Test.YthjmbpgakpnnoaaSha7
import Derived.Test.YthjmbpgakpnnoaaPlain2
namespace Go.Proofs.Ythjmbpgakpnnoaa
set_option linter.unusedVariables false
set_option linter.unusedSimpArgs false
open Go.RowKit Go.ChangeShapes Go.WideShapes Go.Deep

theorem bytes_of_cells : ∀ (cs : List Value), (∀ i, i < cs.length → ∃ u : UInt8, cs[i]? = some (byteV u)) → ∃ s : Bs, s.length = cs.length ∧ cs = s.map byteV
  | [], _ => ⟨[], rfl, rfl⟩
  | v :: r, h => by
    obtain ⟨u, hu⟩ := h 0 (by simp)
    obtain ⟨s, hl, rfl⟩ := bytes_of_cells r fun i hi => by
      obtain ⟨u, hu⟩ := h (i + 1) (by simpa using hi)
      exact ⟨u, by simpa using hu⟩
    simp at hu
    exact ⟨u :: s, by simp, by simp [hu]⟩
theorem open_sum {H : Type} {enc : TypeId × Value → H} {W : World} {base : Nat} {spare : Nat → Bool} {held : Bool} {v : Value} {d : DataW H} {p : List MemPlace} (hval : Value.okWide Try.prog W .any base 26 v)
    (h : ∃ fuel, DataW.trod enc Try.prog W 0 spare held fuel 26 v.cells.toList = some (d, p)) : ∃ s : Bs, s.length = 32 ∧ v = sumV s := by
  have hv := hval
  simp only [Value.okWide, Try.underlying26] at hv
  obtain ⟨cs, rfl, hsz, _⟩ := hv
  obtain ⟨fuel, hf⟩ := h
  obtain ⟨xs, m, _, _, hlen, hxl, hat⟩ := DataW.trod_array Try.underlying26 hf
  simp only [Value.cells] at hlen hat
  rw [show Try.prog.cellsOf 26 = 32 by kernel_rfl] at hlen
  rw [show Try.prog.cellsOf 5 = 1 by kernel_rfl] at hat
  obtain ⟨s, hl, he⟩ := bytes_of_cells cs.toList fun i hi => by
    have h1 := hat i (by omega)
    rw [List.getElem?_eq_getElem (by omega)] at h1
    obtain ⟨q, hq, _, hw⟩ := DataW.trod_int Try.underlying5 h1
    have hdt : (cs.toList.drop (i * 1)).take 1 = [cs.toList[i]] := by
      rw [Nat.mul_one, List.drop_eq_getElem_cons hi]
      rfl
    rw [hdt] at hq
    simp only [List.cons.injEq, and_true] at hq
    have hw' := bounds_u8 hw
    refine ⟨UInt8.ofNat q.toNat, ?_⟩
    rw [List.getElem?_eq_getElem hi, hq]
    simp [byteV]
    omega
  refine ⟨s, by omega, ?_⟩
  show Value.agg cs = .agg (s.map byteV).toArray
  rw [← he]
theorem open_text {H : Type} {enc : TypeId × Value → H} {W : World} {base : Nat} {spare : Nat → Bool} {held : Bool} {v : Value} {d : DataW H} {p : List MemPlace} (hval : Value.okWide Try.prog W .any base 9 v)
    (h : ∃ fuel, DataW.trod enc Try.prog W 0 spare held fuel 9 v.cells.toList = some (d, p)) : ∃ l : Bs, v = str l ∧ l.length ≤ maxLen := by
  obtain ⟨s, rfl⟩ := okWide_string Try.underlying9 hval
  obtain ⟨fuel, hf⟩ := h
  obtain ⟨s', h, _, hs⟩ := DataW.trod_string Try.underlying9 hf
  simp [Value.cells] at h
  subst h
  exact ⟨s.data.toList, rfl, hs⟩
theorem open_byts {H : Type} {enc : TypeId × Value → H} {W : World} {spare : Nat → Bool} {held : Bool} {A : Option Addr} {len cap : Nat} {d : DataW H} {p : List MemPlace} (hsm : Small Try.prog 30 d)
    (h : ∃ fuel, DataW.trod enc Try.prog W 0 spare held fuel 30 (Value.slice A len cap).cells.toList = some (d, p)) : ∃ l : List Bs, Byts (· < W.heap.size) W (.slice A len cap) l ∧ l.length ≤ 5864062014634 := by
  have h' := h
  obtain ⟨l, hl, _⟩ := trod_row_s (R := fun w g n x => ∃ u, w.cell? ⟨g, n, none⟩ = some u ∧ Byt (· < W.heap.size) w u x) (size := 1) Try.underlying30 (by kernel_rfl) (by decide) hsm (fun f cs x g n hf hs hc hcell => by
    obtain ⟨v, l, rfl, hb, _⟩ := opens_byt Try.underlying22 Try.underlying5 (by kernel_rfl) hf
    exact ⟨l, v, by simpa using hcell 0 v (by simp), hb⟩) h
  obtain ⟨fuel, hf⟩ := h'
  have hsl := small_slice (x := (d, p)) Try.underlying30 hf hsm
  rw [show Try.prog.bytesOf 22 = 24 by kernel_rfl] at hsl
  refine ⟨l, hl, ?_⟩
  obtain ⟨A', c', e, _⟩ := hl
  simp only [Value.slice.injEq] at e
  omega
end Go.Proofs.Ythjmbpgakpnnoaa
