/- Arguments opened to lists, with the bound on their bulk; no condition. -/
import Derived.Test.YtebcpacenoedfaaRows
import Derived.Test.YtebcpacenoedfaaLawBase
import Derived.Test.YtebcpacenoedfaaPlain2
namespace Go.Proofs.Ytebcpacenoedfaa
set_option linter.unusedVariables false
set_option linter.unusedSimpArgs false
open Go.RowKit Go.ChangeShapes Go.WideShapes Go.Deep

theorem bulk_one {H : Type} (d : DataW H) : 1 ≤ Rows.uptoBulk d := by
  cases d with
  | lit l => cases l <;> simp [Rows.uptoBulk]
  | _ => simp [Rows.uptoBulk]
theorem bulk_part {H : Type} {d : DataW H} {l : List (DataW H)} (h : d ∈ l) : Rows.uptoBulk d ≤ Rows.uptoBulkAll l := by
  induction l with
  | nil => cases h
  | cons x r ih =>
    simp only [Rows.uptoBulkAll]
    rcases List.mem_cons.1 h with rfl | e
    · omega
    · have := ih e; omega
theorem bulk_len {H : Type} (l : List (DataW H)) : l.length ≤ Rows.uptoBulkAll l := by
  induction l with
  | nil => simp [Rows.uptoBulkAll]
  | cons x r ih => have := bulk_one x; simp only [Rows.uptoBulkAll, List.length_cons]; omega
theorem bulk_elem {H : Type} {N : Nat} {elems spare : List (DataW H)} (h : Rows.uptoBulk (.slice elems spare) ≤ N) {d : DataW H} (hd : d ∈ elems) : Rows.uptoBulk d ≤ N := by
  have := bulk_part hd
  simp only [Rows.uptoBulk] at h
  omega
theorem bulk_count {H : Type} {N : Nat} {elems spare : List (DataW H)} (h : Rows.uptoBulk (.slice elems spare) ≤ N) : elems.length ≤ N := by
  have := bulk_len elems
  simp only [Rows.uptoBulk] at h
  omega
theorem row_all {α : Type} {R : World → Nat → Nat → α → Prop} {size : Nat} {D : Nat → Prop} {w : World} {v : Value} {l : List α} {P : α → Prop} (h : Row R size D w v l) (hR : ∀ g n x, R w g n x → P x) : ∀ x ∈ l, P x := by
  intro x hx
  obtain ⟨i, hi, rfl⟩ := List.mem_iff_getElem.1 hx
  obtain ⟨g, o, c, _, _, hr⟩ := h.at hi
  exact hR _ _ _ hr

section
variable {H : Type} {enc : TypeId × Value → H} {P : Program} {W : World} {spare : Nat → Bool} {held : Bool}
theorem opens_row_u {N : Nat} {α : Type} {R : World → Nat → Nat → α → Prop} {t e size : Nat} {fuel : Nat} {cs : List Value} {x : DataW H × List MemPlace} (ht : P.underlying t = some (.slice e)) (hC : P.cellsOf e = size) (hsz : 0 < size) (hsm : Rows.uptoBulk x.1 ≤ N)
    (helem : ∀ (fuel : Nat) (cs : List Value) (x : DataW H × List MemPlace) (g n : Nat), DataW.trod enc P W 0 spare held fuel e cs = some x → Rows.uptoBulk x.1 ≤ N → cs.length = size → (∀ j u, cs[j]? = some u → W.cell? ⟨g, n + j, none⟩ = some u) → ∃ d, R W g n d)
    (h : DataW.trod enc P W 0 spare held fuel t cs = some x) : ∃ v l, cs = [v] ∧ Row R size (· < W.heap.size) W v l ∧ l.length ≤ N := by
  rcases open_slice ht h with ⟨rfl, _⟩ | ⟨a, len, cap, m, n, D, Pl, rfl, hb, hl, hm, hmm, rfl, hel⟩
  · exact ⟨_, [], rfl, ⟨none, 0, rfl, Nat.le_refl _, fun h => absurd rfl h⟩, by simp⟩
  · by_cases h0 : len = 0
    · subst h0
      exact ⟨_, [], rfl, ⟨some a, cap, rfl, by simp, fun h => absurd rfl h⟩, by simp⟩
    · have hcell : ∀ i, i < len → ∃ cs', cs'.length = size ∧ (∀ j, j < size → W.cell? ((a.add (i * size)).add j) = cs'[j]?) ∧ ∃ n' x', DataW.trod enc P W 0 spare held n' e cs' = some x' ∧ Rows.uptoBulk x'.1 ≤ N := by
        intro i hi
        obtain ⟨cs', hc, ht'⟩ := hel i (by rw [hmm]; split <;> omega)
        rw [hC] at hc
        obtain ⟨_, h2, h3⟩ := World.cells?_some hc
        exact ⟨cs', h2, h3, _, _, ht', bulk_elem hsm (List.mem_map.2 ⟨i, List.mem_range.2 hi, rfl⟩)⟩
      have hcnt := bulk_count hsm
      simp only [List.length_map, List.length_range] at hcnt
      obtain ⟨g, o, spot⟩ := a
      have hspot : spot = none := by
        obtain ⟨cs', h2, h3, _⟩ := hcell 0 (by omega)
        have h4 := h3 0 hsz
        have e1 : (((⟨g, o, spot⟩ : Addr).add (0 * size)).add 0) = ⟨g, o, spot⟩ := by simp [Addr.add]
        rw [e1] at h4
        cases spot with
        | none => rfl
        | some s =>
          have : W.cell? ⟨g, o, some s⟩ = none := by
            unfold World.cell?
            split <;> simp
          rw [this, List.getElem?_eq_getElem (by omega)] at h4
          cases h4
      subst hspot
      have hadd : ∀ i j, ((⟨g, o, none⟩ : Addr).add i).add j = ⟨g, o + i + j, none⟩ := by
        intro i j
        unfold Addr.add
        split <;> split <;> simp_all
      have hget : ∀ i, i < len → ∃ d : α, R W g (o + i * size) d := by
        intro i hi
        obtain ⟨cs', h2, h3, n', x', h4, h5⟩ := hcell i hi
        refine helem n' cs' x' g (o + i * size) h4 h5 h2 fun j u hu => ?_
        have hj : j < size := by rw [← h2]; exact (List.getElem?_eq_some_iff.1 hu).1
        rw [← hadd, h3 j hj, hu]
      obtain ⟨l, hll, hp⟩ := exists_list len hget
      subst hll
      refine ⟨_, l, rfl, ⟨some ⟨g, o, none⟩, cap, rfl, hl, fun hne => ⟨g, o, rfl, ?_, fun i x hx => hp i x hx⟩⟩, hcnt⟩
      obtain ⟨cs', h2, h3, _⟩ := hcell 0 (by omega)
      have h4 := h3 0 hsz
      rw [hadd, List.getElem?_eq_getElem (by omega)] at h4
      exact World.block_lt_of_cell? _ _ h4
end

section
variable {H : Type} {enc : TypeId × Value → H} {W : World} {spare : Nat → Bool} {held : Bool}
/-- A row of byte slices, of so many at most. -/
theorem opens_byts_u {N : Nat} {fuel : Nat} {cs : List Value} {x : DataW H × List MemPlace} (hsm : Rows.uptoBulk x.1 ≤ N) (h : DataW.trod enc Try.prog W 0 spare held fuel 33 cs = some x) :
    ∃ v l, cs = [v] ∧ Byts (· < W.heap.size) W v l ∧ l.length ≤ N :=
  opens_row_u Try.underlying33 (by kernel_rfl) (by decide) hsm (fun f cs x g n hf _ _ hcell => by
    obtain ⟨v, l, rfl, hb, _⟩ := opens_byt Try.underlying36 Try.underlying5 (by kernel_rfl) hf
    exact ⟨l, v, by simpa using hcell 0 v (by simp), hb⟩) h
end
end Go.Proofs.Ytebcpacenoedfaa
