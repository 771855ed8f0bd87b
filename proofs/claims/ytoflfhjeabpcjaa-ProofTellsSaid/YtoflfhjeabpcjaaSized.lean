/- Arguments opened to lists, with the bound on the bytes of each; no condition. -/
import Derived.Test.YtoflfhjeabpcjaaLawBase
import Derived.SizedLaws
namespace Go.Proofs.Ytoflfhjeabpcjaa
set_option linter.unusedVariables false
set_option linter.unusedSimpArgs false
open Go.RowKit Go.ChangeShapes Go.WideShapes Go.Deep

theorem weightsAll_in {H : Type} {P : Program} {e : TypeId} : ∀ {l : List (DataW H)} {d : DataW H}, d ∈ l → ∀ n ∈ d.weights P e, n ∈ DataW.weightsAll P e l
  | d0 :: r, d, hd, n, hn => by
    simp only [DataW.weightsAll, List.mem_append]
    rcases List.mem_cons.1 hd with rfl | hd
    · exact .inl hn
    · exact .inr (weightsAll_in hd n hn)
  | [], d, hd, _, _ => by cases hd
/-- Each part of it is small. -/
def Small {H : Type} (P : Program) (t : TypeId) (d : DataW H) : Prop := ∀ n ∈ d.weights P t, n ≤ 140737488351232
theorem small_each {H : Type} {P : Program} {ts : List TypeId} {ds : List (DataW H)} (h : (DataW.weightsEach P ts ds).all (· ≤ reachBytes) = true) {j : Nat} {t : TypeId} {d : DataW H} (ht : ts[j]? = some t) (hd : ds[j]? = some d) : Small P t d := by
  intro n hn
  have := List.all_eq_true.1 h _ (DataW.weights_mem_each ht hd n hn)
  have h2 : n ≤ reachBytes := of_decide_eq_true this
  exact h2

section
variable {H : Type} {enc : TypeId × Value → H} {P : Program} {W : World} {spare : Nat → Bool} {held : Bool}

theorem small_slice {t e : TypeId} {fuel : Nat} {A : Option Addr} {len cap : Nat} {x : DataW H × List MemPlace} (ht : P.underlying t = some (.slice e)) (h : DataW.trod enc P W 0 spare held fuel t [.slice A len cap] = some x) (hs : Small P t x.1) :
    len * P.bytesOf e ≤ 140737488351232 := by
  rcases open_slice ht h with ⟨e1, _⟩ | ⟨a, len', cap', m, n, D, Pl, e1, hb, hl, hm, hmm, rfl, hel⟩
  · simp at e1; simp [e1]
  · simp at e1
    obtain ⟨_, rfl, _⟩ := e1
    have := hs ((len + (m - len)) * P.bytesOf e) (by simp [DataW.weights, ht])
    exact Nat.le_trans (Nat.mul_le_mul_right _ (by omega)) this
theorem small_elem {t e : TypeId} {elems spare' : List (DataW H)} (ht : P.underlying t = some (.slice e)) (hs : Small P t (.slice elems spare')) {d : DataW H} (hd : d ∈ elems) : Small P e d := by
  intro n hn
  refine hs n ?_
  simp only [DataW.weights, ht, List.mem_cons, List.mem_append]
  exact .inr (.inl (weightsAll_in hd n hn))

theorem opens_byt_s {t e : TypeId} {fuel : Nat} {cs : List Value} {x : DataW H × List MemPlace} (ht : P.underlying t = some (.slice e)) (he : P.underlying e = some (.int .u8)) (hC : P.cellsOf e = 1) (hB : P.bytesOf e = 1)
    (h : DataW.trod enc P W 0 spare held fuel t cs = some x) (hs : Small P t x.1) : ∃ v l, cs = [v] ∧ Byt (· < W.heap.size) W v l ∧ l.length ≤ 140737488351232 := by
  obtain ⟨v, l, rfl, hb, _⟩ := opens_byt ht he hC h
  obtain ⟨A, c, rfl, _⟩ := id hb
  exact ⟨_, l, rfl, hb, by have := small_slice ht h hs; rwa [hB, Nat.mul_one] at this⟩

theorem opens_row_s {α : Type} {R : World → Nat → Nat → α → Prop} {t e size : Nat} {fuel : Nat} {cs : List Value} {x : DataW H × List MemPlace} (ht : P.underlying t = some (.slice e)) (hC : P.cellsOf e = size) (hsz : 0 < size) (hsm : Small P t x.1)
    (helem : ∀ (fuel : Nat) (cs : List Value) (x : DataW H × List MemPlace) (g n : Nat), DataW.trod enc P W 0 spare held fuel e cs = some x → Small P e x.1 → cs.length = size → (∀ j u, cs[j]? = some u → W.cell? ⟨g, n + j, none⟩ = some u) → ∃ d, R W g n d)
    (h : DataW.trod enc P W 0 spare held fuel t cs = some x) : ∃ v l, cs = [v] ∧ Row R size (· < W.heap.size) W v l ∧ l.length ≤ maxLen := by
  rcases open_slice ht h with ⟨rfl, _⟩ | ⟨a, len, cap, m, n, D, Pl, rfl, hb, hl, hm, hmm, rfl, hel⟩
  · exact ⟨_, [], rfl, ⟨none, 0, rfl, Nat.le_refl _, fun h => absurd rfl h⟩, by simp [maxLen]⟩
  · by_cases h0 : len = 0
    · subst h0
      exact ⟨_, [], rfl, ⟨some a, cap, rfl, by simp, fun h => absurd rfl h⟩, by simp [maxLen]⟩
    · have hcell : ∀ i, i < len → ∃ cs', cs'.length = size ∧ (∀ j, j < size → W.cell? ((a.add (i * size)).add j) = cs'[j]?) ∧ ∃ n' x', DataW.trod enc P W 0 spare held n' e cs' = some x' ∧ Small P e x'.1 := by
        intro i hi
        obtain ⟨cs', hc, ht'⟩ := hel i (by rw [hmm]; split <;> omega)
        rw [hC] at hc
        obtain ⟨_, h2, h3⟩ := World.cells?_some hc
        exact ⟨cs', h2, h3, _, _, ht', small_elem ht hsm (List.mem_map.2 ⟨i, List.mem_range.2 hi, rfl⟩)⟩
      obtain ⟨g, o, spot⟩ := a
      have hspot : spot = none := by
        obtain ⟨cs', h2, h3, _⟩ := hcell 0 (by omega)
        have h4 := h3 0 hsz
        have e1 : (((⟨g, o, spot⟩ : Addr).add (0 * size)).add 0) = ⟨g, o, spot⟩ := by simp [Addr.add]
        rw [e1] at h4
        cases spot with
        | none => rfl
        | some s =>
          have : W.cell? ⟨g, o, some s⟩ = none := by
            unfold World.cell?
            split <;> simp
          rw [this, List.getElem?_eq_getElem (by omega)] at h4
          cases h4
      subst hspot
      have hadd : ∀ i j, ((⟨g, o, none⟩ : Addr).add i).add j = ⟨g, o + i + j, none⟩ := by
        intro i j
        unfold Addr.add
        split <;> split <;> simp_all
      have hget : ∀ i, i < len → ∃ d : α, R W g (o + i * size) d := by
        intro i hi
        obtain ⟨cs', h2, h3, n', x', h4, h5⟩ := hcell i hi
        refine helem n' cs' x' g (o + i * size) h4 h5 h2 fun j u hu => ?_
        have hj : j < size := by rw [← h2]; exact (List.getElem?_eq_some_iff.1 hu).1
        rw [← hadd, h3 j hj, hu]
      obtain ⟨l, hll, hp⟩ := exists_list len hget
      subst hll
      refine ⟨_, l, rfl, ⟨some ⟨g, o, none⟩, cap, rfl, hl, fun hne => ⟨g, o, rfl, ?_, fun i x hx => hp i x hx⟩⟩, Nat.le_trans hl hm⟩
      obtain ⟨cs', h2, h3, _⟩ := hcell 0 (by omega)
      have h4 := h3 0 hsz
      rw [hadd, List.getElem?_eq_getElem (by omega)] at h4
      exact World.block_lt_of_cell? _ _ h4

/-- Field i, small if the struct is. -/
theorem opens_field_s {t : TypeId} {fs : Array Field} {fuel : Nat} {cs : List Value} {x : DataW H × List MemPlace} (ht : P.underlying t = some (.struct fs)) (h : DataW.trod enc P W 0 spare held fuel t cs = some x) (hs : Small P t x.1)
    (i : Nat) {ft : TypeId} {off sz : Nat} (hf : (fs[i]?).map (fun f => (f.type, f.offset)) = some (ft, off)) (hsz : P.cellsOf ft = sz) : ∃ m y, DataW.trod enc P W 0 spare held m ft ((cs.drop off).take sz) = some y ∧ Small P ft y.1 := by
  obtain ⟨xs, n, _, rfl, _, hlen, hn⟩ := DataW.trod_struct ht h
  obtain ⟨f, hfi, hfe⟩ := Option.map_eq_some_iff.1 hf
  simp only [Prod.mk.injEq] at hfe
  obtain ⟨rfl, rfl⟩ := hfe
  subst hsz
  have hlt : i < xs.length := by rw [hlen]; exact (Array.getElem?_eq_some_iff.1 hfi).1
  refine ⟨n, xs[i], (hn i f hfi).trans (List.getElem?_eq_getElem hlt), fun k hk => hs k ?_⟩
  simp only [DataW.weights, ht]
  exact DataW.weights_mem_each (j := i) (by simp [hfi]) (by simp [hlt]) k hk
end

theorem trod_row_s {H : Type} {enc : TypeId × Value → H} {W : World} {spare : Nat → Bool} {held : Bool} {α : Type} {R : World → Nat → Nat → α → Prop} {t e size : Nat} {A : Option Addr} {len cap : Nat} {d : DataW H} {p : List MemPlace} (ht : Try.prog.underlying t = some (.slice e)) (hC : Try.prog.cellsOf e = size) (hsz : 0 < size) (hsm : Small Try.prog t d)
    (hop : ∀ (fuel : Nat) (cs : List Value) (x : DataW H × List MemPlace) (g n : Nat), DataW.trod enc Try.prog W 0 spare held fuel e cs = some x → Small Try.prog e x.1 → cs.length = size → (∀ j u, cs[j]? = some u → W.cell? ⟨g, n + j, none⟩ = some u) → ∃ d, R W g n d)
    (h : ∃ fuel, DataW.trod enc Try.prog W 0 spare held fuel t (Value.slice A len cap).cells.toList = some (d, p)) : ∃ l, Row R size (· < W.heap.size) W (.slice A len cap) l ∧ l.length ≤ maxLen := by
  obtain ⟨fuel, hf⟩ := h
  obtain ⟨v, l, e, hr, hm⟩ := opens_row_s (x := (d, p)) ht hC hsz hsm hop hf
  simp [Value.cells] at e
  exact ⟨l, e ▸ hr, hm⟩
end Go.Proofs.Ytoflfhjeabpcjaa
