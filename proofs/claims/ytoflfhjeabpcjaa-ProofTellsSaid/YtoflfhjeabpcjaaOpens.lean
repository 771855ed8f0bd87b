/- Arguments that come in, opened to lists; no condition. -/
import Derived.Test.YtoflfhjeabpcjaaBase
import Derived.Deep.Slices
import Derived.ChangeArms
import Derived.OpenShut
namespace Go.Proofs.Ytoflfhjeabpcjaa
set_option linter.unusedVariables false
set_option linter.unusedSimpArgs false
open Go.RowKit Go.ChangeShapes Go.WideShapes Go.Deep

/-- A slice of rows: row i at cell o + i * size of block g. -/
def Row {α : Type} (R : World → Nat → Nat → α → Prop) (size : Nat) (D : Nat → Prop) (w : World) (v : Value) (l : List α) : Prop :=
  ∃ A c, v = .slice A l.length c ∧ l.length ≤ c ∧ (l ≠ [] → ∃ g o, A = some ⟨g, o, none⟩ ∧ D g ∧ ∀ i x, l[i]? = some x → R w g (o + i * size) x)

theorem Byt.same {D : Nat → Prop} {w w' : World} {v : Value} {l : Bs} (h : Byt D w v l) (hx : Ext (fun _ => False) w w') : Byt D w' v l := h.ext hx fun _ _ => id
theorem cell_ext {F : Nat → Prop} {w w' : World} {a : Addr} {u : Value} (h : w.cell? a = some u) (hx : Ext F w w') (hF : ¬ F a.block) : w'.cell? a = some u := by
  rw [← h]
  exact World.cell?_of_block (hx.block _ (World.block_lt_of_cell? _ _ h) hF)
theorem cell_same {w w' : World} {a : Addr} {u : Value} (h : w.cell? a = some u) (hx : Ext (fun _ => False) w w') : w'.cell? a = some u := cell_ext h hx id
theorem Row.imp {α : Type} {R R' : World → Nat → Nat → α → Prop} {size : Nat} {D : Nat → Prop} {w w' : World} {v : Value} {l : List α} (h : Row R size D w v l) (hR : ∀ g n x, D g → R w g n x → R' w' g n x) : Row R' size D w' v l := by
  obtain ⟨A, c, e, hc, h⟩ := h
  exact ⟨A, c, e, hc, fun hn => let ⟨g, o, e, hd, hr⟩ := h hn; ⟨g, o, e, hd, fun i x hx => hR g _ x hd (hr i x hx)⟩⟩
theorem Row.same {α : Type} {R : World → Nat → Nat → α → Prop} {size : Nat} {D : Nat → Prop} {w w' : World} {v : Value} {l : List α} (h : Row R size D w v l) (hR : ∀ g n x, R w g n x → R w' g n x) : Row R size D w' v l := h.imp fun g n x _ hr => hR g n x hr
theorem Row.at {α : Type} {R : World → Nat → Nat → α → Prop} {size : Nat} {D : Nat → Prop} {w : World} {v : Value} {l : List α} (h : Row R size D w v l) {i : Nat} (hi : i < l.length) : ∃ g o c, v = .slice (some ⟨g, o, none⟩) l.length c ∧ D g ∧ R w g (o + i * size) l[i] := by
  obtain ⟨A, c, rfl, hc, h⟩ := h
  obtain ⟨g, o, rfl, hd, hr⟩ := h (by rintro rfl; simp at hi)
  exact ⟨g, o, c, rfl, hd, hr i _ (List.getElem?_eq_getElem hi)⟩

theorem exists_list {α : Type} {p : Nat → α → Prop} : ∀ (n : Nat), (∀ i, i < n → ∃ d, p i d) → ∃ l : List α, l.length = n ∧ ∀ i x, l[i]? = some x → p i x
  | 0, _ => ⟨[], rfl, by simp⟩
  | n + 1, h => by
    obtain ⟨l, hl, hp⟩ := exists_list n fun i hi => h i (by omega)
    obtain ⟨d, hd⟩ := h n (by omega)
    refine ⟨l ++ [d], by simp [hl], fun i x hx => ?_⟩
    by_cases hi : i < l.length
    · rw [List.getElem?_append_left hi] at hx
      exact hp i x hx
    · rw [List.getElem?_append_right (by omega)] at hx
      obtain ⟨hlt, rfl⟩ := List.getElem?_eq_some_iff.1 hx
      simp only [List.length_singleton] at hlt
      obtain rfl : i = n := by omega
      simpa [hl] using hd

section
variable {H : Type} {enc : TypeId × Value → H} {P : Program} {W : World} {spare : Nat → Bool} {held : Bool}

theorem opens_byt {t e : TypeId} {fuel : Nat} {cs : List Value} {x : DataW H × List MemPlace} (ht : P.underlying t = some (.slice e)) (he : P.underlying e = some (.int .u8)) (hC : P.cellsOf e = 1)
    (h : DataW.trod enc P W 0 spare held fuel t cs = some x) : ∃ v l, cs = [v] ∧ Byt (· < W.heap.size) W v l ∧ l.length ≤ maxLen := by
  rcases open_slice ht h with ⟨rfl, _⟩ | ⟨a, len, cap, m, n, D, Pl, rfl, hb, hl, hm, hmm, _, hel⟩
  · exact ⟨_, [], rfl, ⟨none, 0, rfl, Nat.le_refl _, fun h => absurd rfl h⟩, by simp [maxLen]⟩
  · have hget : ∀ i, i < len → ∃ u : UInt8, W.cell? (a.add i) = some (.int .u8 u.toNat) := by
      intro i hi
      obtain ⟨cs', hc, ht'⟩ := hel i (by rw [hmm]; split <;> omega)
      rw [hC] at hc
      obtain ⟨q, rfl, _, hw⟩ := DataW.trod_int he ht'
      obtain ⟨_, _, hat⟩ := World.cells?_some hc
      have h0 := hat 0 (by omega)
      have ha : (a.add (i * 1)).add 0 = a.add i := by simp [Addr.add]
      rw [ha] at h0
      refine ⟨UInt8.ofNat q.toNat, ?_⟩
      rw [h0]
      have hw' := bounds_u8 hw
      simp
      omega
    obtain ⟨l, hll, hp⟩ := exists_list len hget
    subst hll
    refine ⟨_, l, rfl, ⟨some a, cap, rfl, hl, fun hne => ⟨a, rfl, ?_, fun j u hu => hp j u hu⟩⟩, Nat.le_trans hl hm⟩
    have hpos : 0 < l.length := by cases l with | nil => exact absurd rfl hne | cons _ _ => simp
    have := World.block_lt_of_cell? _ _ (hp 0 _ (List.getElem?_eq_getElem hpos))
    rwa [block_add] at this

theorem opens_row {α : Type} {R : World → Nat → Nat → α → Prop} {t e size : Nat} {fuel : Nat} {cs : List Value} {x : DataW H × List MemPlace} (ht : P.underlying t = some (.slice e)) (hC : P.cellsOf e = size) (hsz : 0 < size)
    (helem : ∀ (fuel : Nat) (cs : List Value) (x : DataW H × List MemPlace) (g n : Nat), DataW.trod enc P W 0 spare held fuel e cs = some x → cs.length = size → (∀ j u, cs[j]? = some u → W.cell? ⟨g, n + j, none⟩ = some u) → ∃ d, R W g n d)
    (h : DataW.trod enc P W 0 spare held fuel t cs = some x) : ∃ v l, cs = [v] ∧ Row R size (· < W.heap.size) W v l ∧ l.length ≤ maxLen := by
  rcases open_slice ht h with ⟨rfl, _⟩ | ⟨a, len, cap, m, n, D, Pl, rfl, hb, hl, hm, hmm, _, hel⟩
  · exact ⟨_, [], rfl, ⟨none, 0, rfl, Nat.le_refl _, fun h => absurd rfl h⟩, by simp [maxLen]⟩
  · by_cases h0 : len = 0
    · subst h0
      exact ⟨_, [], rfl, ⟨some a, cap, rfl, by simp, fun h => absurd rfl h⟩, by simp [maxLen]⟩
    · have hcell : ∀ i, i < len → ∃ cs', cs'.length = size ∧ (∀ j, j < size → W.cell? ((a.add (i * size)).add j) = cs'[j]?) ∧ ∃ n' x', DataW.trod enc P W 0 spare held n' e cs' = some x' := by
        intro i hi
        obtain ⟨cs', hc, ht'⟩ := hel i (by rw [hmm]; split <;> omega)
        rw [hC] at hc
        obtain ⟨_, h2, h3⟩ := World.cells?_some hc
        exact ⟨cs', h2, h3, _, _, ht'⟩
      obtain ⟨g, o, spot⟩ := a
      have hspot : spot = none := by
        obtain ⟨cs', h2, h3, _⟩ := hcell 0 (by omega)
        have h4 := h3 0 hsz
        have e1 : (((⟨g, o, spot⟩ : Addr).add (0 * size)).add 0) = ⟨g, o, spot⟩ := by simp [Addr.add]
        rw [e1] at h4
        cases spot with
        | none => rfl
        | some s =>
          have : W.cell? ⟨g, o, some s⟩ = none := by
            unfold World.cell?
            split <;> simp
          rw [this, List.getElem?_eq_getElem (by omega)] at h4
          cases h4
      subst hspot
      have hadd : ∀ i j, ((⟨g, o, none⟩ : Addr).add i).add j = ⟨g, o + i + j, none⟩ := by
        intro i j
        unfold Addr.add
        split <;> split <;> simp_all
      have hget : ∀ i, i < len → ∃ d : α, R W g (o + i * size) d := by
        intro i hi
        obtain ⟨cs', h2, h3, n', x', h4⟩ := hcell i hi
        refine helem n' cs' x' g (o + i * size) h4 h2 fun j u hu => ?_
        have hj : j < size := by rw [← h2]; exact (List.getElem?_eq_some_iff.1 hu).1
        rw [← hadd, h3 j hj, hu]
      obtain ⟨l, hll, hp⟩ := exists_list len hget
      subst hll
      refine ⟨_, l, rfl, ⟨some ⟨g, o, none⟩, cap, rfl, hl, fun hne => ⟨g, o, rfl, ?_, fun i x hx => hp i x hx⟩⟩, Nat.le_trans hl hm⟩
      obtain ⟨cs', h2, h3, _⟩ := hcell 0 (by omega)
      have h4 := h3 0 hsz
      rw [hadd, List.getElem?_eq_getElem (by omega)] at h4
      exact World.block_lt_of_cell? _ _ h4

/-- A field of a struct that comes in. -/
theorem opens_struct {t : TypeId} {fs : Array Field} {fuel : Nat} {cs : List Value} {x : DataW H × List MemPlace} (ht : P.underlying t = some (.struct fs)) (h : DataW.trod enc P W 0 spare held fuel t cs = some x) :
    ∃ n, ∀ (i : Nat) (f : Field), fs[i]? = some f → ∃ y, DataW.trod enc P W 0 spare held n f.type ((cs.drop f.offset).take (P.cellsOf f.type)) = some y := by
  obtain ⟨xs, n, _, _, _, hlen, hf⟩ := DataW.trod_struct ht h
  refine ⟨n, fun i f hi => ?_⟩
  have hlt : i < xs.length := by rw [hlen]; exact (Array.getElem?_eq_some_iff.1 hi).1
  exact ⟨_, (hf i f hi).trans (List.getElem?_eq_getElem hlt)⟩
/-- Field i: its type, where it stands, how many cells it takes. -/
theorem opens_field {t : TypeId} {fs : Array Field} {fuel : Nat} {cs : List Value} {x : DataW H × List MemPlace} (ht : P.underlying t = some (.struct fs)) (h : DataW.trod enc P W 0 spare held fuel t cs = some x)
    (i : Nat) {ft : TypeId} {off sz : Nat} (hf : (fs[i]?).map (fun f => (f.type, f.offset)) = some (ft, off)) (hsz : P.cellsOf ft = sz) : ∃ m y, DataW.trod enc P W 0 spare held m ft ((cs.drop off).take sz) = some y := by
  obtain ⟨n, hn⟩ := opens_struct ht h
  obtain ⟨f, hfi, hfe⟩ := Option.map_eq_some_iff.1 hf
  simp only [Prod.mk.injEq] at hfe
  obtain ⟨rfl, rfl⟩ := hfe
  subst hsz
  obtain ⟨y, hy⟩ := hn i f hfi
  exact ⟨n, y, hy⟩
end
end Go.Proofs.Ytoflfhjeabpcjaa
