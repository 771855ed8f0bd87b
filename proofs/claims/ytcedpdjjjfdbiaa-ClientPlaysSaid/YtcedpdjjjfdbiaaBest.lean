/- The least of texts that enough say: a plain law; no condition. -/
import Derived.Test.YtcedpdjjjfdbiaaBase
namespace Go.Proofs.Ytcedpdjjjfdbiaa
set_option linter.unusedVariables false
set_option linter.unusedSimpArgs false
open Go.RowKit

def less (x y : Bs) : Bool := Op.bytesLess x y
theorem less_eq (x y : Bs) : less x y = decide (x < y) := by
  unfold less
  induction x generalizing y with
  | nil => cases y <;> simp [Op.bytesLess]
  | cons a x ih =>
    cases y with
    | nil => simp [Op.bytesLess]
    | cons b y =>
      rw [Op.bytesLess, ih y]
      simp only [List.cons_lt_cons_iff]
      by_cases h1 : a < b <;> by_cases h2 : a = b <;> simp [h1, h2]
theorem less_irrefl (x : Bs) : less x x = false := by rw [less_eq]; simp [List.lt_irrefl]
theorem less_trans {x y z : Bs} (h : less x y = true) (k : less y z = true) : less x z = true := by
  rw [less_eq] at *
  simp only [decide_eq_true_eq] at *
  exact List.lt_trans h k
theorem less_tri {x y : Bs} (h : less x y = false) (k : less y x = false) : x = y := by
  rw [less_eq] at *
  simp only [decide_eq_false_iff_not] at *
  exact List.le_antisymm (List.not_lt.1 k) (List.not_lt.1 h)

/-- b is the least of those that P holds of; none: it is empty. -/
def IsBest (P : Bs → Prop) (b : Bs) : Prop := (b = [] ∧ ∀ s, ¬ P s) ∨ (P b ∧ ∀ s, P s → less s b = false)
theorem IsBest.unique {P : Bs → Prop} (hP : ∀ s, P s → s ≠ []) {b b' : Bs} (h : IsBest P b) (h' : IsBest P b') : b = b' := by
  rcases h with ⟨rfl, h⟩ | ⟨h1, h2⟩
  · rcases h' with ⟨rfl, _⟩ | ⟨k1, _⟩
    · rfl
    · exact absurd k1 (h _)
  · rcases h' with ⟨rfl, k⟩ | ⟨k1, k2⟩
    · exact absurd h1 (k _)
    · exact less_tri (k2 _ h1) (h2 _ k1)
theorem IsBest.iff {P Q : Bs → Prop} (h : ∀ s, P s ↔ Q s) {b : Bs} (hb : IsBest P b) : IsBest Q b :=
  hb.imp (fun ⟨h1, h2⟩ => ⟨h1, fun s hs => h2 s ((h s).2 hs)⟩) fun ⟨h1, h2⟩ => ⟨(h b).1 h1, fun s hs => h2 s ((h s).2 hs)⟩
/-- One more. -/
theorem IsBest.more {P Q : Bs → Prop} (hP : ∀ s, P s → s ≠ []) {s b : Bs} (hs : s ≠ []) (h : ∀ t, Q t ↔ P t ∨ t = s) (hb : IsBest P b) : IsBest Q (if b = [] ∨ less s b = true then s else b) := by
  rcases hb with ⟨rfl, h0⟩ | ⟨h1, h2⟩
  · rw [if_pos (.inl rfl)]
    refine .inr ⟨(h s).2 (.inr rfl), fun t ht => ?_⟩
    rcases (h t).1 ht with ht | rfl
    · exact absurd ht (h0 t)
    · exact less_irrefl t
  · have hbn := hP b h1
    by_cases hl : less s b = true
    · rw [if_pos (.inr hl)]
      refine .inr ⟨(h s).2 (.inr rfl), fun t ht => ?_⟩
      rcases (h t).1 ht with ht | rfl
      · cases hts : less t s with
        | false => rfl
        | true => have := less_trans hts hl; rw [h2 t ht] at this; cases this
      · exact less_irrefl t
    · rw [if_neg (fun hh => hh.elim hbn hl)]
      refine .inr ⟨(h b).2 (.inl h1), fun t ht => ?_⟩
      rcases (h t).1 ht with ht | rfl
      · exact h2 t ht
      · simpa using hl

/-- What enough say. -/
def Pass (few : Nat) (l : List Bs) (s : Bs) : Prop := s ≠ [] ∧ few ≤ l.count s
theorem best_nil {few : Nat} (hf : 0 < few) : IsBest (Pass few []) [] := .inl ⟨rfl, fun s h => by have := h.2; simp at this; omega⟩
theorem best_step {few : Nat} (hf : 0 < few) {l : List Bs} {s b : Bs} (hb : IsBest (Pass few l) b) :
    IsBest (Pass few (l ++ [s])) (if (s ≠ [] ∧ (l ++ [s]).count s = few) ∧ (b = [] ∨ less s b = true) then s else b) := by
  have hc : ∀ t, (l ++ [s]).count t = l.count t + if t = s then 1 else 0 := by
    intro t
    rw [List.count_append]
    by_cases h : t = s
    · subst h; simp
    · simp [h, List.count_cons, Ne.symm h]
  by_cases h : s ≠ [] ∧ (l ++ [s]).count s = few
  · have hm := hb.more (Q := Pass few (l ++ [s])) (fun t ht => ht.1) h.1 (fun t => ?_)
    · by_cases hl : b = [] ∨ less s b = true
      · rw [if_pos hl] at hm
        rw [if_pos ⟨h, hl⟩]
        exact hm
      · rw [if_neg hl] at hm
        rw [if_neg (fun hh => hl hh.2)]
        exact hm
    · unfold Pass
      constructor
      · rintro ⟨h1, h2⟩
        by_cases ht : t = s
        · exact .inr ht
        · rw [hc, if_neg ht] at h2
          exact .inl ⟨h1, by omega⟩
      · rintro (⟨h1, h2⟩ | rfl)
        · exact ⟨h1, by rw [hc]; omega⟩
        · exact ⟨h.1, by omega⟩
  · rw [if_neg (fun hh => h hh.1)]
    refine hb.iff fun t => ?_
    unfold Pass
    rw [hc]
    by_cases ht : t = s
    · subst ht
      rw [if_pos rfl]
      constructor
      · rintro ⟨h1, h2⟩; exact ⟨h1, by omega⟩
      · rintro ⟨h1, h2⟩
        refine ⟨h1, ?_⟩
        have hne : (l ++ [t]).count t ≠ few := fun e => h ⟨h1, e⟩
        rw [hc, if_pos rfl] at hne
        omega
    · rw [if_neg ht]
      simp
end Go.Proofs.Ytcedpdjjjfdbiaa
