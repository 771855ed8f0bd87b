/- The registry's Copy; no condition. -/
import Derived.Test.YtcedpdjjjfdbiaaReg3
namespace Go.Proofs.Ytcedpdjjjfdbiaa
set_option linter.unusedVariables false
set_option linter.unusedSimpArgs false
open Go.RowKit

theorem flat_get (L : List (Int × Bs)) : ∀ (i : Nat) (p : Int × Bs), L[i]? = some p → (L.flatMap prC)[2 * i]? = some (.int .i64 p.1) ∧ (L.flatMap prC)[2 * i + 1]? = some (str p.2) := by
  induction L with
  | nil => intro i p h; simp at h
  | cons q L ih =>
    intro i p h
    cases i with
    | zero =>
      simp only [List.getElem?_cons_zero, Option.some.injEq] at h
      subst h
      simp [prC]
    | succ i =>
      simp only [List.getElem?_cons_succ] at h
      obtain ⟨h1, h2⟩ := ih i p h
      have e : 2 * (i + 1) = 2 * i + 2 := by omega
      rw [e]
      exact ⟨by simpa [prC] using h1, by simpa [prC] using h2⟩

theorem RegAt.pairs {F : Nat → Prop} {w : World} {a m t : Nat} {ov : Value} {ES : List ((Int × Bs) × Value)} {ET : List (Int × Value)} {L : List (Int × Bs)} (h : RegAt F w a m t ov ES ET L) :
    ∃ A c, ov = .slice A L.length c ∧ (L ≠ [] → ∃ g, A = some ⟨g, 0, none⟩ ∧ F g ∧ ∀ i p, L[i]? = some p → w.cell? ⟨g, i * 2, none⟩ = some (.int .i64 p.1) ∧ w.cell? ⟨g, i * 2 + 1, none⟩ = some (str p.2)) := by
  rcases h.order.2 with ⟨h1, h2⟩ | ⟨g, cap, cur, h1, _, h3, h4, _, _, h6⟩
  · refine ⟨none, 0, by rw [h1, h2], fun hne => ?_⟩
    exact absurd (List.eq_nil_of_length_eq_zero h2) hne
  · refine ⟨_, _, h1, fun _ => ⟨g, rfl, h.fo g (by rw [h1]; rfl), fun i p hp => ?_⟩⟩
    obtain ⟨k1, k2⟩ := flat_get L i p hp
    have hlt : i < L.length := (List.getElem?_eq_some_iff.1 hp).1
    have h7 := congrArg (fun l => l[2 * i]?) h6
    have h8 := congrArg (fun l => l[2 * i + 1]?) h6
    simp only [k1, k2] at h7 h8
    rw [List.getElem?_take_of_lt (by omega)] at h7 h8
    rw [cells_at h3, cells_at h3, show i * 2 = 2 * i by omega]
    exact ⟨by simpa using h7, by simpa using h8⟩

theorem RegRep.nodup {F : Nat → Prop} {w : World} {a : Nat} {L : List (Int × Bs)} (h : RegRep F w a L) : L.Nodup := by
  obtain ⟨m, t, ov, ES, ET, h⟩ := h
  exact h.nodup
theorem take_addL {L : List (Int × Bs)} (hn : L.Nodup) {k : Nat} (hk : k < L.length) : addL L[k] (L.take k) = L.take (k + 1) := by
  rw [addL, if_neg, List.take_succ_eq_append_getElem hk]
  intro h
  obtain ⟨i, hi, he⟩ := List.mem_iff_getElem.1 h
  simp only [List.length_take] at hi
  rw [List.getElem_take] at he
  have := (List.getElem_inj hn).1 he
  omega

end Go.Proofs.Ytcedpdjjjfdbiaa
