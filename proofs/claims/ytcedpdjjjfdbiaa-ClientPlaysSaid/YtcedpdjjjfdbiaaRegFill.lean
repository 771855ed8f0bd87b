/- Words for the statements on a registry that was filled by acts; no condition. -/
import Derived.Test.YtcedpdjjjfdbiaaReg4
import Derived.Test.YtcedpdjjjfdbiaaRegArgs
import Derived.Deep.DeepCutAuto
import Derived.Deep.CutBlock
namespace Go.Proofs.Ytcedpdjjjfdbiaa
set_option linter.unusedVariables false
set_option linter.unusedSimpArgs false
open Go.RowKit

/-- What signing leaves: signers 1 to 64, texts not too long, each pair once. -/
def Good (L : List (Int × Bs)) : Prop := L.Nodup ∧ ∀ p ∈ L, 1 ≤ p.1 ∧ p.1 ≤ 64 ∧ p.2.length ≤ 65536
theorem Good.nil : Good [] := ⟨List.nodup_nil, by simp⟩
theorem Good.sign {L : List (Int × Bs)} (h : Good L) (who : Int) (t : Bs) : Good (signL who t L) := by
  unfold signL
  split
  · rename_i hs
    unfold addL
    split
    · exact h
    · rename_i hn
      refine ⟨List.nodup_append.2 ⟨h.1, by simp, fun x hx y hy e => hn (by simp at hy; rw [← hy, ← e]; exact hx)⟩, fun p hp => ?_⟩
      rcases List.mem_append.1 hp with hp | hp
      · exact h.2 p hp
      · simp at hp
        subst hp
        unfold signE at hs
        split at hs
        · cases hs
        · split at hs
          · cases hs
          · show 1 ≤ who ∧ who ≤ 64 ∧ t.length ≤ 65536
            omega
  · exact h
theorem Good.by_len {L : List (Int × Bs)} (h : Good L) (who : Int) : ∀ s ∈ byL who L, s.length < 9223372036854775808 := by
  intro s hs
  simp only [byL, List.mem_map, List.mem_filter] at hs
  obtain ⟨p, ⟨hp, _⟩, rfl⟩ := hs
  have := h.2 p hp
  omega
theorem mem_byL (who : Int) (s : Bs) (L : List (Int × Bs)) : s ∈ byL who L ↔ (who, s) ∈ L := by
  simp only [byL, List.mem_map, List.mem_filter, beq_iff_eq]
  constructor
  · rintro ⟨p, ⟨hp, rfl⟩, rfl⟩
    exact hp
  · intro h
    exact ⟨_, ⟨h, rfl⟩, rfl⟩
theorem byL_nodup {L : List (Int × Bs)} (h : L.Nodup) (who : Int) : (byL who L).Nodup := by
  unfold byL
  refine (List.pairwise_map.2 ?_)
  refine List.Pairwise.imp_of_mem (R := (· ≠ ·)) ?_ (h.filter _)
  intro p q hp hq hne e
  simp only [List.mem_filter, beq_iff_eq] at hp hq
  exact hne (Prod.ext (hp.2.trans hq.2.symm) e)
theorem byL_le (who : Int) (L : List (Int × Bs)) : (byL who L).length ≤ L.length := by simp [byL]; exact List.length_filter_le _ _

/-- How many pairs of signers below k there are. -/
def below (k : Nat) (L : List (Int × Bs)) : Nat := (L.filter fun p => decide (p.1 < (k : Int))).length
theorem below_zero {L : List (Int × Bs)} (h : Good L) : below 0 L = 0 := by
  unfold below
  rw [List.filter_eq_nil_iff.2]
  · rfl
  · intro p hp
    have := h.2 p hp
    simp
    omega
theorem below_succ (k : Nat) (L : List (Int × Bs)) : below (k + 1) L = below k L + (byL (k : Int) L).length := by
  unfold below byL
  rw [List.length_map]
  induction L with
  | nil => rfl
  | cons p L ih =>
    simp only [List.filter_cons]
    by_cases h1 : p.1 < (k : Int)
    · have h2 : p.1 < ((k + 1 : Nat) : Int) := by omega
      have h3 : (p.1 == (k : Int)) = false := by simp; omega
      have e1 : decide (p.1 < (k : Int)) = true := by simpa using h1
      have e2 : decide (p.1 < ((k + 1 : Nat) : Int)) = true := by rw [decide_eq_true_iff]; exact h2
      rw [e1, e2, h3]
      simp only [List.length_cons, ih, Bool.false_eq_true, if_false, if_true]
      omega
    · by_cases h2 : p.1 = (k : Int)
      · have h3 : p.1 < ((k + 1 : Nat) : Int) := by omega
        have h4 : (p.1 == (k : Int)) = true := by simp [h2]
        have e1 : decide (p.1 < (k : Int)) = false := by simpa using h1
        have e2 : decide (p.1 < ((k + 1 : Nat) : Int)) = true := by rw [decide_eq_true_iff]; exact h3
        rw [e1, e2, h4]
        simp only [List.length_cons, ih, if_true, Bool.false_eq_true, if_false]
        omega
      · have h3 : ¬ p.1 < ((k + 1 : Nat) : Int) := by omega
        have h4 : (p.1 == (k : Int)) = false := by simp [h2]
        have e1 : decide (p.1 < (k : Int)) = false := by simpa using h1
        have e2 : decide (p.1 < ((k + 1 : Nat) : Int)) = false := by rw [decide_eq_false_iff_not]; exact h3
        rw [e1, e2, h4]
        simp only [ih, Bool.false_eq_true, if_false]
theorem below_all {L : List (Int × Bs)} (h : Good L) : below 66 L = L.length := by
  unfold below
  rw [List.filter_eq_self.2]
  intro p hp
  have := h.2 p hp
  simp
  omega

theorem OwnRows.at {N : Nat} {w : World} {v : Value} {vs : List Value} {ls : List Bs} (h : OwnRows N w v vs ls) {i : Nat} (hi : i < ls.length) :
    ∃ g c u, v = .slice (some ⟨g, 0, none⟩) ls.length c ∧ N ≤ g ∧ w.cell? ⟨g, i, none⟩ = some u ∧ OwnB w u ls[i] ∧ vs[i]? = some u := by
  have hv : i < vs.length := by rw [h.len]; exact hi
  rcases h.row.2 with ⟨_, h2⟩ | ⟨g, cap, cur, h1, hg, h3, h4, _, _, h6⟩
  · omega
  · refine ⟨g, cap, vs[i], h1, hg, ?_, h.each i _ _ (List.getElem?_eq_getElem hv) (List.getElem?_eq_getElem hi), List.getElem?_eq_getElem hv⟩
    rw [cells_at h3]
    have h7 := congrArg (fun l => l[i]?) h6
    simp only [List.getElem?_eq_getElem hv] at h7
    rw [List.getElem?_take_of_lt (by omega)] at h7
    simpa using h7
theorem OwnRows.form {N : Nat} {w : World} {v : Value} {vs : List Value} {ls : List Bs} (h : OwnRows N w v vs ls) : ∃ A c, v = .slice A ls.length c := own_slice_form h.row
theorem OwnRows.same {N : Nat} {w w' : World} {v : Value} {vs : List Value} {ls : List Bs} (h : OwnRows N w v vs ls) (hx : Ext (fun _ => False) w w') : OwnRows N w' v vs ls := h.ext hx (fun _ _ => id) (own_from h.row)

end Go.Proofs.Ytcedpdjjjfdbiaa
