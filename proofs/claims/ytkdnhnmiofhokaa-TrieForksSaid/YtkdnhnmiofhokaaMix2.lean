/- A region whose order is drawn, walked with one class of worlds and then a narrower one; no condition. -/
import Derived.Test.YtkdnhnmiofhokaaBase
namespace Go.Proofs.Ytkdnhnmiofhokaa
set_option linter.unusedVariables false
set_option linter.unusedSimpArgs false
open Go.RowKit
section
variable {P : Program} {ops : Array Oper} {md : Region.Mode} {C : World → Prop} {Q : Exit → Act → World → Prop}
theorem wpAnyH_sub {S S' : World → Prop} (hs : ∀ w, S' w → S w) : ∀ (fuel : Nat) (listed : Array Bool) (a : Act) (w : World), wpAnyH P md ops Q S' fuel listed a w → wpAnyH P md ops Q S fuel listed a w
  | 0, _, _, _, h => h
  | fuel + 1, _, _, _, h => ⟨h.1, fun i hi => wpOp_mono (fun a' w' h' => ⟨hs w' h'.1, wpAnyH_sub hs fuel _ a' w' h'.2⟩) (h.2 i hi)⟩
theorem wpOp_then {K X X' : Act → World → Prop} {i : Nat} {a : Act} {w : World} (next : ∀ a w, X a w → X' a w) (hlet : LetsOut (Exit.then K Q) → LetsOut Q) (h : wpOp P ops (Exit.then K Q) i X a w) : wpOp P ops Q i X' a w := by
  unfold wpOp at *
  cases ho : ops[i]? with
  | none =>
    rw [ho] at h
    exact next _ _ h
  | some o =>
    rw [ho] at h
    simp only at h ⊢
    split
    · rename_i hw
      rw [if_pos hw] at h
      rcases h with h' | ⟨h1, h2⟩
      · refine .inl ?_
        unfold Oper.wp at *
        generalize (execOp a.eval o).run P w = r at *
        cases r with
        | ok n w' =>
          cases n <;> simp only [Oper.upon] at h' ⊢ <;>
            first
              | exact next _ _ h'
              | exact Calls.mono h' (fun e w'' he => by
                  cases e with
                  | returned v => exact next _ _ he
                  | panicked c => exact he
                  | outgrown => exact hlet he)
              | exact Rows.mono h' (fun _ _ he => next _ _ he)
        | halt x w' =>
          cases x <;> simp only [Oper.upon] at h' ⊢
          exact h'
      · exact .inr ⟨h1, hlet h2⟩
    · rename_i hw
      rw [if_neg hw] at h
      exact next _ _ h
theorem wpAnyH_of_flat2 {K : Act → World → Prop} {p2 : List (Bool × Nat)} (hs : Region.noSelect ops = true) (hQ : ∀ d v c a w, Q (.panic c) (a.put d v) w → Q (.panic c) a w) (hlet : LetsOut (Exit.then K Q) → LetsOut Q)
    (hK : ∀ a w, K a w → ∃ C2 : World → Prop, (∀ w, C2 w → C w) ∧ C2 w ∧ wpFlat P ops C2 Q p2 a w) :
    ∀ (plan : List (Bool × Nat)) (listed : Array Bool) (a : Act) (w : World), okPlan md ops (plan ++ p2) listed = true → C w → wpFlat P ops C (Exit.then K Q) plan a w → ∀ fuel, (plan ++ p2).length ≤ fuel → wpAnyH P md ops Q C fuel listed a w
  | [], listed, a, w, hp, hC, h, fuel, hf => by
    obtain ⟨C2, h1, h2, h3⟩ := hK a w h
    exact wpAnyH_sub h1 _ _ _ _ (wpAnyH_of_flat hs hQ p2 listed a w hp h2 h3 fuel hf)
  | (true, i) :: r, listed, a, w, hp, hC, h, fuel, hf => by
    simp only [List.cons_append, okPlan, Bool.and_eq_true] at hp
    obtain ⟨⟨⟨h1, h2⟩, h3⟩, h4⟩ := hp
    obtain ⟨fuel, rfl⟩ : ∃ k, fuel = k + 1 := ⟨fuel - 1, by simp at hf; omega⟩
    cases ho : ops[i]? with
    | none => rw [ho] at h3; cases h3
    | some o =>
      rw [ho] at h3
      obtain ⟨v, hy, hk⟩ := yieldsIf_of_qOp hC ho h3 h
      exact wpAnyH_take ho hs h2 h1 (fun c a w => hQ _ _ c a w) hy hC (wpAnyH_of_flat2 hs hQ hlet hK r _ _ _ h4 hC hk fuel (by simp at hf ⊢; omega))
  | (false, i) :: r, listed, a, w, hp, hC, h, fuel, hf => by
    simp only [List.cons_append, okPlan, Bool.and_eq_true, decide_eq_true_eq] at hp
    obtain ⟨⟨h1, h2⟩, h4⟩ := hp
    obtain ⟨fuel, rfl⟩ : ∃ k, fuel = k + 1 := ⟨fuel - 1, by simp at hf; omega⟩
    refine wpAnyH_all h1 (by simp) fun j hj => ?_
    obtain rfl : j = i := by simpa using hj
    exact wpOp_then (fun a' w' hh => ⟨hh.1, wpAnyH_of_flat2 hs hQ hlet hK r _ _ _ h4 hh.1 hh.2 fuel (by simp at hf ⊢; omega)⟩) hlet h
theorem wp_region_mix2 {id : Nat} {l : List Oper} {a : Act} {w : World} (C : World → Prop) (segs segs2 : List (List Nat × Nat)) (last : List Nat) (hm : P.follows .mixedOrders = true)
    (hp : (Region.noSelect l.toArray && decide ((flat segs [] ++ flat segs2 last).length ≤ l.length) && okPlan .any l.toArray (flat segs [] ++ flat segs2 last) (Array.replicate l.length false)) = true)
    (hC : C w.drew)
    (h : wpMix P l.toArray l C (Exit.then (fun a w => ∃ C2 : World → Prop, (∀ w, C2 w → C w) ∧ C2 w ∧ wpMix P l.toArray l C2 (NoPan Q) segs2 last a w) (NoPan Q)) segs [] a w.drew) : (Code.region id l.toArray true).wp P Q a w := by
  refine Code.wp_mono (Q := NoPan Q) (fun e a w h => by cases e <;> first | exact h | exact (h : False).elim) ?_
  simp only [Bool.and_eq_true, decide_eq_true_eq] at hp
  obtain ⟨⟨h1, h2⟩, h3⟩ := hp
  refine wp_region_held (S := C) hm ?_
  have hall := okPlan_some _ _ h3
  have hf := wpFlat_of_mix (P := P) (ops := l.toArray) (l := l) (C := C) (Q := Exit.then (fun a w => ∃ C2 : World → Prop, (∀ w, C2 w → C w) ∧ C2 w ∧ wpMix P l.toArray l C2 (NoPan Q) segs2 last a w) (NoPan Q)) (fun i => by simp) (fun K => letsOut_then K) (fun K c a w h => h) [] segs a w.drew (fun x hx => hall x (List.mem_append.2 (.inl hx))) h
  have hsz : l.toArray.size = l.length := by simp
  rw [hsz]
  refine wpAnyH_of_flat2 h1 (fun _ _ _ _ _ h => h) (fun h => letsOut_then _ h) (fun a w ⟨C2, g1, g2, g3⟩ => ⟨C2, g1, g2, ?_⟩) _ _ _ _ h3 hC hf _ h2
  exact wpFlat_of_mix (P := P) (ops := l.toArray) (l := l) (C := C2) (Q := NoPan Q) (fun i => by simp) (fun K => letsOut_then K) (fun K c a w h => h) last segs2 a w (fun x hx => hall x (List.mem_append.2 (.inr hx))) g3
end
theorem Cls.sub {D D2 : List Nat} {w0 w6 w : World} (h : Cls D w0 w6) (hD : ∀ b ∈ D, b ∈ D2) (h2 : Cls D2 w6 w) : Cls D w0 w := by
  obtain ⟨u, rfl⟩ := h
  obtain ⟨v, rfl⟩ := h2
  exact Cls.mk fun b hb => (v.ok b (hD b hb)).trans (u.ok b hb)
end Go.Proofs.Ytkdnhnmiofhokaa
