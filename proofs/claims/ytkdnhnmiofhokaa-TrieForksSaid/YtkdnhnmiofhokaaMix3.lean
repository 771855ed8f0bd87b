/- A region whose order is drawn, where two operations may come up at once: both orders are walked; no condition. -/
import Derived.Test.YtkdnhnmiofhokaaMix2
namespace Go.Proofs.Ytkdnhnmiofhokaa
set_option linter.unusedVariables false
set_option linter.unusedSimpArgs false
open Go.RowKit
inductive MPlan where
  | last (seg : List Nat)
  | one (seg : List Nat) (e : Nat) (r : MPlan)
  | two (seg : List Nat) (e : Nat) (r : MPlan) (f : Nat) (s : MPlan)
def takeAll (seg : List Nat) (listed : Array Bool) : Array Bool := seg.foldl (fun m i => m.setIfInBounds i true) listed
section
variable {P : Program} {ops : Array Oper} {md : Region.Mode} {C : World → Prop} {Q : Exit → Act → World → Prop}
def okQ (md : Region.Mode) (ops : Array Oper) : List Nat → Array Bool → (Array Bool → Bool) → Bool
  | [], listed, k => k listed
  | i :: r, listed, k => (Region.ready md ops listed).contains i && Region.free md ops listed i && (match ops[i]? with | some o => isVal o | none => false) && okQ md ops r (listed.setIfInBounds i true) k
def okM (md : Region.Mode) (ops : Array Oper) : MPlan → Array Bool → Nat → Bool
  | .last seg, listed, n => decide (seg.length ≤ n) && okQ md ops seg listed fun m => (Region.ready md ops m).isEmpty
  | .one seg e r, listed, n => decide (seg.length + 1 ≤ n) && okQ md ops seg listed fun m => decide (Region.ready md ops m = [e]) && (ops[e]?).isSome && okM md ops r (m.setIfInBounds e true) (n - seg.length - 1)
  | .two seg e r f s, listed, n => decide (seg.length + 1 ≤ n) && okQ md ops seg listed fun m => decide (Region.ready md ops m = [e, f]) && (ops[e]?).isSome && (ops[f]?).isSome && okM md ops r (m.setIfInBounds e true) (n - seg.length - 1) && okM md ops s (m.setIfInBounds f true) (n - seg.length - 1)
def wpM (P : Program) (ops : Array Oper) (l : List Oper) (C : World → Prop) (Q : Exit → Act → World → Prop) : MPlan → Act → World → Prop
  | .last seg, a, w => wpQuiet P ops C (fun a' => Q .normal a' w) (pick l seg) a
  | .one seg e r, a, w => wpQuiet P ops C (fun a' => wpList P ops (Exit.then (fun a'' w'' => C w'' ∧ wpM P ops l C Q r a'' w'') Q) (pick l [e]) a' w) (pick l seg) a
  | .two seg e r f s, a, w => wpQuiet P ops C (fun a' => wpList P ops (Exit.then (fun a'' w'' => C w'' ∧ wpM P ops l C Q r a'' w'') Q) (pick l [e]) a' w ∧ wpList P ops (Exit.then (fun a'' w'' => C w'' ∧ wpM P ops l C Q s a'' w'') Q) (pick l [f]) a' w) (pick l seg) a

theorem tree_quiet {l : List Oper} (hl : ∀ i : Nat, l[i]? = ops[i]?) (hs : Region.noSelect ops = true) (hQ : ∀ d v c a w, Q (.panic c) (a.put d v) w → Q (.panic c) a w) {K : Act → Prop} {k : Array Bool → Bool} {w : World} (hC : C w) :
    ∀ (seg : List Nat) (listed : Array Bool) (a : Act) (n : Nat), (∀ (m : Array Bool) (a' : Act), k m = true → K a' → ∀ fuel, n - seg.length ≤ fuel → wpAnyH P md ops Q C fuel m a' w) → seg.length ≤ n → okQ md ops seg listed k = true → wpQuiet P ops C K (pick l seg) a → ∀ fuel, n ≤ fuel → wpAnyH P md ops Q C fuel listed a w
  | [], listed, a, n, hK, _, hp, h, fuel, hf => hK listed a hp (by simpa [pick, wpQuiet] using h) fuel (by simpa using hf)
  | i :: seg, listed, a, n, hK, hn, hp, h, fuel, hf => by
    simp only [okQ, Bool.and_eq_true] at hp
    obtain ⟨⟨⟨h1, h2⟩, h3⟩, h4⟩ := hp
    simp only [List.length_cons] at hn
    obtain ⟨fuel, rfl⟩ : ∃ k, fuel = k + 1 := ⟨fuel - 1, by omega⟩
    cases ho : ops[i]? with
    | none => rw [ho] at h3; cases h3
    | some o =>
      rw [ho] at h3
      simp only [pick, hl, ho] at h
      have hq : qOp P ops C i (fun a' => wpQuiet P ops C K (pick l seg) a') a := by
        simp only [qOp, ho]
        simp only [wpQuiet] at h
        exact h
      obtain ⟨v, hy, hk⟩ := yieldsIf_of_qOp hC ho h3 hq
      exact wpAnyH_take ho hs h2 h1 (fun c a w => hQ _ _ c a w) hy hC (tree_quiet hl hs hQ hC seg _ _ (n - 1) (fun m a' hm ha fuel hfu => hK m a' hm ha fuel (by simp only [List.length_cons]; omega)) (by omega) h4 hk fuel (by omega))
theorem tree_op {l : List Oper} (hl : ∀ i : Nat, l[i]? = ops[i]?) {X : Act → World → Prop} {e : Nat} {a : Act} {w : World} (hlet : LetsOut (Exit.then X Q) → LetsOut Q) (he : (ops[e]?).isSome = true)
    (h : wpList P ops (Exit.then X Q) (pick l [e]) a w) : wpOp P ops Q e X a w := by
  obtain ⟨o, ho⟩ := Option.isSome_iff_exists.1 he
  simp only [pick, hl, ho] at h
  refine wpOp_then (K := X) (X := X) (fun a w h => h) hlet ?_
  simp only [wpOp, ho]
  simp only [wpList] at h
  exact h
theorem tree_any {l : List Oper} (hl : ∀ i : Nat, l[i]? = ops[i]?) (hs : Region.noSelect ops = true) (hQ : ∀ d v c a w, Q (.panic c) (a.put d v) w → Q (.panic c) a w) (hlet : ∀ K : Act → World → Prop, LetsOut (Exit.then K Q) → LetsOut Q) :
    ∀ (p : MPlan) (listed : Array Bool) (a : Act) (w : World) (n : Nat), okM md ops p listed n = true → C w → wpM P ops l C Q p a w → ∀ fuel, n ≤ fuel → wpAnyH P md ops Q C fuel listed a w
  | .last seg, listed, a, w, n, hp, hC, h, fuel, hf => by
    simp only [okM, Bool.and_eq_true, decide_eq_true_eq] at hp
    refine tree_quiet hl hs hQ hC seg listed a n (fun m a' hm ha fuel hfu => ?_) hp.1 hp.2 h fuel hf
    exact wpAnyH_done (by simpa using hm) ha fuel
  | .one seg e r, listed, a, w, n, hp, hC, h, fuel, hf => by
    simp only [okM, Bool.and_eq_true, decide_eq_true_eq] at hp
    refine tree_quiet hl hs hQ hC seg listed a n (fun m a' hm ha fuel hfu => ?_) (by omega) hp.2 h fuel hf
    simp only [Bool.and_eq_true, decide_eq_true_eq] at hm
    obtain ⟨⟨h1, h2⟩, h3⟩ := hm
    obtain ⟨fuel, rfl⟩ : ∃ k, fuel = k + 1 := ⟨fuel - 1, by omega⟩
    refine wpAnyH_all h1 (by simp) fun j hj => ?_
    obtain rfl : j = e := by simpa using hj
    refine wpOp_mono (fun a' w' hh => ⟨hh.1, ?_⟩) (tree_op hl (hlet _) h2 ha)
    exact tree_any hl hs hQ hlet r _ _ _ _ h3 hh.1 hh.2 fuel (by omega)
  | .two seg e r f s, listed, a, w, n, hp, hC, h, fuel, hf => by
    simp only [okM, Bool.and_eq_true, decide_eq_true_eq] at hp
    refine tree_quiet hl hs hQ hC seg listed a n (fun m a' hm ha fuel hfu => ?_) (by omega) hp.2 h fuel hf
    simp only [Bool.and_eq_true, decide_eq_true_eq] at hm
    obtain ⟨⟨⟨⟨h1, h2⟩, h2'⟩, h3⟩, h4⟩ := hm
    obtain ⟨fuel, rfl⟩ : ∃ k, fuel = k + 1 := ⟨fuel - 1, by omega⟩
    refine wpAnyH_all h1 (by simp) fun j hj => ?_
    rcases (by simpa using hj : j = e ∨ j = f) with rfl | rfl
    · refine wpOp_mono (fun a' w' hh => ⟨hh.1, ?_⟩) (tree_op hl (hlet _) h2 ha.1)
      exact tree_any hl hs hQ hlet r _ _ _ _ h3 hh.1 hh.2 fuel (by omega)
    · refine wpOp_mono (fun a' w' hh => ⟨hh.1, ?_⟩) (tree_op hl (hlet _) h2' ha.2)
      exact tree_any hl hs hQ hlet s _ _ _ _ h4 hh.1 hh.2 fuel (by omega)
theorem wp_region_tree {id : Nat} {l : List Oper} {a : Act} {w : World} (C : World → Prop) (p : MPlan) (hm : P.follows .mixedOrders = true)
    (hp : (Region.noSelect l.toArray && okM .any l.toArray p (Array.replicate l.length false) l.length) = true)
    (hC : C w.drew) (h : wpM P l.toArray l C (NoPan Q) p a w.drew) : (Code.region id l.toArray true).wp P Q a w := by
  refine Code.wp_mono (Q := NoPan Q) (fun e a w h => by cases e <;> first | exact h | exact (h : False).elim) ?_
  simp only [Bool.and_eq_true] at hp
  refine wp_region_held (S := C) hm ?_
  have hsz : l.toArray.size = l.length := by simp
  rw [hsz]
  exact tree_any (l := l) (fun i => by simp) hp.1 (fun _ _ _ _ _ h => h) (fun K => letsOut_then K) p _ _ _ _ hp.2 hC h _ (Nat.le_refl _)
end
end Go.Proofs.Ytkdnhnmiofhokaa
