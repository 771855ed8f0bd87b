/- Rules for single operations of a walk: maps, append; no condition. -/
import Derived.Test.YtoflfhjeabpcjaaBase
import Derived.Maps.AppendAt
namespace Go.Proofs.Ytoflfhjeabpcjaa
set_option linter.unusedVariables false
set_option linter.unusedSimpArgs false
open Go.RowKit
section
variable {P : Program} {ops : Array Oper} {rest : List Oper} {o : Oper} {a : Act} {Q : Exit → Act → World → Prop} {w : World}

theorem wpList_val (hgd : o.guard = none) {v : Value} {w' : World} (hr : (execOp a.eval o).run P w = .ok (.value v) w') (h : wpList P ops Q rest (a.put o.dst v) w') : wpList P ops Q (o :: rest) a w :=
  wpList_plain hgd fun K hK => by unfold Oper.wp; rw [hr]; exact hK _ _ h
theorem wpList_unit (hgd : o.guard = none) {w' : World} (hr : (execOp a.eval o).run P w = .ok .skip w') (h : wpList P ops Q rest (a.put o.dst undef) w') : wpList P ops Q (o :: rest) a w :=
  wpList_plain hgd fun K hK => by unfold Oper.wp; rw [hr]; exact hK _ _ h

theorem assoc_set {κ : Type} [DecidableEq κ] (k k' : κ) (v : Value) : ∀ E : List (κ × Value), assoc k' (assocSet k v E) = if k' = k then some v else assoc k' E
  | [] => by by_cases h : k' = k <;> simp [assocSet, assoc, h]
  | (x, u) :: r => by
    simp only [assocSet]
    by_cases hx : k = x
    · subst hx
      simp only [if_true, assoc]
      by_cases h : k' = k <;> simp [h]
    · simp only [if_neg hx, assoc, assoc_set k k' v r]
      by_cases h : k' = x
      · subst h
        have : ¬ k' = k := fun e => hx e.symm
        simp [this]
      · simp [h]

theorem wpList_mapUpdate {κ : Type} [DecidableEq κ] {t kt et : TypeId} {enc : κ → Value} (K : KeyOf P kt enc) (ht : P.underlying t = some (.map kt et)) (hgd : o.guard = none)
    (mo ko vo : Operand) (ho : o.op = .mapUpdate t mo ko vo) {m : Nat} {k : κ} (hm : a.eval mo = .map (some m)) (hk : a.eval ko = enc k) {v : Value} (hv : a.eval vo = v) {E : List (κ × Value)} (h : MapIs enc w m E)
    (next : ∀ w', MapIs enc w' m (assocSet k v E) → Ext (· = m) w w' → w'.heap.size = w.heap.size → wpList P ops Q rest (a.put o.dst undef) w') : wpList P ops Q (o :: rest) a w := by
  subst hv
  obtain ⟨w', hr, h1, h2, h3⟩ := run_mapUpdate_assoc K ht h k (a.eval vo)
  refine wpList_unit hgd (w' := w') ?_ (next w' h1 h2 h3)
  simp only [execOp, ho, hm, hk, Sem.run_bind, hr, Result.andThen_ok, Sem.run_pure]

/-- append of what lies in a block of the call's own. -/
theorem wpList_append_lit (hgd : o.guard = none) (s x : Operand) (t : TypeId)
    (ho : o.op = .call { callee := .builtin .append, args := #[s, x], argTypes := #[t, t] })
    {e : TypeId} {z : Value} {size bytes : Nat} (ht : P.underlying t = some (.slice e)) (hi : (P.info? e).map (fun i => (i.zero, i.size, i.bytes)) = some (some z, size, bytes))
    (hzs : z.cells.size = size) (hsz : 0 < size)
    {base : Nat} {v : Value} {n : Nat} {xs : List Value} (hs : a.eval s = v) (hown : w.ownsRow base e size v n xs) (hbase : base ≤ w.heap.size)
    {g m c : Nat} {cs : List Value} {e' : TypeId} {fr : Nat × Nat} (hx : a.eval x = .slice (some ⟨g, 0, none⟩) m c) (hg : w.heap[g]? = some (.cells cs.toArray e' fr)) (hl : cs.length = m * size) (h1 : ∀ u ∈ cs, u.oneCell' = true)
    (hm : 0 < m) (h63 : n + m ≤ 1152921504606846976) (hbytes : (n + m) * bytes ≤ 140737488355328)
    (next : ∀ g' cap w', w'.ownsRow base e size (.slice (some ⟨g', 0, none⟩) (n + m) cap) (n + m) (xs ++ cs) → Ext (fun k => v.ownBlock = some k) w w' → (v.ownBlock = some g' ∨ g' = w.heap.size) → g' < w'.heap.size →
      wpList P ops Q rest (a.put o.dst (.slice (some ⟨g', 0, none⟩) (n + m) cap)) w') : wpList P ops Q (o :: rest) a w := by
  obtain ⟨i, hi1, hi2⟩ := Option.map_eq_some_iff.1 hi
  simp only [Prod.mk.injEq] at hi2
  obtain ⟨z1, z2, z3⟩ := hi2
  refine wpList_append_lies w hgd s x t ho base e i z size bytes ht hi1 z1 z2 z3 hzs hsz v n xs hs hown ⟨g, 0, none⟩ m c cs hx hl ?_ h1 hm (by unfold maxLen; omega) hbytes hbase _ rfl ?_
  · intro j u hu
    have ha : (⟨g, 0, none⟩ : Addr).add j = ⟨g, j, none⟩ := by unfold Addr.add; split <;> simp_all
    rw [ha]
    simp [World.cell?, hg, hu]
  · intro g' cap w' h2 h3 h4 h5
    exact next g' cap w' h2 ⟨h3.os, h3.tape, h3.output, h3.size, fun k hk hn => h3.block k hk fun e => hn e.symm⟩ h4 h5

theorem cells_at {w : World} {b : Nat} {cs : Array Value} {t : TypeId} {fr : Nat × Nat} (h : w.heap[b]? = some (.cells cs t fr)) (i : Nat) : w.cell? ⟨b, i, none⟩ = cs[i]? := by
  simp [World.cell?, h]
theorem ne_of_obj {w : World} {a b : Nat} {x y : Obj} (h : w.heap[a]? = some x) (k : w.heap[b]? = some y) (hn : x ≠ y) : a ≠ b := by
  rintro rfl
  rw [h] at k
  exact hn (Option.some.inj k)
theorem own_ext {w w' : World} {F : Nat → Prop} {b : Nat} {e : TypeId} {size n : Nat} {v : Value} {xs : List Value} (h : w.ownsRow b e size v n xs) (he : Ext F w w') (hF : ∀ k, v.ownBlock = some k → ¬ F k) : w'.ownsRow b e size v n xs := by
  refine ⟨h.1, ?_⟩
  rcases h.2 with h2 | ⟨g, cap, cur, rfl, hg, hh, r⟩
  · exact .inl h2
  · exact .inr ⟨g, cap, cur, rfl, hg, he.heap hh (hF g rfl), r⟩
theorem own_below {w : World} {b : Nat} {e : TypeId} {size n : Nat} {v : Value} {xs : List Value} (h : w.ownsRow b e size v n xs) : ∀ k, v.ownBlock = some k → k < w.heap.size := by
  intro k hk
  rcases h.2 with ⟨rfl, _⟩ | ⟨g, cap, cur, rfl, hg, hh, r⟩
  · simp [Value.ownBlock] at hk
  · simp only [Value.ownBlock, Option.some.injEq] at hk
    subst hk
    exact lt_of_heap hh
theorem own_ty {w : World} {b : Nat} {e : TypeId} {size n : Nat} {v : Value} {xs : List Value} (h : w.ownsRow b e size v n xs) : ∀ k, v.ownBlock = some k → ∃ cs, w.heap[k]? = some (.cells cs e (0, 0)) := by
  intro k hk
  rcases h.2 with ⟨rfl, _⟩ | ⟨g, cap, cur, rfl, hg, hh, r⟩
  · simp [Value.ownBlock] at hk
  · simp only [Value.ownBlock, Option.some.injEq] at hk
    subst hk
    exact ⟨_, hh⟩
end
end Go.Proofs.Ytoflfhjeabpcjaa
