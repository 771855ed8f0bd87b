/- append of bytes to bytes of one's own; no condition. -/
import Derived.Test.YtoflfhjeabpcjaaBufs
import Derived.ArgAppend
import Derived.Laws.IdiomCopy
import Derived.Deep.Upon
namespace Go.Proofs.Ytoflfhjeabpcjaa
set_option linter.unusedVariables false
set_option linter.unusedSimpArgs false
open Go.RowKit

def byteV (c : UInt8) : Value := .int .u8 c.toNat

theorem heap_setCells_self {b : Nat} {t : TypeId} {fr : Nat × Nat} : ∀ (vs : List Value) (o : Nat) (w : World) (cs : Array Value), w.heap[b]? = some (.cells cs t fr) → o + vs.length ≤ cs.size →
    ∃ cs' : Array Value, (w.setCells b o vs).heap[b]? = some (.cells cs' t fr) ∧ cs'.size = cs.size ∧ ∀ j, cs'[j]? = if o ≤ j ∧ j < o + vs.length then vs[j - o]? else cs[j]?
  | [], o, w, cs, h, _ => ⟨cs, h, rfl, fun j => by rw [if_neg (by simp)]⟩
  | v :: r, o, w, cs, h, hl => by
    simp only [List.length_cons] at hl
    obtain ⟨cs', h1, h2, h3⟩ := heap_setCells_self r (o + 1) (w.setCell ⟨b, o, none⟩ v) (cs.setIfInBounds o v) (heap_setCell_self h) (by simp; omega)
    refine ⟨cs', h1, by simpa using h2, fun j => ?_⟩
    rw [h3]
    by_cases hj : j = o
    · subst hj
      rw [if_neg (by omega), if_pos (by simp), Array.getElem?_setIfInBounds_self_of_lt (by omega)]
      simp
    · by_cases hi : o + 1 ≤ j ∧ j < o + 1 + r.length
      · rw [if_pos hi, if_pos (by simp; omega), show j - o = (j - (o + 1)) + 1 by omega, List.getElem?_cons_succ]
      · rw [if_neg hi, if_neg (by simp; omega), Array.getElem?_setIfInBounds_ne (by omega)]
theorem Ext.setCells {F : Nat → Prop} {b : Nat} : ∀ (vs : List Value) (o : Nat) {w w' : World}, Ext F w w' → (F b ∨ w.heap.size ≤ b) → Ext F w (w'.setCells b o vs)
  | [], _, _, _, h, _ => h
  | v :: r, o, _, _, h, hb => Ext.setCells r (o + 1) (h.setCell (a := ⟨b, o, none⟩) hb v) hb

section
variable {P : Program}

theorem run_append_nothing (w : World) (t ty e : TypeId) (i : TypeInfo) (ht : P.underlying t = some (.slice e)) (hi : P.info? e = some i) (s : Option Addr) (n cap : Nat) (hn : n ≤ cap) (hs : ∀ a, s = some a → a.spot = none) (A : Option Addr) (c : Nat) :
    (Builtin.append_ #[t, t] ty #[.slice s n cap, .slice A 0 c]).run P w = .ok (.slice s n cap) w := by
  have hf : (Builtin.firstCells i.size 0 (.slice A 0 c)).run P w = .ok #[] w := by
    cases A with
    | none => exact run_firstCells_none (P := P) w i.size 0 0 c
    | some a => exact run_firstCells_some (P := P) w i.size 0 a 0 c [] (by simp) (by simp)
  cases s with
  | none => simp [Builtin.append_, run_underlying ht, sizeOf, typeInfo, hi, Builtin.lenOf, hn, hf]
  | some a => simp [Builtin.append_, run_underlying ht, sizeOf, typeInfo, hi, Builtin.lenOf, hn, hf, storeCells]

theorem oneCell_bytes (m : Bs) : ∀ u ∈ m.map byteV, u.oneCell' = true := by
  intro u hu
  obtain ⟨c, _, rfl⟩ := List.mem_map.1 hu
  rfl

theorem run_append_bytes (w : World) (t ty : TypeId) (ht : P.underlying t = some (.slice 5)) (hi : (P.info? 5).map (fun i => (i.zero, i.size, i.bytes)) = some (some (.int .u8 0), 1, 1))
    {D : Nat → Prop} {s x : Value} {l m : Bs} (hs : OwnB w s l) (hx : Byt D w x m) (hlen : l.length + m.length ≤ 140737488355328) :
    ∃ v' w', (Builtin.append_ #[t, t] ty #[s, x]).run P w = .ok v' w' ∧ OwnB w' v' (l ++ m) ∧ Ext (fun k => s.ownBlock = some k) w w' ∧ (v'.ownBlock = s.ownBlock ∨ ∃ b, v'.ownBlock = some b ∧ w.heap.size ≤ b) := by
  obtain ⟨i, hi1, hi2⟩ := Option.map_eq_some_iff.1 hi
  simp only [Prod.mk.injEq] at hi2
  obtain ⟨z1, z2, z3⟩ := hi2
  obtain ⟨A, c, rfl, hc, hat⟩ := hx
  by_cases hm : m = []
  · subst hm
    rcases id hs with ⟨rfl, rfl⟩ | ⟨g, cp, cells, fr, rfl, hg, h1, h2, h3, h4, h5⟩
    · exact ⟨_, _, run_append_nothing w t ty _ i ht hi1 none 0 0 (Nat.le_refl _) (fun _ h => by cases h) A c, by simpa using hs, Ext.refl _ _, .inl rfl⟩
    · exact ⟨_, _, run_append_nothing w t ty _ i ht hi1 (some ⟨g, 0, none⟩) l.length cp h1 (fun _ h => by cases h; rfl) A c, by simpa using hs, Ext.refl _ _, .inl rfl⟩
  · obtain ⟨a, rfl, _, hcell⟩ := hat hm
    have hpos : 0 < m.length := List.length_pos_iff.2 hm
    have hnews : ∀ j v, (m.map byteV)[j]? = some v → w.cell? (a.add j) = some v := by
      intro j v hv
      simp only [List.getElem?_map, Option.map_eq_some_iff] at hv
      obtain ⟨u, hu, rfl⟩ := hv
      exact hcell j u hu
    rcases id hs with ⟨rfl, rfl⟩ | ⟨g, cp, cells, fr, rfl, hg, h1, h2, h3, h4, h5⟩
    · have hr := run_append_nil (P := P) w t ty _ i _ ht hi1 z1 a m.length c (m.map byteV) (by simp [z2]) hnews hpos (by simp at hlen; omega) (by rw [z3]; simp at hlen; omega)
      refine ⟨_, _, hr, .inr ⟨w.heap.size, _, _, (0, 0), rfl, heap_alloc_self _ _, ?_⟩, ((Ext.refl _ _).drew).alloc _, .inr ⟨_, rfl, Nat.le_refl _⟩⟩
      have hge := grownCap_ge w m.length 0 5
      refine ⟨by simpa using hge, by simp [size_zeroCells, Value.cells]; omega, grownCap_le_maxLen w m.length 0 _ (by unfold maxLen; simp at hlen; omega), fun j _ h => by simp at h, fun j u hu => ?_⟩
      have hj : j < m.length := (List.getElem?_eq_some_iff.1 (by simpa using hu)).1
      simp only [List.nil_append] at hu
      rw [Array.getElem?_append_left (by simpa using hj)]
      simp [hu, byteV]
    · have holds : ∀ j v, (l.map byteV)[j]? = some v → w.cell? ((⟨g, 0, none⟩ : Addr).add j) = some v := by
        intro j v hv
        simp only [List.getElem?_map, Option.map_eq_some_iff] at hv
        obtain ⟨u, hu, rfl⟩ := hv
        have ha : (⟨g, 0, none⟩ : Addr).add j = ⟨g, j, none⟩ := by unfold Addr.add; split <;> simp_all
        rw [ha, cells_at hg]
        exact h5 j u hu
      by_cases hroom : l.length + m.length ≤ cp
      · have hr := run_append_room_cells (P := P) w t ty _ i ht hi1 g 0 l.length cp a m.length c (m.map byteV) (by simp [z2]) hnews (oneCell_bytes m) hroom ?_ ?_
        · rw [z2] at hr
          simp only [Nat.mul_one, Nat.zero_add] at hr
          obtain ⟨cs', k1, k2, k3⟩ := heap_setCells_self (m.map byteV) l.length w cells hg (by simp; omega)
          refine ⟨_, _, hr, .inr ⟨g, cp, cs', fr, by simp, k1, by simpa using hroom, by omega, h3, h4, fun j u hu => ?_⟩, (Ext.refl _ _).setCells _ _ (.inl rfl), .inl rfl⟩
          rw [k3]
          by_cases hj : j < l.length
          · rw [List.getElem?_append_left hj] at hu
            rw [if_neg (by omega)]
            exact h5 j u hu
          · have hj2 : j < (l ++ m).length := (List.getElem?_eq_some_iff.1 hu).1
            rw [List.getElem?_append_right (by omega)] at hu
            rw [if_pos (by simp at hj2 ⊢; omega)]
            simp [hu, byteV]
        · intro j hj
          simp only [List.length_map] at hj
          rw [z2, cells_at hg]
          have : 0 + l.length * 1 + j < cells.size := by omega
          rw [Array.getElem?_eq_getElem this]; rfl
        · intro j hj
          simp only [List.length_map] at hj
          have := h4 (0 + l.length * i.size + j) (by rw [z2]; omega)
          unfold World.frozen?
          simp only [hg]
          simp at this ⊢
          exact this
      · have hr := run_append_grow (P := P) w t ty _ i _ ht hi1 z1 ⟨g, 0, none⟩ l.length cp (l.map byteV) (by simp [z2]) holds a m.length c (m.map byteV) (by simp [z2]) hnews (by omega) (by omega) (growslice_fits (by omega) (by rw [z3]; omega))
        refine ⟨_, _, hr, .inr ⟨w.heap.size, _, _, (0, 0), by rw [List.length_append], heap_alloc_self _ _, ?_⟩, ((Ext.refl _ _).drew).alloc _, .inr ⟨_, rfl, Nat.le_refl _⟩⟩
        have hge := grownCap_ge w (l.length + m.length) cp 5
        refine ⟨by simpa using hge, by simp [size_zeroCells, Value.cells]; omega, grownCap_le_maxLen w _ _ _ (by unfold maxLen; omega), fun j _ h => by simp at h, fun j u hu => ?_⟩
        have hj2 : j < (l ++ m).length := (List.getElem?_eq_some_iff.1 hu).1
        rw [Array.getElem?_append_left (by simpa using hj2)]
        simp only [List.append_toArray, List.getElem?_toArray, ← List.map_append, List.getElem?_map, hu, Option.map_some, byteV]
end
section
variable {P : Program} {ops : Array Oper} {rest : List Oper} {o : Oper} {a : Act} {Q : Exit → Act → World → Prop} {w : World}
theorem wpList_append_bytes (hgd : o.guard = none) (s x : Operand) (t : TypeId)
    (ho : o.op = .call { callee := .builtin .append, args := #[s, x], argTypes := #[t, t] })
    (ht : P.underlying t = some (.slice 5)) (hi : (P.info? 5).map (fun i => (i.zero, i.size, i.bytes)) = some (some (.int .u8 0), 1, 1))
    {D : Nat → Prop} {sv xv : Value} {l m : Bs} (hs : a.eval s = sv) (hx : a.eval x = xv) (hos : OwnB w sv l) (hbx : Byt D w xv m) (hlen : l.length + m.length ≤ 140737488355328)
    (next : ∀ v' w', OwnB w' v' (l ++ m) → Ext (fun k => sv.ownBlock = some k) w w' → (v'.ownBlock = sv.ownBlock ∨ ∃ b, v'.ownBlock = some b ∧ w.heap.size ≤ b) → wpList P ops Q rest (a.put o.dst v') w') : wpList P ops Q (o :: rest) a w := by
  obtain ⟨v', w', hr, h1, h2, h3⟩ := run_append_bytes (P := P) w t o.type ht hi hos hbx hlen
  refine wpList_val hgd (w' := w') (v := v') ?_ (next v' w' h1 h2 h3)
  unfold execOp
  simp only [ho, resolve, invoke, builtin, Sem.run_bind, Sem.run_pure, Result.andThen_ok, List.map_toArray, List.map_cons, List.map_nil, hs, hx, hr]
end
end Go.Proofs.Ytoflfhjeabpcjaa
