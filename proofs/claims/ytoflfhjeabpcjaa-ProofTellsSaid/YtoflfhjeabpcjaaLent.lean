/- Lent and Kept: bytes lent with a place more, in which a mark stands; no condition. -/
import Derived.Test.YtoflfhjeabpcjaaBufs2
import Derived.Laws.MakeOwn
namespace Go.Proofs.Ytoflfhjeabpcjaa
set_option linter.unusedVariables false
set_option linter.unusedSimpArgs false
open Go.RowKit

/-- Bytes lent: block g holds l, then 77, and nothing more. -/
def LentB (w : World) (g : Nat) (l : Bs) : Prop :=
  ∃ cells : Array Value, w.heap[g]? = some (.cells cells 5 (0, 0)) ∧ cells.size = l.length + 1 ∧ (∀ (j : Nat) (u : UInt8), l[j]? = some u → cells[j]? = some (Value.int .u8 u.toNat)) ∧ cells[l.length]? = some (.int .u8 77)
abbrev lentV (g : Nat) (l : Bs) : Value := .slice (some ⟨g, 0, none⟩) l.length (l.length + 1)
theorem LentB.own {w : World} {g : Nat} {l : Bs} (h : LentB w g l) (hl : l.length + 1 ≤ 9223372036854775807) : OwnB w (lentV g l) l := by
  obtain ⟨cells, h1, h2, h3, h4⟩ := h
  exact .inr ⟨g, _, cells, (0, 0), rfl, h1, by omega, by omega, hl, fun i _ h => by simp at h, h3⟩
theorem LentB.ext {F : Nat → Prop} {w w' : World} {g : Nat} {l : Bs} (h : LentB w g l) (he : Ext F w w') (hF : ¬ F g) : LentB w' g l := by
  obtain ⟨cells, h1, h⟩ := h
  exact ⟨cells, he.heap h1 hF, h⟩
theorem LentB.same {w w' : World} {g : Nat} {l : Bs} (h : LentB w g l) (he : w'.heap[g]? = w.heap[g]?) : LentB w' g l := by
  obtain ⟨cells, h1, h⟩ := h
  exact ⟨cells, he.trans h1, h⟩
theorem LentB.byt {w : World} {g : Nat} {l : Bs} (h : LentB w g l) (hl : l.length + 1 ≤ 9223372036854775807) : Byt (· = g) w (lentV g l) l := (h.own hl).byt.mono fun b hb => by simpa [Value.ownBlock, eq_comm] using hb

theorem size_setCells (b : Nat) : ∀ (vs : List Value) (o : Nat) (w : World), (w.setCells b o vs).heap.size = w.heap.size
  | [], _, _ => rfl
  | v :: r, o, w => by rw [World.setCells, size_setCells b r]; simp

section
variable {P : Program} {ops : Array Oper} {rest : List Oper} {o : Oper} {a : Act} {Q : Exit → Act → World → Prop} {w : World}

theorem run_copy_bytes (w : World) (t ty : TypeId) (ht : P.underlying t = some (.slice 5)) (hi : (P.info? 5).map (·.size) = some 1)
    {D : Nat → Prop} {g c : Nat} {x : Value} {m : Bs} {cells : Array Value} (hg : w.heap[g]? = some (.cells cells 5 (0, 0))) (hc : m.length ≤ cells.size) (hx : Byt D w x m) :
    ∃ w' cells', (Builtin.copy_ #[t, t] ty #[.slice (some ⟨g, 0, none⟩) m.length c, x]).run P w = .ok (goInt m.length) w' ∧ w'.heap[g]? = some (.cells cells' 5 (0, 0)) ∧ cells'.size = cells.size ∧
      (∀ (j : Nat) (u : UInt8), m[j]? = some u → cells'[j]? = some (Value.int .u8 u.toNat)) ∧ Ext (· = g) w w' ∧ w'.heap.size = w.heap.size := by
  obtain ⟨A, c', rfl, hcc, hat⟩ := hx
  by_cases hm : m = []
  · subst hm
    exact ⟨w, cells, run_copy_none (P := P) w t t ty _ _ A 0 c 0 c' ht hi (by simp), hg, rfl, by simp, Ext.refl _ _, rfl⟩
  · obtain ⟨ad, rfl, _, hcell⟩ := hat hm
    have hr := run_copy_cells (P := P) w t t ty _ g 0 m.length c ad m.length c' (m.map byteV) ht hi (by simp)
      (fun j v hv => by
        simp only [List.getElem?_map, Option.map_eq_some_iff] at hv
        obtain ⟨u, hu, rfl⟩ := hv
        exact hcell j u hu)
      (fun j hj => by
        simp only [List.length_map] at hj
        rw [cells_at hg]
        have : 0 + j < cells.size := by omega
        rw [Array.getElem?_eq_getElem this]; rfl)
      (fun j hj => by unfold World.frozen?; simp [hg]) (oneCell_bytes m)
    obtain ⟨cs', k1, k2, k3⟩ := heap_setCells_self (m.map byteV) 0 w cells hg (by simpa using hc)
    refine ⟨_, cs', by simpa using hr, k1, k2, fun j u hu => ?_, (Ext.refl _ _).setCells _ _ (.inl rfl), size_setCells _ _ _ _⟩
    have hj : j < m.length := (List.getElem?_eq_some_iff.1 hu).1
    rw [k3, if_pos (by simp; omega)]
    simp [hu, byteV]
theorem wpList_copy_bytes (hgd : o.guard = none) (s x : Operand) (t : TypeId)
    (ho : o.op = .call { callee := .builtin .copy, args := #[s, x], argTypes := #[t, t] })
    (ht : P.underlying t = some (.slice 5)) (hi : (P.info? 5).map (·.size) = some 1)
    {D : Nat → Prop} {g c : Nat} {xv : Value} {m : Bs} {cells : Array Value} (hs : a.eval s = .slice (some ⟨g, 0, none⟩) m.length c) (hx : a.eval x = xv) (hg : w.heap[g]? = some (.cells cells 5 (0, 0))) (hc : m.length ≤ cells.size) (hbx : Byt D w xv m)
    (next : ∀ w' cells', w'.heap[g]? = some (.cells cells' 5 (0, 0)) → cells'.size = cells.size → (∀ (j : Nat) (u : UInt8), m[j]? = some u → cells'[j]? = some (Value.int .u8 u.toNat)) → Ext (· = g) w w' → w'.heap.size = w.heap.size →
      wpList P ops Q rest (a.put o.dst (goInt m.length)) w') : wpList P ops Q (o :: rest) a w := by
  obtain ⟨w', cells', hr, h1, h2, h3, h4, h5⟩ := run_copy_bytes (P := P) (c := c) w t o.type ht hi hg hc hbx
  refine wpList_val hgd (w' := w') (v := goInt m.length) ?_ (next w' cells' h1 h2 h3 h4 h5)
  unfold execOp
  simp only [ho, resolve, invoke, builtin, Sem.run_bind, Sem.run_pure, Result.andThen_ok, List.map_toArray, List.map_cons, List.map_nil, hs, hx, hr]
end

theorem info8 : (Try.prog.info? 5).map (fun i => (i.zero, i.size, i.bytes)) = some (some (.int .u8 0), 1, 1) := by kernel_rfl
theorem run_make_bytes (l : Nat) (c : Nat) (h : l ≤ c) (hc : c ≤ 281474976710656) (u : World) : (Instr.makeSlice 22 (.int .i64 (l : Int)) (.int .i64 (c : Int))).run Try.prog u =
    .ok (.slice (some ⟨u.heap.size, 0, none⟩) l c) (u.alloc (.cells (madeCells #[.int .u8 0] c) 5)) := by
  obtain ⟨i0, hi, hi2⟩ := Option.map_eq_some_iff.1 info8
  simp only [Prod.mk.injEq] at hi2
  obtain ⟨hz0, hz1, hz2⟩ := hi2
  have h := run_make (P := Try.prog) u 22 5 i0 (.int .u8 0) Try.underlying22 hi hz0 .i64 .i64 (l : Int) (c : Int) (by omega) (by omega) (by rw [hz2]; omega) (by omega)
  simpa [hz1, Value.cells] using h

set_option maxRecDepth 100000 in
theorem lent_walk {w : World} {D : Nat → Prop} {bv : Value} {l : Bs} (hb : Byt D w bv l) (hl : l.length ≤ 140737488355328) :
    Calls Try.prog 51 #[bv] w fun e w' => e = .returned (lentV w.heap.size l) ∧ LentB w' w.heap.size l ∧ Ext (fun _ => False) w w' ∧ w'.heap.size = w.heap.size + 1 := by
  obtain ⟨A, c, rfl, hcap, _⟩ := id hb
  have hmk : ∀ u : World, (Instr.makeSlice 22 (.int .i64 (l.length : Int)) (.int .i64 ((l.length : Int) + 1))).run Try.prog u = .ok (.slice (some ⟨u.heap.size, 0, none⟩) l.length (l.length + 1)) (u.alloc (.cells (madeCells #[.int .u8 0] (l.length + 1)) 5)) := run_make_bytes l.length (l.length + 1) (by omega) (by omega)
  obtain ⟨w', cells', hcp, h1, h2, h3, h4, h5⟩ := run_copy_bytes (P := Try.prog) (c := l.length + 1) (cells := madeCells #[.int .u8 0] (l.length + 1)) (w.alloc (.cells (madeCells #[.int .u8 0] (l.length + 1)) 5)) 22 3 Try.underlying22 (by kernel_rfl) (heap_alloc_self _ _) (by rw [size_madeCells]; omega) (hb.ext ((Ext.refl (fun _ => False) _).alloc _) fun _ _ => id)
  rw [size_madeCells] at h2
  have hf : w'.frozen? ⟨w.heap.size, l.length, none⟩ = false := by unfold World.frozen?; simp [h1]
  obtain ⟨v0, hc⟩ : ∃ v0, w'.cell? ⟨w.heap.size, l.length, none⟩ = some v0 := ⟨_, by rw [cells_at h1, Array.getElem?_eq_getElem (by omega)]⟩
  have hlt := lt_of_heap h1
  have H4 := Lib.hid (And.intro (And.intro h1 h2) (And.intro h3 (And.intro h4 h5)))
  clear h1 h2 h3 h4 h5 hb
  go_enter Try.func51, Try.ntmps51
  go_wp2_with fail
  go_ret
  obtain ⟨⟨h1, h2⟩, h3, h4, h5⟩ := H4.out
  refine ⟨rfl, ⟨_, heap_setCell_self h1, by simpa using h2, fun j u hu => ?_, ?_⟩, ?_, ?_⟩
  · have hj := (List.getElem?_eq_some_iff.1 hu).1
    rw [Array.getElem?_setIfInBounds_ne (by omega)]
    exact h3 j u hu
  · rw [Array.getElem?_setIfInBounds_self_of_lt (by omega)]
  · exact (((Ext.refl _ _).alloc _).trans' h4 fun b hb => .inr (by omega)).setCell (.inr (Nat.le_refl _)) _
  · simp [h5]

set_option maxRecDepth 100000 in
theorem kept_walk {w : World} {D : Nat → Prop} {bv : Value} {g : Nat} {l : Bs} (hg : LentB w g l) (hb : Byt D w bv l) (hl : l.length ≤ 140737488355328) :
    Calls Try.prog 55 #[lentV g l, bv] w fun e w' => e = .returned (.bool true) ∧ Ext (fun _ => False) w w' := by
  obtain ⟨A, c, rfl, hcap, _⟩ := id hb
  have hc1 := (hg.byt (by omega)).conv 22 5 9 Try.underlying22 Try.underlying5 Try.underlying9 w rfl
  have hc2 := hb.conv 22 5 9 Try.underlying22 Try.underlying5 Try.underlying9 w rfl
  obtain ⟨cells, h1, h2, h3, h4⟩ := hg
  have hc : w.cell? ⟨g, l.length, none⟩ = some (.int .u8 77) := by rw [cells_at h1, h4]
  clear h1 h2 h3 h4 hb
  go_enter Try.func55, Try.ntmps55
  go_wp2_with fail
  go_ret
  exact ⟨rfl, Ext.refl _ _⟩
end Go.Proofs.Ytoflfhjeabpcjaa
