/- A tree in memory: its nodes are never written; what makes a node; no condition. -/
import Derived.Test.YtoflfhjeabpcjaaTrieBit
import Derived.Test.YtoflfhjeabpcjaaCloneEq
import Derived.Test.YtoflfhjeabpcjaaDigOf
import Derived.Deep.MidRow
namespace Go.Proofs.Ytoflfhjeabpcjaa
set_option linter.unusedVariables false
set_option linter.unusedSimpArgs false
open Go.RowKit

abbrev ptrV (p : Nat) : Value := .pointer (some ⟨p, 0, none⟩)
/-- The digest of a tree. -/
def sumT : Tr → Bs
  | .leaf k v => (ofR [108, 101, 97, 102] [k, v]).1
  | .fork b l r => (ofR [102, 111, 114, 107] [beB (b : Int) 8, sumT l, sumT r]).1
theorem sumT_len : ∀ t, (sumT t).length = 32
  | .leaf _ _ => ofR_len _ _
  | .fork _ _ _ => ofR_len _ _
/-- A node's cells. -/
structure NodeAt (w : World) (p : Nat) (bit : Int) (kv vv lp rp : Value) (s : Bs) (n : Nat) : Prop where
  c0 : w.cell? ⟨p, 0, none⟩ = some (.int .i64 bit)
  c1 : w.cell? ⟨p, 1, none⟩ = some kv
  c2 : w.cell? ⟨p, 2, none⟩ = some vv
  c3 : w.cell? ⟨p, 3, none⟩ = some lp
  c4 : w.cell? ⟨p, 4, none⟩ = some rp
  c5 : w.rangeAt p 5 (s.map byteV)
  c37 : w.cell? ⟨p, 37, none⟩ = some (.int .i64 n)
theorem cell_of_heap {w w' : World} {a : Addr} (h : w'.heap[a.block]? = w.heap[a.block]?) : w'.cell? a = w.cell? a := by
  unfold World.cell?
  rw [h]
theorem NodeAt.same {w w' : World} {p : Nat} {bit : Int} {kv vv lp rp : Value} {s : Bs} {n : Nat} (h : NodeAt w p bit kv vv lp rp s n) (he : w'.heap[p]? = w.heap[p]?) : NodeAt w' p bit kv vv lp rp s n := by
  have hc : ∀ o, w'.cell? ⟨p, o, none⟩ = w.cell? ⟨p, o, none⟩ := fun o => cell_of_heap he
  exact ⟨(hc _).trans h.c0, (hc _).trans h.c1, (hc _).trans h.c2, (hc _).trans h.c3, (hc _).trans h.c4, fun j v hv => (hc _).trans (h.c5 j v hv), (hc _).trans h.c37⟩
/-- A tree's root lies in block p; all that is read of it lies in blocks of D. -/
def NRep (D : Nat → Prop) (w : World) : Tr → Nat → Prop
  | .leaf k v, p => D p ∧ ∃ kv vv lp rp, NodeAt w p (-1) kv vv lp rp (sumT (.leaf k v)) 1 ∧ Byt D w kv k ∧ Byt D w vv v
  | .fork b l r, p => D p ∧ ∃ kv vv pl pr, NodeAt w p b kv vv (ptrV pl) (ptrV pr) (sumT (.fork b l r)) (l.ents.length + r.ents.length) ∧ NRep D w l pl ∧ NRep D w r pr
theorem Byt.heaps {D : Nat → Prop} {w w' : World} {v : Value} {l : Bs} (h : Byt D w v l) (hk : ∀ k, D k → w'.heap[k]? = w.heap[k]?) : Byt D w' v l := by
  obtain ⟨A, c, rfl, hc, h⟩ := h
  refine ⟨A, c, rfl, hc, fun hl => ?_⟩
  obtain ⟨ad, rfl, hd, hcell⟩ := h hl
  refine ⟨ad, rfl, hd, fun j u hu => ?_⟩
  rw [← hcell j u hu]
  exact World.cell?_of_block (by rw [block_add]; exact hk _ hd)
theorem NRep.heaps {D : Nat → Prop} {w w' : World} (hk : ∀ k, D k → w'.heap[k]? = w.heap[k]?) : ∀ {t : Tr} {p : Nat}, NRep D w t p → NRep D w' t p
  | .leaf k v, p, ⟨hd, kv, vv, lp, rp, h, h1, h2⟩ => ⟨hd, kv, vv, lp, rp, h.same (hk p hd), h1.heaps hk, h2.heaps hk⟩
  | .fork b l r, p, ⟨hd, kv, vv, pl, pr, h, h1, h2⟩ => ⟨hd, kv, vv, pl, pr, h.same (hk p hd), NRep.heaps hk h1, NRep.heaps hk h2⟩
theorem NRep.mono {D D' : Nat → Prop} {w : World} (hD : ∀ k, D k → D' k) : ∀ {t : Tr} {p : Nat}, NRep D w t p → NRep D' w t p
  | .leaf k v, p, ⟨hd, kv, vv, lp, rp, h, h1, h2⟩ => ⟨hD p hd, kv, vv, lp, rp, h, h1.mono hD, h2.mono hD⟩
  | .fork b l r, p, ⟨hd, kv, vv, pl, pr, h, h1, h2⟩ => ⟨hD p hd, kv, vv, pl, pr, h, NRep.mono hD h1, NRep.mono hD h2⟩
theorem NRep.lt {D : Nat → Prop} {w : World} {t : Tr} {p : Nat} (h : NRep D w t p) : p < w.heap.size := by
  cases t with
  | leaf k v =>
    obtain ⟨_, _, _, _, _, h, _⟩ := h
    exact World.block_lt_of_cell? _ _ h.c0
  | fork b l r =>
    obtain ⟨_, _, _, _, _, h, _⟩ := h
    exact World.block_lt_of_cell? _ _ h.c0
theorem NRep.at {D : Nat → Prop} {w : World} {t : Tr} {p : Nat} (h : NRep D w t p) : ∃ bit kv vv lp rp, NodeAt w p bit kv vv lp rp (sumT t) t.ents.length ∧ D p := by
  cases t with
  | leaf k v =>
    obtain ⟨hd, kv, vv, lp, rp, h, _⟩ := h
    exact ⟨_, kv, vv, lp, rp, h, hd⟩
  | fork b l r =>
    obtain ⟨hd, kv, vv, pl, pr, h, _⟩ := h
    refine ⟨(b : Int), kv, vv, ptrV pl, ptrV pr, ?_, hd⟩
    rw [Tr.ents, List.length_append]
    exact h
/-- What is grown: old blocks of D, and new ones. -/
def Grown (D : Nat → Prop) (w w' : World) : Nat → Prop := fun b => D b ∨ (w.heap.size ≤ b ∧ b < w'.heap.size)
/-- D's blocks are there. -/
def Below (D : Nat → Prop) (w : World) : Prop := ∀ b, D b → b < w.heap.size
theorem Grown.below {D : Nat → Prop} {w w' : World} (h : Below D w) (hx : w.heap.size ≤ w'.heap.size) : Below (Grown D w w') w' := fun b hb => hb.elim (fun h1 => Nat.lt_of_lt_of_le (h b h1) hx) And.right
theorem Grown.trans {D : Nat → Prop} {w w1 w2 : World} (h1 : w.heap.size ≤ w1.heap.size) (h2 : w1.heap.size ≤ w2.heap.size) : ∀ b, Grown (Grown D w w1) w1 w2 b → Grown D w w2 b := by
  rintro b ((h | ⟨h3, h4⟩) | ⟨h3, h4⟩)
  · exact .inl h
  · exact .inr ⟨h3, Nat.lt_of_lt_of_le h4 h2⟩
  · exact .inr ⟨Nat.le_trans h1 h3, h4⟩
theorem NRep.ext {D : Nat → Prop} {w w' : World} {F : Nat → Prop} (hx : Ext F w w') (hF : ∀ k, D k → ¬ F k) : ∀ {t : Tr} {p : Nat}, NRep D w t p → NRep D w' t p
  | .leaf k v, p, ⟨hd, kv, vv, lp, rp, h, h1, h2⟩ => ⟨hd, kv, vv, lp, rp, h.same (hx.block _ (World.block_lt_of_cell? _ _ h.c0) (hF p hd)), h1.ext hx hF, h2.ext hx hF⟩
  | .fork b l r, p, ⟨hd, kv, vv, pl, pr, h, h1, h2⟩ => ⟨hd, kv, vv, pl, pr, h.same (hx.block _ (World.block_lt_of_cell? _ _ h.c0) (hF p hd)), NRep.ext hx hF h1, NRep.ext hx hF h2⟩
theorem NRep.still {D : Nat → Prop} {w w' : World} {t : Tr} {p : Nat} (h : NRep D w t p) (hx : Ext (fun _ => False) w w') : NRep D w' t p := NRep.ext hx (fun _ _ => id) h

/-- Two rows of bytes side by side. -/
theorem byts_lit {w : World} {g : Nat} {D : Nat → Prop} {vs : List Value} {ls : List Bs} (hg : w.heap[g]? = some (.cells vs.toArray 22 (0, 0))) (hl : vs.length = ls.length) (hD : D g) (h : ∀ (i : Nat) (v : Value) (l : Bs), vs[i]? = some v → ls[i]? = some l → Byt D w v l) (n : Nat) (hn : n = ls.length) :
    Byts D w (.slice (some ⟨g, 0, none⟩) n n) ls := by
  subst hn
  refine ⟨_, _, rfl, Nat.le_refl _, fun _ => ⟨g, 0, rfl, hD, fun i x hx => ?_⟩⟩
  have hi : i < vs.length := by rw [hl]; exact (List.getElem?_eq_some_iff.1 hx).1
  refine ⟨vs[i], ?_, h i _ x (List.getElem?_eq_getElem hi) hx⟩
  rw [cells_at hg]
  simp [hi]
/-- A node's digest as bytes. -/
theorem sum_byt {w : World} {D : Nat → Prop} {p : Nat} {s : Bs} (h : w.rangeAt p 5 (s.map byteV)) (hD : D p) (hs : s.length = 32) : Byt D w (.slice (some ⟨p, 5, none⟩) 32 32) s := by
  refine ⟨_, _, by rw [hs], by rw [hs]; exact Nat.le_refl _, fun _ => ⟨_, rfl, hD, fun j u hu => ?_⟩⟩
  rw [Addr.add_mid]
  refine h j _ ?_
  rw [List.getElem?_map, hu]
  rfl
theorem there_new {w : World} {p : Nat} {cs : Array Value} {t : TypeId} (h : w.heap[p]? = some (.cells cs t (0, 0))) {o n : Nat} (hn : o + n ≤ cs.size) : w.there p o n := by
  intro j hj
  refine ⟨?_, ?_⟩
  · rw [cells_at h, Array.getElem?_eq_getElem (by omega)]; rfl
  · unfold World.frozen?; simp [h]
theorem sum_info : (Try.prog.info? 29).map (·.size) = some 32 := by kernel_rfl
/-- Where the digest was written, the node stands. -/
theorem node_made {w : World} {p : Nat} {cs : Array Value} {t : TypeId} (h : w.heap[p]? = some (.cells cs t (0, 0))) {bit : Int} {kv vv lp rp : Value} {s : Bs} {n : Nat} (hs : s.length = 32) (hsz : cs.size = 38)
    (h0 : cs[0]? = some (.int .i64 bit)) (h1 : cs[1]? = some kv) (h2 : cs[2]? = some vv) (h3 : cs[3]? = some lp) (h4 : cs[4]? = some rp) (h37 : cs[37]? = some (.int .i64 n)) :
    NodeAt (w.setCells p 5 (s.map byteV)) p bit kv vv lp rp s n := by
  obtain ⟨cs', k1, k2, k3⟩ := heap_setCells_self (s.map byteV) 5 w cs h (by simp [hs, hsz])
  have hl : (s.map byteV).length = 32 := by simp [hs]
  rw [hl] at k3
  refine ⟨?_, ?_, ?_, ?_, ?_, fun j v hv => ?_, ?_⟩
  · rw [cells_at k1, k3]; exact h0
  · rw [cells_at k1, k3]; exact h1
  · rw [cells_at k1, k3]; exact h2
  · rw [cells_at k1, k3]; exact h3
  · rw [cells_at k1, k3]; exact h4
  · have hj := (List.getElem?_eq_some_iff.1 hv).1
    rw [cells_at k1, k3, if_pos (by omega), show 5 + j - 5 = j by omega]
    exact hv
  · rw [cells_at k1, k3]; exact h37
end Go.Proofs.Ytoflfhjeabpcjaa
