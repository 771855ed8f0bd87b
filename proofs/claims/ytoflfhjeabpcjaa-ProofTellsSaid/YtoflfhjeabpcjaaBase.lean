/- Words on memory that the walks of this claim use: what stays as it was, bytes, maps; no condition. -/
import Derived.Test.YtoflfhjeabpcjaaMix
import Derived.Test.YtoflfhjeabpcjaaChecked
import Derived.WalkKit
import Derived.KernelRfl
import Derived.WideLaws
import Derived.WalkLawsBesides
import Derived.Lib.ConvBytes
import Derived.Laws.BytesArg
import Derived.Deep.AppendLies
import Derived.Deep.Draws
import Derived.Lib.Hide
namespace Go.Proofs.Ytoflfhjeabpcjaa
set_option linter.unusedVariables false
set_option linter.unusedSimpArgs false
open Go.RowKit

/-! ### What stays -/

structure Ext (F : Nat → Prop) (w w' : World) : Prop where
  os : w'.os = w.os
  tape : w'.tape = w.tape
  output : w'.output = w.output
  size : w.heap.size ≤ w'.heap.size
  block : ∀ k, k < w.heap.size → ¬ F k → w'.heap[k]? = w.heap[k]?

theorem iteSkip {c : Bool} {A B : Prop} (h : c = false) (hb : B) : if c = true then A else B := by
  rw [if_neg (by simp [h])]
  exact hb
theorem lt_of_heap {w : World} {b : Nat} {o : Obj} (h : w.heap[b]? = some o) : b < w.heap.size := (Array.getElem?_eq_some_iff.1 h).1

theorem Ext.refl (F : Nat → Prop) (w : World) : Ext F w w := ⟨rfl, rfl, rfl, Nat.le_refl _, fun _ _ _ => rfl⟩
theorem Ext.trans' {F F1 : Nat → Prop} {w w1 w2 : World} (h : Ext F w w1) (k : Ext F1 w1 w2) (hF : ∀ b, F1 b → F b ∨ w.heap.size ≤ b) : Ext F w w2 :=
  ⟨k.os.trans h.os, k.tape.trans h.tape, k.output.trans h.output, Nat.le_trans h.size k.size, fun b hb hn =>
    (k.block b (Nat.lt_of_lt_of_le hb h.size) (fun hf => (hF b hf).elim hn (fun hl => Nat.lt_irrefl _ (Nat.lt_of_lt_of_le hb hl)))).trans (h.block b hb hn)⟩
theorem Ext.trans {F : Nat → Prop} {w w1 w2 : World} (h : Ext F w w1) (k : Ext F w1 w2) : Ext F w w2 := h.trans' k fun _ hf => .inl hf
theorem Ext.mono {F F1 : Nat → Prop} {w w' : World} (h : Ext F w w') (hF : ∀ b, b < w.heap.size → F b → F1 b) : Ext F1 w w' :=
  ⟨h.os, h.tape, h.output, h.size, fun b hb hn => h.block b hb fun hf => hn (hF b hb hf)⟩
theorem Ext.drew {F : Nat → Prop} {w w' : World} (h : Ext F w w') : Ext F w w'.drew := ⟨h.os, h.tape, h.output, h.size, h.block⟩
theorem Ext.drewN {F : Nat → Prop} {w w' : World} (h : Ext F w w') (n : Nat) : Ext F w (w'.drewN n) := ⟨h.os, h.tape, h.output, h.size, h.block⟩
theorem Ext.alloc {F : Nat → Prop} {w w' : World} (h : Ext F w w') (o : Obj) : Ext F w (w'.alloc o) :=
  ⟨h.os, h.tape, h.output, Nat.le_trans h.size (by simp), fun b hb hn => (Below.heap_alloc w' o b (Nat.lt_of_lt_of_le hb h.size)).trans (h.block b hb hn)⟩
theorem Ext.setCell {F : Nat → Prop} {w w' : World} (h : Ext F w w') {a : Addr} (ha : F a.block ∨ w.heap.size ≤ a.block) (v : Value) : Ext F w (w'.setCell a v) :=
  ⟨h.os, h.tape, h.output, by simpa [World.setCell] using h.size, fun b hb hn => (Below.heap_setCell w' a v b (by
    rintro rfl
    rcases ha with ha | ha
    · exact hn ha
    · omega)).trans (h.block b hb hn)⟩
theorem Ext.grown {F : Nat → Prop} {w w' w2 : World} (h : Ext F w w') {row : Option Nat} (hg : w'.grownBy w2 row) (hr : ∀ k, row = some k → F k ∨ w.heap.size ≤ k) : Ext F w w2 :=
  h.trans' (F1 := fun b => some b = row) ⟨hg.os, hg.tape, hg.output, hg.size, fun b hb hn => hg.block b hb hn⟩ fun b hb => hr b hb.symm
theorem Ext.of_below {F : Nat → Prop} {w w' : World} (h : Below w.heap.size w w') : Ext F w w' := ⟨h.os, h.tape, h.output, h.size, fun b hb _ => h.block b hb⟩
theorem Ext.below {F : Nat → Prop} {w w' : World} (h : Ext F w w') (hF : ∀ b, F b → w.heap.size ≤ b) : Below w.heap.size w w' :=
  ⟨h.os, h.tape, h.output, h.size, fun b hb => h.block b hb fun hf => Nat.lt_irrefl _ (Nat.lt_of_lt_of_le hb (hF b hf))⟩
theorem Ext.heap {F : Nat → Prop} {w w' : World} {b : Nat} {o : Obj} (h : Ext F w w') (hb : w.heap[b]? = some o) (hn : ¬ F b) : w'.heap[b]? = some o := (h.block b (lt_of_heap hb) hn).trans hb
theorem Ext.heap_eq {F : Nat → Prop} {w w' : World} {b : Nat} (h : Ext F w w') (hb : b < w.heap.size) (hn : ¬ F b) : w'.heap[b]? = w.heap[b]? := h.block b hb hn

/-! ### The class of worlds in which a region's reads are made -/

structure Ag (D : List Nat) (w0 : World) where
  w : World
  ok : ∀ b ∈ D, w.heap[b]? = w0.heap[b]?
instance {D : List Nat} {w0 : World} : Nonempty (Ag D w0) := ⟨⟨w0, fun _ _ => rfl⟩⟩
theorem Ag.obj {D : List Nat} {w0 : World} (u : Ag D w0) (b : Nat) (h : b ∈ D) : u.w.heap[b]? = w0.heap[b]? := u.ok b h
theorem Ag.cell {D : List Nat} {w0 : World} (u : Ag D w0) (a : Addr) (h : a.block ∈ D) : u.w.cell? a = w0.cell? a := World.cell?_of_block (u.ok _ h)
theorem Ag.frozen {D : List Nat} {w0 : World} (u : Ag D w0) (a : Addr) (h : a.block ∈ D) : u.w.frozen? a = w0.frozen? a := World.frozen?_of_block (u.ok _ h)
def Cls (D : List Nat) (w0 w' : World) : Prop := ∃ u : Ag D w0, w' = u.w
theorem Cls.mk {D : List Nat} {w0 w' : World} (h : ∀ b ∈ D, w'.heap[b]? = w0.heap[b]?) : Cls D w0 w' := ⟨⟨w', h⟩, rfl⟩
theorem Cls.refl (D : List Nat) (w0 : World) : Cls D w0 w0 := ⟨⟨w0, fun _ _ => rfl⟩, rfl⟩
theorem Cls.of_ext {D : List Nat} {F : Nat → Prop} {w0 w' : World} (h : Ext F w0 w') (hD : ∀ b ∈ D, b < w0.heap.size ∧ ¬ F b) : Cls D w0 w' := Cls.mk fun b hb => h.block b (hD b hb).1 (hD b hb).2
theorem Cls.step {D : List Nat} {F : Nat → Prop} {w0 w w' : World} (h : Cls D w0 w) (he : Ext F w w') (hD : ∀ b ∈ D, b < w.heap.size ∧ ¬ F b) : Cls D w0 w' := by
  obtain ⟨u, rfl⟩ := h
  exact Cls.mk fun b hb => (he.block b (hD b hb).1 (hD b hb).2).trans (u.ok b hb)
theorem Cls.old {D : List Nat} {w0 w w' : World} (h : Cls D w0 w) (he : Ext (fun _ => False) w w') (hD : ∀ b ∈ D, b < w.heap.size) : Cls D w0 w' := h.step he fun b hb => ⟨hD b hb, id⟩
attribute [go_sem] Cls Ag.obj Ag.cell Ag.frozen

theorem heap_drew (w : World) (b : Nat) : w.drew.heap[b]? = w.heap[b]? := rfl
theorem heap_drewN (w : World) (n b : Nat) : (w.drewN n).heap[b]? = w.heap[b]? := rfl
theorem heap_alloc_lt (w : World) (o : Obj) (b : Nat) (h : b < w.heap.size) : (w.alloc o).heap[b]? = w.heap[b]? := Below.heap_alloc w o b h
theorem heap_alloc_self (w : World) (o : Obj) : (w.alloc o).heap[w.heap.size]? = some o := by simp [World.alloc, -World.alloc_eq]
theorem heap_setCell_ne (w : World) (a : Addr) (v : Value) (b : Nat) (h : b ≠ a.block) : (w.setCell a v).heap[b]? = w.heap[b]? := Below.heap_setCell w a v b h
theorem heap_alloc_at {w : World} {o : Obj} {n : Nat} (h : n = w.heap.size) : (w.alloc o).heap[n]? = some o := by rw [h]; exact heap_alloc_self w o
attribute [go_sem] heap_drew heap_drewN heap_alloc_lt heap_alloc_self heap_setCell_ne
theorem heap_setCell_self {w : World} {b i : Nat} {v : Value} {cs : Array Value} {t : TypeId} {fr : Nat × Nat} (h : w.heap[b]? = some (.cells cs t fr)) : (w.setCell ⟨b, i, none⟩ v).heap[b]? = some (.cells (cs.setIfInBounds i v) t fr) := by
  simp [World.setCell, Array.getElem?_modify, h]

/-! ### Bytes -/

abbrev Bs := List UInt8
abbrev str (l : Bs) : Value := .string ⟨l.toArray⟩
/-- The block in which a slice lies. -/
def blk : Value → Nat
  | .slice (some a) _ _ => a.block
  | _ => 0
def Byt (D : Nat → Prop) (w : World) (v : Value) (l : Bs) : Prop :=
  ∃ A c, v = .slice A l.length c ∧ l.length ≤ c ∧ (l ≠ [] → ∃ ad, A = some ad ∧ D ad.block ∧ ∀ j (u : UInt8), l[j]? = some u → w.cell? (ad.add j) = some (.int .u8 u.toNat))

theorem block_add (a : Addr) (n : Nat) : (a.add n).block = a.block := by unfold Addr.add; split <;> rfl
theorem Byt.keep {D : Nat → Prop} {w w' : World} {v : Value} {l : Bs} (h : Byt D w v l) (hk : w'.heap[blk v]? = w.heap[blk v]?) : Byt D w' v l := by
  obtain ⟨A, c, rfl, hc, h⟩ := h
  refine ⟨A, c, rfl, hc, fun hl => ?_⟩
  obtain ⟨ad, rfl, hd, hcell⟩ := h hl
  refine ⟨ad, rfl, hd, fun j u hu => ?_⟩
  rw [← hcell j u hu]
  exact World.cell?_of_block (by rw [block_add]; exact hk)
theorem Byt.mono {D D' : Nat → Prop} {w : World} {v : Value} {l : Bs} (h : Byt D w v l) (hD : ∀ b, D b → D' b) : Byt D' w v l := by
  obtain ⟨A, c, rfl, hc, h⟩ := h
  exact ⟨A, c, rfl, hc, fun hl => let ⟨ad, e, hd, hcell⟩ := h hl; ⟨ad, e, hD _ hd, hcell⟩⟩
theorem Byt.ext {D F : Nat → Prop} {w w' : World} {v : Value} {l : Bs} (h : Byt D w v l) (he : Ext F w w') (hD : ∀ b, D b → ¬ F b) : Byt D w' v l := by
  obtain ⟨A, c, rfl, hc, h⟩ := h
  refine ⟨A, c, rfl, hc, fun hl => ?_⟩
  obtain ⟨ad, rfl, hd, hcell⟩ := h hl
  refine ⟨ad, rfl, hd, fun j u hu => ?_⟩
  have := hcell j u hu
  have hlt := World.block_lt_of_cell? _ _ this
  rw [← this]
  rw [block_add] at hlt
  exact World.cell?_of_block (by rw [block_add]; exact he.block _ hlt (hD _ hd))

theorem run_convert_byt {P : Program} {D : Nat → Prop} {w : World} {v : Value} {l : Bs} (h : Byt D w v l) (src e dst : TypeId) (hs : P.underlying src = some (.slice e)) (he : P.underlying e = some (.int .u8))
    (hd : P.underlying dst = some .string) : (convert src dst v).run P w = .ok (str l) w := by
  obtain ⟨A, c, rfl, hc, h⟩ := h
  rcases A with _ | ad
  · have hl : l = [] := by
      cases l with
      | nil => rfl
      | cons x l => obtain ⟨ad, e, _⟩ := h (by simp); cases e
    subst hl
    exact run_convert_bytes_nil w src e hs he _ c dst hd
  · have hl : (loadCells ad l.length).run P w = .ok ((l.map fun c => (c.toNat : Int)).map (Value.int .u8)).toArray w := by
      have := run_loadCells_list (P := P) w ad ((l.map fun c => (c.toNat : Int)).map (Value.int .u8)) (fun j v hj => by
        have hne : l ≠ [] := by rintro rfl; simp at hj
        obtain ⟨ad', e, _, hcell⟩ := h hne
        injection e with e
        subst e
        simp only [List.getElem?_map, Option.map_eq_some_iff] at hj
        obtain ⟨_, ⟨u, hu, rfl⟩, rfl⟩ := hj
        exact hcell j u hu)
      simpa using this
    rw [run_convert_bytes_string w src dst e _ l.length c hs he hd, run_bytesToString w _ l.length c _ hl, foldl_push_bytes]
    have hm : ((l.map fun c => (c.toNat : Int)).map fun n => UInt8.ofNat n.toNat) = l := by
      rw [List.map_map]
      conv => rhs; rw [← List.map_id l]
      refine List.map_congr_left fun x _ => ?_
      simp
    simp [hm, ByteArray.empty, ByteArray.emptyWithCapacity, str]
    rfl
theorem Byt.conv {P : Program} {D : Nat → Prop} {w : World} {v : Value} {l : Bs} (h : Byt D w v l) (src e dst : TypeId) (hs : P.underlying src = some (.slice e)) (he : P.underlying e = some (.int .u8))
    (hd : P.underlying dst = some .string) : ∀ W : World, W.heap[blk v]? = w.heap[blk v]? → (convert src dst v).run P W = .ok (str l) W := fun _ hW => run_convert_byt (h.keep hW) src e dst hs he hd

/-! ### Maps -/

section
variable {κ : Type} [DecidableEq κ]
def assocIdx (k : κ) : List (κ × Value) → Nat → Option (Nat × Value)
  | [], _ => none
  | (x, v) :: r, i => if k = x then some (i, v) else assocIdx k r (i + 1)
def assoc (k : κ) : List (κ × Value) → Option Value
  | [] => none
  | (x, v) :: r => if k = x then some v else assoc k r
def assocSet (k : κ) (v : Value) : List (κ × Value) → List (κ × Value)
  | [] => [(k, v)]
  | (x, u) :: r => if k = x then (x, v) :: r else (x, u) :: assocSet k v r
theorem assocIdx_assoc (k : κ) : ∀ (E : List (κ × Value)) (i : Nat), (assocIdx k E i).map (·.2) = assoc k E
  | [], _ => rfl
  | (x, v) :: r, i => by
    simp only [assocIdx, assoc]
    split
    · rfl
    · exact assocIdx_assoc k r (i + 1)

/-- How the keys of a map are held, and that they are told apart. -/
structure KeyOf (P : Program) (kt : TypeId) (enc : κ → Value) : Prop where
  und : ∃ d, P.underlying kt = some d ∧ ∀ x y, Instr.sameNow d (enc x) (enc y) = none ∨ Instr.sameNow d (enc x) (enc y) = some (decide (x = y))
  eql : ∀ x y W, (Op.equal kt (enc x) (enc y)).run P W = .ok (decide (x = y)) W
  chk : ∀ e x W, (Instr.checkKey e 10000 kt (enc x)).run P W = .ok () W
  bits : ∀ x, Instr.sameBits 10000 (enc x) (enc x) = true

def MapIs (enc : κ → Value) (w : World) (m : Nat) (E : List (κ × Value)) : Prop :=
  ∃ es clock, w.heap[m]? = some (.map es clock) ∧ es.toList.map (fun e => (e.key, e.val)) = E.map (fun p => (enc p.1, p.2))
omit [DecidableEq κ] in
theorem MapIs.keep {enc : κ → Value} {w w' : World} {m : Nat} {E : List (κ × Value)} (h : MapIs enc w m E) (hk : w'.heap[m]? = w.heap[m]?) : MapIs enc w' m E := by
  obtain ⟨es, c, h1, h2⟩ := h
  exact ⟨es, c, hk.trans h1, h2⟩
omit [DecidableEq κ] in
theorem MapIs.lt {enc : κ → Value} {w : World} {m : Nat} {E : List (κ × Value)} (h : MapIs enc w m E) : m < w.heap.size := by
  obtain ⟨es, c, h1, h2⟩ := h
  exact lt_of_heap h1

theorem run_findAsking {P : Program} {kt : TypeId} {enc : κ → Value} (K : KeyOf P kt enc) (k : κ) (w : World) : ∀ (es : List MapEntry) (E : List (κ × Value)) (i : Nat),
    es.map (fun e => (e.key, e.val)) = E.map (fun p => (enc p.1, p.2)) → (Instr.findAsking kt (enc k) es i).run P w = .ok (assocIdx k E i) w
  | [], E, i, h => by
    cases E with
    | nil => simp [Instr.findAsking, assocIdx]
    | cons p E => simp at h
  | e :: es, [], i, h => by simp at h
  | e :: es, (x, v) :: E, i, h => by
    simp only [List.map_cons, List.cons.injEq, Prod.mk.injEq] at h
    obtain ⟨⟨h1, h2⟩, h3⟩ := h
    simp only [Instr.findAsking, Sem.run_bind, h1, K.eql, Result.andThen_ok, assocIdx]
    by_cases hx : k = x
    · simp [hx, h2]
    · simp only [hx, decide_false, Bool.false_eq_true, if_false]
      exact run_findAsking K k w es E (i + 1) h3

theorem findNow_eq {P : Program} {kt : TypeId} {enc : κ → Value} (K : KeyOf P kt enc) (k : κ) {d : TypeDesc} (hd : P.underlying kt = some d) : ∀ (es : List MapEntry) (E : List (κ × Value)) (i : Nat),
    es.map (fun e => (e.key, e.val)) = E.map (fun p => (enc p.1, p.2)) → Instr.findNow d (enc k) es i = none ∨ Instr.findNow d (enc k) es i = some (assocIdx k E i)
  | [], E, i, h => by
    cases E with
    | nil => simp [Instr.findNow, assocIdx]
    | cons p E => simp at h
  | e :: es, [], i, h => by simp at h
  | e :: es, (x, v) :: E, i, h => by
    simp only [List.map_cons, List.cons.injEq, Prod.mk.injEq] at h
    obtain ⟨⟨h1, h2⟩, h3⟩ := h
    obtain ⟨d', hd', hs⟩ := K.und
    have : d' = d := Option.some.inj (hd'.symm.trans hd)
    subst this
    simp only [Instr.findNow, h1, assocIdx]
    rcases hs k x with hn | hn
    · simp [hn]
    · simp only [hn]
      by_cases hx : k = x
      · simp [hx, h2]
      · simp only [hx, decide_false, if_false]
        exact findNow_eq K k hd es E (i + 1) h3

theorem run_findKey {P : Program} {kt : TypeId} {enc : κ → Value} (K : KeyOf P kt enc) (k : κ) (w : World) (es : List MapEntry) (E : List (κ × Value))
    (h : es.map (fun e => (e.key, e.val)) = E.map (fun p => (enc p.1, p.2))) : (Instr.findKey kt (enc k) es).run P w = .ok (assocIdx k E 0) w := by
  obtain ⟨d, hd, _⟩ := K.und
  simp only [Instr.findKey, Sem.run_bind, run_underlying hd, Result.andThen_ok]
  rcases findNow_eq K k hd es E 0 h with h1 | h1
  · simp only [h1]; exact run_findAsking K k w es E 0 h
  · simp [h1]

theorem run_lookup_assoc {P : Program} {t kt et : TypeId} {enc : κ → Value} (K : KeyOf P kt enc) (ht : P.underlying t = some (.map kt et)) (z : Value) (hz : ∀ W, (zeroValue et).run P W = .ok z W)
    {w : World} {m : Nat} {E : List (κ × Value)} (h : MapIs enc w m E) (k : κ) (ok : Bool) :
    (Instr.lookup t (.map (some m)) (enc k) ok).run P w = .ok (if ok then .tuple #[(assoc k E).getD z, .bool (assoc k E).isSome] else (assoc k E).getD z) w := by
  obtain ⟨es, c, h1, h2⟩ := h
  simp only [Instr.lookup, Sem.run_bind, run_underlying ht, Result.andThen_ok, run_getObj_map w m es c h1, K.chk, run_findKey K k w es.toList E h2, Sem.run_pure]
  rw [← assocIdx_assoc k E 0]
  cases assocIdx k E 0 with
  | none => simp [hz, Result.andThen]
  | some p => simp [Result.andThen]
theorem MapIs.lookup {P : Program} {t kt et : TypeId} {enc : κ → Value} (K : KeyOf P kt enc) (ht : P.underlying t = some (.map kt et)) (z : Value) (hz : ∀ W, (zeroValue et).run P W = .ok z W)
    {w : World} {m : Nat} {E : List (κ × Value)} (h : MapIs enc w m E) (k : κ) :
    ∀ W : World, W.heap[m]? = w.heap[m]? → (Instr.lookup t (.map (some m)) (enc k) false).run P W = .ok ((assoc k E).getD z) W := fun _ hW => by
  have := run_lookup_assoc K ht z hz (h.keep hW) k false
  simpa using this

theorem assocIdx_set (k : κ) (v : Value) : ∀ (E : List (κ × Value)) (i j : Nat) (u : Value), assocIdx k E i = some (j, u) →
    i ≤ j ∧ j - i < E.length ∧ E[j - i]? = some (k, u) ∧ assocSet k v E = E.modify (j - i) (fun p => (p.1, v))
  | [], i, j, u, h => by simp [assocIdx] at h
  | (x, y) :: r, i, j, u, h => by
    simp only [assocIdx] at h
    split at h
    · rename_i hx
      subst hx
      simp only [Option.some.injEq, Prod.mk.injEq] at h
      obtain ⟨rfl, rfl⟩ := h
      simp [assocSet]
    · rename_i hx
      obtain ⟨h1, h2, h3, h4⟩ := assocIdx_set k v r (i + 1) j u h
      have e : j - i = (j - (i + 1)) + 1 := by omega
      refine ⟨by omega, by simp; omega, by rw [e]; simpa using h3, ?_⟩
      rw [e]
      simp [assocSet, hx, h4]
theorem assocIdx_none (k : κ) (v : Value) : ∀ (E : List (κ × Value)) (i : Nat), assocIdx k E i = none → assocSet k v E = E ++ [(k, v)]
  | [], i, h => rfl
  | (x, y) :: r, i, h => by
    simp only [assocIdx] at h
    split at h
    · cases h
    · rename_i hx
      simp [assocSet, hx, assocIdx_none k v r (i + 1) h]

theorem run_setMap {P : Program} {w : World} {r : Nat} {es : Array MapEntry} {clock : Nat} (o : Obj) (hb : w.heap[r]? = some (.map es clock)) : (setObj r o).run P w = .ok () { w with heap := w.heap.setIfInBounds r o } := by
  simp [setObj, Sem.run, hb]

theorem run_mapUpdate_assoc {P : Program} {t kt et : TypeId} {enc : κ → Value} (K : KeyOf P kt enc) (ht : P.underlying t = some (.map kt et))
    {w : World} {m : Nat} {E : List (κ × Value)} (h : MapIs enc w m E) (k : κ) (v : Value) :
    ∃ w', (Instr.mapUpdate t (.map (some m)) (enc k) v).run P w = .ok () w' ∧ MapIs enc w' m (assocSet k v E) ∧ Ext (· = m) w w' ∧ w'.heap.size = w.heap.size := by
  obtain ⟨es, c, h1, h2⟩ := h
  have hlt := lt_of_heap h1
  have fin : ∀ es' c', es'.toList.map (fun e : MapEntry => (e.key, e.val)) = (assocSet k v E).map (fun p => (enc p.1, p.2)) →
      MapIs enc { w with heap := w.heap.setIfInBounds m (.map es' c') } m (assocSet k v E) ∧ Ext (· = m) w { w with heap := w.heap.setIfInBounds m (.map es' c') } ∧ ({ w with heap := w.heap.setIfInBounds m (.map es' c') } : World).heap.size = w.heap.size := by
    intro es' c' he
    refine ⟨⟨es', c', by simp [hlt], he⟩, ⟨rfl, rfl, rfl, by simp, fun b hb hn => ?_⟩, by simp⟩
    simp [Array.getElem?_setIfInBounds_ne (Ne.symm hn)]
  simp only [Instr.mapUpdate, Sem.run_bind, run_underlying ht, Result.andThen_ok, run_getObj_map w m es c h1, K.chk, run_findKey K k w es.toList E h2]
  cases hi : assocIdx k E 0 with
  | none =>
    simp only [run_setMap _ h1]
    refine ⟨_, rfl, fin _ _ ?_⟩
    simp [h2, assocIdx_none k v E 0 hi]
  | some p =>
    obtain ⟨j, u⟩ := p
    obtain ⟨_, hj1, hj2, hj3⟩ := assocIdx_set k v E 0 j u hi
    simp only [Nat.sub_zero] at hj1 hj2 hj3
    have hlen : es.size = E.length := by have := congrArg List.length h2; simpa using this
    have hkey : ((es[j]?).map (·.key)).getD (enc k) = enc k := by
      have := congrArg (fun l => l[j]?) h2
      simp only [List.getElem?_map, hj2, Option.map_some] at this
      cases he : es[j]? with
      | none => rfl
      | some e =>
        have he' : es.toList[j]? = some e := by simpa using he
        rw [he'] at this
        simp only [Option.map_some, Option.some.injEq, Prod.mk.injEq] at this
        simp [this.1]
    simp only [hkey, Instr.keyThatStays, K.bits, if_true, Sem.run_bind, Sem.run_pure, Result.andThen_ok, run_setMap _ h1]
    refine ⟨_, rfl, fin _ _ ?_⟩
    rw [hj3, Array.toList_modify]
    apply List.ext_getElem?
    intro i
    simp only [List.getElem?_map, List.getElem?_modify]
    have := congrArg (fun l => l[i]?) h2
    simp only [List.getElem?_map] at this
    by_cases hij : j = i
    · subst hij
      rw [hj2] at this ⊢
      cases he : es.toList[j]? with
      | none => rw [he] at this; simp at this
      | some e => simp
    · simp only [hij, if_false]
      simpa using this

theorem run_makeMap_new {P : Program} (t : TypeId) (w : World) : (Instr.makeMap t none).run P w = .ok (.map (some w.heap.size)) (w.alloc (.map #[] 0)) := by
  simp [Instr.makeMap, newObj, Sem.run]
omit [DecidableEq κ] in
theorem MapIs.new (enc : κ → Value) {w : World} {m c : Nat} (h : w.heap[m]? = some (.map #[] c)) : MapIs enc w m ([] : List (κ × Value)) := ⟨#[], c, h, rfl⟩
end
end Go.Proofs.Ytoflfhjeabpcjaa
