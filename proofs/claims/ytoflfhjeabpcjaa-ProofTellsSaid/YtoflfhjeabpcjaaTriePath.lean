/- A tree's path for a key; no condition. -/
import Derived.Test.YtoflfhjeabpcjaaTrieGet
namespace Go.Proofs.Ytoflfhjeabpcjaa
set_option linter.unusedVariables false
set_option linter.unusedSimpArgs false
open Go.RowKit

section
variable {P : Program} {ops : Array Oper} {rest : List Oper} {o : Oper} {a : Act} {C : World → Prop} {Q : Act → Prop}
/-- A row in the midst of a block is read, in any world of the class. -/
theorem wpQuiet_load_mid (ty : TypeId) (x : Operand) (ho : o.op = .load ty x) (hw : Region.wanted o (yielded ops a.tmps) = true) (b k : Nat) (hx : a.eval x = .pointer (some ⟨b, k, none⟩)) (cs : List Value) (d : TypeDesc)
    (hC : ∀ w, C w → w.rangeAt b k cs) (hu : P.underlying ty = some d) (hd : d.isRow = true) (hi : (P.info? ty).map (·.size) = some cs.length)
    (h : wpQuiet P ops C Q rest (a.put o.dst (.agg cs.toArray))) : wpQuiet P ops C Q (o :: rest) a := by
  simp only [wpQuiet, hw, if_true]
  refine ⟨.agg cs.toArray, fun w hw => ?_, h⟩
  unfold Oper.quietAt execOp
  simp only [ho, hx, Instr.loadAt, Instr.sureAddr, Sem.run_bind, Sem.run_pure, Result.andThen_ok, run_loadVar_mid w b k ty cs d (hC w hw) hu hd hi]
  exact ⟨rfl, rfl⟩
end
theorem cls_range {D : List Nat} {w0 : World} {b o : Nat} (hb : b ∈ D) {cs : List Value} (h : w0.rangeAt b o cs) : ∀ w, Cls D w0 w → w.rangeAt b o cs := by
  rintro w ⟨u, rfl⟩ j v hv
  rw [cell_of_heap (u.obj b hb)]
  exact h j v hv
set_option maxRecDepth 100000 in
set_option maxHeartbeats 1000000 in
theorem copied_walk {w : World} {D D' : Nat → Prop} {kv vv : Value} {k v : Bs} (hk : Byt D w kv k) (hv : Byt D' w vv v) (hkl : k.length ≤ 140737488355328) (hvl : v.length ≤ 140737488355328) :
    Calls Try.prog 65 #[.agg #[kv, vv]] w fun e w' => ∃ kv' vv', e = .returned (.agg #[kv', vv']) ∧ OwnB w' kv' k ∧ OwnB w' vv' v ∧ (∀ q, kv'.ownBlock = some q → w.heap.size ≤ q) ∧ (∀ q, vv'.ownBlock = some q → w.heap.size ≤ q ∧ kv'.ownBlock ≠ some q) ∧ Ext (fun _ => False) w w' := by
  have H := Lib.hid (And.intro hk hv)
  obtain ⟨A, c, rfl, _, _⟩ := hk
  obtain ⟨A', c', rfl, _, _⟩ := hv
  go_enter Try.func65, Try.ntmps65
  go_wp2_with fail
  refine wp_region_bar (Cls [w.heap.size] _) [([0, 1, 3, 4], 2), ([], 5)] [6] 7 [] [] (by kernel_rfl) (by kernel_rfl) (Cls.refl _ _) ?_
  try dsimp only [wpMix, wpSegs, pick, List.getElem?_cons_zero, List.getElem?_cons_succ]
  generalize hz : Act.mk _ _ = z
  repeat (first | (refine wpQuiet_step (fun K hK => ?_); replace hK := Lib.hid hK; subst hz; go_simp; generalize hz : Act.mk _ _ = z; refine hK.out z ?_; clear hK K) | (refine wpQuiet_step (fun K hK => ?_); replace hK := Lib.hid hK; subst hz; refine iteSkip (by kernel_rfl) ?_; go_simp; generalize hz : Act.mk _ _ = z; refine hK.out z ?_; clear hK K))
  try refine wpQuiet_nil ?_
  subst hz
  try dsimp only [NoPan]
  go_wp2_with fail
  obtain ⟨g1, g2, g3⟩ := alloc2 w (.cells #[.slice A k.length c, .slice A' v.length c'] 24 (0, 0)) (.cells #[.slice none 0 0, .slice none 0 0] 24 (0, 0))
  replace g1 : ((w.alloc (.cells #[.slice A k.length c, .slice A' v.length c'] 24 (0, 0))).alloc (.cells #[.slice none 0 0, .slice none 0 0] 24 (0, 0))).drew.heap[w.heap.size]? = _ := g1
  replace g2 : ((w.alloc (.cells #[.slice A k.length c, .slice A' v.length c'] 24 (0, 0))).alloc (.cells #[.slice none 0 0, .slice none 0 0] 24 (0, 0))).drew.heap[w.heap.size + 1]? = _ := g2
  replace g3 := g3.drew
  generalize ((w.alloc (.cells #[.slice A k.length c, .slice A' v.length c'] 24 (0, 0))).alloc (.cells #[.slice none 0 0, .slice none 0 0] 24 (0, 0))).drew = V at *
  have d0 : V.cell? ⟨w.heap.size, 0, none⟩ = some (.slice A k.length c) := cells_at g1 0
  have d1 : V.cell? ⟨w.heap.size, 1, none⟩ = some (.slice A' v.length c') := cells_at g1 1
  have hgl := lt_of_heap g1
  have HG := Lib.hid (And.intro g2 g3)
  clear g1 g2 g3
  refine (clone_walk (H.out.1.same HG.out.2) hkl).mono ?_
  rintro e w1 ⟨kv', rfl, o1, x1, n1⟩
  obtain ⟨A1, c1, rfl⟩ := o1.formv
  have HO := Lib.hid (And.intro o1 (And.intro x1 n1))
  clear o1 x1 n1
  go_wp2_with fail
  refine ⟨Cls.of_ext HO.out.2.1 fun q hq => ⟨by simp at hq; subst hq; exact hgl, id⟩, ?_⟩
  try dsimp only [wpMix, wpSegs, pick, List.getElem?_cons_zero, List.getElem?_cons_succ]
  generalize hz : Act.mk _ _ = z
  repeat (first | (refine wpQuiet_step (fun K hK => ?_); replace hK := Lib.hid hK; subst hz; go_simp; generalize hz : Act.mk _ _ = z; refine hK.out z ?_; clear hK K) | (refine wpQuiet_step (fun K hK => ?_); replace hK := Lib.hid hK; subst hz; refine iteSkip (by kernel_rfl) ?_; go_simp; generalize hz : Act.mk _ _ = z; refine hK.out z ?_; clear hK K))
  try refine wpQuiet_nil ?_
  subst hz
  try dsimp only [NoPan]
  go_wp2_with fail
  refine (clone_walk (H.out.2.same (HG.out.2.trans HO.out.2.1)) hvl).mono ?_
  rintro e w2 ⟨vv', rfl, o2, x2, n2⟩
  obtain ⟨A2, c2, rfl⟩ := o2.formv
  have HO2 := Lib.hid (And.intro o2 (And.intro x2 n2))
  have hb2 := (HO.out.2.1.trans x2).heap HG.out.1 id
  have HB := Lib.hid hb2
  clear o2 x2 n2 hb2
  go_wp2_with fail
  refine ⟨Cls.of_ext (HO.out.2.1.trans HO2.out.2.1) fun q hq => ⟨by simp at hq; subst hq; exact hgl, id⟩, ?_⟩
  try dsimp only [wpMix, wpSegs, pick, List.getElem?_cons_zero, List.getElem?_cons_succ]
  generalize hz : Act.mk _ _ = z
  repeat (first | (refine wpQuiet_step (fun K hK => ?_); replace hK := Lib.hid hK; subst hz; go_simp; generalize hz : Act.mk _ _ = z; refine hK.out z ?_; clear hK K) | (refine wpQuiet_step (fun K hK => ?_); replace hK := Lib.hid hK; subst hz; refine iteSkip (by kernel_rfl) ?_; go_simp; generalize hz : Act.mk _ _ = z; refine hK.out z ?_; clear hK K))
  try refine wpQuiet_nil ?_
  subst hz
  try dsimp only [NoPan]
  go_wp2_with (refine wpList_store_row rfl 24 _ _ rfl (w.heap.size + 1) _ rfl rfl 24 _ HB.out (by kernel_rfl) (by kernel_rfl) (by kernel_rfl) ?_)
  refine wpQuiet_nil ?_
  go_wp2_with fail
  refine bodyPost_ret (results_cell_row rfl _ _ (w.heap.size + 1) 24 #[.slice A1 k.length c1, .slice A2 v.length c2] (0, 0) _ rfl (setRow_heap _ _ _ _ _ _ HB.out) Try.underlying24 rfl (by kernel_rfl)) rfl ?_
  have hsr : ∀ b, b < w2.heap.size → b ≠ w.heap.size + 1 → (w2.setRow (w.heap.size + 1) #[.slice A1 k.length c1, .slice A2 v.length c2]).heap[b]? = w2.heap[b]? := fun b _ hb => setRow_other _ _ _ _ hb
  have hy : Ext (· = w.heap.size + 1) w2 (w2.setRow (w.heap.size + 1) #[.slice A1 k.length c1, .slice A2 v.length c2]) := (Ext.refl (· = w.heap.size + 1) w2).setRow (.inl rfl) _
  have hlv := lt_of_heap HG.out.1
  refine ⟨_, _, rfl, (HO.out.1.ext HO2.out.2.1 fun _ _ => id).ext hy fun q hq e => ?_, HO2.out.1.ext hy fun q hq e => ?_, fun q hq => Nat.le_trans HG.out.2.size (HO.out.2.2 q hq), fun q hq => ⟨Nat.le_trans (HG.out.2.trans HO.out.2.1).size (HO2.out.2.2 q hq), fun hk => by have h1 := HO.out.1.lt q hk; have h2 := HO2.out.2.2 q hq; omega⟩, ((HG.out.2.trans HO.out.2.1).trans HO2.out.2.1).setRow (.inr (Nat.le_succ _)) _⟩
  · have := HO.out.2.2 q hq; subst e; omega
  · have := Nat.le_trans HO.out.2.1.size (HO2.out.2.2 q hq); subst e; omega
/-- A digest's cells, one by one. -/
def sum32 (x : Nat → UInt8) : List Value := [.int .u8 (x 0).toNat, .int .u8 (x 1).toNat, .int .u8 (x 2).toNat, .int .u8 (x 3).toNat, .int .u8 (x 4).toNat, .int .u8 (x 5).toNat, .int .u8 (x 6).toNat, .int .u8 (x 7).toNat, .int .u8 (x 8).toNat, .int .u8 (x 9).toNat, .int .u8 (x 10).toNat, .int .u8 (x 11).toNat, .int .u8 (x 12).toNat, .int .u8 (x 13).toNat, .int .u8 (x 14).toNat, .int .u8 (x 15).toNat, .int .u8 (x 16).toNat, .int .u8 (x 17).toNat, .int .u8 (x 18).toNat, .int .u8 (x 19).toNat, .int .u8 (x 20).toNat, .int .u8 (x 21).toNat, .int .u8 (x 22).toNat, .int .u8 (x 23).toNat, .int .u8 (x 24).toNat, .int .u8 (x 25).toNat, .int .u8 (x 26).toNat, .int .u8 (x 27).toNat, .int .u8 (x 28).toNat, .int .u8 (x 29).toNat, .int .u8 (x 30).toNat, .int .u8 (x 31).toNat]
theorem sum32_arr (x : Nat → UInt8) : (sum32 x).toArray = #[.int .u8 (x 0).toNat, .int .u8 (x 1).toNat, .int .u8 (x 2).toNat, .int .u8 (x 3).toNat, .int .u8 (x 4).toNat, .int .u8 (x 5).toNat, .int .u8 (x 6).toNat, .int .u8 (x 7).toNat, .int .u8 (x 8).toNat, .int .u8 (x 9).toNat, .int .u8 (x 10).toNat, .int .u8 (x 11).toNat, .int .u8 (x 12).toNat, .int .u8 (x 13).toNat, .int .u8 (x 14).toNat, .int .u8 (x 15).toNat, .int .u8 (x 16).toNat, .int .u8 (x 17).toNat, .int .u8 (x 18).toNat, .int .u8 (x 19).toNat, .int .u8 (x 20).toNat, .int .u8 (x 21).toNat, .int .u8 (x 22).toNat, .int .u8 (x 23).toNat, .int .u8 (x 24).toNat, .int .u8 (x 25).toNat, .int .u8 (x 26).toNat, .int .u8 (x 27).toNat, .int .u8 (x 28).toNat, .int .u8 (x 29).toNat, .int .u8 (x 30).toNat, .int .u8 (x 31).toNat] := rfl
theorem sum32_of {s : Bs} (h : s.length = 32) : ∃ x : Nat → UInt8, s.map byteV = sum32 x := by
  refine ⟨fun i => s.getD i 0, ?_⟩
  have hs : s = (List.range 32).map fun i => s.getD i 0 := by
    apply List.ext_getElem
    · simp [h]
    · intro i h1 h2
      simp [h1]
  have : sum32 (fun i => s.getD i 0) = ((List.range 32).map fun i => s.getD i 0).map byteV := rfl
  rw [this, ← hs]
/-- A step's cells. -/
def stC (s : Nat × Bool × Tr) : List Value := .int .i64 s.1 :: .bool s.2.1 :: (sumT s.2.2).map byteV
theorem own_form {w : World} {b : Nat} {e : TypeId} {size n : Nat} {v : Value} {xs : List Value} (h : w.ownsRow b e size v n xs) : ∃ A c, v = .slice A n c := by
  rcases h.2 with ⟨rfl, rfl⟩ | ⟨g, cap, cur, rfl, _⟩
  · exact ⟨none, 0, rfl⟩
  · exact ⟨_, _, rfl⟩
theorem own_less {w : World} {b b' : Nat} {e : TypeId} {size n : Nat} {v : Value} {xs : List Value} (h : w.ownsRow b e size v n xs) (hb : b' ≤ b) : w.ownsRow b' e size v n xs := by
  refine ⟨h.1, ?_⟩
  rcases h.2 with h2 | ⟨g, cap, cur, rfl, hg, r⟩
  · exact .inl h2
  · exact .inr ⟨g, cap, cur, rfl, Nat.le_trans hb hg, r⟩
theorem own_base {w : World} {b : Nat} {e : TypeId} {size n : Nat} {v : Value} {xs : List Value} (h : w.ownsRow b e size v n xs) : ∀ k, v.ownBlock = some k → b ≤ k := by
  intro k hk
  rcases h.2 with ⟨rfl, _⟩ | ⟨g, cap, cur, rfl, hg, r⟩
  · simp [Value.ownBlock] at hk
  · simp only [Value.ownBlock, Option.some.injEq] at hk
    omega
/-- The answer's cells. -/
theorem path_cells {w : World} {p r : Nat} {A B sv : Value} (hp : w.heap[p]? = some (.cells #[.bool false, .slice none 0 0, .slice none 0 0, sv] 43 (0, 0))) (hr : w.heap[r]? = some (.cells #[.bool false, .slice none 0 0, .slice none 0 0, .slice none 0 0] 43 (0, 0))) :
    (((((((w.setCell ⟨p, 1, none⟩ A).setCell ⟨p, 2, none⟩ B).setCell ⟨r, 0, none⟩ (.bool false)).setCell ⟨r, 1, none⟩ A).setCell ⟨r, 2, none⟩ B).setCell ⟨r, 3, none⟩ sv)).heap[r]? = some (.cells #[.bool false, A, B, sv] 43 (0, 0)) ∧
    Ext (fun q => q = p ∨ q = r) w (((((((w.setCell ⟨p, 1, none⟩ A).setCell ⟨p, 2, none⟩ B).setCell ⟨r, 0, none⟩ (.bool false)).setCell ⟨r, 1, none⟩ A).setCell ⟨r, 2, none⟩ B).setCell ⟨r, 3, none⟩ sv)) ∧
    ∀ w0, Ext (fun _ => False) w0 w → w0.heap.size ≤ r → w0.heap.size ≤ p → Ext (fun _ => False) w0 (((((((w.setCell ⟨p, 1, none⟩ A).setCell ⟨p, 2, none⟩ B).setCell ⟨r, 0, none⟩ (.bool false)).setCell ⟨r, 1, none⟩ A).setCell ⟨r, 2, none⟩ B).setCell ⟨r, 3, none⟩ sv)) := by
  refine ⟨?_, ?_, ?_⟩
  · by_cases h : r = p
    · subst h
      rw [hr] at hp
      have : sv = .slice none 0 0 := by simpa using hp.symm
      subst this
      rw [heap_setCell_self (heap_setCell_self (heap_setCell_self (heap_setCell_self (heap_setCell_self (heap_setCell_self hr)))))]
      rfl
    · have h1 : ((w.setCell ⟨p, 1, none⟩ A).setCell ⟨p, 2, none⟩ B).heap[r]? = some (.cells #[.bool false, .slice none 0 0, .slice none 0 0, .slice none 0 0] 43 (0, 0)) := by
        rw [heap_setCell_ne _ _ _ _ h, heap_setCell_ne _ _ _ _ h]; exact hr
      rw [heap_setCell_self (heap_setCell_self (heap_setCell_self (heap_setCell_self h1)))]
      rfl
  · exact (((((((Ext.refl (fun q => q = p ∨ q = r) w).setCell (a := ⟨p, 1, none⟩) (.inl (.inl rfl)) _).setCell (a := ⟨p, 2, none⟩) (.inl (.inl rfl)) _).setCell (a := ⟨r, 0, none⟩) (.inl (.inr rfl)) _).setCell (a := ⟨r, 1, none⟩) (.inl (.inr rfl)) _).setCell (a := ⟨r, 2, none⟩) (.inl (.inr rfl)) _).setCell (a := ⟨r, 3, none⟩) (.inl (.inr rfl)) _)
  · intro w0 h hr hp
    exact ((((((h.setCell (a := ⟨p, 1, none⟩) (.inr hp) _).setCell (a := ⟨p, 2, none⟩) (.inr hp) _).setCell (a := ⟨r, 0, none⟩) (.inr hr) _).setCell (a := ⟨r, 1, none⟩) (.inr hr) _).setCell (a := ⟨r, 2, none⟩) (.inr hr) _).setCell (a := ⟨r, 3, none⟩) (.inr hr) _)
/-- Half way down a path. -/
structure PathI (D : Nat → Prop) (w : World) (t : Tr) (k : Bs) (u : Tr) (q : Nat) (done : List (Nat × Bool × Tr)) (sv : Value) (W : World) : Prop where
  rep : NRep D w u q
  last : u.last k = t.last k
  path : done ++ u.path k = t.path k
  ext : Ext (fun _ => False) w W
  res : W.heap[w.heap.size]? = some (.cells #[.bool false, .slice none 0 0, .slice none 0 0, .slice none 0 0] 43 (0, 0))
  own : W.heap[w.heap.size + 1]? = some (.cells #[.bool false, .slice none 0 0, .slice none 0 0, sv] 43 (0, 0))
  steps : W.ownsRow (w.heap.size + 2) 48 34 sv done.length (done.flatMap stC)
  size : w.heap.size + 2 ≤ W.heap.size

theorem info_step : (Try.prog.info? 48).map (fun i => (i.zero, i.size, i.bytes)) = some (some (.agg #[.int .i64 0, .bool false, .int .u8 0, .int .u8 0, .int .u8 0, .int .u8 0, .int .u8 0, .int .u8 0, .int .u8 0, .int .u8 0, .int .u8 0, .int .u8 0, .int .u8 0, .int .u8 0, .int .u8 0, .int .u8 0, .int .u8 0, .int .u8 0, .int .u8 0, .int .u8 0, .int .u8 0, .int .u8 0, .int .u8 0, .int .u8 0, .int .u8 0, .int .u8 0, .int .u8 0, .int .u8 0, .int .u8 0, .int .u8 0, .int .u8 0, .int .u8 0, .int .u8 0, .int .u8 0]), 34, 48) := by kernel_rfl
set_option maxRecDepth 100000 in
set_option maxHeartbeats 1000000 in
theorem path_some {D Dk : Nat → Prop} {w : World} {c : Nat} {t : Tr} {kv : Value} {k : Bs} (h : TI D w c (some t)) (hk : Byt Dk w kv k) (hkl : k.length ≤ 140737488355328) (hn : t.ents.length ≤ 1099511627776) :
    Calls Try.prog 22 #[ptrV c, kv] w fun e w' => ∃ ka va sv, e = .returned (.agg #[.bool false, ka, va, sv]) ∧ OwnB w' ka (t.last k).1 ∧ OwnB w' va (t.last k).2 ∧ (∀ q, ka.ownBlock = some q → w.heap.size ≤ q) ∧ (∀ q, va.ownBlock = some q → w.heap.size ≤ q ∧ ka.ownBlock ≠ some q) ∧ w'.ownsRow w.heap.size 48 34 sv (t.path k).length ((t.path k).flatMap stC) ∧ Ext (fun _ => False) w w' := by
  obtain ⟨r, hc, p, rfl, hr⟩ := h.root
  have c0 : w.cell? ⟨c, 0, none⟩ = some (ptrV p) := (cells_at hc 0).trans rfl
  have HT := Lib.hid hr
  have HS := fun (i : Nat) (W : World) (hx : Ext (fun _ => False) w W) => Lib.hid (side_cases (hk.same hx) hkl i)
  have hcl := h.lt
  have HL := Lib.hid h.ents
  clear h hc hr
  go_enter Try.func22, Try.ntmps22
  go_wp2_with fail
  obtain ⟨g1, g2, g3⟩ := alloc2 w (.cells #[.bool false, .slice none 0 0, .slice none 0 0, .slice none 0 0] 43 (0, 0)) (.cells #[.bool false, .slice none 0 0, .slice none 0 0, .slice none 0 0] 43 (0, 0))
  have gs : ((w.alloc (.cells #[.bool false, .slice none 0 0, .slice none 0 0, .slice none 0 0] 43 (0, 0))).alloc (.cells #[.bool false, .slice none 0 0, .slice none 0 0, .slice none 0 0] 43 (0, 0))).heap.size = w.heap.size + 2 := by simp
  generalize ((w.alloc (.cells #[.bool false, .slice none 0 0, .slice none 0 0, .slice none 0 0] 43 (0, 0))).alloc (.cells #[.bool false, .slice none 0 0, .slice none 0 0, .slice none 0 0] 43 (0, 0))) = V at *
  have HV := Lib.hid (And.intro g1 (And.intro g2 (And.intro g3 gs)))
  clear g1 g2 g3 gs
  go_loopg [6] (t.ents.length) (fun n pv W => ∃ (u : Tr) (q : Nat) (done : List (Nat × Bool × Tr)) (sv : Value), n = u.ents.length ∧ pv = ptrV q ∧ PathI D w t k u q done sv W)
  case atStart => exact ⟨t, p, [], .slice none 0 0, rfl, rfl, HT.out, rfl, rfl, HV.out.2.2.1, HV.out.1, HV.out.2.1, ⟨rfl, .inl ⟨rfl, rfl⟩⟩, by rw [HV.out.2.2.2]; exact Nat.le_refl _⟩
  case round =>
    obtain ⟨u, q, done, sv, rfl, rfl, hI⟩ := hrel
    cases u with
    | leaf a b =>
      obtain ⟨_, _, _, _, _, hN, hka, hvb⟩ := hI.rep
      have c0' := cell_same hN.c0 hI.ext
      have c1' := cell_same hN.c1 hI.ext
      have c2' := cell_same hN.c2 hI.ext
      have HU := Lib.hid hI
      have hab : a.length ≤ 120 ∧ b.length ≤ 1200 := by
        have h1 := HL.out _ (t.last_mem k)
        rw [← hI.last] at h1
        exact h1
      have HC := Lib.hid (copied_walk (hka.same hI.ext) (hvb.same hI.ext) (by omega) (by omega))
      clear hN hI hka hvb
      go_wp2_with fail
      refine HC.out.mono ?_
      rintro e w2 ⟨ka, va, rfl, o1, o2, n1, n2, x2⟩
      obtain ⟨A1, c1, rfl⟩ := o1.formv
      obtain ⟨A2, c2, rfl⟩ := o2.formv
      obtain ⟨A3, c3, rfl⟩ := own_form HU.out.steps
      have g2 := x2.heap HU.out.own id
      have r2 := x2.heap HU.out.res id
      have HX := Lib.hid (And.intro o1 (And.intro o2 (And.intro n1 (And.intro n2 (And.intro x2 (And.intro g2 r2))))))
      have e0 : w2.cell? ⟨w.heap.size + 1, 0, none⟩ = some (.bool false) := cells_at g2 0
      have e1 : w2.cell? ⟨w.heap.size + 1, 1, none⟩ = some (.slice none 0 0) := cells_at g2 1
      have e2 : w2.cell? ⟨w.heap.size + 1, 2, none⟩ = some (.slice none 0 0) := cells_at g2 2
      have e3 : w2.cell? ⟨w.heap.size + 1, 3, none⟩ = some (.slice A3 done.length c3) := cells_at g2 3
      have f1 : w2.frozen? ⟨w.heap.size + 1, 1, none⟩ = false := by simp [World.frozen?, g2]
      have f2 : w2.frozen? ⟨w.heap.size + 1, 2, none⟩ = false := by simp [World.frozen?, g2]
      have k0 : w2.cell? ⟨w.heap.size, 0, none⟩ = some (.bool false) := cells_at r2 0
      have k1 : w2.cell? ⟨w.heap.size, 1, none⟩ = some (.slice none 0 0) := cells_at r2 1
      have k2 : w2.cell? ⟨w.heap.size, 2, none⟩ = some (.slice none 0 0) := cells_at r2 2
      have k3 : w2.cell? ⟨w.heap.size, 3, none⟩ = some (.slice none 0 0) := cells_at r2 3
      have j0 : w2.frozen? ⟨w.heap.size, 0, none⟩ = false := by simp [World.frozen?, r2]
      have j1 : w2.frozen? ⟨w.heap.size, 1, none⟩ = false := by simp [World.frozen?, r2]
      have j2 : w2.frozen? ⟨w.heap.size, 2, none⟩ = false := by simp [World.frozen?, r2]
      have j3 : w2.frozen? ⟨w.heap.size, 3, none⟩ = false := by simp [World.frozen?, r2]
      clear o1 o2 n1 n2 x2 g2 r2 HC
      go_wp2_with fail
      have hp6 := path_cells (sv := .slice A3 done.length c3) (A := .slice A1 a.length c1) (B := .slice A2 b.length c2) HX.out.2.2.2.2.2.1 HX.out.2.2.2.2.2.2
      refine bodyPost_ret (results_cell_row rfl _ _ w.heap.size 43 _ (0, 0) _ rfl hp6.1 Try.underlying43 rfl (by kernel_rfl)) rfl ?_
      obtain ⟨k1, k2, k3⟩ := hp6
      have hdl : done = t.path k := by have := HU.out.path; rwa [Tr.path, List.append_nil] at this
      have hlk := HU.out.last
      rw [Tr.last] at hlk
      refine ⟨_, _, _, rfl, ?_, ?_, fun q hq => Nat.le_trans HU.out.ext.size (HX.out.2.2.1 q hq), fun q hq => ⟨Nat.le_trans HU.out.ext.size (HX.out.2.2.2.1 q hq).1, (HX.out.2.2.2.1 q hq).2⟩, ?_, ?_⟩
      · rw [← hlk]
        exact HX.out.1.ext k2 fun q hq e => by have := HX.out.2.2.1 q hq; have := HU.out.size; rcases e with e | e <;> omega
      · rw [← hlk]
        exact HX.out.2.1.ext k2 fun q hq e => by have := (HX.out.2.2.2.1 q hq).1; have := HU.out.size; rcases e with e | e <;> omega
      · rw [← hdl]
        refine own_less (own_ext (own_ext HU.out.steps HX.out.2.2.2.2.1 fun _ _ => id) k2 fun q hq e => ?_) (by omega)
        have := own_base HU.out.steps q hq
        rcases e with e | e <;> omega
      · have := (HU.out.ext.trans HX.out.2.2.2.2.1)
        exact k3 _ this (Nat.le_refl _) (Nat.le_succ _)
    | fork b l r =>
      obtain ⟨_, kv1, vv1, pl, pr, hN, hL, hR⟩ := hI.rep
      have c0' := cell_same hN.c0 hI.ext
      have c3' := cell_same hN.c3 hI.ext
      have c4' := cell_same hN.c4 hI.ext
      have cb : ((b : Int) == -1) = false := by simp
      have cb' : ((b : Int) != -1) = true := by simp
      have hq := Nat.lt_of_lt_of_le hI.rep.lt hI.ext.size
      have hlt := ents_l b l r
      have hrt := ents_r b l r
      have hs := cells_at hI.own 3
      have HN := Lib.hid (And.intro hN.c3 hN.c4)
      have HU := Lib.hid (And.intro hL (And.intro hR hI))
      clear hN hL hR hI
      go_wp2_with fail
      refine (HS b _ HU.out.2.2.ext).out.mono ?_
      rintro e _ ⟨⟨hb, rfl⟩ | ⟨hb, rfl⟩, rfl⟩
      · have hz0 : IntKind.i64.wrap 0 = 0 := IntWalk.i64_in _ (by omega)
        have hz1 : IntKind.i64.wrap 1 = 1 := IntWalk.i64_in _ (by omega)
        obtain ⟨x, hx⟩ := sum32_of (sumT_len l)
        have hrg : wr.drew.rangeAt pl 5 (sum32 x) := by
          rw [← hx]
          show wr.rangeAt pl 5 _
          obtain ⟨_, _, _, _, _, hN, _⟩ := (HU.out.1.still HU.out.2.2.ext).at
          exact hN.c5
        have hxa := sum32_arr x
        have hpo := Nat.lt_of_lt_of_le HU.out.1.lt HU.out.2.2.ext.size
        have hso := lt_of_heap HU.out.2.2.own
        have HC := Lib.hid (And.intro (cls_range (D := [w.heap.size + 1, q, pl]) (by simp) hrg) hx)
        have HB := Lib.hid hb
        clear hrg hx hb
        go_wp2_with fail
        refine wp_region_bar (Cls [w.heap.size + 1, q, pl] _) [([0, 1, 2, 3, 4, 5, 6, 7, 8, 9, 10, 11, 12, 13, 14, 15, 16, 17, 18], 19), ([], 20)] [21] 22 [] [] (by kernel_rfl) (by kernel_rfl) (Cls.refl _ _) ?_
        try dsimp only [wpMix, wpSegs, pick, List.getElem?_cons_zero, List.getElem?_cons_succ]
        generalize hz : Act.mk _ _ = z
        repeat (first | (subst hz; (refine wpQuiet_load_mid 29 _ rfl (by kernel_rfl) pl 5 rfl (sum32 x) _ HC.out.1 Try.underlying29 rfl sum_info ?_); generalize hz : Act.put _ _ _ = z) | (refine wpQuiet_step (fun K hK => ?_); replace hK := Lib.hid hK; subst hz; go_simp; generalize hz : Act.mk _ _ = z; refine hK.out z ?_; clear hK K) | (refine wpQuiet_step (fun K hK => ?_); replace hK := Lib.hid hK; subst hz; refine iteSkip (by kernel_rfl) ?_; go_simp; generalize hz : Act.mk _ _ = z; refine hK.out z ?_; clear hK K))
        try refine wpQuiet_nil ?_
        subst hz
        try dsimp only [NoPan]
        go_wp2_with fail
        have hxd : ∀ o : Obj, Ext (fun _ => False) wr.drew (wr.alloc o).drew := fun o => (Ext.refl (fun _ => False) wr.drew).alloc o
        have hxe : ∀ o : Obj, Ext (fun _ => False) wr (wr.alloc o).drew := fun o => ((Ext.refl (fun _ => False) wr).alloc o).drew
        have hD : ∀ b' ∈ [w.heap.size + 1, q, pl], b' < wr.drew.heap.size := by simp; exact ⟨hso, hq, hpo⟩
        have hql := HU.out.2.2.rep.lt
        have hpl' := HU.out.1.lt
        have hfresh : ∀ k', sv.ownBlock = some k' → k' ≠ w.heap.size + 1 ∧ k' ≠ q ∧ k' ≠ pl ∧ k' ≠ w.heap.size := fun k' hk' => by
          have := own_base HU.out.2.2.steps k' hk'
          exact ⟨by omega, by omega, by omega, by omega⟩
        have hlen : done.length + 1 ≤ 1099511627776 := by
          have h1 := Tr.path_len t k
          have h2 := congrArg List.length HU.out.2.2.path
          rw [List.length_append] at h2
          omega
        have HF := Lib.hid (And.intro hfresh hlen)
        clear hfresh hlen
        refine ⟨(Cls.refl _ _).old (hxd _) hD, ?_⟩
        try dsimp only [wpMix, wpSegs, pick, List.getElem?_cons_zero, List.getElem?_cons_succ]
        generalize hz : Act.mk _ _ = z
        repeat (first | (refine wpQuiet_step (fun K hK => ?_); replace hK := Lib.hid hK; subst hz; go_simp; generalize hz : Act.mk _ _ = z; refine hK.out z ?_; clear hK K) | (refine wpQuiet_step (fun K hK => ?_); replace hK := Lib.hid hK; subst hz; refine iteSkip (by kernel_rfl) ?_; go_simp; generalize hz : Act.mk _ _ = z; refine hK.out z ?_; clear hK K))
        try refine wpQuiet_nil ?_
        subst hz
        try dsimp only [NoPan]
        refine wpList_append_lit rfl _ _ 41 rfl Try.underlying41 info_step rfl (by decide) (v := sv) rfl (own_ext HU.out.2.2.steps (hxe _) fun _ _ => id) (Nat.le_trans HU.out.2.2.size (hxe _).size) (cs := .int .i64 b :: .bool true :: sum32 x) rfl (heap_alloc_self _ _) rfl (by simp [sum32, Value.oneCell']) (by decide) (by have := HF.out.2; omega) (by have := HF.out.2; omega) ?_
        intro g2 c2 W2 ho2 hx2 hg2 hl2
        apply wpList_nil
        simp only [Exit.then]
        refine ⟨((Cls.refl _ _).old (hxd _) hD).step hx2 (by
          have hs : wr.heap.size < (wr.alloc (.cells (Value.int .i64 b :: Value.bool true :: sum32 x).toArray 48 (0, 0))).drew.heap.size := by simp
          intro b' hb'
          simp only [List.mem_cons, List.not_mem_nil, or_false] at hb'
          rcases hb' with rfl | rfl | rfl
          · exact ⟨Nat.lt_trans hso hs, fun e => (HF.out.1 _ e).1 rfl⟩
          · exact ⟨Nat.lt_trans hq hs, fun e => (HF.out.1 _ e).2.1 rfl⟩
          · exact ⟨Nat.lt_trans hpo hs, fun e => (HF.out.1 _ e).2.2.1 rfl⟩), ?_⟩
        have hx12 : Ext (fun k' => sv.ownBlock = some k') wr W2 := ((hxe _).mono fun _ _ => False.elim).trans hx2
        have y2 : Ext (fun _ => False) w W2 := HU.out.2.2.ext.trans' hx12 fun k' hk' => .inr (by have := own_base HU.out.2.2.steps k' hk'; omega)
        have hb2 := hx12.heap HU.out.2.2.own fun e => (HF.out.1 _ e).1 rfl
        have hr2 := hx12.heap HU.out.2.2.res fun e => (HF.out.1 _ e).2.2.2 rfl
        have d3 : W2.cell? ⟨w.heap.size + 1, 3, none⟩ = some sv := cells_at hb2 3
        have d3f : W2.frozen? ⟨w.heap.size + 1, 3, none⟩ = false := by simp [World.frozen?, hb2]
        have H2 := Lib.hid (And.intro ho2 (And.intro y2 (And.intro hb2 hr2)))
        clear ho2 hx12 y2 hb2 hr2 hx2 hxd hxe hg2
        try dsimp only [wpMix, wpSegs, pick, List.getElem?_cons_zero, List.getElem?_cons_succ]
        generalize hz : Act.mk _ _ = z
        repeat (first | (refine wpQuiet_step (fun K hK => ?_); replace hK := Lib.hid hK; subst hz; go_simp; generalize hz : Act.mk _ _ = z; refine hK.out z ?_; clear hK K) | (refine wpQuiet_step (fun K hK => ?_); replace hK := Lib.hid hK; subst hz; refine iteSkip (by kernel_rfl) ?_; go_simp; generalize hz : Act.mk _ _ = z; refine hK.out z ?_; clear hK K))
        try refine wpQuiet_nil ?_
        subst hz
        try dsimp only [NoPan]
        go_wp2_with fail
        have y3 : Ext (fun _ => False) w (W2.setCell ⟨w.heap.size + 1, 3, none⟩ (.slice (some ⟨g2, 0, none⟩) (done.length + 1) c2)) := H2.out.2.1.setCell (a := ⟨w.heap.size + 1, 3, none⟩) (.inr (Nat.le_succ _)) _
        have z3 : Ext (· = w.heap.size + 1) W2 (W2.setCell ⟨w.heap.size + 1, 3, none⟩ (.slice (some ⟨g2, 0, none⟩) (done.length + 1) c2)) := (Ext.refl (· = w.heap.size + 1) W2).setCell (a := ⟨w.heap.size + 1, 3, none⟩) (.inl rfl) _
        have g3 : (W2.setCell ⟨w.heap.size + 1, 3, none⟩ (.slice (some ⟨g2, 0, none⟩) (done.length + 1) c2)).heap[w.heap.size + 1]? = some (.cells #[.bool false, .slice none 0 0, .slice none 0 0, .slice (some ⟨g2, 0, none⟩) (done.length + 1) c2] 43 (0, 0)) := heap_setCell_self H2.out.2.2.1
        generalize (W2.setCell ⟨w.heap.size + 1, 3, none⟩ (.slice (some ⟨g2, 0, none⟩) (done.length + 1) c2)) = W3 at *
        have q3 := cell_same HN.out.1 y3
        have q4 := cell_same HN.out.2 y3
        clear d3 d3f c0' c3' c4'
        try dsimp only [wpMix, wpSegs, pick, List.getElem?_cons_zero, List.getElem?_cons_succ]
        generalize hz : Act.mk _ _ = z
        repeat (first | (refine wpQuiet_step (fun K hK => ?_); replace hK := Lib.hid hK; subst hz; go_simp; generalize hz : Act.mk _ _ = z; refine hK.out z ?_; clear hK K) | (refine wpQuiet_step (fun K hK => ?_); replace hK := Lib.hid hK; subst hz; refine iteSkip (by kernel_rfl) ?_; go_simp; generalize hz : Act.mk _ _ = z; refine hK.out z ?_; clear hK K))
        try refine wpQuiet_nil ?_
        subst hz
        try dsimp only [NoPan]
        go_wp2_with fail
        go_roundg (r.ents.length)
        case measure => exact hrt
        case rel =>
          have hlast := HU.out.2.2.last
          rw [Tr.last, HB.out, if_pos rfl] at hlast
          have hpath := HU.out.2.2.path
          rw [Tr.path, HB.out, if_pos rfl] at hpath
          refine ⟨r, pr, done ++ [(b, true, l)], .slice (some ⟨g2, 0, none⟩) (done.length + 1) c2, rfl, rfl, HU.out.2.1, hlast, by rw [List.append_assoc]; exact hpath, y3, z3.heap H2.out.2.2.2 (fun e => absurd e (by omega)), g3, ?_, ?_⟩
          · have := own_ext H2.out.1 z3 fun k' hk' e => by
              simp only [Value.ownBlock, Option.some.injEq] at hk'
              have := own_base H2.out.1 k' (by simp [Value.ownBlock, hk'])
              omega
            rw [List.length_append, List.flatMap_append]
            have hst : [(b, true, l)].flatMap stC = .int .i64 b :: .bool true :: sum32 x := by rw [← HC.out.2]; simp [stC]
            rw [hst]
            exact this
          · have h1 := z3.size
            have h2 := lt_of_heap H2.out.2.2.1
            omega
      · have hz0 : IntKind.i64.wrap 0 = 0 := IntWalk.i64_in _ (by omega)
        have hz1 : IntKind.i64.wrap 1 = 1 := IntWalk.i64_in _ (by omega)
        obtain ⟨x, hx⟩ := sum32_of (sumT_len r)
        have hrg : wr.drew.rangeAt pr 5 (sum32 x) := by
          rw [← hx]
          show wr.rangeAt pr 5 _
          obtain ⟨_, _, _, _, _, hN, _⟩ := (HU.out.2.1.still HU.out.2.2.ext).at
          exact hN.c5
        have hxa := sum32_arr x
        have hpo := Nat.lt_of_lt_of_le HU.out.2.1.lt HU.out.2.2.ext.size
        have hso := lt_of_heap HU.out.2.2.own
        have HC := Lib.hid (And.intro (cls_range (D := [w.heap.size + 1, q, pr]) (by simp) hrg) hx)
        have HB := Lib.hid hb
        clear hrg hx hb
        go_wp2_with fail
        refine wp_region_bar (Cls [w.heap.size + 1, q, pr] _) [([0, 1, 2, 3, 4, 5, 6, 7, 8, 9, 10, 11, 12, 13, 14, 15, 16, 17, 18], 19), ([], 20)] [21] 22 [] [] (by kernel_rfl) (by kernel_rfl) (Cls.refl _ _) ?_
        try dsimp only [wpMix, wpSegs, pick, List.getElem?_cons_zero, List.getElem?_cons_succ]
        generalize hz : Act.mk _ _ = z
        repeat (first | (subst hz; (refine wpQuiet_load_mid 29 _ rfl (by kernel_rfl) pr 5 rfl (sum32 x) _ HC.out.1 Try.underlying29 rfl sum_info ?_); generalize hz : Act.put _ _ _ = z) | (refine wpQuiet_step (fun K hK => ?_); replace hK := Lib.hid hK; subst hz; go_simp; generalize hz : Act.mk _ _ = z; refine hK.out z ?_; clear hK K) | (refine wpQuiet_step (fun K hK => ?_); replace hK := Lib.hid hK; subst hz; refine iteSkip (by kernel_rfl) ?_; go_simp; generalize hz : Act.mk _ _ = z; refine hK.out z ?_; clear hK K))
        try refine wpQuiet_nil ?_
        subst hz
        try dsimp only [NoPan]
        go_wp2_with fail
        have hxd : ∀ o : Obj, Ext (fun _ => False) wr.drew (wr.alloc o).drew := fun o => (Ext.refl (fun _ => False) wr.drew).alloc o
        have hxe : ∀ o : Obj, Ext (fun _ => False) wr (wr.alloc o).drew := fun o => ((Ext.refl (fun _ => False) wr).alloc o).drew
        have hD : ∀ b' ∈ [w.heap.size + 1, q, pr], b' < wr.drew.heap.size := by simp; exact ⟨hso, hq, hpo⟩
        have hql := HU.out.2.2.rep.lt
        have hpl' := HU.out.2.1.lt
        have hfresh : ∀ k', sv.ownBlock = some k' → k' ≠ w.heap.size + 1 ∧ k' ≠ q ∧ k' ≠ pr ∧ k' ≠ w.heap.size := fun k' hk' => by
          have := own_base HU.out.2.2.steps k' hk'
          exact ⟨by omega, by omega, by omega, by omega⟩
        have hlen : done.length + 1 ≤ 1099511627776 := by
          have h1 := Tr.path_len t k
          have h2 := congrArg List.length HU.out.2.2.path
          rw [List.length_append] at h2
          omega
        have HF := Lib.hid (And.intro hfresh hlen)
        clear hfresh hlen
        refine ⟨(Cls.refl _ _).old (hxd _) hD, ?_⟩
        try dsimp only [wpMix, wpSegs, pick, List.getElem?_cons_zero, List.getElem?_cons_succ]
        generalize hz : Act.mk _ _ = z
        repeat (first | (refine wpQuiet_step (fun K hK => ?_); replace hK := Lib.hid hK; subst hz; go_simp; generalize hz : Act.mk _ _ = z; refine hK.out z ?_; clear hK K) | (refine wpQuiet_step (fun K hK => ?_); replace hK := Lib.hid hK; subst hz; refine iteSkip (by kernel_rfl) ?_; go_simp; generalize hz : Act.mk _ _ = z; refine hK.out z ?_; clear hK K))
        try refine wpQuiet_nil ?_
        subst hz
        try dsimp only [NoPan]
        refine wpList_append_lit rfl _ _ 41 rfl Try.underlying41 info_step rfl (by decide) (v := sv) rfl (own_ext HU.out.2.2.steps (hxe _) fun _ _ => id) (Nat.le_trans HU.out.2.2.size (hxe _).size) (cs := .int .i64 b :: .bool false :: sum32 x) rfl (heap_alloc_self _ _) rfl (by simp [sum32, Value.oneCell']) (by decide) (by have := HF.out.2; omega) (by have := HF.out.2; omega) ?_
        intro g2 c2 W2 ho2 hx2 hg2 hl2
        apply wpList_nil
        simp only [Exit.then]
        refine ⟨((Cls.refl _ _).old (hxd _) hD).step hx2 (by
          have hs : wr.heap.size < (wr.alloc (.cells (Value.int .i64 b :: Value.bool false :: sum32 x).toArray 48 (0, 0))).drew.heap.size := by simp
          intro b' hb'
          simp only [List.mem_cons, List.not_mem_nil, or_false] at hb'
          rcases hb' with rfl | rfl | rfl
          · exact ⟨Nat.lt_trans hso hs, fun e => (HF.out.1 _ e).1 rfl⟩
          · exact ⟨Nat.lt_trans hq hs, fun e => (HF.out.1 _ e).2.1 rfl⟩
          · exact ⟨Nat.lt_trans hpo hs, fun e => (HF.out.1 _ e).2.2.1 rfl⟩), ?_⟩
        have hx12 : Ext (fun k' => sv.ownBlock = some k') wr W2 := ((hxe _).mono fun _ _ => False.elim).trans hx2
        have y2 : Ext (fun _ => False) w W2 := HU.out.2.2.ext.trans' hx12 fun k' hk' => .inr (by have := own_base HU.out.2.2.steps k' hk'; omega)
        have hb2 := hx12.heap HU.out.2.2.own fun e => (HF.out.1 _ e).1 rfl
        have hr2 := hx12.heap HU.out.2.2.res fun e => (HF.out.1 _ e).2.2.2 rfl
        have d3 : W2.cell? ⟨w.heap.size + 1, 3, none⟩ = some sv := cells_at hb2 3
        have d3f : W2.frozen? ⟨w.heap.size + 1, 3, none⟩ = false := by simp [World.frozen?, hb2]
        have H2 := Lib.hid (And.intro ho2 (And.intro y2 (And.intro hb2 hr2)))
        clear ho2 hx12 y2 hb2 hr2 hx2 hxd hxe hg2
        try dsimp only [wpMix, wpSegs, pick, List.getElem?_cons_zero, List.getElem?_cons_succ]
        generalize hz : Act.mk _ _ = z
        repeat (first | (refine wpQuiet_step (fun K hK => ?_); replace hK := Lib.hid hK; subst hz; go_simp; generalize hz : Act.mk _ _ = z; refine hK.out z ?_; clear hK K) | (refine wpQuiet_step (fun K hK => ?_); replace hK := Lib.hid hK; subst hz; refine iteSkip (by kernel_rfl) ?_; go_simp; generalize hz : Act.mk _ _ = z; refine hK.out z ?_; clear hK K))
        try refine wpQuiet_nil ?_
        subst hz
        try dsimp only [NoPan]
        go_wp2_with fail
        have y3 : Ext (fun _ => False) w (W2.setCell ⟨w.heap.size + 1, 3, none⟩ (.slice (some ⟨g2, 0, none⟩) (done.length + 1) c2)) := H2.out.2.1.setCell (a := ⟨w.heap.size + 1, 3, none⟩) (.inr (Nat.le_succ _)) _
        have z3 : Ext (· = w.heap.size + 1) W2 (W2.setCell ⟨w.heap.size + 1, 3, none⟩ (.slice (some ⟨g2, 0, none⟩) (done.length + 1) c2)) := (Ext.refl (· = w.heap.size + 1) W2).setCell (a := ⟨w.heap.size + 1, 3, none⟩) (.inl rfl) _
        have g3 : (W2.setCell ⟨w.heap.size + 1, 3, none⟩ (.slice (some ⟨g2, 0, none⟩) (done.length + 1) c2)).heap[w.heap.size + 1]? = some (.cells #[.bool false, .slice none 0 0, .slice none 0 0, .slice (some ⟨g2, 0, none⟩) (done.length + 1) c2] 43 (0, 0)) := heap_setCell_self H2.out.2.2.1
        generalize (W2.setCell ⟨w.heap.size + 1, 3, none⟩ (.slice (some ⟨g2, 0, none⟩) (done.length + 1) c2)) = W3 at *
        have q3 := cell_same HN.out.1 y3
        have q4 := cell_same HN.out.2 y3
        clear d3 d3f c0' c3' c4'
        try dsimp only [wpMix, wpSegs, pick, List.getElem?_cons_zero, List.getElem?_cons_succ]
        generalize hz : Act.mk _ _ = z
        repeat (first | (refine wpQuiet_step (fun K hK => ?_); replace hK := Lib.hid hK; subst hz; go_simp; generalize hz : Act.mk _ _ = z; refine hK.out z ?_; clear hK K) | (refine wpQuiet_step (fun K hK => ?_); replace hK := Lib.hid hK; subst hz; refine iteSkip (by kernel_rfl) ?_; go_simp; generalize hz : Act.mk _ _ = z; refine hK.out z ?_; clear hK K))
        try refine wpQuiet_nil ?_
        subst hz
        try dsimp only [NoPan]
        go_wp2_with fail
        go_roundg (l.ents.length)
        case measure => exact hlt
        case rel =>
          have hlast := HU.out.2.2.last
          rw [Tr.last, HB.out, if_neg (by decide)] at hlast
          have hpath := HU.out.2.2.path
          rw [Tr.path, HB.out, if_neg (by decide)] at hpath
          refine ⟨l, pl, done ++ [(b, false, r)], .slice (some ⟨g2, 0, none⟩) (done.length + 1) c2, rfl, rfl, HU.out.1, hlast, by rw [List.append_assoc]; exact hpath, y3, z3.heap H2.out.2.2.2 (fun e => absurd e (by omega)), g3, ?_, ?_⟩
          · have := own_ext H2.out.1 z3 fun k' hk' e => by
              simp only [Value.ownBlock, Option.some.injEq] at hk'
              have := own_base H2.out.1 k' (by simp [Value.ownBlock, hk'])
              omega
            rw [List.length_append, List.flatMap_append]
            have hst : [(b, false, r)].flatMap stC = .int .i64 b :: .bool false :: sum32 x := by rw [← HC.out.2]; simp [stC]
            rw [hst]
            exact this
          · have h1 := z3.size
            have h2 := lt_of_heap H2.out.2.2.1
            omega
end Go.Proofs.Ytoflfhjeabpcjaa
