/- A tree with one entry more, or another value; no condition. -/
import Derived.Test.YtoflfhjeabpcjaaTrieEnd
namespace Go.Proofs.Ytoflfhjeabpcjaa
set_option linter.unusedVariables false
set_option linter.unusedSimpArgs false
open Go.RowKit

theorem ins_len (k v : Bs) (o : Option Nat) : ∀ t : Tr, (Tr.ins k v o t).ents.length ≤ t.ents.length + 1
  | .leaf k' v' => by
    cases o with
    | none => simp [Tr.ins, Tr.ents]
    | some i => rw [Tr.ins]; split <;> simp [Tr.ents]
  | .fork b l r => by
    have h1 := ins_len k v o l
    have h2 := ins_len k v o r
    cases o with
    | none => rw [Tr.ins]; split <;> simp only [Tr.ents, List.length_append] <;> omega
    | some i =>
      rw [Tr.ins]
      split
      · split <;> simp only [Tr.ents, List.length_append, List.length_cons, List.length_nil] <;> omega
      · split <;> simp only [Tr.ents, List.length_append] <;> omega
def abvT (k v : Bs) (i : Nat) (t : Tr) : Tr := if bitB k i then .fork i t (.leaf k v) else .fork i (.leaf k v) t
def atV : Option Nat → Int
  | none => -1
  | some i => i
theorem Byt.tight {D : Nat → Prop} {w : World} {v : Value} {l : Bs} (h : Byt D w v l) : Byt (fun b => D b ∧ b < w.heap.size) w v l := by
  obtain ⟨A, c, rfl, hc, h⟩ := h
  refine ⟨A, c, rfl, hc, fun hl => ?_⟩
  obtain ⟨ad, h1, hd, hcell⟩ := h hl
  refine ⟨ad, h1, ⟨hd, ?_⟩, hcell⟩
  obtain ⟨x, m, rfl⟩ := List.exists_cons_of_ne_nil hl
  have := World.block_lt_of_cell? _ _ (hcell 0 x rfl)
  rwa [block_add] at this
theorem NRep.tight {D : Nat → Prop} {w : World} : ∀ {t : Tr} {p : Nat}, NRep D w t p → NRep (fun b => D b ∧ b < w.heap.size) w t p
  | .leaf k v, p, ⟨hd, kv, vv, lp, rp, h, h1, h2⟩ => ⟨⟨hd, World.block_lt_of_cell? _ _ h.c0⟩, kv, vv, lp, rp, h, h1.tight, h2.tight⟩
  | .fork b l r, p, ⟨hd, kv, vv, pl, pr, h, h1, h2⟩ => ⟨⟨hd, World.block_lt_of_cell? _ _ h.c0⟩, kv, vv, pl, pr, h, NRep.tight h1, NRep.tight h2⟩
theorem side_cases {w : World} {D : Nat → Prop} {v : Value} {k : Bs} (hb : Byt D w v k) (hk : k.length ≤ 140737488355328) (i : Nat) :
    Calls Try.prog 64 #[v, .int .i64 i] w fun e w' => (bitB k i = true ∧ e = .returned (.int .i64 1) ∨ bitB k i = false ∧ e = .returned (.int .i64 0)) ∧ w = w' := by
  refine (side_walk hb hk i).mono ?_
  rintro e w' ⟨rfl, h⟩
  refine ⟨?_, h⟩
  cases bitB k i with
  | true => exact .inl ⟨rfl, rfl⟩
  | false => exact .inr ⟨rfl, rfl⟩
theorem Grown.alloc {D : Nat → Prop} {w w' : World} {o : Obj} (h : (w.alloc o).heap.size ≤ w'.heap.size) : ∀ b, Grown D (w.alloc o) w' b → Grown D w w' b := fun b hb => hb.imp id fun h => ⟨by have := h.1; rw [World.size_alloc] at this; omega, h.2⟩
theorem Grown.old {D : Nat → Prop} {w w' : World} : ∀ b, D b → Grown D w w' b := fun _ => .inl

set_option maxRecDepth 100000 in
set_option maxHeartbeats 2000000 in
/-- A fork above a node. -/
theorem with_above {w : World} {D : Nat → Prop} {t : Tr} {p px : Nat} {k v : Bs} {i : Nat} (ht : NRep D w t p) (hx : NRep D w (.leaf k v) px) (hkl : k.length ≤ 140737488355328) (hn : t.ents.length < 9223372036854775807)
    {bv : Int} (hb0 : w.cell? ⟨p, 0, none⟩ = some (.int .i64 bv)) (hbv : bv = -1 ∨ (0 ≤ bv ∧ (i : Int) < bv)) :
    Calls Try.prog 62 #[ptrV p, ptrV px, .int .i64 i] w fun e w' => ∃ q, e = .returned (ptrV q) ∧ NRep (Grown D w w') w' (abvT k v i t) q ∧ Ext (fun _ => False) w w' := by
  obtain ⟨_, kx, vx, lx, rx, hN, hk, _⟩ := id hx
  have x1 := hN.c1
  have hi0 : ((i : Int) == -1) = false := by simp
  have hi1 : ((i : Int) != -1) = true := by simp
  have HS := Lib.hid (side_cases hk hkl i)
  have HT := Lib.hid (And.intro ht hx)
  have hpl := ht.lt
  have hxl := hx.lt
  clear ht hx hk hN
  rcases hbv with rfl | ⟨h0, h1⟩
  ·
    go_enter Try.func62, Try.ntmps62
    go_wp2_with fail
    refine HS.out.mono ?_
    rintro e _ ⟨⟨hb, rfl⟩ | ⟨hb, rfl⟩, rfl⟩
    ·
      go_wp2_with fail
      have hx1 := fun o : Obj => ((Ext.refl (fun _ => False) w).alloc o)
      refine (newfork_walk (l := t) (r := .leaf k v) (HT.out.1.still (hx1 _)) (HT.out.2.still (hx1 _)) i (by simp only [Tr.ents, List.length_singleton]; omega)).mono ?_
      rintro e w2 ⟨q, rfl, hq, hx2⟩
      have HQ := Lib.hid (And.intro (hq.mono (Grown.alloc hx2.size)) ((hx1 _).trans hx2))
      clear hq hx2
      go_wp2_with fail
      go_ret
      exact ⟨q, rfl, by rw [abvT, hb]; exact HQ.out.1, HQ.out.2⟩
    ·
      go_wp2_with fail
      have hx1 := fun o : Obj => ((Ext.refl (fun _ => False) w).alloc o)
      refine (newfork_walk (l := .leaf k v) (r := t) (HT.out.2.still (hx1 _)) (HT.out.1.still (hx1 _)) i (by simp only [Tr.ents, List.length_singleton]; omega)).mono ?_
      rintro e w2 ⟨q, rfl, hq, hx2⟩
      have HQ := Lib.hid (And.intro (hq.mono (Grown.alloc hx2.size)) ((hx1 _).trans hx2))
      clear hq hx2
      go_wp2_with fail
      go_ret
      exact ⟨q, rfl, by rw [abvT, hb]; exact HQ.out.1, HQ.out.2⟩
  · have hbv0 : (bv == -1) = false := by simp; omega
    have hbv1 : decide ((i : Int) < bv) = true := by simpa using h1
    go_enter Try.func62, Try.ntmps62
    go_wp2_with fail
    refine HS.out.mono ?_
    rintro e _ ⟨⟨hb, rfl⟩ | ⟨hb, rfl⟩, rfl⟩
    ·
      go_wp2_with fail
      have hx1 := fun o : Obj => ((Ext.refl (fun _ => False) w).alloc o)
      refine (newfork_walk (l := t) (r := .leaf k v) (HT.out.1.still (hx1 _)) (HT.out.2.still (hx1 _)) i (by simp only [Tr.ents, List.length_singleton]; omega)).mono ?_
      rintro e w2 ⟨q, rfl, hq, hx2⟩
      have HQ := Lib.hid (And.intro (hq.mono (Grown.alloc hx2.size)) ((hx1 _).trans hx2))
      clear hq hx2
      go_wp2_with fail
      go_ret
      exact ⟨q, rfl, by rw [abvT, hb]; exact HQ.out.1, HQ.out.2⟩
    ·
      go_wp2_with fail
      have hx1 := fun o : Obj => ((Ext.refl (fun _ => False) w).alloc o)
      refine (newfork_walk (l := .leaf k v) (r := t) (HT.out.2.still (hx1 _)) (HT.out.1.still (hx1 _)) i (by simp only [Tr.ents, List.length_singleton]; omega)).mono ?_
      rintro e w2 ⟨q, rfl, hq, hx2⟩
      have HQ := Lib.hid (And.intro (hq.mono (Grown.alloc hx2.size)) ((hx1 _).trans hx2))
      clear hq hx2
      go_wp2_with fail
      go_ret
      exact ⟨q, rfl, by rw [abvT, hb]; exact HQ.out.1, HQ.out.2⟩

set_option maxRecDepth 100000 in
set_option maxHeartbeats 4000000 in
theorem with_walk {k v : Bs} (hkl : k.length ≤ 140737488355328) {px : Nat} (o : Option Nat) : ∀ (t : Tr) {D : Nat → Prop} {w : World} {p : Nat}, NRep D w t p → NRep D w (.leaf k v) px → t.ents.length < 9223372036854775807 →
    Calls Try.prog 62 #[ptrV p, ptrV px, .int .i64 (atV o)] w fun e w' => ∃ q, e = .returned (ptrV q) ∧ NRep (Grown D w w') w' (Tr.ins k v o t) q ∧ Ext (fun _ => False) w w' := by
  intro t
  induction t with
  | leaf k' v' =>
    intro D w p ht hx hn
    obtain ⟨_, _, _, _, _, hN, _⟩ := id ht
    cases o with
    | some i => exact with_above ht hx hkl hn hN.c0 (.inl rfl)
    | none =>
      have c0 := hN.c0
      have HX := Lib.hid hx
      clear ht hx hN
      show Calls Try.prog 62 #[ptrV p, ptrV px, .int .i64 (-1)] w _
      go_enter Try.func62, Try.ntmps62
      go_wp2_with fail
      go_ret
      exact ⟨px, rfl, HX.out.mono Grown.old, Ext.refl _ _⟩
  | fork b l r ihl ihr =>
    intro D w p ht hx hn
    obtain ⟨_, kv1, vv1, pl, pr, hN, hL, hR⟩ := id ht
    by_cases hi : ∃ i, o = some i ∧ i < b
    · obtain ⟨i, rfl, hib⟩ := hi
      have := with_above (i := i) ht hx hkl hn hN.c0 (.inr ⟨by omega, by omega⟩)
      rw [Tr.ins, if_pos hib]
      exact this
    have hll := ents_l b l r
    have hle : (Tr.fork b l r).ents.length = l.ents.length + r.ents.length := by rw [Tr.ents, List.length_append]
    have hrl := ents_r b l r
    have hil := ins_len k v o l
    have hir := ins_len k v o r
    have hins : Tr.ins k v o (.fork b l r) = if bitB k b then .fork b l (Tr.ins k v o r) else .fork b (Tr.ins k v o l) r := by
      cases o with
      | none => rfl
      | some i => rw [Tr.ins, if_neg (fun h => hi ⟨i, rfl, h⟩)]
    obtain ⟨a, ha⟩ : ∃ a, a = atV o := ⟨_, rfl⟩
    have HI := Lib.hid hins
    have hab : (a == -1) = true ∧ (a != -1) = false ∨ (a == -1) = false ∧ (a != -1) = true ∧ decide (a < (b : Int)) = false := by
      cases o with
      | none => subst ha; exact .inl ⟨rfl, rfl⟩
      | some i =>
        subst ha
        refine .inr ⟨by simp [atV], by simp [atV], decide_eq_false ?_⟩
        intro h
        simp only [atV] at h
        exact hi ⟨i, rfl, by omega⟩
    rw [← ha] at ihl ihr ⊢
    clear hins hi ha
    have hb0 : ((b : Int) == -1) = false := by simp
    obtain ⟨_, kx, vx, lx, rx, hX, hk, _⟩ := id hx
    have x1 := hX.c1
    have c0 := hN.c0
    have c3 := hN.c3
    have c4 := hN.c4
    have hpl := ht.lt
    have hxl := hx.lt
    have HS := fun (W : World) (h : Ext (fun _ => False) w W) => Lib.hid (side_cases (hk.same h) hkl b)
    have HU := Lib.hid (And.intro hL.tight (And.intro hR.tight hx.tight))
    clear ht hx hX hN hL hR hk
    rcases hab with ⟨ha1, ha2⟩ | ⟨ha1, ha2, ha3⟩
    all_goals
      go_enter Try.func62, Try.ntmps62
      go_wp2_with fail
      refine wp_region_bar (Cls [px, p] _) [] [0, 1, 2, 3, 4, 5, 6, 7, 8] 9 [] [10] (by kernel_rfl) (by kernel_rfl) (Cls.refl _ _) ?_
      try dsimp only [wpMix, wpSegs, pick, List.getElem?_cons_zero, List.getElem?_cons_succ]
      generalize hz : Act.mk _ _ = z
      repeat (first | (refine wpQuiet_step (fun K hK => ?_); replace hK := Lib.hid hK; subst hz; go_simp; generalize hz : Act.mk _ _ = z; refine hK.out z ?_; clear hK K) | (refine wpQuiet_step (fun K hK => ?_); replace hK := Lib.hid hK; subst hz; refine iteSkip (by kernel_rfl) ?_; go_simp; generalize hz : Act.mk _ _ = z; refine hK.out z ?_; clear hK K))
      try refine wpQuiet_nil ?_
      subst hz
      try dsimp only [NoPan]
      go_wp2_with fail
      refine (HS _ (Ext.refl _ _).drew).out.mono ?_
      rintro e _ ⟨⟨hb, rfl⟩ | ⟨hb, rfl⟩, rfl⟩
      ·
        go_wp2_with fail
        try dsimp only [wpMix, wpSegs, pick, List.getElem?_cons_zero, List.getElem?_cons_succ]
        generalize hz : Act.mk _ _ = z
        repeat (first | (refine wpQuiet_step (fun K hK => ?_); replace hK := Lib.hid hK; subst hz; go_simp; generalize hz : Act.mk _ _ = z; refine hK.out z ?_; clear hK K) | (refine wpQuiet_step (fun K hK => ?_); replace hK := Lib.hid hK; subst hz; refine iteSkip (by kernel_rfl) ?_; go_simp; generalize hz : Act.mk _ _ = z; refine hK.out z ?_; clear hK K))
        try refine wpQuiet_nil ?_
        subst hz
        try dsimp only [NoPan]
        go_wp2_with fail
        have hx1 : Ext (fun _ => False) w (w.alloc (.cells #[ptrV pl, ptrV pr] 96 (0, 0))).drew := ((Ext.refl _ _).alloc _).drew
        have hg1 : (w.alloc (.cells #[ptrV pl, ptrV pr] 96 (0, 0))).drew.heap[w.heap.size]? = some (.cells #[ptrV pl, ptrV pr] 96 (0, 0)) := heap_alloc_self w (.cells #[ptrV pl, ptrV pr] 96 (0, 0))
        have hIH := Lib.hid (@ihr _ (w.alloc (.cells #[ptrV pl, ptrV pr] 96 (0, 0))).drew pr (HU.out.2.1.still hx1) (HU.out.2.2.still hx1) (by omega))
        have hVs : (w.alloc (.cells #[ptrV pl, ptrV pr] 96 (0, 0))).drew.heap.size = w.heap.size + 1 := World.size_alloc _ _
        generalize (w.alloc (.cells #[ptrV pl, ptrV pr] 96 (0, 0))).drew = V at *
        refine hIH.out.mono ?_
        rintro e w2 ⟨q, rfl, hq, hx2⟩
        have hg2 := hx2.heap hg1 id
        have hxx := hx1.trans hx2
        have d0 := cell_same c0 hxx
        have HX := Lib.hid (And.intro hq (And.intro hxx (And.intro hx1 hx2)))
        clear hq hxx hx2 hx1 hg1 hIH
        have gl := lt_of_heap hg2
        have e0 : w2.cell? ⟨w.heap.size, 0, none⟩ = some (ptrV pl) := cells_at hg2 0
        have e1 : w2.cell? ⟨w.heap.size, 1, none⟩ = some (ptrV pr) := cells_at hg2 1
        have f0 : w2.frozen? ⟨w.heap.size, 0, none⟩ = false := by simp [World.frozen?, hg2]
        have f1 : w2.frozen? ⟨w.heap.size, 1, none⟩ = false := by simp [World.frozen?, hg2]
        go_wp2_with fail
        have hys : Ext (· = w.heap.size) w2 (w2.setCell ⟨w.heap.size, 1, none⟩ (ptrV q)) := (Ext.refl (· = w.heap.size) w2).setCell (a := ⟨w.heap.size, 1, none⟩) (.inl rfl) _
        have hxs : Ext (fun _ => False) w (w2.setCell ⟨w.heap.size, 1, none⟩ (ptrV q)) := HX.out.2.1.setCell (a := ⟨w.heap.size, 1, none⟩) (.inr (Nat.le_refl _)) _
        have g3 := heap_setCell_self (i := 1) (v := ptrV q) hg2
        have hzs : (w2.setCell ⟨w.heap.size, 1, none⟩ (ptrV q)).heap.size = w2.heap.size := by simp [World.setCell]
        generalize (w2.setCell ⟨w.heap.size, 1, none⟩ (ptrV q)) = V3 at *
        have c30 := cell_same c0 hxs
        have k30 : V3.cell? ⟨w.heap.size, 0, none⟩ = some (ptrV pl) := (cells_at g3 0).trans rfl
        have k31 : V3.cell? ⟨w.heap.size, 1, none⟩ = some (ptrV q) := (cells_at g3 1).trans rfl
        have hlt3 := Nat.lt_of_lt_of_le hpl hxs.size
        refine wp_region_bar (Cls [p, w.heap.size] _) [] [0, 1, 2, 3, 4] 5 [] [6] (by kernel_rfl) (by kernel_rfl) (Cls.refl _ _) ?_
        try dsimp only [wpMix, wpSegs, pick, List.getElem?_cons_zero, List.getElem?_cons_succ]
        generalize hz : Act.mk _ _ = z
        repeat (first | (refine wpQuiet_step (fun K hK => ?_); replace hK := Lib.hid hK; subst hz; go_simp; generalize hz : Act.mk _ _ = z; refine hK.out z ?_; clear hK K) | (refine wpQuiet_step (fun K hK => ?_); replace hK := Lib.hid hK; subst hz; refine iteSkip (by kernel_rfl) ?_; go_simp; generalize hz : Act.mk _ _ = z; refine hK.out z ?_; clear hK K))
        try refine wpQuiet_nil ?_
        subst hz
        try dsimp only [NoPan]
        go_wp2_with fail
        have hO : NRep (Grown (fun k => D k ∧ k < w.heap.size) V w2) V3.drew l pl := (HU.out.1.still hxs.drew).mono (fun k hk => .inl hk)
        have hQ : NRep (Grown (fun k => D k ∧ k < w.heap.size) V w2) V3.drew (Tr.ins k v o r) q := NRep.ext hys.drew (fun k hk h => by
          subst h
          rcases hk with ⟨_, h⟩ | ⟨h, _⟩
          · exact Nat.lt_irrefl _ h
          · rw [hVs] at h; exact Nat.not_succ_le_self _ h) HX.out.1
        refine (newfork_walk (l := l) (r := Tr.ins k v o r) hO hQ b (by omega)).mono ?_
        rintro e w5 ⟨q', rfl, hq5, hx5⟩
        have hfin : NRep (Grown D w w5) w5 (Tr.ins k v o (.fork b l r)) q' := by
          rw [HI.out, hb]
          refine hq5.mono fun k hk => ?_
          have hs5 := hx5.size
          have hs3 : V3.drew.heap.size = w2.heap.size := hzs
          rcases hk with (⟨h, _⟩ | ⟨h1, h2⟩) | ⟨h1, h2⟩
          · exact .inl h
          · exact .inr ⟨by omega, by omega⟩
          · exact .inr ⟨by omega, h2⟩
        have HZ := Lib.hid (And.intro hfin (hxs.drew.trans hx5))
        clear hq5 hx5 hfin hO hQ
        go_wp2_with fail
        try dsimp only [wpMix, wpSegs, pick, List.getElem?_cons_zero, List.getElem?_cons_succ]
        generalize hz : Act.mk _ _ = z
        repeat (first | (refine wpQuiet_step (fun K hK => ?_); replace hK := Lib.hid hK; subst hz; go_simp; generalize hz : Act.mk _ _ = z; refine hK.out z ?_; clear hK K) | (refine wpQuiet_step (fun K hK => ?_); replace hK := Lib.hid hK; subst hz; refine iteSkip (by kernel_rfl) ?_; go_simp; generalize hz : Act.mk _ _ = z; refine hK.out z ?_; clear hK K))
        try refine wpQuiet_nil ?_
        subst hz
        try dsimp only [NoPan]
        go_wp2_with fail
        go_ret
        exact ⟨q', rfl, HZ.out.1, HZ.out.2⟩
      ·
        go_wp2_with fail
        try dsimp only [wpMix, wpSegs, pick, List.getElem?_cons_zero, List.getElem?_cons_succ]
        generalize hz : Act.mk _ _ = z
        repeat (first | (refine wpQuiet_step (fun K hK => ?_); replace hK := Lib.hid hK; subst hz; go_simp; generalize hz : Act.mk _ _ = z; refine hK.out z ?_; clear hK K) | (refine wpQuiet_step (fun K hK => ?_); replace hK := Lib.hid hK; subst hz; refine iteSkip (by kernel_rfl) ?_; go_simp; generalize hz : Act.mk _ _ = z; refine hK.out z ?_; clear hK K))
        try refine wpQuiet_nil ?_
        subst hz
        try dsimp only [NoPan]
        go_wp2_with fail
        have hx1 : Ext (fun _ => False) w (w.alloc (.cells #[ptrV pl, ptrV pr] 96 (0, 0))).drew := ((Ext.refl _ _).alloc _).drew
        have hg1 : (w.alloc (.cells #[ptrV pl, ptrV pr] 96 (0, 0))).drew.heap[w.heap.size]? = some (.cells #[ptrV pl, ptrV pr] 96 (0, 0)) := heap_alloc_self w (.cells #[ptrV pl, ptrV pr] 96 (0, 0))
        have hIH := Lib.hid (@ihl _ (w.alloc (.cells #[ptrV pl, ptrV pr] 96 (0, 0))).drew pl (HU.out.1.still hx1) (HU.out.2.2.still hx1) (by omega))
        have hVs : (w.alloc (.cells #[ptrV pl, ptrV pr] 96 (0, 0))).drew.heap.size = w.heap.size + 1 := World.size_alloc _ _
        generalize (w.alloc (.cells #[ptrV pl, ptrV pr] 96 (0, 0))).drew = V at *
        refine hIH.out.mono ?_
        rintro e w2 ⟨q, rfl, hq, hx2⟩
        have hg2 := hx2.heap hg1 id
        have hxx := hx1.trans hx2
        have d0 := cell_same c0 hxx
        have HX := Lib.hid (And.intro hq (And.intro hxx (And.intro hx1 hx2)))
        clear hq hxx hx2 hx1 hg1 hIH
        have gl := lt_of_heap hg2
        have e0 : w2.cell? ⟨w.heap.size, 0, none⟩ = some (ptrV pl) := cells_at hg2 0
        have e1 : w2.cell? ⟨w.heap.size, 1, none⟩ = some (ptrV pr) := cells_at hg2 1
        have f0 : w2.frozen? ⟨w.heap.size, 0, none⟩ = false := by simp [World.frozen?, hg2]
        have f1 : w2.frozen? ⟨w.heap.size, 1, none⟩ = false := by simp [World.frozen?, hg2]
        go_wp2_with fail
        have hys : Ext (· = w.heap.size) w2 (w2.setCell ⟨w.heap.size, 0, none⟩ (ptrV q)) := (Ext.refl (· = w.heap.size) w2).setCell (a := ⟨w.heap.size, 0, none⟩) (.inl rfl) _
        have hxs : Ext (fun _ => False) w (w2.setCell ⟨w.heap.size, 0, none⟩ (ptrV q)) := HX.out.2.1.setCell (a := ⟨w.heap.size, 0, none⟩) (.inr (Nat.le_refl _)) _
        have g3 := heap_setCell_self (i := 0) (v := ptrV q) hg2
        have hzs : (w2.setCell ⟨w.heap.size, 0, none⟩ (ptrV q)).heap.size = w2.heap.size := by simp [World.setCell]
        generalize (w2.setCell ⟨w.heap.size, 0, none⟩ (ptrV q)) = V3 at *
        have c30 := cell_same c0 hxs
        have k30 : V3.cell? ⟨w.heap.size, 0, none⟩ = some (ptrV q) := (cells_at g3 0).trans rfl
        have k31 : V3.cell? ⟨w.heap.size, 1, none⟩ = some (ptrV pr) := (cells_at g3 1).trans rfl
        have hlt3 := Nat.lt_of_lt_of_le hpl hxs.size
        refine wp_region_bar (Cls [p, w.heap.size] _) [] [0, 1, 2, 3, 4] 5 [] [6] (by kernel_rfl) (by kernel_rfl) (Cls.refl _ _) ?_
        try dsimp only [wpMix, wpSegs, pick, List.getElem?_cons_zero, List.getElem?_cons_succ]
        generalize hz : Act.mk _ _ = z
        repeat (first | (refine wpQuiet_step (fun K hK => ?_); replace hK := Lib.hid hK; subst hz; go_simp; generalize hz : Act.mk _ _ = z; refine hK.out z ?_; clear hK K) | (refine wpQuiet_step (fun K hK => ?_); replace hK := Lib.hid hK; subst hz; refine iteSkip (by kernel_rfl) ?_; go_simp; generalize hz : Act.mk _ _ = z; refine hK.out z ?_; clear hK K))
        try refine wpQuiet_nil ?_
        subst hz
        try dsimp only [NoPan]
        go_wp2_with fail
        have hO : NRep (Grown (fun k => D k ∧ k < w.heap.size) V w2) V3.drew r pr := (HU.out.2.1.still hxs.drew).mono (fun k hk => .inl hk)
        have hQ : NRep (Grown (fun k => D k ∧ k < w.heap.size) V w2) V3.drew (Tr.ins k v o l) q := NRep.ext hys.drew (fun k hk h => by
          subst h
          rcases hk with ⟨_, h⟩ | ⟨h, _⟩
          · exact Nat.lt_irrefl _ h
          · rw [hVs] at h; exact Nat.not_succ_le_self _ h) HX.out.1
        refine (newfork_walk (l := Tr.ins k v o l) (r := r) hQ hO b (by omega)).mono ?_
        rintro e w5 ⟨q', rfl, hq5, hx5⟩
        have hfin : NRep (Grown D w w5) w5 (Tr.ins k v o (.fork b l r)) q' := by
          rw [HI.out, hb]
          refine hq5.mono fun k hk => ?_
          have hs5 := hx5.size
          have hs3 : V3.drew.heap.size = w2.heap.size := hzs
          rcases hk with (⟨h, _⟩ | ⟨h1, h2⟩) | ⟨h1, h2⟩
          · exact .inl h
          · exact .inr ⟨by omega, by omega⟩
          · exact .inr ⟨by omega, h2⟩
        have HZ := Lib.hid (And.intro hfin (hxs.drew.trans hx5))
        clear hq5 hx5 hfin hO hQ
        go_wp2_with fail
        try dsimp only [wpMix, wpSegs, pick, List.getElem?_cons_zero, List.getElem?_cons_succ]
        generalize hz : Act.mk _ _ = z
        repeat (first | (refine wpQuiet_step (fun K hK => ?_); replace hK := Lib.hid hK; subst hz; go_simp; generalize hz : Act.mk _ _ = z; refine hK.out z ?_; clear hK K) | (refine wpQuiet_step (fun K hK => ?_); replace hK := Lib.hid hK; subst hz; refine iteSkip (by kernel_rfl) ?_; go_simp; generalize hz : Act.mk _ _ = z; refine hK.out z ?_; clear hK K))
        try refine wpQuiet_nil ?_
        subst hz
        try dsimp only [NoPan]
        go_wp2_with fail
        go_ret
        exact ⟨q', rfl, HZ.out.1, HZ.out.2⟩
end Go.Proofs.Ytoflfhjeabpcjaa
