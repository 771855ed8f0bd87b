/- A tree without a key's entry; no condition. -/
import Derived.Test.YtoflfhjeabpcjaaTrieWith
namespace Go.Proofs.Ytoflfhjeabpcjaa
set_option linter.unusedVariables false
set_option linter.unusedSimpArgs false
open Go.RowKit

/-- A value that is a tree's root, or nil. -/
def RootV (D : Nat → Prop) (w : World) : Option Tr → Value → Prop
  | none, v => v = .pointer none
  | some t, v => ∃ p, v = ptrV p ∧ NRep D w t p
theorem del_len {k : Bs} : ∀ {t t' : Tr}, Tr.del k t = some t' → t'.ents.length ≤ t.ents.length
  | .leaf _ _, _, h => by cases h
  | .fork b l r, t', h => by
    rw [Tr.del] at h
    have hl := ents_l b l r
    have hr := ents_r b l r
    split at h
    · cases hd : Tr.del k r with
      | none => rw [hd] at h; cases h; omega
      | some r' => rw [hd] at h; cases h; have := del_len hd; simp only [Tr.ents, List.length_append]; omega
    · cases hd : Tr.del k l with
      | none => rw [hd] at h; cases h; omega
      | some l' => rw [hd] at h; cases h; have := del_len hd; simp only [Tr.ents, List.length_append]; omega

set_option maxRecDepth 100000 in
set_option maxHeartbeats 4000000 in
theorem without_walk {k : Bs} (hkl : k.length ≤ 140737488355328) {D' : Nat → Prop} {kv : Value} : ∀ (t : Tr) {D : Nat → Prop} {w : World} {p : Nat}, NRep D w t p → Byt D' w kv k → t.ents.length < 9223372036854775807 →
    Calls Try.prog 74 #[ptrV p, kv] w fun e w' => ∃ v, e = .returned v ∧ Ext (fun _ => False) w w' ∧ RootV (Grown D w w') w' (Tr.del k t) v := by
  intro t
  induction t with
  | leaf k' v' =>
    intro D w p ht hk hn
    obtain ⟨_, _, _, _, _, hN, _⟩ := id ht
    have c0 := hN.c0
    clear ht hN hk
    go_enter Try.func74, Try.ntmps74
    go_wp2_with fail
    go_ret
    exact ⟨_, rfl, Ext.refl _ _, rfl⟩
  | fork b l r ihl ihr =>
    intro D w p ht hk hn
    obtain ⟨_, kv1, vv1, pl, pr, hN, hL, hR⟩ := id ht
    have hll := ents_l b l r
    have hle : (Tr.fork b l r).ents.length = l.ents.length + r.ents.length := by rw [Tr.ents, List.length_append]
    have hrl := ents_r b l r
    have HI := Lib.hid (show Tr.del k (.fork b l r) = if bitB k b then (match Tr.del k r with | none => some l | some r' => some (.fork b l r')) else (match Tr.del k l with | none => some r | some l' => some (.fork b l' r)) from rfl)
    have hb0 : ((b : Int) == -1) = false := by simp
    have c0 := hN.c0
    have c3 := hN.c3
    have c4 := hN.c4
    have hpl := ht.lt
    have HS := Lib.hid (side_cases hk hkl b)
    have HU := Lib.hid (And.intro hL.tight (And.intro hR.tight trivial))
    have HK := Lib.hid hk
    clear ht hN hL hR hk
    go_enter Try.func74, Try.ntmps74
    go_wp2_with fail
    refine HS.out.mono ?_
    rintro e _ ⟨⟨hb, rfl⟩ | ⟨hb, rfl⟩, rfl⟩
    ·
      go_wp2_with fail
      have hx1 : Ext (fun _ => False) w (w.alloc (.cells #[ptrV pl, ptrV pr] 96 (0, 0))) := (Ext.refl _ _).alloc _
      have hg1 : (w.alloc (.cells #[ptrV pl, ptrV pr] 96 (0, 0))).heap[w.heap.size]? = some (.cells #[ptrV pl, ptrV pr] 96 (0, 0)) := heap_alloc_self w (.cells #[ptrV pl, ptrV pr] 96 (0, 0))
      have hIH := Lib.hid (@ihr _ (w.alloc (.cells #[ptrV pl, ptrV pr] 96 (0, 0))) pr (HU.out.2.1.still hx1) (HK.out.same hx1) (by omega))
      have hVs : (w.alloc (.cells #[ptrV pl, ptrV pr] 96 (0, 0))).heap.size = w.heap.size + 1 := World.size_alloc _ _
      generalize (w.alloc (.cells #[ptrV pl, ptrV pr] 96 (0, 0))) = V at *
      refine hIH.out.mono ?_
      rintro e w2 ⟨v2, rfl, hx2, hq⟩
      have hg2 := hx2.heap hg1 id
      have hxx := hx1.trans hx2
      have d0 := cell_same c0 hxx
      have gl := lt_of_heap hg2
      have e0 : w2.cell? ⟨w.heap.size, 0, none⟩ = some (ptrV pl) := cells_at hg2 0
      have e1 : w2.cell? ⟨w.heap.size, 1, none⟩ = some (ptrV pr) := cells_at hg2 1
      have f0 : w2.frozen? ⟨w.heap.size, 0, none⟩ = false := by simp [World.frozen?, hg2]
      have f1 : w2.frozen? ⟨w.heap.size, 1, none⟩ = false := by simp [World.frozen?, hg2]
      cases hd : Tr.del k r with
      | none =>
        rw [hd] at hq
        simp only [RootV] at hq
        subst hq
        have HX := Lib.hid (And.intro trivial (And.intro hxx (And.intro hx1 hx2)))
        have HD := Lib.hid hd
        clear hd hxx hx2 hx1 hg1 hIH
        go_wp2_with fail
        have hys : Ext (· = w.heap.size) w2 (w2.setCell ⟨w.heap.size, 1, none⟩ (.pointer none)) := (Ext.refl (· = w.heap.size) w2).setCell (a := ⟨w.heap.size, 1, none⟩) (.inl rfl) _
        have hxs : Ext (fun _ => False) w (w2.setCell ⟨w.heap.size, 1, none⟩ (.pointer none)) := HX.out.2.1.setCell (a := ⟨w.heap.size, 1, none⟩) (.inr (Nat.le_refl _)) _
        have g3 := heap_setCell_self (i := 1) (v := (.pointer none)) hg2
        have hzs : (w2.setCell ⟨w.heap.size, 1, none⟩ (.pointer none)).heap.size = w2.heap.size := by simp [World.setCell]
        generalize (w2.setCell ⟨w.heap.size, 1, none⟩ (.pointer none)) = V3 at *
        have c30 := cell_same c0 hxs
        have k30 : V3.cell? ⟨w.heap.size, 0, none⟩ = some (ptrV pl) := (cells_at g3 0).trans rfl
        have k31 : V3.cell? ⟨w.heap.size, 1, none⟩ = some (.pointer none) := (cells_at g3 1).trans rfl
        have hlt3 := Nat.lt_of_lt_of_le hpl hxs.size
        go_wp2_with fail
        go_ret
        refine ⟨_, rfl, hxs, ?_⟩
        rw [HI.out, hb]
        simp only [HD.out]
        exact ⟨pl, rfl, (HU.out.1.still hxs).mono fun k hk => .inl hk.1⟩
      | some t' =>
        rw [hd] at hq
        obtain ⟨q, rfl, hq⟩ := hq
        have hdl := del_len hd
        have HX := Lib.hid (And.intro hq (And.intro hxx (And.intro hx1 hx2)))
        have HD := Lib.hid hd
        clear hd hq hxx hx2 hx1 hg1 hIH
        go_wp2_with fail
        have hys : Ext (· = w.heap.size) w2 (w2.setCell ⟨w.heap.size, 1, none⟩ (ptrV q)) := (Ext.refl (· = w.heap.size) w2).setCell (a := ⟨w.heap.size, 1, none⟩) (.inl rfl) _
        have hxs : Ext (fun _ => False) w (w2.setCell ⟨w.heap.size, 1, none⟩ (ptrV q)) := HX.out.2.1.setCell (a := ⟨w.heap.size, 1, none⟩) (.inr (Nat.le_refl _)) _
        have g3 := heap_setCell_self (i := 1) (v := (ptrV q)) hg2
        have hzs : (w2.setCell ⟨w.heap.size, 1, none⟩ (ptrV q)).heap.size = w2.heap.size := by simp [World.setCell]
        generalize (w2.setCell ⟨w.heap.size, 1, none⟩ (ptrV q)) = V3 at *
        have c30 := cell_same c0 hxs
        have k30 : V3.cell? ⟨w.heap.size, 0, none⟩ = some (ptrV pl) := (cells_at g3 0).trans rfl
        have k31 : V3.cell? ⟨w.heap.size, 1, none⟩ = some (ptrV q) := (cells_at g3 1).trans rfl
        have hlt3 := Nat.lt_of_lt_of_le hpl hxs.size
        go_wp2_with fail
        refine wp_region_bar (Cls [p, w.heap.size] _) [] [0, 1, 2, 3, 4] 5 [] [6] (by kernel_rfl) (by kernel_rfl) (Cls.refl _ _) ?_
        try dsimp only [wpMix, wpSegs, pick, List.getElem?_cons_zero, List.getElem?_cons_succ]
        generalize hz : Act.mk _ _ = z
        repeat (first | (refine wpQuiet_step (fun K hK => ?_); replace hK := Lib.hid hK; subst hz; go_simp; generalize hz : Act.mk _ _ = z; refine hK.out z ?_; clear hK K) | (refine wpQuiet_step (fun K hK => ?_); replace hK := Lib.hid hK; subst hz; refine iteSkip (by kernel_rfl) ?_; go_simp; generalize hz : Act.mk _ _ = z; refine hK.out z ?_; clear hK K))
        try refine wpQuiet_nil ?_
        subst hz
        try dsimp only [NoPan]
        go_wp2_with fail
        have hO : NRep (Grown (fun k => D k ∧ k < w.heap.size) V w2) V3.drew l pl := (HU.out.1.still hxs.drew).mono (fun k hk => .inl hk)
        have hQ : NRep (Grown (fun k => D k ∧ k < w.heap.size) V w2) V3.drew t' q := NRep.ext hys.drew (fun k hk h => by
          subst h
          rcases hk with ⟨_, h⟩ | ⟨h, _⟩
          · exact Nat.lt_irrefl _ h
          · rw [hVs] at h; exact Nat.not_succ_le_self _ h) HX.out.1
        refine (newfork_walk (l := l) (r := t') hO hQ b (by omega)).mono ?_
        rintro e w5 ⟨q', rfl, hq5, hx5⟩
        have hfin : RootV (Grown D w w5) w5 (Tr.del k (.fork b l r)) (ptrV q') := by
          rw [HI.out, hb]
          simp only [HD.out]
          refine ⟨q', rfl, hq5.mono fun k hk => ?_⟩
          have hs5 := hx5.size
          have hs3 : V3.drew.heap.size = w2.heap.size := hzs
          rcases hk with (⟨h, _⟩ | ⟨h1, h2⟩) | ⟨h1, h2⟩
          · exact .inl h
          · exact .inr ⟨by omega, by omega⟩
          · exact .inr ⟨by omega, h2⟩
        have HZ := Lib.hid (And.intro hfin (hxs.drew.trans hx5))
        clear hq5 hx5 hfin hO hQ
        go_wp2_with fail
        try dsimp only [wpMix, wpSegs, pick, List.getElem?_cons_zero, List.getElem?_cons_succ]
        generalize hz : Act.mk _ _ = z
        repeat (first | (refine wpQuiet_step (fun K hK => ?_); replace hK := Lib.hid hK; subst hz; go_simp; generalize hz : Act.mk _ _ = z; refine hK.out z ?_; clear hK K) | (refine wpQuiet_step (fun K hK => ?_); replace hK := Lib.hid hK; subst hz; refine iteSkip (by kernel_rfl) ?_; go_simp; generalize hz : Act.mk _ _ = z; refine hK.out z ?_; clear hK K))
        try refine wpQuiet_nil ?_
        subst hz
        try dsimp only [NoPan]
        go_wp2_with fail
        go_ret
        exact ⟨_, rfl, HZ.out.2, HZ.out.1⟩
    ·
      go_wp2_with fail
      have hx1 : Ext (fun _ => False) w (w.alloc (.cells #[ptrV pl, ptrV pr] 96 (0, 0))) := (Ext.refl _ _).alloc _
      have hg1 : (w.alloc (.cells #[ptrV pl, ptrV pr] 96 (0, 0))).heap[w.heap.size]? = some (.cells #[ptrV pl, ptrV pr] 96 (0, 0)) := heap_alloc_self w (.cells #[ptrV pl, ptrV pr] 96 (0, 0))
      have hIH := Lib.hid (@ihl _ (w.alloc (.cells #[ptrV pl, ptrV pr] 96 (0, 0))) pl (HU.out.1.still hx1) (HK.out.same hx1) (by omega))
      have hVs : (w.alloc (.cells #[ptrV pl, ptrV pr] 96 (0, 0))).heap.size = w.heap.size + 1 := World.size_alloc _ _
      generalize (w.alloc (.cells #[ptrV pl, ptrV pr] 96 (0, 0))) = V at *
      refine hIH.out.mono ?_
      rintro e w2 ⟨v2, rfl, hx2, hq⟩
      have hg2 := hx2.heap hg1 id
      have hxx := hx1.trans hx2
      have d0 := cell_same c0 hxx
      have gl := lt_of_heap hg2
      have e0 : w2.cell? ⟨w.heap.size, 0, none⟩ = some (ptrV pl) := cells_at hg2 0
      have e1 : w2.cell? ⟨w.heap.size, 1, none⟩ = some (ptrV pr) := cells_at hg2 1
      have f0 : w2.frozen? ⟨w.heap.size, 0, none⟩ = false := by simp [World.frozen?, hg2]
      have f1 : w2.frozen? ⟨w.heap.size, 1, none⟩ = false := by simp [World.frozen?, hg2]
      cases hd : Tr.del k l with
      | none =>
        rw [hd] at hq
        simp only [RootV] at hq
        subst hq
        have HX := Lib.hid (And.intro trivial (And.intro hxx (And.intro hx1 hx2)))
        have HD := Lib.hid hd
        clear hd hxx hx2 hx1 hg1 hIH
        go_wp2_with fail
        have hys : Ext (· = w.heap.size) w2 (w2.setCell ⟨w.heap.size, 0, none⟩ (.pointer none)) := (Ext.refl (· = w.heap.size) w2).setCell (a := ⟨w.heap.size, 0, none⟩) (.inl rfl) _
        have hxs : Ext (fun _ => False) w (w2.setCell ⟨w.heap.size, 0, none⟩ (.pointer none)) := HX.out.2.1.setCell (a := ⟨w.heap.size, 0, none⟩) (.inr (Nat.le_refl _)) _
        have g3 := heap_setCell_self (i := 0) (v := (.pointer none)) hg2
        have hzs : (w2.setCell ⟨w.heap.size, 0, none⟩ (.pointer none)).heap.size = w2.heap.size := by simp [World.setCell]
        generalize (w2.setCell ⟨w.heap.size, 0, none⟩ (.pointer none)) = V3 at *
        have c30 := cell_same c0 hxs
        have k30 : V3.cell? ⟨w.heap.size, 0, none⟩ = some (.pointer none) := (cells_at g3 0).trans rfl
        have k31 : V3.cell? ⟨w.heap.size, 1, none⟩ = some (ptrV pr) := (cells_at g3 1).trans rfl
        have hlt3 := Nat.lt_of_lt_of_le hpl hxs.size
        go_wp2_with fail
        go_ret
        refine ⟨_, rfl, hxs, ?_⟩
        rw [HI.out, hb]
        simp only [HD.out]
        exact ⟨pr, rfl, (HU.out.2.1.still hxs).mono fun k hk => .inl hk.1⟩
      | some t' =>
        rw [hd] at hq
        obtain ⟨q, rfl, hq⟩ := hq
        have hdl := del_len hd
        have HX := Lib.hid (And.intro hq (And.intro hxx (And.intro hx1 hx2)))
        have HD := Lib.hid hd
        clear hd hq hxx hx2 hx1 hg1 hIH
        go_wp2_with fail
        have hys : Ext (· = w.heap.size) w2 (w2.setCell ⟨w.heap.size, 0, none⟩ (ptrV q)) := (Ext.refl (· = w.heap.size) w2).setCell (a := ⟨w.heap.size, 0, none⟩) (.inl rfl) _
        have hxs : Ext (fun _ => False) w (w2.setCell ⟨w.heap.size, 0, none⟩ (ptrV q)) := HX.out.2.1.setCell (a := ⟨w.heap.size, 0, none⟩) (.inr (Nat.le_refl _)) _
        have g3 := heap_setCell_self (i := 0) (v := (ptrV q)) hg2
        have hzs : (w2.setCell ⟨w.heap.size, 0, none⟩ (ptrV q)).heap.size = w2.heap.size := by simp [World.setCell]
        generalize (w2.setCell ⟨w.heap.size, 0, none⟩ (ptrV q)) = V3 at *
        have c30 := cell_same c0 hxs
        have k30 : V3.cell? ⟨w.heap.size, 0, none⟩ = some (ptrV q) := (cells_at g3 0).trans rfl
        have k31 : V3.cell? ⟨w.heap.size, 1, none⟩ = some (ptrV pr) := (cells_at g3 1).trans rfl
        have hlt3 := Nat.lt_of_lt_of_le hpl hxs.size
        go_wp2_with fail
        refine wp_region_bar (Cls [p, w.heap.size] _) [] [0, 1, 2, 3, 4] 5 [] [6] (by kernel_rfl) (by kernel_rfl) (Cls.refl _ _) ?_
        try dsimp only [wpMix, wpSegs, pick, List.getElem?_cons_zero, List.getElem?_cons_succ]
        generalize hz : Act.mk _ _ = z
        repeat (first | (refine wpQuiet_step (fun K hK => ?_); replace hK := Lib.hid hK; subst hz; go_simp; generalize hz : Act.mk _ _ = z; refine hK.out z ?_; clear hK K) | (refine wpQuiet_step (fun K hK => ?_); replace hK := Lib.hid hK; subst hz; refine iteSkip (by kernel_rfl) ?_; go_simp; generalize hz : Act.mk _ _ = z; refine hK.out z ?_; clear hK K))
        try refine wpQuiet_nil ?_
        subst hz
        try dsimp only [NoPan]
        go_wp2_with fail
        have hO : NRep (Grown (fun k => D k ∧ k < w.heap.size) V w2) V3.drew r pr := (HU.out.2.1.still hxs.drew).mono (fun k hk => .inl hk)
        have hQ : NRep (Grown (fun k => D k ∧ k < w.heap.size) V w2) V3.drew t' q := NRep.ext hys.drew (fun k hk h => by
          subst h
          rcases hk with ⟨_, h⟩ | ⟨h, _⟩
          · exact Nat.lt_irrefl _ h
          · rw [hVs] at h; exact Nat.not_succ_le_self _ h) HX.out.1
        refine (newfork_walk (l := t') (r := r) hQ hO b (by omega)).mono ?_
        rintro e w5 ⟨q', rfl, hq5, hx5⟩
        have hfin : RootV (Grown D w w5) w5 (Tr.del k (.fork b l r)) (ptrV q') := by
          rw [HI.out, hb]
          simp only [HD.out]
          refine ⟨q', rfl, hq5.mono fun k hk => ?_⟩
          have hs5 := hx5.size
          have hs3 : V3.drew.heap.size = w2.heap.size := hzs
          rcases hk with (⟨h, _⟩ | ⟨h1, h2⟩) | ⟨h1, h2⟩
          · exact .inl h
          · exact .inr ⟨by omega, by omega⟩
          · exact .inr ⟨by omega, h2⟩
        have HZ := Lib.hid (And.intro hfin (hxs.drew.trans hx5))
        clear hq5 hx5 hfin hO hQ
        go_wp2_with fail
        try dsimp only [wpMix, wpSegs, pick, List.getElem?_cons_zero, List.getElem?_cons_succ]
        generalize hz : Act.mk _ _ = z
        repeat (first | (refine wpQuiet_step (fun K hK => ?_); replace hK := Lib.hid hK; subst hz; go_simp; generalize hz : Act.mk _ _ = z; refine hK.out z ?_; clear hK K) | (refine wpQuiet_step (fun K hK => ?_); replace hK := Lib.hid hK; subst hz; refine iteSkip (by kernel_rfl) ?_; go_simp; generalize hz : Act.mk _ _ = z; refine hK.out z ?_; clear hK K))
        try refine wpQuiet_nil ?_
        subst hz
        try dsimp only [NoPan]
        go_wp2_with fail
        go_ret
        exact ⟨_, rfl, HZ.out.2, HZ.out.1⟩
end Go.Proofs.Ytoflfhjeabpcjaa
