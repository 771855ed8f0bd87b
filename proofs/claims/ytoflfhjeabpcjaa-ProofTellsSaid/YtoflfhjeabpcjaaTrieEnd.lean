/- Down a tree: end, find's way; no condition. -/
import Derived.Test.YtoflfhjeabpcjaaTrieNode
import Derived.WalkMore
import Derived.Deep.LoopGhost
namespace Go.Proofs.Ytoflfhjeabpcjaa
set_option linter.unusedVariables false
set_option linter.unusedSimpArgs false
open Go.RowKit

theorem ents_l (b : Nat) (l r : Tr) : l.ents.length < (Tr.fork b l r).ents.length := by
  have := r.ents_pos
  rw [Tr.ents, List.length_append]; omega
theorem ents_r (b : Nat) (l r : Tr) : r.ents.length < (Tr.fork b l r).ents.length := by
  have := l.ents_pos
  rw [Tr.ents, List.length_append]; omega
set_option maxRecDepth 100000 in
set_option maxHeartbeats 1000000 in
theorem end_walk {w : World} {D D' : Nat → Prop} {t : Tr} {p : Nat} {kv : Value} {k : Bs} (ht : NRep D w t p) (hk : Byt D' w kv k) (hkl : k.length ≤ 140737488355328) :
    Calls Try.prog 59 #[ptrV p, kv] w fun e w' => ∃ q, e = .returned (ptrV q) ∧ NRep D w (.leaf (t.last k).1 (t.last k).2) q ∧ Ext (fun _ => False) w w' := by
  have HS := fun (i : Nat) (W : World) (hx : Ext (fun _ => False) w W) => Lib.hid (side_walk (hk.same hx) hkl i)
  have HT := Lib.hid ht
  clear ht hk
  go_enter Try.func59, Try.ntmps59
  go_wp2_with fail
  go_step3
  go_wp2_with fail
  go_step3
  go_wp2_with fail
  go_loopg [0] (t.ents.length) (fun n pv W => ∃ (u : Tr) (q : Nat), n = u.ents.length ∧ pv = ptrV q ∧ NRep D w u q ∧ u.last k = t.last k ∧ Ext (fun _ => False) w W)
  case atStart => exact ⟨t, p, rfl, rfl, HT.out, rfl, Ext.refl _ _⟩
  case round =>
    obtain ⟨u, q, rfl, rfl, hu, hl, hx⟩ := hrel
    cases u with
    | leaf a b =>
      obtain ⟨_, _, _, _, _, hN, _, _⟩ := id hu
      have c0 := cell_same hN.c0 hx
      have HU := Lib.hid (And.intro hu (And.intro hl hx))
      clear hu hl hN hx
      go_wp2_with fail
      rw [Exit.noGoto_ret]
      go_ret
      refine ⟨_, rfl, ?_, HU.out.2.2⟩
      rw [← HU.out.2.1]
      exact HU.out.1
    | fork b l r =>
      obtain ⟨_, kv1, vv1, pl, pr, hN, hL, hR⟩ := id hu
      have c0 := cell_same hN.c0 hx
      have c3 := cell_same hN.c3 hx
      have c4 := cell_same hN.c4 hx
      have c0' : ((b : Int) == -1) = false := by simp
      have hq := Nat.lt_of_lt_of_le hu.lt hx.size
      have hlt := ents_l b l r
      have hrt := ents_r b l r
      have HU := Lib.hid (And.intro hL (And.intro hR (And.intro hl hx)))
      clear hu hl hN hL hR hx
      go_wp2_with fail
      refine wp_region_mix (Cls [q] _) [([0, 1, 2, 3, 4, 5, 7, 8], 6)] [9, 10, 11] (by kernel_rfl) (by kernel_rfl) (Cls.refl _ _) ?_
      try dsimp only [wpMix, wpSegs, pick, List.getElem?_cons_zero, List.getElem?_cons_succ]
      generalize hz : Act.mk _ _ = z
      repeat (first | (refine wpQuiet_step (fun K hK => ?_); replace hK := Lib.hid hK; subst hz; go_simp; generalize hz : Act.mk _ _ = z; refine hK.out z ?_; clear hK K) | (refine wpQuiet_step (fun K hK => ?_); replace hK := Lib.hid hK; subst hz; refine iteSkip (by kernel_rfl) ?_; go_simp; generalize hz : Act.mk _ _ = z; refine hK.out z ?_; clear hK K))
      try refine wpQuiet_nil ?_
      subst hz
      try dsimp only [NoPan]
      go_wp2_with fail
      have hd : Ext (fun _ => False) w wr.drew := HU.out.2.2.2.drew
      refine (HS b _ hd).out.mono ?_
      rintro e _ ⟨rfl, rfl⟩
      have hlast : (Tr.fork b l r).last k = if bitB k b then r.last k else l.last k := rfl
      cases hb : bitB k b with
      | true =>
        rw [hb, if_pos rfl] at hlast
        have HL := Lib.hid hlast
        clear hlast
        go_wp2_with fail
        refine ⟨Cls.refl _ _, ?_⟩
        try dsimp only [wpMix, wpSegs, pick, List.getElem?_cons_zero, List.getElem?_cons_succ]
        generalize hz : Act.mk _ _ = z
        repeat (first | (refine wpQuiet_step (fun K hK => ?_); replace hK := Lib.hid hK; subst hz; go_simp; generalize hz : Act.mk _ _ = z; refine hK.out z ?_; clear hK K) | (refine wpQuiet_step (fun K hK => ?_); replace hK := Lib.hid hK; subst hz; refine iteSkip (by kernel_rfl) ?_; go_simp; generalize hz : Act.mk _ _ = z; refine hK.out z ?_; clear hK K))
        try refine wpQuiet_nil ?_
        subst hz
        try dsimp only [NoPan]
        go_wp2_with fail
        go_roundg (r.ents.length)
        case measure => exact hrt
        case rel => exact ⟨r, pr, rfl, rfl, HU.out.2.1, by rw [← HL.out]; exact HU.out.2.2.1, hd⟩
      | false =>
        rw [hb, if_neg (by decide)] at hlast
        have HL := Lib.hid hlast
        clear hlast
        go_wp2_with fail
        refine ⟨Cls.refl _ _, ?_⟩
        try dsimp only [wpMix, wpSegs, pick, List.getElem?_cons_zero, List.getElem?_cons_succ]
        generalize hz : Act.mk _ _ = z
        repeat (first | (refine wpQuiet_step (fun K hK => ?_); replace hK := Lib.hid hK; subst hz; go_simp; generalize hz : Act.mk _ _ = z; refine hK.out z ?_; clear hK K) | (refine wpQuiet_step (fun K hK => ?_); replace hK := Lib.hid hK; subst hz; refine iteSkip (by kernel_rfl) ?_; go_simp; generalize hz : Act.mk _ _ = z; refine hK.out z ?_; clear hK K))
        try refine wpQuiet_nil ?_
        subst hz
        try dsimp only [NoPan]
        go_wp2_with fail
        go_roundg (l.ents.length)
        case measure => exact hlt
        case rel => exact ⟨l, pl, rfl, rfl, HU.out.1, by rw [← HL.out]; exact HU.out.2.2.1, hd⟩
end Go.Proofs.Ytoflfhjeabpcjaa
