/- The document's RootOf; no condition. -/
import Derived.Test.YtkdnhnmiofhokaaTrieRoot4
namespace Go.Proofs.Ytkdnhnmiofhokaa
set_option linter.unusedVariables false
set_option linter.unusedSimpArgs false
open Go.RowKit

theorem bytesLess_eq4 : ∀ (x y : Bs), Op.bytesLess x y = decide (x < y)
  | [], [] => by simp [Op.bytesLess]
  | [], _ :: _ => by simp [Op.bytesLess]
  | _ :: _, [] => by simp [Op.bytesLess]
  | a :: x, b :: y => by
    have ih := bytesLess_eq4 x y
    rw [Op.bytesLess, Bool.eq_iff_iff, decide_eq_true_eq, List.cons_lt_cons_iff]
    by_cases h : a < b
    · simp [h]
    · by_cases h2 : a = b
      · subst h2
        simp [ih]
      · have h3 : b < a := UInt8.lt_of_le_of_ne (UInt8.not_lt.1 h) (Ne.symm h2)
        simp [h, h2, h3]
theorem Byt.convAt {P : Program} {D : Nat → Prop} {w : World} {v : Value} {l : Bs} (h : Byt D w v l) {a : Nat} (ha : a < w.heap.size) (src e dst : TypeId) (hs : P.underlying src = some (.slice e)) (he : P.underlying e = some (.int .u8))
    (hd : P.underlying dst = some .string) : ∃ bb, bb < w.heap.size ∧ (bb = a ∨ D bb) ∧ ∀ W : World, W.heap[bb]? = w.heap[bb]? → (convert src dst v).run P W = .ok (str l) W := by
  by_cases hl : l = []
  · subst hl
    refine ⟨a, ha, .inl rfl, fun W _ => ?_⟩
    obtain ⟨A, c, rfl, hc, h⟩ := h
    exact run_convert_byt (D := D) (w := W) ⟨A, c, rfl, hc, fun hne => absurd rfl hne⟩ src e dst hs he hd
  · have hcv := h.conv src e dst hs he hd
    obtain ⟨A, c, rfl, hc, h⟩ := h
    obtain ⟨ad, rfl, hd, hcell⟩ := h hl
    refine ⟨ad.block, ?_, .inr hd, hcv⟩
    have := World.block_lt_of_cell? _ _ (hcell 0 _ (List.getElem?_eq_getElem (List.length_pos_iff.2 hl)))
    rwa [block_add] at this

set_option maxRecDepth 100000 in
set_option maxHeartbeats 4000000 in
theorem drootof_walk {w : World} {lv : Value} {l : List (Bs × Bs)} (hL : Ents w lv l) (hl : l.length ≤ 64) :
    Calls Try.prog 20 #[lv] w fun e w' => ∃ s err, e = .returned (.tuple #[.agg (sumA s), .int .i64 err]) ∧ RootOfR l s err ∧ s.length = 32 ∧ Ext (fun _ => False) w w' := by
  have hx1 := fun o : Obj => (Ext.refl (fun _ => False) w).alloc o
  have hs1 := heap_alloc_self w (.cells ((List.replicate 32 (0 : UInt8)).map byteV).toArray 29 (0, 0))
  obtain ⟨A, cp, rfl, _, _⟩ := id hL
  have HL := Lib.hid hL
  clear hL
  go_enter Try.func20, Try.ntmps20
  go_wp2_with fail
  have x1 : Ext (fun _ => False) w (w.alloc (.cells ((List.replicate 32 (0 : UInt8)).map byteV).toArray 29 (0, 0))) := hx1 _
  generalize hW1 : World.alloc w _ = W1
  have H1 := Lib.hid (show Ext (fun _ => False) w W1 ∧ W1.heap[w.heap.size]? = some (.cells ((List.replicate 32 (0 : UInt8)).map byteV).toArray 29 (0, 0)) by rw [← hW1]; exact ⟨x1, hs1⟩)
  have hn1 : w.heap.size < W1.heap.size := lt_of_heap H1.out.2
  clear hW1 x1 hs1 hx1
  go_loopw [4] (fun i W => ∃ k : Nat, k ≤ l.length ∧ i = .int .i64 k ∧ W1 = W ∧ ∀ e ∈ l.take k, FitE e) (fun i _ => l.length - (intOf i).toNat)
  case atStart => exact ⟨0, Nat.zero_le _, rfl, rfl, by simp⟩
  case round =>
    obtain ⟨k, hk, rfl, rfl, hf⟩ := hrel
    by_cases hlt : k < l.length
    · obtain ⟨g, off, c', hav, hgl, ⟨⟨a, b, c0, c1, ha, hb⟩, la, lb⟩⟩ := HL.out.at hlt
      simp only [Value.slice.injEq, true_and] at hav
      obtain ⟨rfl, rfl⟩ := hav
      have hkl : decide ((k : Int) < (l.length : Int)) = true := by simp; omega
      have d0 := cell_same c0 H1.out.1
      have d1 := cell_same c1 H1.out.1
      have hx : l[k]? = some l[k] := List.getElem?_eq_getElem hlt
      have htk : l.take (k + 1) = l.take k ++ [l[k]] := by rw [List.take_add_one, hx]; rfl
      obtain ⟨A1, cc1, rfl, _, _⟩ := ha
      obtain ⟨A2, cc2, rfl, _, _⟩ := hb
      have HK := Lib.hid (And.intro hf htk)
      have hmem := List.getElem_mem hlt
      have HM := Lib.hid hmem
      clear hf hx htk hmem c0 c1
      by_cases f1 : l[k].1.length ≤ 120
      · have f1' : decide (120 < (l[k].1.length : Int)) = false := by simp; omega
        by_cases f2 : l[k].2.length ≤ 1200
        · have f2' : decide (1200 < (l[k].2.length : Int)) = false := by simp; omega
          have HF := Lib.hid (And.intro f1 f2)
          clear f1 f2
          go_wp2_with fail
          refine ⟨⟨k + 1, by omega, by go_num, by first | rfl | trivial, fun e he => ?_⟩, by simp [intOf]; omega⟩
          rw [HK.out.2] at he
          rcases List.mem_append.1 he with he | he
          · exact HK.out.1 e he
          · rw [List.mem_singleton.1 he]; exact HF.out
        · have f2' : decide (1200 < (l[k].2.length : Int)) = true := by simp; omega
          have HF := Lib.hid f2
          have HZ := Lib.hid zeros_cells
          clear f2
          go_wp2_with (refine wpList_store_row rfl 29 _ _ rfl w.heap.size _ rfl rfl 29 _ H1.out.2 (by kernel_rfl) (by kernel_rfl) (by kernel_rfl) ?_)
          refine bodyPost_ret (results_cell_tmp rfl _ _ w.heap.size 29 _ (0, 0) _ rfl (setRow_heap _ _ _ _ _ _ H1.out.2) Try.underlying29 rfl (by kernel_rfl)) rfl ?_
          refine ⟨List.replicate 32 0, 2, ?_, .inl ⟨fun h => HF.out (h _ HM.out).2, rfl, rfl⟩, by simp, H1.out.1.setRow (.inr (Nat.le_refl _)) _⟩
          rw [sumA, HZ.out]
          rfl
      · have f1' : decide (120 < (l[k].1.length : Int)) = true := by simp; omega
        have HF := Lib.hid f1
        have HZ := Lib.hid zeros_cells
        clear f1
        go_wp2_with (refine wpList_store_row rfl 29 _ _ rfl w.heap.size _ rfl rfl 29 _ H1.out.2 (by kernel_rfl) (by kernel_rfl) (by kernel_rfl) ?_)
        refine bodyPost_ret (results_cell_tmp rfl _ _ w.heap.size 29 _ (0, 0) _ rfl (setRow_heap _ _ _ _ _ _ H1.out.2) Try.underlying29 rfl (by kernel_rfl)) rfl ?_
        refine ⟨List.replicate 32 0, 2, ?_, .inl ⟨fun h => HF.out (h _ HM.out).1, rfl, rfl⟩, by simp, H1.out.1.setRow (.inr (Nat.le_refl _)) _⟩
        rw [sumA, HZ.out]
        rfl
    · have hkl : decide ((k : Int) < (l.length : Int)) = false := by simp; omega
      have hkk : k = l.length := by omega
      subst hkk
      have hfit : ∀ e ∈ l, FitE e := fun e he => by rw [List.take_length] at hf; exact hf e he
      have HF := Lib.hid hfit
      clear hf hfit
      go_wp2_with fail
      go_loopw [5] (fun i W => ∃ k : Nat, 1 ≤ k ∧ i = .int .i64 k ∧ Ext (fun _ => False) W1 W ∧ ∀ i (h : i + 1 < l.length), i + 1 < k → l[i].1 < l[i + 1].1) (fun i _ => l.length - (intOf i).toNat)
      case atStart => exact ⟨1, Nat.le_refl _, rfl, Ext.refl _ _, fun i h hi => by omega⟩
      case round =>
        obtain ⟨k, hk1, rfl, hx, hr⟩ := hrel
        by_cases hlt : k < l.length
        · obtain ⟨g, off, c', hav, hgl, ⟨⟨a, b, c0, c1, ha, hb⟩, la, lb⟩⟩ := HL.out.at hlt
          simp only [Value.slice.injEq, true_and] at hav
          obtain ⟨rfl, rfl⟩ := hav
          have hkl2 : decide ((k : Int) < (l.length : Int)) = true := by simp; omega
          obtain ⟨m, hm⟩ : ∃ m, m + 1 = k := ⟨k - 1, by omega⟩
          have hml : m < l.length := by omega
          obtain ⟨g', off', c'', hav', _, ⟨⟨a', b', e0, e1, ha', hb'⟩, la', lb'⟩⟩ := HL.out.at hml
          simp only [Value.slice.injEq, Option.some.injEq, Addr.mk.injEq, true_and, and_true] at hav'
          obtain ⟨⟨rfl, rfl⟩, rfl⟩ := hav'
          have hy := H1.out.1.trans hx
          have d0 := cell_same c0 hy
          have f0 := cell_same e0 hy
          have hgr : g < wr.heap.size := World.block_lt_of_cell? _ _ d0
          have hw1 : IntKind.i64.wrap ((k : Int) - 1) = (m : Int) := by rw [IntWalk.i64_in _ (by omega)]; omega
          have hrise : ∀ (hm1 : m + 1 < l.length), (l[m].1 < l[m + 1].1) ↔ l[m].1 < l[k].1 := fun hm1 => by subst hm; rfl
          have HX := Lib.hid (And.intro hx (And.intro hy (And.intro hr (And.intro hm hrise))))
          obtain ⟨bb, hbb, _, hcv⟩ := (ha.same hy).convAt hgr 22 5 9 Try.underlying22 Try.underlying5 Try.underlying9
          obtain ⟨bb', hbb', _, hcv'⟩ := (ha'.same hy).convAt hgr 22 5 9 Try.underlying22 Try.underlying5 Try.underlying9
          clear hx hy hr hm hrise ha ha' hb hb' c0 c1 e0 e1
          by_cases hc : l[m].1 < l[k].1
          · have hbl : Op.bytesLess l[k].1 l[m].1 = false := by
              rw [bytesLess_eq4]
              exact decide_eq_false fun h => List.lt_irrefl _ (List.lt_trans h hc)
            have heq : (l[k].1 == l[m].1) = false := by
              rw [beq_eq_false_iff_ne]
              intro e
              rw [e] at hc
              exact List.lt_irrefl _ hc
            have HC := Lib.hid hc
            clear hc
            go_wp2_with fail
            refine wp_region_mix (Cls [g, bb, bb'] _) [] [0, 1, 2, 3, 4, 5, 6, 7, 8, 9, 10, 11, 12, 13] (by kernel_rfl) (by kernel_rfl) (Cls.refl _ _) ?_
            try dsimp only [wpMix, wpSegs, pick, List.getElem?_cons_zero, List.getElem?_cons_succ]
            generalize hz : Act.mk _ _ = z
            repeat (first | (refine wpQuiet_step (fun K hK => ?_); replace hK := Lib.hid hK; subst hz; go_simp; generalize hz : Act.mk _ _ = z; refine hK.out z ?_; clear hK K) | (refine wpQuiet_step (fun K hK => ?_); replace hK := Lib.hid hK; subst hz; refine iteSkip (by kernel_rfl) ?_; go_simp; generalize hz : Act.mk _ _ = z; refine hK.out z ?_; clear hK K))
            try refine wpQuiet_nil ?_
            subst hz
            try dsimp only [NoPan]
            go_wp2_with fail
            refine ⟨⟨k + 1, by omega, by go_num, HX.out.1.drew, fun i h hi => ?_⟩, by simp [intOf]; omega⟩
            by_cases hik : i + 1 < k
            · exact HX.out.2.2.1 i h hik
            · have him : i = m := by have := HX.out.2.2.2.1; omega
              subst him
              exact (HX.out.2.2.2.2 h).2 HC.out
          · have hbl : (Op.bytesLess l[k].1 l[m].1 || (l[k].1 == l[m].1)) = true := by
              rw [bytesLess_eq4, Bool.or_eq_true]
              by_cases h : l[k].1 = l[m].1
              · exact .inr (by simpa using h)
              · refine .inl (decide_eq_true ?_)
                rcases List.le_iff_lt_or_eq.1 (List.not_lt.1 hc) with h' | h'
                · exact h'
                · exact absurd h' h
            have HC := Lib.hid hc
            have hbz := HX.out.1.heap H1.out.2 id
            have HZ := Lib.hid (And.intro (show wr.drew.heap[w.heap.size]? = _ from hbz) zeros_cells)
            clear hc hbz
            go_wp2_with fail
            refine wp_region_mix (Cls [g, bb, bb'] _) [] [0, 1, 2, 3, 4, 5, 6, 7, 8, 9, 10, 11, 12, 13] (by kernel_rfl) (by kernel_rfl) (Cls.refl _ _) ?_
            try dsimp only [wpMix, wpSegs, pick, List.getElem?_cons_zero, List.getElem?_cons_succ]
            generalize hz : Act.mk _ _ = z
            repeat (first | (refine wpQuiet_step (fun K hK => ?_); replace hK := Lib.hid hK; subst hz; go_simp; generalize hz : Act.mk _ _ = z; refine hK.out z ?_; clear hK K) | (refine wpQuiet_step (fun K hK => ?_); replace hK := Lib.hid hK; subst hz; refine iteSkip (by kernel_rfl) ?_; go_simp; generalize hz : Act.mk _ _ = z; refine hK.out z ?_; clear hK K))
            try refine wpQuiet_nil ?_
            subst hz
            try dsimp only [NoPan]
            go_wp2_with (refine wpList_store_row rfl 29 _ _ rfl w.heap.size _ rfl rfl 29 _ HZ.out.1 (by kernel_rfl) (by kernel_rfl) (by kernel_rfl) ?_)
            refine bodyPost_ret (results_cell_tmp rfl _ _ w.heap.size 29 _ (0, 0) _ rfl (setRow_heap _ _ _ _ _ _ HZ.out.1) Try.underlying29 rfl (by kernel_rfl)) rfl ?_
            refine ⟨List.replicate 32 0, 1, ?_, .inr (.inl ⟨HF.out, fun hri => ?_, rfl, rfl⟩), by simp, (HX.out.2.1.drew).setRow (.inr (Nat.le_refl _)) _⟩
            · rw [sumA, HZ.out.2]
              rfl
            · have hmk := HX.out.2.2.2.1
              have := hri m (by omega)
              exact HC.out ((HX.out.2.2.2.2 (by omega)).1 this)
        · have hkl2 : decide ((k : Int) < (l.length : Int)) = false := by simp; omega
          have hri : Rising l := fun i h => hr i h (by omega)
          obtain ⟨o, ho, hoe⟩ := exists_tree HF.out hri
          have hE : Ents wr (.slice A l.length cp) (Tr.entsO o) := by rw [hoe]; exact HL.out.still (H1.out.1.trans hx)
          have HO := Lib.hid (And.intro ho (And.intro hoe (And.intro hri hE)))
          have HX := Lib.hid hx
          have hn : (Tr.entsO o).length ≤ 64 := by rw [hoe]; exact hl
          have hlo : l.length = (Tr.entsO o).length := by rw [hoe]
          have HLO := Lib.hid hlo
          clear hr hri ho hoe hE hx hlo
          go_wp2_with fail
          refine (droot_walk HO.out.1 HO.out.2.2.2 hn).mono ?_
          rintro e w6 ⟨rfl, x6⟩
          have hb6 := x6.heap (HX.out.heap H1.out.2 id) id
          have H6 := Lib.hid (And.intro hb6 ((H1.out.1.trans HX.out).trans x6))
          clear x6 hb6
          go_wp2_with (refine wpList_store_row rfl 29 _ _ rfl w.heap.size (sumA (rootS o)) rfl rfl 29 _ H6.out.1 (info_sum (rootS_len _)) (by rw [sumA_size (rootS_len _)]; rfl) (sumA_one _) ?_)
          refine bodyPost_ret (results_cell_tmp rfl _ _ w.heap.size 29 (sumA (rootS o)) (0, 0) _ rfl (setRow_heap _ _ _ _ _ _ H6.out.1) Try.underlying29 rfl (info_sum (rootS_len _))) rfl ?_
          exact ⟨rootS o, 0, rfl, .inr (.inr ⟨HF.out, HO.out.2.2.1, rfl, o, HO.out.1, fun e => by rw [HO.out.2.1], rfl⟩), rootS_len _, H6.out.2.setRow (.inr (Nat.le_refl _)) _⟩
end Go.Proofs.Ytkdnhnmiofhokaa
