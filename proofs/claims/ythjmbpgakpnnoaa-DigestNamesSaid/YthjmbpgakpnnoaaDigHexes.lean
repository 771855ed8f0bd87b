/- DigestHexes and DigestBack answer true; no condition. -/
import Derived.Test.YthjmbpgakpnnoaaDUnhex
import Derived.Test.YthjmbpgakpnnoaaDigRaws
namespace Go.Proofs.Ythjmbpgakpnnoaa
set_option linter.unusedVariables false
set_option linter.unusedSimpArgs false
open Go.RowKit

set_option maxRecDepth 100000 in
set_option maxHeartbeats 2000000 in
theorem hexes_walk {w : World} {s t : Bs} (hs : s.length = 32) (ht : t.length ≤ 9223372036854775807) :
    Calls Try.prog 7 #[sumV s, str t] w fun e w' => e = .returned (.bool true) ∧ Ext (fun _ => False) w w' := by
  rw [sumV_cells]
  have hcz := sum_size s hs
  have hco := sum_one s
  have hH := fun W => hex_walk W s hs
  have hD := fun W => dhex_walk W s hs
  rw [sumV_cells] at hH hD
  have hU := fun W => unhex_walk W t ht
  have hV := fun W => dunhex_walk W t ht
  have huz := sum_size _ (unhexR_len t)
  have huo := sum_one (unhexR t).1
  have heq := run_eql_sum _ _ (unhexR_len t) (unhexR_len t)
  have hun := unhexR_num t
  have hx1 : Ext (fun _ => False) w (w.alloc (.cells (s.map byteV).toArray 26)) := (Ext.refl _ _).alloc _
  have hb1 : (w.alloc (.cells (s.map byteV).toArray 26)).heap[w.heap.size]? = some (.cells (s.map byteV).toArray 26 (0, 0)) := heap_alloc_self _ _
  simp only [sumV_cells, decide_true] at hU hV heq
  generalize (s.map byteV).toArray = cs at *
  have hn : (unhexR t).2 = 0 ∨ (unhexR t).2 = 4 := by
    rcases hun with h | h
    · exact .inl h
    · exact .inr (by rw [h])
  generalize ((unhexR t).1.map byteV).toArray = us at *
  generalize (unhexR t).2 = un at *
  have H0 := Lib.hid (And.intro (And.intro hcz hco) (And.intro (And.intro huz huo) (And.intro (And.intro hH hD) (And.intro (And.intro hU hV) (And.intro hx1 hb1)))))
  have Heq := Lib.hid heq
  clear hcz hco huz huo hH hD hU hV hx1 hb1 hun heq
  go_enter Try.func7, Try.ntmps7
  go_wp2_with fail
  refine (small_walk _).mono ?_
  rintro e w1 ⟨rfl, hx1⟩
  have hb1 := hx1.heap H0.out.2.2.2.2.2 id
  have H1 := Lib.hid (And.intro hb1 (H0.out.2.2.2.2.1.trans hx1))
  clear hb1 hx1
  go_wp2_with fail
  refine (H0.out.2.2.2.1.1 _).mono ?_
  rintro e w2 ⟨rfl, hx2⟩
  have hself := heap_alloc_self w2
  have Hs := Lib.hid hself
  have hb2 := hx2.heap H1.out.1 id
  have H2 := Lib.hid (And.intro hb2 (H1.out.2.trans hx2))
  clear hb2 hx2 hself
  go_wp2_with (refine wpList_store_row rfl 26 _ _ rfl w2.heap.size us rfl rfl 26 _ (Hs.out _) (by rw [H0.out.2.1.1]; kernel_rfl) (by rw [H0.out.2.1.1]; rfl) H0.out.2.1.2 ?_)
  generalize hw3 : (w2.alloc _).setRow _ us = w3
  have hu3 : w3.heap[w2.heap.size]? = some (.cells us 26 (0, 0)) := by rw [← hw3]; exact setRow_heap _ _ _ _ _ _ (Hs.out _)
  have hx3 : Ext (fun _ => False) w2 w3 := by rw [← hw3]; exact ((Ext.refl _ _).alloc _).setRow (.inr (Nat.le_refl _)) _
  have H3 := Lib.hid (And.intro hu3 (And.intro (hx3.heap H2.out.1 id) (H2.out.2.trans hx3)))
  clear hu3 hx3 hw3 Hs
  generalize w2.heap.size = b2 at *
  refine (H0.out.2.2.2.1.2 _).mono ?_
  rintro e w4 ⟨rfl, hx4⟩
  have hself := heap_alloc_self w4
  have Hs := Lib.hid hself
  have H4 := Lib.hid (And.intro (hx4.heap H3.out.1 id) (And.intro (hx4.heap H3.out.2.1 id) (H3.out.2.2.trans hx4)))
  clear hx4 hself
  go_wp2_with (refine wpList_store_row rfl 26 _ _ rfl w4.heap.size us rfl rfl 26 _ (Hs.out _) (by rw [H0.out.2.1.1]; kernel_rfl) (by rw [H0.out.2.1.1]; rfl) H0.out.2.1.2 ?_)
  generalize hw5 : (w4.alloc _).setRow _ us = w5
  have hu5 : w5.heap[w4.heap.size]? = some (.cells us 26 (0, 0)) := by rw [← hw5]; exact setRow_heap _ _ _ _ _ _ (Hs.out _)
  have hx5 : Ext (fun _ => False) w4 w5 := by rw [← hw5]; exact ((Ext.refl _ _).alloc _).setRow (.inr (Nat.le_refl _)) _
  have H5 := Lib.hid (And.intro hu5 (And.intro (hx5.heap H4.out.1 id) (And.intro (hx5.heap H4.out.2.1 id) (H4.out.2.2.trans hx5))))
  have l5 := lt_of_heap hu5
  have l52 := lt_of_heap H5.out.2.1
  have l50 := lt_of_heap H5.out.2.2.1
  clear hu5 hx5 hw5 Hs
  generalize w4.heap.size = b4 at *
  have hr0 : ∀ W, Cls [w.heap.size, b2, b4] w5.drew W → W.heap[w.heap.size]? = some (.cells cs 26 (0, 0)) := cls_heap (by simp) H5.out.2.2.1
  have hr2 : ∀ W, Cls [w.heap.size, b2, b4] w5.drew W → W.heap[b2]? = some (.cells us 26 (0, 0)) := cls_heap (by simp) H5.out.2.1
  have hr4 : ∀ W, Cls [w.heap.size, b2, b4] w5.drew W → W.heap[b4]? = some (.cells us 26 (0, 0)) := cls_heap (by simp) H5.out.1
  have Hr := Lib.hid (And.intro hr0 (And.intro hr2 hr4))
  clear hr0 hr2 hr4
  refine wp_region_mix (Cls [w.heap.size, b2, b4] _) [([0, 1, 2, 4], 3), ([], 5)] [6, 7, 8, 9, 10, 11, 12, 13, 14, 15, 16, 17, 18] (by kernel_rfl) (by kernel_rfl) (Cls.refl _ _) ?_
  try dsimp only [wpMix, wpSegs, pick, List.getElem?_cons_zero, List.getElem?_cons_succ]
  generalize hz : Act.mk _ _ = z
  repeat (first | (subst hz; (first | refine wpQuiet_load_row 26 _ rfl (by kernel_rfl) w.heap.size rfl 26 cs (0, 0) _ Hr.out.1 Try.underlying26 rfl (by rw [H0.out.1.1]; kernel_rfl) ?_ | refine wpQuiet_load_row 26 _ rfl (by kernel_rfl) b2 rfl 26 us (0, 0) _ Hr.out.2.1 Try.underlying26 rfl (by rw [H0.out.2.1.1]; kernel_rfl) ?_ | refine wpQuiet_load_row 26 _ rfl (by kernel_rfl) b4 rfl 26 us (0, 0) _ Hr.out.2.2 Try.underlying26 rfl (by rw [H0.out.2.1.1]; kernel_rfl) ?_); generalize hz : Act.put _ _ _ = z) | (refine wpQuiet_step (fun K hK => ?_); replace hK := Lib.hid hK; subst hz; go_simp; generalize hz : Act.mk _ _ = z; refine hK.out z ?_; clear hK K) | (refine wpQuiet_step (fun K hK => ?_); replace hK := Lib.hid hK; subst hz; refine iteSkip (by kernel_rfl) ?_; go_simp; generalize hz : Act.mk _ _ = z; refine hK.out z ?_; clear hK K))
  refine wpQuiet_nil ?_
  subst hz
  try dsimp only [NoPan]
  go_wp2_with fail
  have hD3 : ∀ b ∈ [w.heap.size, b2, b4], b < w5.drew.heap.size := by
    intro b hb
    simp only [List.mem_cons, List.not_mem_nil, or_false] at hb
    show b < w5.heap.size
    rcases hb with rfl | rfl | rfl <;> assumption
  have HD3 := Lib.hid hD3
  clear hD3
  refine (H0.out.2.2.1.1 _).mono ?_
  rintro e w6 ⟨rfl, hx6⟩
  have H6 := Lib.hid hx6
  clear hx6
  go_wp2_with fail
  refine ⟨Cls.of_ext H6.out fun b hb => ⟨HD3.out b hb, id⟩, ?_⟩
  try dsimp only [wpMix, wpSegs, pick, List.getElem?_cons_zero, List.getElem?_cons_succ]
  generalize hz : Act.mk _ _ = z
  repeat (first | (refine wpQuiet_step (fun K hK => ?_); replace hK := Lib.hid hK; subst hz; go_simp; generalize hz : Act.mk _ _ = z; refine hK.out z ?_; clear hK K) | (refine wpQuiet_step (fun K hK => ?_); replace hK := Lib.hid hK; subst hz; refine iteSkip (by kernel_rfl) ?_; go_simp; generalize hz : Act.mk _ _ = z; refine hK.out z ?_; clear hK K))
  refine wpQuiet_nil ?_
  subst hz
  try dsimp only [NoPan]
  go_wp2_with fail
  refine (H0.out.2.2.1.2 _).mono ?_
  rintro e w7 ⟨rfl, hx7⟩
  have H7 := Lib.hid (H6.out.trans hx7)
  clear hx7
  go_wp2_with fail
  refine ⟨Cls.of_ext H7.out fun b hb => ⟨HD3.out b hb, id⟩, ?_⟩
  have heq := Heq.out
  try dsimp only [wpMix, wpSegs, pick, List.getElem?_cons_zero, List.getElem?_cons_succ]
  generalize hz : Act.mk _ _ = z
  repeat (first | (subst hz; (first | refine wpQuiet_load_row 26 _ rfl (by kernel_rfl) w.heap.size rfl 26 cs (0, 0) _ Hr.out.1 Try.underlying26 rfl (by rw [H0.out.1.1]; kernel_rfl) ?_ | refine wpQuiet_load_row 26 _ rfl (by kernel_rfl) b2 rfl 26 us (0, 0) _ Hr.out.2.1 Try.underlying26 rfl (by rw [H0.out.2.1.1]; kernel_rfl) ?_ | refine wpQuiet_load_row 26 _ rfl (by kernel_rfl) b4 rfl 26 us (0, 0) _ Hr.out.2.2 Try.underlying26 rfl (by rw [H0.out.2.1.1]; kernel_rfl) ?_); generalize hz : Act.put _ _ _ = z) | (refine wpQuiet_step (fun K hK => ?_); replace hK := Lib.hid hK; subst hz; go_simp; generalize hz : Act.mk _ _ = z; refine hK.out z ?_; clear hK K) | (refine wpQuiet_step (fun K hK => ?_); replace hK := Lib.hid hK; subst hz; refine iteSkip (by kernel_rfl) ?_; go_simp; generalize hz : Act.mk _ _ = z; refine hK.out z ?_; clear hK K))
  refine wpQuiet_nil ?_
  subst hz
  try dsimp only [NoPan]
  go_wp2_with fail
  go_ret
  exact ⟨rfl, H5.out.2.2.2.trans ((Ext.refl _ _).drew.trans H7.out)⟩
end Go.Proofs.Ythjmbpgakpnnoaa
