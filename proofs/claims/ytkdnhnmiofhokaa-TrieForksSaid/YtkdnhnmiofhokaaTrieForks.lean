/- TrieForks answers true; no condition. -/
import Derived.Test.YtkdnhnmiofhokaaTrieSum
import Derived.Test.YtkdnhnmiofhokaaDigOf
import Derived.Test.YtkdnhnmiofhokaaMix3
namespace Go.Proofs.Ytkdnhnmiofhokaa
set_option linter.unusedVariables false
set_option linter.unusedSimpArgs false
open Go.RowKit

theorem cls_heap {D : List Nat} {w0 : World} {b : Nat} (hb : b ∈ D) {ob : Obj} (h : w0.heap[b]? = some ob) : ∀ w, Cls D w0 w → w.heap[b]? = some ob := by
  rintro w ⟨u, rfl⟩
  rw [u.obj b hb]
  exact h
/-- A whole array or struct is read, in any world of the class. -/
theorem wpQuiet_load_row {P : Program} {ops : Array Oper} {rest : List Oper} {o : Oper} {a : Act} {C : World → Prop} {Q : Act → Prop} (ty : TypeId) (x : Operand) (ho : o.op = .load ty x) (hw : Region.wanted o (yielded ops a.tmps) = true) (g : Nat) (hx : a.eval x = .pointer (some ⟨g, 0, none⟩)) (t : TypeId) (cs : Array Value) (fr : Nat × Nat) (d : TypeDesc)
    (hC : ∀ w, C w → w.heap[g]? = some (.cells cs t fr)) (hu : P.underlying ty = some d) (hd : (match d with | .struct _ | .array _ _ => true | _ => false) = true) (hi : (P.info? ty).map (·.size) = some cs.size)
    (h : wpQuiet P ops C Q rest (a.put o.dst (.agg cs))) : wpQuiet P ops C Q (o :: rest) a := by
  simp only [wpQuiet, hw, if_true]
  refine ⟨.agg cs, fun w hw => ?_, h⟩
  unfold Oper.quietAt execOp
  simp only [ho, hx, Instr.loadAt, Instr.sureAddr, Sem.run_bind, Sem.run_pure, Result.andThen_ok, run_loadVar_row w g t ty cs fr d (hC w hw) hu hd hi]
  exact ⟨rfl, rfl⟩
/-- Digest of no rows. -/
theorem of_none_walk (w : World) : Calls Try.prog 10 #[str [110, 111, 110, 101], .slice none 0 0] w fun e w' => e = .returned (.tuple #[.agg (sumA (rootS none)), .int .i64 0]) ∧ Ext (fun _ => False) w w' := by
  refine (of_walk (nm := [110, 111, 110, 101]) (ls := []) (D := fun _ => True) ⟨_, _, rfl, Nat.le_refl _, fun h => absurd rfl h⟩ (by simp) (by decide)).mono ?_
  rintro e w' ⟨rfl, h⟩
  rw [of_none, sumV_A]
  exact ⟨rfl, h⟩
theorem of_leaf_walk {W : World} {D D' : Nat → Prop} {x y : Value} {k v : Bs} (hk : Byt D W x k) (hv : Byt D' W y v) (lk : k.length ≤ 65536) (lv : v.length ≤ 65536) {g : Nat} (hg : W.heap[g]? = some (.cells #[x, y] 22 (0, 0))) :
    Calls Try.prog 10 #[str [108, 101, 97, 102], .slice (some ⟨g, 0, none⟩) 2 2] W fun e w' => e = .returned (.tuple #[.agg (sumA (sumT (.leaf k v))), .int .i64 0]) ∧ Ext (fun _ => False) W w' := by
  have hbs := byts_lit (D := fun _ => True) (vs := [x, y]) (ls := [k, v]) hg rfl trivial (fun i a l ha hl => by
    match i with
    | 0 => simp at ha hl; subst ha hl; exact hk.mono fun _ _ => trivial
    | 1 => simp at ha hl; subst ha hl; exact hv.mono fun _ _ => trivial
    | n + 2 => simp at ha) 2 rfl
  refine (of_walk (nm := [108, 101, 97, 102]) hbs (by simp) (by decide)).mono ?_
  rintro e w' ⟨rfl, h⟩
  rw [of_leaf lk lv, sumV_A]
  exact ⟨rfl, h⟩
theorem of_fork_walk {W : World} {D : Nat → Prop} {x y z : Value} {b : Nat} {l r : Tr} (hx : Byt D W x (beB b 8)) (hy : Byt D W y (sumT l)) (hz : Byt D W z (sumT r)) {g : Nat} (hg : W.heap[g]? = some (.cells #[x, y, z] 22 (0, 0))) :
    Calls Try.prog 10 #[str [102, 111, 114, 107], .slice (some ⟨g, 0, none⟩) 3 3] W fun e w' => e = .returned (.tuple #[.agg (sumA (sumT (.fork b l r))), .int .i64 0]) ∧ Ext (fun _ => False) W w' := by
  have hbs := byts_lit (D := fun _ => True) (vs := [x, y, z]) (ls := [beB b 8, sumT l, sumT r]) hg rfl trivial (fun i a l ha hl => by
    match i with
    | 0 => simp at ha hl; subst ha hl; exact hx.mono fun _ _ => trivial
    | 1 => simp at ha hl; subst ha hl; exact hy.mono fun _ _ => trivial
    | 2 => simp at ha hl; subst ha hl; exact hz.mono fun _ _ => trivial
    | n + 3 => simp at ha) 3 rfl
  refine (of_walk (nm := [102, 111, 114, 107]) hbs (by simp) (by decide)).mono ?_
  rintro e w' ⟨rfl, h⟩
  rw [of_fork, sumV_A]
  exact ⟨rfl, h⟩
theorem sum_slice {w : World} {b : Nat} {s : Bs} {t : TypeId} {fr : Nat × Nat} (h : w.heap[b]? = some (.cells (sumA s) t fr)) (hs : s.length = 32) : Byt (fun _ => True) w (.slice (some ⟨b, 0, none⟩) 32 32) s :=
  (byt_const h rfl 32 hs.symm).mono fun _ _ => trivial
theorem Byt.any {D : Nat → Prop} {w : World} {v : Value} {l : Bs} (h : Byt D w v l) : Byt (fun _ => True) w v l := h.mono fun _ _ => trivial
/-- The tree of two. -/
theorem two_tree {k1 v1 k2 v2 : Bs} {o1 o2 : Option Tr} (f1 : k1.length ≤ 120 ∧ v1.length ≤ 1200) (f2 : k2.length ≤ 120 ∧ v2.length ≤ 1200) (h1 : PutO k1 v1 none o1) (h2 : PutO k2 v2 o1 o2) (hne : k1 ≠ k2) :
    o1 = some (.leaf k1 v1) ∧ ∃ N, N < 1080 ∧ bitB k1 N ≠ bitB k2 N ∧ (∀ j, j < N → bitB k1 j = bitB k2 j) ∧ o2 = some (if bitB k1 N then .fork N (.leaf k2 v2) (.leaf k1 v1) else .fork N (.leaf k1 v1) (.leaf k2 v2)) := by
  unfold PutO at h1 h2
  rw [if_pos f1] at h1
  rw [if_pos f2] at h2
  obtain ⟨t1, rfl, a1, a2, _⟩ := h1
  have e1 : t1 = .leaf k1 v1 := Tr.canon a1 f1 fun e => by rw [a2]; simp [Tr.ents, Tr.entsO]
  subst e1
  refine ⟨rfl, ?_⟩
  obtain ⟨t2, rfl, b1, b2, _⟩ := h2
  obtain ⟨N, n1, n2, n3⟩ := first_apart hne
  refine ⟨N, by omega, n1, n2, ?_⟩
  obtain ⟨q1, q2⟩ := Tr.above f2.1 f2.2 (t := .leaf k1 v1) f1 (i := N) (fun e he j hj => by rw [List.mem_singleton.1 he]; exact n2 j hj) (fun e he => by rw [List.mem_singleton.1 he]; exact n1)
  have e2 := Tr.canon b1 q1 fun e => by
    rw [b2, q2]
    simp only [Tr.entsO, Tr.ents, List.mem_singleton]
    constructor
    · rintro (h | ⟨h, _⟩)
      · exact .inl h
      · exact .inr h
    · rintro (h | h)
      · exact .inl h
      · exact .inr ⟨h, by rw [h]; exact hne⟩
  rw [e2]
  congr 1
  cases h1 : bitB k1 N <;> cases h2 : bitB k2 N <;> simp_all
set_option maxRecDepth 100000 in
set_option maxHeartbeats 4000000 in
theorem forks_walk {w : World} {D : Nat → Prop} {x1 y1 x2 y2 : Value} {k1 v1 k2 v2 : Bs} (hk1 : Byt D w x1 k1) (hv1 : Byt D w y1 v1) (hk2 : Byt D w x2 k2) (hv2 : Byt D w y2 v2)
    (lk1 : k1.length ≤ 140737488351232) (lv1 : v1.length ≤ 140737488351232) (lk2 : k2.length ≤ 140737488351232) (lv2 : v2.length ≤ 140737488351232) :
    Calls Try.prog 3 #[.agg #[x1, y1], .agg #[x2, y2]] w fun e w' => e = .returned (.bool true) ∧ Ext (fun _ => False) w w' := by
  have HB := Lib.hid (And.intro (And.intro hk1 hv1) (And.intro hk2 hv2))
  obtain ⟨A1, c1, rfl, _, _⟩ := hk1
  obtain ⟨A2, c2, rfl, _, _⟩ := hv1
  obtain ⟨A3, c3, rfl, _, _⟩ := hk2
  obtain ⟨A4, c4, rfl, _, _⟩ := hv2
  go_enter Try.func3, Try.ntmps3
  go_wp2_with fail
  refine (trie_small _).mono ?_
  rintro e w2 ⟨rfl, x2⟩
  obtain ⟨g1, g2, g3⟩ := alloc2 w (.cells #[.slice A1 k1.length c1, .slice A2 v1.length c2] 24 (0, 0)) (.cells #[.slice A3 k2.length c3, .slice A4 v2.length c4] 24 (0, 0))
  have hsz : ((w.alloc (.cells #[.slice A1 k1.length c1, .slice A2 v1.length c2] 24 (0, 0))).alloc (.cells #[.slice A3 k2.length c3, .slice A4 v2.length c4] 24 (0, 0))).heap.size = w.heap.size + 2 := by simp
  generalize ((w.alloc (.cells #[.slice A1 k1.length c1, .slice A2 v1.length c2] 24 (0, 0))).alloc (.cells #[.slice A3 k2.length c3, .slice A4 v2.length c4] 24 (0, 0))) = W1 at *
  have HA := Lib.hid (fun (W : World) (hx : Ext (fun _ => False) W1 W) => (⟨(cells_at (hx.heap g1 id) 0).trans rfl, (cells_at (hx.heap g1 id) 1).trans rfl, (cells_at (hx.heap g2 id) 0).trans rfl, (cells_at (hx.heap g2 id) 1).trans rfl⟩ : W.cell? ⟨w.heap.size, 0, none⟩ = some (.slice A1 k1.length c1) ∧ W.cell? ⟨w.heap.size, 1, none⟩ = some (.slice A2 v1.length c2) ∧ W.cell? ⟨w.heap.size + 1, 0, none⟩ = some (.slice A3 k2.length c3) ∧ W.cell? ⟨w.heap.size + 1, 1, none⟩ = some (.slice A4 v2.length c4)))
  have HW := Lib.hid (And.intro g3 hsz)
  clear g1 g2 g3 hsz
  go_wp2_with fail
  refine (tm_new x2).mono ?_
  rintro e w3 ⟨rfl, h3⟩
  generalize w2.heap.size = c at *
  clear x2
  have H3 := Lib.hid h3
  clear h3
  go_wp2_with fail
  refine (of_none_walk _).mono ?_
  rintro e w4 ⟨rfl, x4⟩
  have h4 := H3.out.still x4
  have H4 := Lib.hid h4
  clear x4 h4 H3
  go_wp2_with (refine wpList_store_row rfl 29 _ _ rfl w4.heap.size (sumA (rootS none)) rfl rfl 29 _ (heap_alloc_self _ _) (info_sum (rootS_len _)) (by rw [sumA_size (rootS_len _)]; rfl) (sumA_one _) ?_)
  generalize hw5 : (w4.alloc _).setRow _ (sumA (rootS none)) = w5
  have s5 : w5.heap[w4.heap.size]? = some (.cells (sumA (rootS none)) 29 (0, 0)) := by rw [← hw5]; exact (sum_new w4).1
  have h5 : TM W1 w5 c none := by rw [← hw5]; exact H4.out.still (sum_new w4).2
  clear hw5 H4
  generalize w4.heap.size = b5 at *
  have hb5 := lt_of_heap s5
  have Hrow := Lib.hid (cls_heap (D := [b5]) (w0 := w5.drew) (by simp) s5)
  have hneq : ∀ W, (binOp .neq 29 (.agg (sumA (rootS none))) (.agg (sumA (rootS none)))).run Try.prog W = .ok (.bool false) W := fun W => by rw [sumA_neq (rootS_len none) (rootS_len none)]; simp
  have H5 := Lib.hid h5
  clear s5 h5
  refine wp_region_mix (Cls [b5] _) [([0, 1, 2, 3, 5], 4)] [6, 7] (by kernel_rfl) (by kernel_rfl) (Cls.refl _ _) ?_
  try dsimp only [wpMix, wpSegs, pick, List.getElem?_cons_zero, List.getElem?_cons_succ]
  generalize hz : Act.mk _ _ = z
  repeat (first | (subst hz; (refine wpQuiet_load_row 29 _ rfl (by kernel_rfl) b5 rfl 29 (sumA (rootS none)) (0, 0) _ Hrow.out Try.underlying29 rfl (info_sum (rootS_len _)) ?_); generalize hz : Act.put _ _ _ = z) | (refine wpQuiet_step (fun K hK => ?_); replace hK := Lib.hid hK; subst hz; go_simp; generalize hz : Act.mk _ _ = z; refine hK.out z ?_; clear hK K) | (refine wpQuiet_step (fun K hK => ?_); replace hK := Lib.hid hK; subst hz; refine iteSkip (by kernel_rfl) ?_; go_simp; generalize hz : Act.mk _ _ = z; refine hK.out z ?_; clear hK K))
  try refine wpQuiet_nil ?_
  subst hz
  try dsimp only [NoPan]
  go_wp2_with fail
  refine (tm_root (H5.out.still (Ext.refl _ _).drew)).mono ?_
  rintro e w6 ⟨rfl, h6, x6⟩
  rw [sumV_A]
  have H6 := Lib.hid (And.intro h6 x6)
  have hA6 := HA.out w6 h6.2.2
  obtain ⟨a0, a1, b0, b1⟩ := hA6
  clear h6 x6
  go_wp2_with fail
  refine ⟨Cls.of_ext H6.out.2 fun q hq => ⟨by simp at hq; subst hq; exact hb5, id⟩, ?_⟩
  try dsimp only [wpMix, wpSegs, pick, List.getElem?_cons_zero, List.getElem?_cons_succ]
  generalize hz : Act.mk _ _ = z
  repeat (first | (subst hz; (refine wpQuiet_load_row 29 _ rfl (by kernel_rfl) b5 rfl 29 (sumA (rootS none)) (0, 0) _ Hrow.out Try.underlying29 rfl (info_sum (rootS_len _)) ?_); generalize hz : Act.put _ _ _ = z) | (refine wpQuiet_step (fun K hK => ?_); replace hK := Lib.hid hK; subst hz; go_simp; generalize hz : Act.mk _ _ = z; refine hK.out z ?_; clear hK K) | (refine wpQuiet_step (fun K hK => ?_); replace hK := Lib.hid hK; subst hz; refine iteSkip (by kernel_rfl) ?_; go_simp; generalize hz : Act.mk _ _ = z; refine hK.out z ?_; clear hK K))
  try refine wpQuiet_nil ?_
  subst hz
  try dsimp only [NoPan]
  go_wp2_with fail
  have y6 := HW.out.1.trans H6.out.1.2.2
  refine (tm_put (k := k1) (v := v1) H6.out.1 (HB.out.1.1.same y6) (HB.out.1.2.same y6) (by decide)).mono ?_
  rintro e w7 ⟨o1, rfl, p1, h7, _⟩
  obtain ⟨a0', a1', b0', b1'⟩ := HA.out w7 h7.2.2
  have y7 := HW.out.1.trans h7.2.2
  have cv1 := (HB.out.1.1.same y7).conv 22 5 9 Try.underlying22 Try.underlying5 Try.underlying9 w7 rfl
  have cv2 := (HB.out.2.1.same y7).conv 22 5 9 Try.underlying22 Try.underlying5 Try.underlying9 w7 rfl
  have H7 := Lib.hid (And.intro p1 (And.intro h7 y7))
  clear p1 h7 y7 a0 a1 b0 b1
  by_cases f1 : k1.length ≤ 120 ∧ v1.length ≤ 1200
  case neg =>
    rw [show putE k1 v1 = 2 by rw [putE, if_neg f1]]
    clear f1
    go_wp2_with fail
    go_ret
    exact ⟨rfl, H7.out.2.2⟩
  rw [show putE k1 v1 = 0 by rw [putE, if_pos f1]]
  have hl1 : (Tr.entsO o1).length < 9223372036854775807 := by
    have := H7.out.1
    unfold PutO at this
    rw [if_pos f1] at this
    obtain ⟨t1, rfl, _, _, k3⟩ := this
    simp only [Tr.entsO, List.length_nil] at k3 ⊢
    omega
  have F1 := Lib.hid (And.intro f1 hl1)
  clear f1 hl1
  by_cases hne : k1 = k2
  case pos =>
    have he : (k1 == k2) = true := by simpa using hne
    clear hne
    go_wp2_with fail
    go_ret
    exact ⟨rfl, H7.out.2.2⟩
  have he : (k1 == k2) = false := by simpa using hne
  have HNE := Lib.hid hne
  clear hne
  go_wp2_with fail
  have hxo := fun o : Obj => (Ext.refl (fun _ => False) w7).alloc o
  have HX := Lib.hid hxo
  clear hxo
  refine (of_leaf_walk ((HB.out.1.1.same H7.out.2.2).same (HX.out _)) ((HB.out.1.2.same H7.out.2.2).same (HX.out _)) (by have := F1.out.1.1; omega) (by have := F1.out.1.2; omega) (heap_alloc_self _ _)).mono ?_
  rintro e w8 ⟨rfl, x8⟩
  have h8 := (H7.out.2.1.still (HX.out _)).still x8
  have H8 := Lib.hid h8
  clear x8 h8 he cv1 cv2
  go_wp2_with (refine wpList_store_row rfl 29 _ _ rfl w8.heap.size (sumA (sumT (.leaf k1 v1))) rfl rfl 29 _ (heap_alloc_self _ _) (info_sum (sumT_len _)) (by rw [sumA_size (sumT_len _)]; rfl) (sumA_one _) ?_)
  generalize hw9 : (w8.alloc _).setRow _ (sumA (sumT (.leaf k1 v1))) = w9
  have sb9 : w9.heap[w8.heap.size]? = some (.cells (sumA (sumT (.leaf k1 v1))) 29 (0, 0)) := by rw [← hw9]; exact (sum_new w8).1
  have h9 : TM W1 w9 c o1 := by rw [← hw9]; exact H8.out.still (sum_new w8).2
  clear H8
  clear hw9
  generalize w8.heap.size = b9 at *
  have lb9 := lt_of_heap sb9
  have Hrow9 := Lib.hid (cls_heap (D := [b9]) (w0 := w9.drew) (by simp) sb9)
  have ho1 : rootS o1 = sumT (.leaf k1 v1) := by
    have := H7.out.1
    unfold PutO at this
    rw [if_pos F1.out.1] at this
    obtain ⟨t1, rfl, k3, k4, _⟩ := this
    rw [Tr.canon k3 (u := .leaf k1 v1) F1.out.1 fun e => by rw [k4]; simp [Tr.ents, Tr.entsO]]
    rfl
  have hneq9 : ∀ W, (binOp .neq 29 (.agg (sumA (sumT (.leaf k1 v1)))) (.agg (sumA (sumT (.leaf k1 v1))))).run Try.prog W = .ok (.bool false) W := fun W => by rw [sumA_neq (sumT_len _) (sumT_len _)]; simp
  have H9 := Lib.hid (And.intro h9 (And.intro ho1 sb9))
  clear h9 ho1 sb9
  refine wp_region_mix (Cls [b9] _) [([0, 1, 2, 3, 5], 4)] [6, 7] (by kernel_rfl) (by kernel_rfl) (Cls.refl _ _) ?_
  try dsimp only [wpMix, wpSegs, pick, List.getElem?_cons_zero, List.getElem?_cons_succ]
  generalize hz : Act.mk _ _ = z
  repeat (first | (subst hz; (refine wpQuiet_load_row 29 _ rfl (by kernel_rfl) b9 rfl 29 (sumA (sumT (.leaf k1 v1))) (0, 0) _ Hrow9.out Try.underlying29 rfl (info_sum (sumT_len _)) ?_); generalize hz : Act.put _ _ _ = z) | (refine wpQuiet_step (fun K hK => ?_); replace hK := Lib.hid hK; subst hz; go_simp; generalize hz : Act.mk _ _ = z; refine hK.out z ?_; clear hK K) | (refine wpQuiet_step (fun K hK => ?_); replace hK := Lib.hid hK; subst hz; refine iteSkip (by kernel_rfl) ?_; go_simp; generalize hz : Act.mk _ _ = z; refine hK.out z ?_; clear hK K))
  try refine wpQuiet_nil ?_
  subst hz
  try dsimp only [NoPan]
  go_wp2_with fail
  refine (tm_root (H9.out.1.still (Ext.refl _ _).drew)).mono ?_
  rintro e w10 ⟨rfl, h10, x10⟩
  rw [sumV_A, H9.out.2.1]
  obtain ⟨a0, a1, b0, b1⟩ := HA.out w10 h10.2.2
  have s10 := x10.heap (show w9.drew.heap[b9]? = _ from H9.out.2.2) id
  have H10 := Lib.hid (And.intro h10 (And.intro x10 s10))
  clear h10 x10 s10 a0' a1' b0' b1'
  go_wp2_with fail
  refine ⟨Cls.of_ext H10.out.2.1 fun q hq => ⟨by simp at hq; subst hq; exact lb9, id⟩, ?_⟩
  try dsimp only [wpMix, wpSegs, pick, List.getElem?_cons_zero, List.getElem?_cons_succ]
  generalize hz : Act.mk _ _ = z
  repeat (first | (subst hz; (refine wpQuiet_load_row 29 _ rfl (by kernel_rfl) b9 rfl 29 (sumA (sumT (.leaf k1 v1))) (0, 0) _ Hrow9.out Try.underlying29 rfl (info_sum (sumT_len _)) ?_); generalize hz : Act.put _ _ _ = z) | (refine wpQuiet_step (fun K hK => ?_); replace hK := Lib.hid hK; subst hz; go_simp; generalize hz : Act.mk _ _ = z; refine hK.out z ?_; clear hK K) | (refine wpQuiet_step (fun K hK => ?_); replace hK := Lib.hid hK; subst hz; refine iteSkip (by kernel_rfl) ?_; go_simp; generalize hz : Act.mk _ _ = z; refine hK.out z ?_; clear hK K))
  try refine wpQuiet_nil ?_
  subst hz
  try dsimp only [NoPan]
  go_wp2_with fail
  have y10 := HW.out.1.trans H10.out.1.2.2
  refine (tm_put (k := k2) (v := v2) H10.out.1 (HB.out.2.1.same y10) (HB.out.2.2.same y10) F1.out.2).mono ?_
  rintro e w11 ⟨o2, rfl, p2, h11, x11⟩
  obtain ⟨a0', a1', b0', b1'⟩ := HA.out w11 h11.2.2
  have hc9 : c ≠ b9 := fun e => by
    have h1 := H10.out.2.2
    obtain ⟨⟨D', hT, _⟩, _⟩ := H10.out.1
    obtain ⟨r, hr, _⟩ := hT.root
    rw [e] at hr
    rw [h1] at hr
    have := congrArg (fun o => o.map fun o => match o with | Obj.cells cs _ _ => cs.size | _ => 0) hr
    simp [sumA_size (sumT_len _)] at this
  have s11 := x11.heap H10.out.2.2 fun e => hc9 e.symm
  have y11 := HW.out.1.trans h11.2.2
  have H11 := Lib.hid (And.intro p2 (And.intro h11 (And.intro y11 s11)))
  clear p2 h11 x11 y11 s11 a0 a1 b0 b1 y10
  by_cases f2 : k2.length ≤ 120 ∧ v2.length ≤ 1200
  case neg =>
    rw [show putE k2 v2 = 2 by rw [putE, if_neg f2]]
    have ho : rootS o2 = sumT (.leaf k1 v1) := by
      have := H11.out.1
      unfold PutO at this
      rw [if_neg f2] at this
      rw [this]
      exact H9.out.2.1
    have l9 := lt_of_heap H11.out.2.2.2
    have Hrow11 := Lib.hid (cls_heap (D := [b9]) (w0 := w11.drew) (by simp) H11.out.2.2.2)
    have heq : ∀ W, (binOp .eql 29 (.agg (sumA (sumT (.leaf k1 v1)))) (.agg (sumA (sumT (.leaf k1 v1))))).run Try.prog W = .ok (.bool true) W := fun W => by rw [sumA_eql (sumT_len _) (sumT_len _)]; simp
    have HO := Lib.hid ho
    clear f2 ho
    go_wp2_with fail
    refine wp_region_mix (Cls [b9] _) [([0, 2], 1)] [3, 4] (by kernel_rfl) (by kernel_rfl) (Cls.refl _ _) ?_
    try dsimp only [wpMix, wpSegs, pick, List.getElem?_cons_zero, List.getElem?_cons_succ]
    generalize hz : Act.mk _ _ = z
    repeat (first | (subst hz; (refine wpQuiet_load_row 29 _ rfl (by kernel_rfl) b9 rfl 29 (sumA (sumT (.leaf k1 v1))) (0, 0) _ Hrow11.out Try.underlying29 rfl (info_sum (sumT_len _)) ?_); generalize hz : Act.put _ _ _ = z) | (refine wpQuiet_step (fun K hK => ?_); replace hK := Lib.hid hK; subst hz; go_simp; generalize hz : Act.mk _ _ = z; refine hK.out z ?_; clear hK K) | (refine wpQuiet_step (fun K hK => ?_); replace hK := Lib.hid hK; subst hz; refine iteSkip (by kernel_rfl) ?_; go_simp; generalize hz : Act.mk _ _ = z; refine hK.out z ?_; clear hK K))
    try refine wpQuiet_nil ?_
    subst hz
    try dsimp only [NoPan]
    go_wp2_with fail
    refine (tm_root (H11.out.2.1.still (Ext.refl _ _).drew)).mono ?_
    rintro e w12 ⟨rfl, h12, x12⟩
    rw [sumV_A, HO.out]
    have H12 := Lib.hid (And.intro h12 x12)
    clear h12 x12
    go_wp2_with fail
    refine ⟨Cls.of_ext H12.out.2 fun q hq => ⟨by simp at hq; subst hq; exact l9, id⟩, ?_⟩
    try dsimp only [wpMix, wpSegs, pick, List.getElem?_cons_zero, List.getElem?_cons_succ]
    generalize hz : Act.mk _ _ = z
    repeat (first | (subst hz; (refine wpQuiet_load_row 29 _ rfl (by kernel_rfl) b9 rfl 29 (sumA (sumT (.leaf k1 v1))) (0, 0) _ Hrow11.out Try.underlying29 rfl (info_sum (sumT_len _)) ?_); generalize hz : Act.put _ _ _ = z) | (refine wpQuiet_step (fun K hK => ?_); replace hK := Lib.hid hK; subst hz; go_simp; generalize hz : Act.mk _ _ = z; refine hK.out z ?_; clear hK K) | (refine wpQuiet_step (fun K hK => ?_); replace hK := Lib.hid hK; subst hz; refine iteSkip (by kernel_rfl) ?_; go_simp; generalize hz : Act.mk _ _ = z; refine hK.out z ?_; clear hK K))
    try refine wpQuiet_nil ?_
    subst hz
    try dsimp only [NoPan]
    go_wp2_with fail
    go_ret
    exact ⟨rfl, HW.out.1.trans H12.out.1.2.2⟩
  rw [show putE k2 v2 = 0 by rw [putE, if_pos f2]]
  obtain ⟨N, n1, n2, n3, n4⟩ := (two_tree F1.out.1 f2 H7.out.1 H11.out.1 HNE.out).2
  have F2 := Lib.hid (And.intro f2 (And.intro n2 (And.intro n3 n4)))
  clear f2 n2 n3 n4
  go_wp2_with fail
  have HX2 := Lib.hid (fun o : Obj => (Ext.refl (fun _ => False) w11).alloc o)
  refine (of_leaf_walk ((HB.out.2.1.same H11.out.2.2.1).same (HX2.out _)) ((HB.out.2.2.same H11.out.2.2.1).same (HX2.out _)) (by have := F2.out.1.1; omega) (by have := F2.out.1.2; omega) (heap_alloc_self _ _)).mono ?_
  rintro e w12 ⟨rfl, x12⟩
  have h12 := (H11.out.2.1.still (HX2.out _)).still x12
  have s12 := ((HX2.out _).trans x12).heap H11.out.2.2.2 id
  have H12 := Lib.hid (And.intro h12 s12)
  clear x12 h12 s12
  go_wp2_with (refine wpList_store_row rfl 29 _ _ rfl w12.heap.size (sumA (sumT (.leaf k2 v2))) rfl rfl 29 _ (heap_alloc_self _ _) (info_sum (sumT_len _)) (by rw [sumA_size (sumT_len _)]; rfl) (sumA_one _) ?_)
  generalize hw13 : (w12.alloc _).setRow _ (sumA (sumT (.leaf k2 v2))) = w13
  have sb13 : w13.heap[w12.heap.size]? = some (.cells (sumA (sumT (.leaf k2 v2))) 29 (0, 0)) := by rw [← hw13]; exact (sum_new w12).1
  have h13 : TM W1 w13 c o2 ∧ w13.heap[b9]? = some (.cells (sumA (sumT (.leaf k1 v1))) 29 (0, 0)) := by rw [← hw13]; exact ⟨H12.out.1.still (sum_new w12).2, (sum_new w12).2.heap H12.out.2 id⟩
  clear H12
  clear hw13
  generalize w12.heap.size = b13 at *
  have lb13 := lt_of_heap sb13
  obtain ⟨a0, a1, b0, b1⟩ := HA.out w13 h13.1.2.2
  have H13 := Lib.hid (And.intro h13.1 (And.intro h13.2 sb13))
  clear h13 sb13
  have HW13 := Lib.hid (HW.out.1.trans H13.out.1.2.2)
  have hN : N < 1080 := n1
  have hwl : w.heap.size + 1 < w13.heap.size := by have := H13.out.1.2.2.size; have := HW.out.2; omega
  go_loopw [11] (fun i W => ∃ k : Nat, k ≤ N ∧ i = .int .i64 k ∧ Ext (fun _ => False) w13 W) (fun i _ => N - (intOf i).toNat)
  case atStart => exact ⟨0, Nat.zero_le _, rfl, Ext.refl _ _⟩
  case round =>
    obtain ⟨k, hkN, rfl, hx⟩ := hrel
    obtain ⟨a0', a1', b0', b1'⟩ := HA.out _ (H13.out.1.2.2.trans hx)
    have hk1080 : decide ((k : Int) < 1080) = true := by simp; omega
    have HR := Lib.hid hx
    have hwl' : w.heap.size + 1 < wr.heap.size := Nat.lt_of_lt_of_le hwl hx.size
    have hwl'' : w.heap.size < wr.heap.size := by omega
    clear hx a0 a1 b0 b1
    go_wp2_with fail
    refine wp_region_bar (Cls [w.heap.size, w.heap.size + 1] _) [([0, 1, 2, 3, 4, 5, 7, 8, 9], 6)] [] 10 [] [11, 12] (by kernel_rfl) (by kernel_rfl) (Cls.refl _ _) ?_
    try dsimp only [wpMix, wpSegs, pick, List.getElem?_cons_zero, List.getElem?_cons_succ]
    generalize hz : Act.mk _ _ = z
    repeat (first | (refine wpQuiet_step (fun K hK => ?_); replace hK := Lib.hid hK; subst hz; go_simp; generalize hz : Act.mk _ _ = z; refine hK.out z ?_; clear hK K) | (refine wpQuiet_step (fun K hK => ?_); replace hK := Lib.hid hK; subst hz; refine iteSkip (by kernel_rfl) ?_; go_simp; generalize hz : Act.mk _ _ = z; refine hK.out z ?_; clear hK K))
    try refine wpQuiet_nil ?_
    subst hz
    try dsimp only [NoPan]
    go_wp2_with fail
    refine (bit_walk (HB.out.1.1.same (HW13.out.trans HR.out.drew)) (by omega) (k : Int)).mono ?_
    rintro e _ ⟨rfl, rfl⟩
    rw [bitI_nat]
    go_wp2_with fail
    refine ⟨Cls.refl _ _, ?_⟩
    try dsimp only [wpMix, wpSegs, pick, List.getElem?_cons_zero, List.getElem?_cons_succ]
    generalize hz : Act.mk _ _ = z
    repeat (first | (refine wpQuiet_step (fun K hK => ?_); replace hK := Lib.hid hK; subst hz; go_simp; generalize hz : Act.mk _ _ = z; refine hK.out z ?_; clear hK K) | (refine wpQuiet_step (fun K hK => ?_); replace hK := Lib.hid hK; subst hz; refine iteSkip (by kernel_rfl) ?_; go_simp; generalize hz : Act.mk _ _ = z; refine hK.out z ?_; clear hK K))
    try refine wpQuiet_nil ?_
    subst hz
    try dsimp only [NoPan]
    go_wp2_with fail
    refine (bit_walk (HB.out.2.1.same (HW13.out.trans HR.out.drew)) (by omega) (k : Int)).mono ?_
    rintro e _ ⟨rfl, rfl⟩
    rw [bitI_nat]
    by_cases hkN' : k = N
    case neg =>
      have hbe : (bitB k1 k == bitB k2 k) = true := by rw [F2.out.2.2.1 k (by omega)]; simp
      go_wp2_with fail
      try dsimp only [wpMix, wpSegs, pick, List.getElem?_cons_zero, List.getElem?_cons_succ]
      generalize hz : Act.mk _ _ = z
      repeat (first | (refine wpQuiet_step (fun K hK => ?_); replace hK := Lib.hid hK; subst hz; go_simp; generalize hz : Act.mk _ _ = z; refine hK.out z ?_; clear hK K) | (refine wpQuiet_step (fun K hK => ?_); replace hK := Lib.hid hK; subst hz; refine iteSkip (by kernel_rfl) ?_; go_simp; generalize hz : Act.mk _ _ = z; refine hK.out z ?_; clear hK K))
      try refine wpQuiet_nil ?_
      subst hz
      try dsimp only [NoPan]
      go_wp2_with fail
      exact ⟨⟨k + 1, by omega, by go_num, HR.out.drew⟩, by simp [intOf]; omega⟩
    subst hkN'
    have hbe : (bitB k1 k == bitB k2 k) = false := by simpa using F2.out.2.1
    go_wp2_with fail
    try dsimp only [wpMix, wpSegs, pick, List.getElem?_cons_zero, List.getElem?_cons_succ]
    generalize hz : Act.mk _ _ = z
    repeat (first | (refine wpQuiet_step (fun K hK => ?_); replace hK := Lib.hid hK; subst hz; go_simp; generalize hz : Act.mk _ _ = z; refine hK.out z ?_; clear hK K) | (refine wpQuiet_step (fun K hK => ?_); replace hK := Lib.hid hK; subst hz; refine iteSkip (by kernel_rfl) ?_; go_simp; generalize hz : Act.mk _ _ = z; refine hK.out z ?_; clear hK K))
    try refine wpQuiet_nil ?_
    subst hz
    try dsimp only [NoPan]
    have s9 := HR.out.drew.heap H13.out.2.1 id
    have s13 := HR.out.drew.heap H13.out.2.2 id
    have h14 := H13.out.1.still HR.out.drew
    generalize wr.drew = w14 at *
    have H14 := Lib.hid (And.intro s9 (And.intro s13 h14))
    clear s9 s13 h14 hbe hk1080 a0' a1' b0' b1'
    go_wp2_with (first | (refine wpList_load_row rfl 29 (.tmp 9) rfl b9 rfl 29 (sumA (sumT (.leaf k1 v1))) (0, 0) _ H14.out.1 Try.underlying29 rfl (info_sum (sumT_len _)) ?_; rename_i ax; have HAx := Lib.hid ax; clear ax) | refine wpList_store_row rfl 29 (.tmp 12) _ rfl w14.heap.size (sumA (sumT (.leaf k1 v1))) rfl rfl 29 _ (heap_alloc_self _ _) (info_sum (sumT_len _)) (by rw [sumA_size (sumT_len _)]; rfl) (sumA_one _) ?_)
    refine HAx.out _ _ ?_
    clear HAx
    generalize hw15 : (w14.alloc _).setRow _ (sumA (sumT (.leaf k1 v1))) = w15
    have s12 : w15.heap[w14.heap.size]? = some (.cells (sumA (sumT (.leaf k1 v1))) 29 (0, 0)) := by rw [← hw15]; exact (sum_new w14).1
    have x15 : Ext (fun _ => False) w14 w15 := by rw [← hw15]; exact (sum_new w14).2
    have hl14 : w14.heap.size < w15.heap.size := lt_of_heap s12
    have H15 := Lib.hid (And.intro (x15.heap H14.out.1 id) (And.intro (x15.heap H14.out.2.1 id) (And.intro s12 x15)))
    clear hw15 s12 x15
    generalize hb12 : w14.heap.size = b12 at *
    have HB12 := Lib.hid hb12
    clear hb12
    go_wp2_with (first | (refine wpList_load_row rfl 29 (.tmp 10) rfl b13 rfl 29 (sumA (sumT (.leaf k2 v2))) (0, 0) _ H15.out.2.1 Try.underlying29 rfl (info_sum (sumT_len _)) ?_; rename_i ax; have HAx := Lib.hid ax; clear ax) | refine wpList_store_row rfl 29 (.tmp 13) _ rfl w15.heap.size (sumA (sumT (.leaf k2 v2))) rfl rfl 29 _ (heap_alloc_self _ _) (info_sum (sumT_len _)) (by rw [sumA_size (sumT_len _)]; rfl) (sumA_one _) ?_)
    refine HAx.out _ _ ?_
    clear HAx
    generalize hw16 : (w15.alloc _).setRow _ (sumA (sumT (.leaf k2 v2))) = w16
    have s13 : w16.heap[w15.heap.size]? = some (.cells (sumA (sumT (.leaf k2 v2))) 29 (0, 0)) := by rw [← hw16]; exact (sum_new w15).1
    have x16 : Ext (fun _ => False) w15 w16 := by rw [← hw16]; exact (sum_new w15).2
    have hl16 := lt_of_heap s13
    have H16 := Lib.hid (And.intro (x16.heap H15.out.1 id) (And.intro (x16.heap H15.out.2.1 id) (And.intro (x16.heap H15.out.2.2.1 id) (And.intro s13 (H15.out.2.2.2.trans x16)))))
    clear hw16 s13 x16
    generalize hb13' : w15.heap.size = b13' at *
    have HB13' := Lib.hid hb13'
    clear hb13'
    obtain ⟨a0, a1, b0, b1⟩ := HA.out w16 (H14.out.2.2.2.2.trans H16.out.2.2.2.2)
    have h9l := lt_of_heap H16.out.1
    have h13l := lt_of_heap H16.out.2.1
    have h9n : b9 ≠ b12 := by have := lt_of_heap H14.out.1; have := HB12.out; omega
    go_wp2_with fail
    refine (bit_walk (HB.out.1.1.same ((HW.out.1.trans H14.out.2.2.2.2).trans H16.out.2.2.2.2)) (by omega) (k : Int)).mono ?_
    rintro e _ ⟨rfl, rfl⟩
    rw [bitI_nat]
    cases hb : bitB k1 k with
    | true =>
      have HBK := Lib.hid hb
      clear hb
      go_wp2_with (first | (refine wpList_load_row rfl 29 (.tmp 10) rfl b13 rfl 29 (sumA (sumT (.leaf k2 v2))) (0, 0) _ H16.out.2.1 Try.underlying29 rfl (info_sum (sumT_len _)) ?_; rename_i ax; have HAx := Lib.hid ax; clear ax) | refine wpList_store_row rfl 29 (.tmp 12) _ rfl b12 (sumA (sumT (.leaf k2 v2))) rfl rfl 29 _ H16.out.2.2.1 (info_sum (sumT_len _)) (by rw [sumA_size (sumT_len _), sumA_size (sumT_len _)]) (sumA_one _) ?_)
      refine HAx.out _ _ ?_
      clear HAx
      have y17 : Ext (· = b12) w16 (w16.setRow b12 (sumA (sumT (.leaf k2 v2)))) := (Ext.refl (· = b12) w16).setRow (.inl rfl) _
      have s17 : (w16.setRow b12 (sumA (sumT (.leaf k2 v2)))).heap[b12]? = some (.cells (sumA (sumT (.leaf k2 v2))) 29 (0, 0)) := setRow_heap _ _ _ _ _ _ H16.out.2.2.1
      have s17b : (w16.setRow b12 (sumA (sumT (.leaf k2 v2)))).heap[b13']? = some (.cells (sumA (sumT (.leaf k2 v2))) 29 (0, 0)) := y17.heap H16.out.2.2.2.1 (by omega)
      have s17c : (w16.setRow b12 (sumA (sumT (.leaf k2 v2)))).heap[b9]? = some (.cells (sumA (sumT (.leaf k1 v1))) 29 (0, 0)) := y17.heap H16.out.1 h9n
      generalize w16.setRow b12 (sumA (sumT (.leaf k2 v2))) = w17 at *
      have H17 := Lib.hid (And.intro s17 (And.intro s17b (And.intro s17c y17)))
      clear s17 s17b s17c y17
      go_wp2_with (first | (refine wpList_load_row rfl 29 (.tmp 9) rfl b9 rfl 29 (sumA (sumT (.leaf k1 v1))) (0, 0) _ H17.out.2.2.1 Try.underlying29 rfl (info_sum (sumT_len _)) ?_) | refine wpList_store_row rfl 29 (.tmp 13) _ rfl b13' (sumA (sumT (.leaf k1 v1))) rfl rfl 29 _ H17.out.2.1 (info_sum (sumT_len _)) (by rw [sumA_size (sumT_len _), sumA_size (sumT_len _)]) (sumA_one _) ?_)
      have y18 : Ext (· = b13') w17 (w17.setRow b13' (sumA (sumT (.leaf k1 v1)))) := (Ext.refl (· = b13') w17).setRow (.inl rfl) _
      have s18 : (w17.setRow b13' (sumA (sumT (.leaf k1 v1)))).heap[b13']? = some (.cells (sumA (sumT (.leaf k1 v1))) 29 (0, 0)) := setRow_heap _ _ _ _ _ _ H17.out.2.1
      have s18b : (w17.setRow b13' (sumA (sumT (.leaf k1 v1)))).heap[b12]? = some (.cells (sumA (sumT (.leaf k2 v2))) 29 (0, 0)) := y18.heap H17.out.1 (by omega)
      have x18 : Ext (fun q => q = b12 ∨ q = b13') w16 (w17.setRow b13' (sumA (sumT (.leaf k1 v1)))) := (H17.out.2.2.2.mono fun _ _ => .inl).trans (y18.mono fun _ _ => .inr)
      generalize w17.setRow b13' (sumA (sumT (.leaf k1 v1))) = w18 at *
      have h18 := H14.out.2.2.far H16.out.2.2.2.2 x18 (by have := HB12.out; rintro q (rfl | rfl) <;> omega)
      have H18 := Lib.hid (And.intro s18b (And.intro s18 h18))
      clear s18b s18 h18 x18 y18
      have hroot : rootS o2 = sumT (.fork k (.leaf k2 v2) (.leaf k1 v1)) := by rw [F2.out.2.2.2, HBK.out, if_pos rfl]; rfl
      have hcnt : (Tr.entsO o2).length = 2 := by rw [F2.out.2.2.2, HBK.out, if_pos rfl]; rfl
      have HRC := Lib.hid (And.intro hroot hcnt)
      clear hroot hcnt
      have l12 : b12 < w18.drew.heap.size := lt_of_heap (show w18.drew.heap[b12]? = _ from H18.out.1)
      have HX0 := Lib.hid (Ext.refl (fun _ => False) w18.drew)
      refine wp_region_tree (Cls [b12] _) (.two [0, 2, 3] 1 (.two [] 4 (.two [] 5 (.one [6, 7, 8] 9 (.one [] 10 (.last [11]))) 9 (.one [] 5 (.one [6, 7, 8] 10 (.last [11])))) 9 (.one [] 4 (.one [] 5 (.one [6, 7, 8] 10 (.last [11]))))) 9 (.one [] 1 (.one [] 4 (.one [] 5 (.one [6, 7, 8] 10 (.last [11])))))) (by kernel_rfl) (by kernel_rfl) (Cls.refl _ _) ?_
      try dsimp only [wpM, wpSegs, pick, List.getElem?_cons_zero, List.getElem?_cons_succ]
      generalize hz : Act.mk _ _ = z
      repeat (first | (refine wpQuiet_step (fun K hK => ?_); replace hK := Lib.hid hK; subst hz; go_simp; generalize hz : Act.mk _ _ = z; refine hK.out z ?_; clear hK K) | (refine wpQuiet_step (fun K hK => ?_); replace hK := Lib.hid hK; subst hz; refine iteSkip (by kernel_rfl) ?_; go_simp; generalize hz : Act.mk _ _ = z; refine hK.out z ?_; clear hK K))
      try refine wpQuiet_nil ?_
      subst hz
      try dsimp only [NoPan]
      replace H18 := Lib.hid (And.intro (show w18.drew.heap[b12]? = _ from H18.out.1) (And.intro (show w18.drew.heap[b13']? = _ from H18.out.2.1) (H18.out.2.2.still (Ext.refl _ _).drew)))
      generalize w18.drew = wc0 at *
      refine ⟨?_, ?_⟩
      · skip
        go_wp2_with fail
        refine (num_walk _ k).mono ?_
        rintro e wc1 ⟨nv, rfl, f⟩
        obtain ⟨An, cn, rfl⟩ := f.own.formv
        have HF := Lib.hid (Byt.any f.own.byt)
        have xx := f.ext
        clear f
        have HX1 := Lib.hid (HX0.out.trans xx)
        clear xx
        go_wp2_with fail
        refine ⟨Cls.of_ext HX1.out fun q hq => ⟨by simp at hq; subst hq; exact lt_of_heap H18.out.1, id⟩, ?_⟩
        try dsimp only [wpM, wpSegs, pick, List.getElem?_cons_zero, List.getElem?_cons_succ]
        generalize hz : Act.mk _ _ = z
        repeat (first | (refine wpQuiet_step (fun K hK => ?_); replace hK := Lib.hid hK; subst hz; go_simp; generalize hz : Act.mk _ _ = z; refine hK.out z ?_; clear hK K) | (refine wpQuiet_step (fun K hK => ?_); replace hK := Lib.hid hK; subst hz; refine iteSkip (by kernel_rfl) ?_; go_simp; generalize hz : Act.mk _ _ = z; refine hK.out z ?_; clear hK K))
        try refine wpQuiet_nil ?_
        subst hz
        try dsimp only [NoPan]
        refine ⟨?_, ?_⟩
        · skip
          go_wp2_with fail
          generalize hwb : World.alloc wc1 _ = wc2
          have gb : wc2.heap[wc1.heap.size]? = some (.cells #[.slice An (beB k 8).length cn, .slice (some ⟨b12, 0, none⟩) 32 32, .slice (some ⟨b13', 0, none⟩) 32 32] 22 (0, 0)) := by rw [← hwb]; exact heap_alloc_self _ _
          have xx : Ext (fun _ => False) wc1 wc2 := by rw [← hwb]; exact (Ext.refl _ _).alloc _
          clear hwb
          have HX2 := Lib.hid (HX1.out.trans xx)
          replace HF := Lib.hid (HF.out.same xx)
          clear xx
          generalize wc1.heap.size = bB at *
          refine ⟨Cls.of_ext HX2.out fun q hq => ⟨by simp at hq; subst hq; exact lt_of_heap H18.out.1, id⟩, ?_⟩
          try dsimp only [wpM, wpSegs, pick, List.getElem?_cons_zero, List.getElem?_cons_succ]
          generalize hz : Act.mk _ _ = z
          repeat (first | (refine wpQuiet_step (fun K hK => ?_); replace hK := Lib.hid hK; subst hz; go_simp; generalize hz : Act.mk _ _ = z; refine hK.out z ?_; clear hK K) | (refine wpQuiet_step (fun K hK => ?_); replace hK := Lib.hid hK; subst hz; refine iteSkip (by kernel_rfl) ?_; go_simp; generalize hz : Act.mk _ _ = z; refine hK.out z ?_; clear hK K))
          try refine wpQuiet_nil ?_
          subst hz
          try dsimp only [NoPan]
          refine ⟨?_, ?_⟩
          · skip
            go_wp2_with fail
            refine (of_fork_walk (l := (.leaf k2 v2)) (r := (.leaf k1 v1)) (b := k) HF.out (sum_slice (HX2.out.heap H18.out.1 id) (sumT_len _)) (sum_slice (HX2.out.heap H18.out.2.1 id) (sumT_len _)) gb).mono ?_
            rintro e wc3 ⟨rfl, xx⟩
            have HX3 := Lib.hid (HX2.out.trans xx)
            clear xx gb
            go_wp2_with fail
            refine ⟨Cls.of_ext HX3.out fun q hq => ⟨by simp at hq; subst hq; exact lt_of_heap H18.out.1, id⟩, ?_⟩
            try dsimp only [wpM, wpSegs, pick, List.getElem?_cons_zero, List.getElem?_cons_succ]
            generalize hz : Act.mk _ _ = z
            repeat (first | (refine wpQuiet_step (fun K hK => ?_); replace hK := Lib.hid hK; subst hz; go_simp; generalize hz : Act.mk _ _ = z; refine hK.out z ?_; clear hK K) | (refine wpQuiet_step (fun K hK => ?_); replace hK := Lib.hid hK; subst hz; refine iteSkip (by kernel_rfl) ?_; go_simp; generalize hz : Act.mk _ _ = z; refine hK.out z ?_; clear hK K))
            try refine wpQuiet_nil ?_
            subst hz
            try dsimp only [NoPan]
            go_wp2_with fail
            generalize hwa : World.alloc wc3 _ = wc4
            have ga : wc4.heap[wc3.heap.size]? = some (.cells ((List.replicate 32 (0 : UInt8)).map byteV).toArray 29 (0, 0)) := by rw [← hwa]; exact heap_alloc_self _ _
            have xx : Ext (fun _ => False) wc3 wc4 := by rw [← hwa]; exact (Ext.refl _ _).alloc _
            clear hwa
            have HX4 := Lib.hid (HX3.out.trans xx)
            have lA : wc0.heap.size ≤ wc3.heap.size := HX3.out.size
            clear xx
            generalize wc3.heap.size = bA at *
            refine ⟨Cls.of_ext HX4.out fun q hq => ⟨by simp at hq; subst hq; exact lt_of_heap H18.out.1, id⟩, ?_⟩
            try dsimp only [wpM, wpSegs, pick, List.getElem?_cons_zero, List.getElem?_cons_succ]
            generalize hz : Act.mk _ _ = z
            repeat (first | (refine wpQuiet_step (fun K hK => ?_); replace hK := Lib.hid hK; subst hz; go_simp; generalize hz : Act.mk _ _ = z; refine hK.out z ?_; clear hK K) | (refine wpQuiet_step (fun K hK => ?_); replace hK := Lib.hid hK; subst hz; refine iteSkip (by kernel_rfl) ?_; go_simp; generalize hz : Act.mk _ _ = z; refine hK.out z ?_; clear hK K))
            try refine wpQuiet_nil ?_
            subst hz
            try dsimp only [NoPan]
            have GA := Lib.hid ga
            clear ga
            go_wp2_with (refine wpList_store_row rfl 29 _ _ rfl bA (sumA (sumT (.fork k (.leaf k2 v2) (.leaf k1 v1)))) rfl rfl 29 _ GA.out (info_sum (sumT_len _)) (by rw [sumA_size (sumT_len _)]; rfl) (sumA_one _) ?_)
            have xx : Ext (fun _ => False) wc0 (wc4.setRow bA (sumA (sumT (.fork k (.leaf k2 v2) (.leaf k1 v1))))) := HX4.out.setRow (.inr lA) _
            have s20 : (wc4.setRow bA (sumA (sumT (.fork k (.leaf k2 v2) (.leaf k1 v1))))).heap[bA]? = some (.cells (sumA (sumT (.fork k (.leaf k2 v2) (.leaf k1 v1)))) 29 (0, 0)) := setRow_heap _ _ _ _ _ _ GA.out
            generalize wc4.setRow bA (sumA (sumT (.fork k (.leaf k2 v2) (.leaf k1 v1)))) = w20 at *
            have HX5 := Lib.hid xx
            have h20 := H18.out.2.2.still xx
            have lA20 := lt_of_heap s20
            have Hrow20 := Lib.hid (cls_heap (D := [bA]) (w0 := w20.drew) (by simp) s20)
            have H20 := Lib.hid h20
            clear xx h20 s20 GA
            refine ⟨Cls.of_ext HX5.out fun q hq => ⟨by simp at hq; subst hq; exact lt_of_heap H18.out.1, id⟩, ?_⟩
            try dsimp only [wpM, wpSegs, pick, List.getElem?_cons_zero, List.getElem?_cons_succ]
            generalize hz : Act.mk _ _ = z
            repeat (first | (refine wpQuiet_step (fun K hK => ?_); replace hK := Lib.hid hK; subst hz; go_simp; generalize hz : Act.mk _ _ = z; refine hK.out z ?_; clear hK K) | (refine wpQuiet_step (fun K hK => ?_); replace hK := Lib.hid hK; subst hz; refine iteSkip (by kernel_rfl) ?_; go_simp; generalize hz : Act.mk _ _ = z; refine hK.out z ?_; clear hK K))
            try refine wpQuiet_nil ?_
            subst hz
            try dsimp only [NoPan]
            go_wp2_with fail
            have heq : ∀ W, (binOp .eql 29 (.agg (sumA (sumT (.fork k (.leaf k2 v2) (.leaf k1 v1))))) (.agg (sumA (sumT (.fork k (.leaf k2 v2) (.leaf k1 v1)))))).run Try.prog W = .ok (.bool true) W := fun W => by rw [sumA_eql (sumT_len _) (sumT_len _)]; simp
            refine wp_region_bar (Cls [bA] _) [([0, 1, 2, 3, 4, 5, 6, 7, 9], 8)] [10, 11, 12, 13] 14 [] [15, 16, 17] (by kernel_rfl) (by kernel_rfl) (Cls.refl _ _) ?_
            try dsimp only [wpMix, wpSegs, pick, List.getElem?_cons_zero, List.getElem?_cons_succ]
            generalize hz : Act.mk _ _ = z
            repeat (first | (subst hz; (refine wpQuiet_load_row 29 _ rfl (by kernel_rfl) bA rfl 29 (sumA (sumT (.fork k (.leaf k2 v2) (.leaf k1 v1)))) (0, 0) _ Hrow20.out Try.underlying29 rfl (info_sum (sumT_len _)) ?_); generalize hz : Act.put _ _ _ = z) | (refine wpQuiet_step (fun K hK => ?_); replace hK := Lib.hid hK; subst hz; go_simp; generalize hz : Act.mk _ _ = z; refine hK.out z ?_; clear hK K) | (refine wpQuiet_step (fun K hK => ?_); replace hK := Lib.hid hK; subst hz; refine iteSkip (by kernel_rfl) ?_; go_simp; generalize hz : Act.mk _ _ = z; refine hK.out z ?_; clear hK K))
            try refine wpQuiet_nil ?_
            subst hz
            try dsimp only [NoPan]
            go_wp2_with fail
            refine (tm_root (H20.out.still (Ext.refl _ _).drew)).mono ?_
            rintro e w21 ⟨rfl, h21, x21⟩
            rw [sumV_A, HRC.out.1]
            have H21 := Lib.hid (And.intro h21 x21)
            clear h21 x21
            go_wp2_with fail
            refine ⟨Cls.of_ext H21.out.2 fun q hq => ⟨by simp at hq; subst hq; exact lA20, id⟩, ?_⟩
            try dsimp only [wpMix, wpSegs, pick, List.getElem?_cons_zero, List.getElem?_cons_succ]
            generalize hz : Act.mk _ _ = z
            repeat (first | (subst hz; (refine wpQuiet_load_row 29 _ rfl (by kernel_rfl) bA rfl 29 (sumA (sumT (.fork k (.leaf k2 v2) (.leaf k1 v1)))) (0, 0) _ Hrow20.out Try.underlying29 rfl (info_sum (sumT_len _)) ?_); generalize hz : Act.put _ _ _ = z) | (refine wpQuiet_step (fun K hK => ?_); replace hK := Lib.hid hK; subst hz; go_simp; generalize hz : Act.mk _ _ = z; refine hK.out z ?_; clear hK K) | (refine wpQuiet_step (fun K hK => ?_); replace hK := Lib.hid hK; subst hz; refine iteSkip (by kernel_rfl) ?_; go_simp; generalize hz : Act.mk _ _ = z; refine hK.out z ?_; clear hK K))
            try refine wpQuiet_nil ?_
            subst hz
            try dsimp only [NoPan]
            go_wp2_with fail
            refine (tm_count H21.out.1).mono ?_
            rintro e _ ⟨rfl, rfl⟩
            rw [HRC.out.2]
            go_wp2_with fail
            try dsimp only [wpMix, wpSegs, pick, List.getElem?_cons_zero, List.getElem?_cons_succ]
            generalize hz : Act.mk _ _ = z
            repeat (first | (subst hz; (refine wpQuiet_load_row 29 _ rfl (by kernel_rfl) bA rfl 29 (sumA (sumT (.fork k (.leaf k2 v2) (.leaf k1 v1)))) (0, 0) _ Hrow20.out Try.underlying29 rfl (info_sum (sumT_len _)) ?_); generalize hz : Act.put _ _ _ = z) | (refine wpQuiet_step (fun K hK => ?_); replace hK := Lib.hid hK; subst hz; go_simp; generalize hz : Act.mk _ _ = z; refine hK.out z ?_; clear hK K) | (refine wpQuiet_step (fun K hK => ?_); replace hK := Lib.hid hK; subst hz; refine iteSkip (by kernel_rfl) ?_; go_simp; generalize hz : Act.mk _ _ = z; refine hK.out z ?_; clear hK K))
            try refine wpQuiet_nil ?_
            subst hz
            try dsimp only [NoPan]
            go_wp2_with fail
            go_ret
            exact ⟨rfl, HW.out.1.trans H21.out.1.2.2⟩
          · skip
            go_wp2_with fail
            generalize hwa : World.alloc wc2 _ = wc3
            have ga : wc3.heap[wc2.heap.size]? = some (.cells ((List.replicate 32 (0 : UInt8)).map byteV).toArray 29 (0, 0)) := by rw [← hwa]; exact heap_alloc_self _ _
            have xx : Ext (fun _ => False) wc2 wc3 := by rw [← hwa]; exact (Ext.refl _ _).alloc _
            clear hwa
            have HX3 := Lib.hid (HX2.out.trans xx)
            have lA : wc0.heap.size ≤ wc2.heap.size := HX2.out.size
            replace HF := Lib.hid (HF.out.same xx)
            replace gb := xx.heap gb id
            clear xx
            generalize wc2.heap.size = bA at *
            refine ⟨Cls.of_ext HX3.out fun q hq => ⟨by simp at hq; subst hq; exact lt_of_heap H18.out.1, id⟩, ?_⟩
            try dsimp only [wpM, wpSegs, pick, List.getElem?_cons_zero, List.getElem?_cons_succ]
            generalize hz : Act.mk _ _ = z
            repeat (first | (refine wpQuiet_step (fun K hK => ?_); replace hK := Lib.hid hK; subst hz; go_simp; generalize hz : Act.mk _ _ = z; refine hK.out z ?_; clear hK K) | (refine wpQuiet_step (fun K hK => ?_); replace hK := Lib.hid hK; subst hz; refine iteSkip (by kernel_rfl) ?_; go_simp; generalize hz : Act.mk _ _ = z; refine hK.out z ?_; clear hK K))
            try refine wpQuiet_nil ?_
            subst hz
            try dsimp only [NoPan]
            go_wp2_with fail
            refine (of_fork_walk (l := (.leaf k2 v2)) (r := (.leaf k1 v1)) (b := k) HF.out (sum_slice (HX3.out.heap H18.out.1 id) (sumT_len _)) (sum_slice (HX3.out.heap H18.out.2.1 id) (sumT_len _)) gb).mono ?_
            rintro e wc4 ⟨rfl, xx⟩
            have HX4 := Lib.hid (HX3.out.trans xx)
            replace ga := xx.heap ga id
            clear xx gb
            go_wp2_with fail
            refine ⟨Cls.of_ext HX4.out fun q hq => ⟨by simp at hq; subst hq; exact lt_of_heap H18.out.1, id⟩, ?_⟩
            try dsimp only [wpM, wpSegs, pick, List.getElem?_cons_zero, List.getElem?_cons_succ]
            generalize hz : Act.mk _ _ = z
            repeat (first | (refine wpQuiet_step (fun K hK => ?_); replace hK := Lib.hid hK; subst hz; go_simp; generalize hz : Act.mk _ _ = z; refine hK.out z ?_; clear hK K) | (refine wpQuiet_step (fun K hK => ?_); replace hK := Lib.hid hK; subst hz; refine iteSkip (by kernel_rfl) ?_; go_simp; generalize hz : Act.mk _ _ = z; refine hK.out z ?_; clear hK K))
            try refine wpQuiet_nil ?_
            subst hz
            try dsimp only [NoPan]
            have GA := Lib.hid ga
            clear ga
            go_wp2_with (refine wpList_store_row rfl 29 _ _ rfl bA (sumA (sumT (.fork k (.leaf k2 v2) (.leaf k1 v1)))) rfl rfl 29 _ GA.out (info_sum (sumT_len _)) (by rw [sumA_size (sumT_len _)]; rfl) (sumA_one _) ?_)
            have xx : Ext (fun _ => False) wc0 (wc4.setRow bA (sumA (sumT (.fork k (.leaf k2 v2) (.leaf k1 v1))))) := HX4.out.setRow (.inr lA) _
            have s20 : (wc4.setRow bA (sumA (sumT (.fork k (.leaf k2 v2) (.leaf k1 v1))))).heap[bA]? = some (.cells (sumA (sumT (.fork k (.leaf k2 v2) (.leaf k1 v1)))) 29 (0, 0)) := setRow_heap _ _ _ _ _ _ GA.out
            generalize wc4.setRow bA (sumA (sumT (.fork k (.leaf k2 v2) (.leaf k1 v1)))) = w20 at *
            have HX5 := Lib.hid xx
            have h20 := H18.out.2.2.still xx
            have lA20 := lt_of_heap s20
            have Hrow20 := Lib.hid (cls_heap (D := [bA]) (w0 := w20.drew) (by simp) s20)
            have H20 := Lib.hid h20
            clear xx h20 s20 GA
            refine ⟨Cls.of_ext HX5.out fun q hq => ⟨by simp at hq; subst hq; exact lt_of_heap H18.out.1, id⟩, ?_⟩
            try dsimp only [wpM, wpSegs, pick, List.getElem?_cons_zero, List.getElem?_cons_succ]
            generalize hz : Act.mk _ _ = z
            repeat (first | (refine wpQuiet_step (fun K hK => ?_); replace hK := Lib.hid hK; subst hz; go_simp; generalize hz : Act.mk _ _ = z; refine hK.out z ?_; clear hK K) | (refine wpQuiet_step (fun K hK => ?_); replace hK := Lib.hid hK; subst hz; refine iteSkip (by kernel_rfl) ?_; go_simp; generalize hz : Act.mk _ _ = z; refine hK.out z ?_; clear hK K))
            try refine wpQuiet_nil ?_
            subst hz
            try dsimp only [NoPan]
            go_wp2_with fail
            have heq : ∀ W, (binOp .eql 29 (.agg (sumA (sumT (.fork k (.leaf k2 v2) (.leaf k1 v1))))) (.agg (sumA (sumT (.fork k (.leaf k2 v2) (.leaf k1 v1)))))).run Try.prog W = .ok (.bool true) W := fun W => by rw [sumA_eql (sumT_len _) (sumT_len _)]; simp
            refine wp_region_bar (Cls [bA] _) [([0, 1, 2, 3, 4, 5, 6, 7, 9], 8)] [10, 11, 12, 13] 14 [] [15, 16, 17] (by kernel_rfl) (by kernel_rfl) (Cls.refl _ _) ?_
            try dsimp only [wpMix, wpSegs, pick, List.getElem?_cons_zero, List.getElem?_cons_succ]
            generalize hz : Act.mk _ _ = z
            repeat (first | (subst hz; (refine wpQuiet_load_row 29 _ rfl (by kernel_rfl) bA rfl 29 (sumA (sumT (.fork k (.leaf k2 v2) (.leaf k1 v1)))) (0, 0) _ Hrow20.out Try.underlying29 rfl (info_sum (sumT_len _)) ?_); generalize hz : Act.put _ _ _ = z) | (refine wpQuiet_step (fun K hK => ?_); replace hK := Lib.hid hK; subst hz; go_simp; generalize hz : Act.mk _ _ = z; refine hK.out z ?_; clear hK K) | (refine wpQuiet_step (fun K hK => ?_); replace hK := Lib.hid hK; subst hz; refine iteSkip (by kernel_rfl) ?_; go_simp; generalize hz : Act.mk _ _ = z; refine hK.out z ?_; clear hK K))
            try refine wpQuiet_nil ?_
            subst hz
            try dsimp only [NoPan]
            go_wp2_with fail
            refine (tm_root (H20.out.still (Ext.refl _ _).drew)).mono ?_
            rintro e w21 ⟨rfl, h21, x21⟩
            rw [sumV_A, HRC.out.1]
            have H21 := Lib.hid (And.intro h21 x21)
            clear h21 x21
            go_wp2_with fail
            refine ⟨Cls.of_ext H21.out.2 fun q hq => ⟨by simp at hq; subst hq; exact lA20, id⟩, ?_⟩
            try dsimp only [wpMix, wpSegs, pick, List.getElem?_cons_zero, List.getElem?_cons_succ]
            generalize hz : Act.mk _ _ = z
            repeat (first | (subst hz; (refine wpQuiet_load_row 29 _ rfl (by kernel_rfl) bA rfl 29 (sumA (sumT (.fork k (.leaf k2 v2) (.leaf k1 v1)))) (0, 0) _ Hrow20.out Try.underlying29 rfl (info_sum (sumT_len _)) ?_); generalize hz : Act.put _ _ _ = z) | (refine wpQuiet_step (fun K hK => ?_); replace hK := Lib.hid hK; subst hz; go_simp; generalize hz : Act.mk _ _ = z; refine hK.out z ?_; clear hK K) | (refine wpQuiet_step (fun K hK => ?_); replace hK := Lib.hid hK; subst hz; refine iteSkip (by kernel_rfl) ?_; go_simp; generalize hz : Act.mk _ _ = z; refine hK.out z ?_; clear hK K))
            try refine wpQuiet_nil ?_
            subst hz
            try dsimp only [NoPan]
            go_wp2_with fail
            refine (tm_count H21.out.1).mono ?_
            rintro e _ ⟨rfl, rfl⟩
            rw [HRC.out.2]
            go_wp2_with fail
            try dsimp only [wpMix, wpSegs, pick, List.getElem?_cons_zero, List.getElem?_cons_succ]
            generalize hz : Act.mk _ _ = z
            repeat (first | (subst hz; (refine wpQuiet_load_row 29 _ rfl (by kernel_rfl) bA rfl 29 (sumA (sumT (.fork k (.leaf k2 v2) (.leaf k1 v1)))) (0, 0) _ Hrow20.out Try.underlying29 rfl (info_sum (sumT_len _)) ?_); generalize hz : Act.put _ _ _ = z) | (refine wpQuiet_step (fun K hK => ?_); replace hK := Lib.hid hK; subst hz; go_simp; generalize hz : Act.mk _ _ = z; refine hK.out z ?_; clear hK K) | (refine wpQuiet_step (fun K hK => ?_); replace hK := Lib.hid hK; subst hz; refine iteSkip (by kernel_rfl) ?_; go_simp; generalize hz : Act.mk _ _ = z; refine hK.out z ?_; clear hK K))
            try refine wpQuiet_nil ?_
            subst hz
            try dsimp only [NoPan]
            go_wp2_with fail
            go_ret
            exact ⟨rfl, HW.out.1.trans H21.out.1.2.2⟩
        · skip
          go_wp2_with fail
          generalize hwa : World.alloc wc1 _ = wc2
          have ga : wc2.heap[wc1.heap.size]? = some (.cells ((List.replicate 32 (0 : UInt8)).map byteV).toArray 29 (0, 0)) := by rw [← hwa]; exact heap_alloc_self _ _
          have xx : Ext (fun _ => False) wc1 wc2 := by rw [← hwa]; exact (Ext.refl _ _).alloc _
          clear hwa
          have HX2 := Lib.hid (HX1.out.trans xx)
          have lA : wc0.heap.size ≤ wc1.heap.size := HX1.out.size
          replace HF := Lib.hid (HF.out.same xx)
          clear xx
          generalize wc1.heap.size = bA at *
          refine ⟨Cls.of_ext HX2.out fun q hq => ⟨by simp at hq; subst hq; exact lt_of_heap H18.out.1, id⟩, ?_⟩
          try dsimp only [wpM, wpSegs, pick, List.getElem?_cons_zero, List.getElem?_cons_succ]
          generalize hz : Act.mk _ _ = z
          repeat (first | (refine wpQuiet_step (fun K hK => ?_); replace hK := Lib.hid hK; subst hz; go_simp; generalize hz : Act.mk _ _ = z; refine hK.out z ?_; clear hK K) | (refine wpQuiet_step (fun K hK => ?_); replace hK := Lib.hid hK; subst hz; refine iteSkip (by kernel_rfl) ?_; go_simp; generalize hz : Act.mk _ _ = z; refine hK.out z ?_; clear hK K))
          try refine wpQuiet_nil ?_
          subst hz
          try dsimp only [NoPan]
          go_wp2_with fail
          generalize hwb : World.alloc wc2 _ = wc3
          have gb : wc3.heap[wc2.heap.size]? = some (.cells #[.slice An (beB k 8).length cn, .slice (some ⟨b12, 0, none⟩) 32 32, .slice (some ⟨b13', 0, none⟩) 32 32] 22 (0, 0)) := by rw [← hwb]; exact heap_alloc_self _ _
          have xx : Ext (fun _ => False) wc2 wc3 := by rw [← hwb]; exact (Ext.refl _ _).alloc _
          clear hwb
          have HX3 := Lib.hid (HX2.out.trans xx)
          replace ga := xx.heap ga id
          replace HF := Lib.hid (HF.out.same xx)
          clear xx
          generalize wc2.heap.size = bB at *
          refine ⟨Cls.of_ext HX3.out fun q hq => ⟨by simp at hq; subst hq; exact lt_of_heap H18.out.1, id⟩, ?_⟩
          try dsimp only [wpM, wpSegs, pick, List.getElem?_cons_zero, List.getElem?_cons_succ]
          generalize hz : Act.mk _ _ = z
          repeat (first | (refine wpQuiet_step (fun K hK => ?_); replace hK := Lib.hid hK; subst hz; go_simp; generalize hz : Act.mk _ _ = z; refine hK.out z ?_; clear hK K) | (refine wpQuiet_step (fun K hK => ?_); replace hK := Lib.hid hK; subst hz; refine iteSkip (by kernel_rfl) ?_; go_simp; generalize hz : Act.mk _ _ = z; refine hK.out z ?_; clear hK K))
          try refine wpQuiet_nil ?_
          subst hz
          try dsimp only [NoPan]
          go_wp2_with fail
          refine (of_fork_walk (l := (.leaf k2 v2)) (r := (.leaf k1 v1)) (b := k) HF.out (sum_slice (HX3.out.heap H18.out.1 id) (sumT_len _)) (sum_slice (HX3.out.heap H18.out.2.1 id) (sumT_len _)) gb).mono ?_
          rintro e wc4 ⟨rfl, xx⟩
          have HX4 := Lib.hid (HX3.out.trans xx)
          replace ga := xx.heap ga id
          clear xx gb
          go_wp2_with fail
          refine ⟨Cls.of_ext HX4.out fun q hq => ⟨by simp at hq; subst hq; exact lt_of_heap H18.out.1, id⟩, ?_⟩
          try dsimp only [wpM, wpSegs, pick, List.getElem?_cons_zero, List.getElem?_cons_succ]
          generalize hz : Act.mk _ _ = z
          repeat (first | (refine wpQuiet_step (fun K hK => ?_); replace hK := Lib.hid hK; subst hz; go_simp; generalize hz : Act.mk _ _ = z; refine hK.out z ?_; clear hK K) | (refine wpQuiet_step (fun K hK => ?_); replace hK := Lib.hid hK; subst hz; refine iteSkip (by kernel_rfl) ?_; go_simp; generalize hz : Act.mk _ _ = z; refine hK.out z ?_; clear hK K))
          try refine wpQuiet_nil ?_
          subst hz
          try dsimp only [NoPan]
          have GA := Lib.hid ga
          clear ga
          go_wp2_with (refine wpList_store_row rfl 29 _ _ rfl bA (sumA (sumT (.fork k (.leaf k2 v2) (.leaf k1 v1)))) rfl rfl 29 _ GA.out (info_sum (sumT_len _)) (by rw [sumA_size (sumT_len _)]; rfl) (sumA_one _) ?_)
          have xx : Ext (fun _ => False) wc0 (wc4.setRow bA (sumA (sumT (.fork k (.leaf k2 v2) (.leaf k1 v1))))) := HX4.out.setRow (.inr lA) _
          have s20 : (wc4.setRow bA (sumA (sumT (.fork k (.leaf k2 v2) (.leaf k1 v1))))).heap[bA]? = some (.cells (sumA (sumT (.fork k (.leaf k2 v2) (.leaf k1 v1)))) 29 (0, 0)) := setRow_heap _ _ _ _ _ _ GA.out
          generalize wc4.setRow bA (sumA (sumT (.fork k (.leaf k2 v2) (.leaf k1 v1)))) = w20 at *
          have HX5 := Lib.hid xx
          have h20 := H18.out.2.2.still xx
          have lA20 := lt_of_heap s20
          have Hrow20 := Lib.hid (cls_heap (D := [bA]) (w0 := w20.drew) (by simp) s20)
          have H20 := Lib.hid h20
          clear xx h20 s20 GA
          refine ⟨Cls.of_ext HX5.out fun q hq => ⟨by simp at hq; subst hq; exact lt_of_heap H18.out.1, id⟩, ?_⟩
          try dsimp only [wpM, wpSegs, pick, List.getElem?_cons_zero, List.getElem?_cons_succ]
          generalize hz : Act.mk _ _ = z
          repeat (first | (refine wpQuiet_step (fun K hK => ?_); replace hK := Lib.hid hK; subst hz; go_simp; generalize hz : Act.mk _ _ = z; refine hK.out z ?_; clear hK K) | (refine wpQuiet_step (fun K hK => ?_); replace hK := Lib.hid hK; subst hz; refine iteSkip (by kernel_rfl) ?_; go_simp; generalize hz : Act.mk _ _ = z; refine hK.out z ?_; clear hK K))
          try refine wpQuiet_nil ?_
          subst hz
          try dsimp only [NoPan]
          go_wp2_with fail
          have heq : ∀ W, (binOp .eql 29 (.agg (sumA (sumT (.fork k (.leaf k2 v2) (.leaf k1 v1))))) (.agg (sumA (sumT (.fork k (.leaf k2 v2) (.leaf k1 v1)))))).run Try.prog W = .ok (.bool true) W := fun W => by rw [sumA_eql (sumT_len _) (sumT_len _)]; simp
          refine wp_region_bar (Cls [bA] _) [([0, 1, 2, 3, 4, 5, 6, 7, 9], 8)] [10, 11, 12, 13] 14 [] [15, 16, 17] (by kernel_rfl) (by kernel_rfl) (Cls.refl _ _) ?_
          try dsimp only [wpMix, wpSegs, pick, List.getElem?_cons_zero, List.getElem?_cons_succ]
          generalize hz : Act.mk _ _ = z
          repeat (first | (subst hz; (refine wpQuiet_load_row 29 _ rfl (by kernel_rfl) bA rfl 29 (sumA (sumT (.fork k (.leaf k2 v2) (.leaf k1 v1)))) (0, 0) _ Hrow20.out Try.underlying29 rfl (info_sum (sumT_len _)) ?_); generalize hz : Act.put _ _ _ = z) | (refine wpQuiet_step (fun K hK => ?_); replace hK := Lib.hid hK; subst hz; go_simp; generalize hz : Act.mk _ _ = z; refine hK.out z ?_; clear hK K) | (refine wpQuiet_step (fun K hK => ?_); replace hK := Lib.hid hK; subst hz; refine iteSkip (by kernel_rfl) ?_; go_simp; generalize hz : Act.mk _ _ = z; refine hK.out z ?_; clear hK K))
          try refine wpQuiet_nil ?_
          subst hz
          try dsimp only [NoPan]
          go_wp2_with fail
          refine (tm_root (H20.out.still (Ext.refl _ _).drew)).mono ?_
          rintro e w21 ⟨rfl, h21, x21⟩
          rw [sumV_A, HRC.out.1]
          have H21 := Lib.hid (And.intro h21 x21)
          clear h21 x21
          go_wp2_with fail
          refine ⟨Cls.of_ext H21.out.2 fun q hq => ⟨by simp at hq; subst hq; exact lA20, id⟩, ?_⟩
          try dsimp only [wpMix, wpSegs, pick, List.getElem?_cons_zero, List.getElem?_cons_succ]
          generalize hz : Act.mk _ _ = z
          repeat (first | (subst hz; (refine wpQuiet_load_row 29 _ rfl (by kernel_rfl) bA rfl 29 (sumA (sumT (.fork k (.leaf k2 v2) (.leaf k1 v1)))) (0, 0) _ Hrow20.out Try.underlying29 rfl (info_sum (sumT_len _)) ?_); generalize hz : Act.put _ _ _ = z) | (refine wpQuiet_step (fun K hK => ?_); replace hK := Lib.hid hK; subst hz; go_simp; generalize hz : Act.mk _ _ = z; refine hK.out z ?_; clear hK K) | (refine wpQuiet_step (fun K hK => ?_); replace hK := Lib.hid hK; subst hz; refine iteSkip (by kernel_rfl) ?_; go_simp; generalize hz : Act.mk _ _ = z; refine hK.out z ?_; clear hK K))
          try refine wpQuiet_nil ?_
          subst hz
          try dsimp only [NoPan]
          go_wp2_with fail
          refine (tm_count H21.out.1).mono ?_
          rintro e _ ⟨rfl, rfl⟩
          rw [HRC.out.2]
          go_wp2_with fail
          try dsimp only [wpMix, wpSegs, pick, List.getElem?_cons_zero, List.getElem?_cons_succ]
          generalize hz : Act.mk _ _ = z
          repeat (first | (subst hz; (refine wpQuiet_load_row 29 _ rfl (by kernel_rfl) bA rfl 29 (sumA (sumT (.fork k (.leaf k2 v2) (.leaf k1 v1)))) (0, 0) _ Hrow20.out Try.underlying29 rfl (info_sum (sumT_len _)) ?_); generalize hz : Act.put _ _ _ = z) | (refine wpQuiet_step (fun K hK => ?_); replace hK := Lib.hid hK; subst hz; go_simp; generalize hz : Act.mk _ _ = z; refine hK.out z ?_; clear hK K) | (refine wpQuiet_step (fun K hK => ?_); replace hK := Lib.hid hK; subst hz; refine iteSkip (by kernel_rfl) ?_; go_simp; generalize hz : Act.mk _ _ = z; refine hK.out z ?_; clear hK K))
          try refine wpQuiet_nil ?_
          subst hz
          try dsimp only [NoPan]
          go_wp2_with fail
          go_ret
          exact ⟨rfl, HW.out.1.trans H21.out.1.2.2⟩
      · skip
        go_wp2_with fail
        generalize hwa : World.alloc wc0 _ = wc1
        have ga : wc1.heap[wc0.heap.size]? = some (.cells ((List.replicate 32 (0 : UInt8)).map byteV).toArray 29 (0, 0)) := by rw [← hwa]; exact heap_alloc_self _ _
        have xx : Ext (fun _ => False) wc0 wc1 := by rw [← hwa]; exact (Ext.refl _ _).alloc _
        clear hwa
        have HX1 := Lib.hid (HX0.out.trans xx)
        have lA : wc0.heap.size ≤ wc0.heap.size := HX0.out.size
        clear xx
        refine ⟨Cls.of_ext HX1.out fun q hq => ⟨by simp at hq; subst hq; exact lt_of_heap H18.out.1, id⟩, ?_⟩
        try dsimp only [wpM, wpSegs, pick, List.getElem?_cons_zero, List.getElem?_cons_succ]
        generalize hz : Act.mk _ _ = z
        repeat (first | (refine wpQuiet_step (fun K hK => ?_); replace hK := Lib.hid hK; subst hz; go_simp; generalize hz : Act.mk _ _ = z; refine hK.out z ?_; clear hK K) | (refine wpQuiet_step (fun K hK => ?_); replace hK := Lib.hid hK; subst hz; refine iteSkip (by kernel_rfl) ?_; go_simp; generalize hz : Act.mk _ _ = z; refine hK.out z ?_; clear hK K))
        try refine wpQuiet_nil ?_
        subst hz
        try dsimp only [NoPan]
        go_wp2_with fail
        refine (num_walk _ k).mono ?_
        rintro e wc2 ⟨nv, rfl, f⟩
        obtain ⟨An, cn, rfl⟩ := f.own.formv
        have HF := Lib.hid (Byt.any f.own.byt)
        have xx := f.ext
        clear f
        have HX2 := Lib.hid (HX1.out.trans xx)
        replace ga := xx.heap ga id
        clear xx
        go_wp2_with fail
        refine ⟨Cls.of_ext HX2.out fun q hq => ⟨by simp at hq; subst hq; exact lt_of_heap H18.out.1, id⟩, ?_⟩
        try dsimp only [wpM, wpSegs, pick, List.getElem?_cons_zero, List.getElem?_cons_succ]
        generalize hz : Act.mk _ _ = z
        repeat (first | (refine wpQuiet_step (fun K hK => ?_); replace hK := Lib.hid hK; subst hz; go_simp; generalize hz : Act.mk _ _ = z; refine hK.out z ?_; clear hK K) | (refine wpQuiet_step (fun K hK => ?_); replace hK := Lib.hid hK; subst hz; refine iteSkip (by kernel_rfl) ?_; go_simp; generalize hz : Act.mk _ _ = z; refine hK.out z ?_; clear hK K))
        try refine wpQuiet_nil ?_
        subst hz
        try dsimp only [NoPan]
        go_wp2_with fail
        generalize hwb : World.alloc wc2 _ = wc3
        have gb : wc3.heap[wc2.heap.size]? = some (.cells #[.slice An (beB k 8).length cn, .slice (some ⟨b12, 0, none⟩) 32 32, .slice (some ⟨b13', 0, none⟩) 32 32] 22 (0, 0)) := by rw [← hwb]; exact heap_alloc_self _ _
        have xx : Ext (fun _ => False) wc2 wc3 := by rw [← hwb]; exact (Ext.refl _ _).alloc _
        clear hwb
        have HX3 := Lib.hid (HX2.out.trans xx)
        replace ga := xx.heap ga id
        replace HF := Lib.hid (HF.out.same xx)
        clear xx
        generalize wc2.heap.size = bB at *
        refine ⟨Cls.of_ext HX3.out fun q hq => ⟨by simp at hq; subst hq; exact lt_of_heap H18.out.1, id⟩, ?_⟩
        try dsimp only [wpM, wpSegs, pick, List.getElem?_cons_zero, List.getElem?_cons_succ]
        generalize hz : Act.mk _ _ = z
        repeat (first | (refine wpQuiet_step (fun K hK => ?_); replace hK := Lib.hid hK; subst hz; go_simp; generalize hz : Act.mk _ _ = z; refine hK.out z ?_; clear hK K) | (refine wpQuiet_step (fun K hK => ?_); replace hK := Lib.hid hK; subst hz; refine iteSkip (by kernel_rfl) ?_; go_simp; generalize hz : Act.mk _ _ = z; refine hK.out z ?_; clear hK K))
        try refine wpQuiet_nil ?_
        subst hz
        try dsimp only [NoPan]
        go_wp2_with fail
        refine (of_fork_walk (l := (.leaf k2 v2)) (r := (.leaf k1 v1)) (b := k) HF.out (sum_slice (HX3.out.heap H18.out.1 id) (sumT_len _)) (sum_slice (HX3.out.heap H18.out.2.1 id) (sumT_len _)) gb).mono ?_
        rintro e wc4 ⟨rfl, xx⟩
        have HX4 := Lib.hid (HX3.out.trans xx)
        replace ga := xx.heap ga id
        clear xx gb
        go_wp2_with fail
        refine ⟨Cls.of_ext HX4.out fun q hq => ⟨by simp at hq; subst hq; exact lt_of_heap H18.out.1, id⟩, ?_⟩
        try dsimp only [wpM, wpSegs, pick, List.getElem?_cons_zero, List.getElem?_cons_succ]
        generalize hz : Act.mk _ _ = z
        repeat (first | (refine wpQuiet_step (fun K hK => ?_); replace hK := Lib.hid hK; subst hz; go_simp; generalize hz : Act.mk _ _ = z; refine hK.out z ?_; clear hK K) | (refine wpQuiet_step (fun K hK => ?_); replace hK := Lib.hid hK; subst hz; refine iteSkip (by kernel_rfl) ?_; go_simp; generalize hz : Act.mk _ _ = z; refine hK.out z ?_; clear hK K))
        try refine wpQuiet_nil ?_
        subst hz
        try dsimp only [NoPan]
        have GA := Lib.hid ga
        clear ga
        go_wp2_with (refine wpList_store_row rfl 29 _ _ rfl wc0.heap.size (sumA (sumT (.fork k (.leaf k2 v2) (.leaf k1 v1)))) rfl rfl 29 _ GA.out (info_sum (sumT_len _)) (by rw [sumA_size (sumT_len _)]; rfl) (sumA_one _) ?_)
        have xx : Ext (fun _ => False) wc0 (wc4.setRow wc0.heap.size (sumA (sumT (.fork k (.leaf k2 v2) (.leaf k1 v1))))) := HX4.out.setRow (.inr lA) _
        have s20 : (wc4.setRow wc0.heap.size (sumA (sumT (.fork k (.leaf k2 v2) (.leaf k1 v1))))).heap[wc0.heap.size]? = some (.cells (sumA (sumT (.fork k (.leaf k2 v2) (.leaf k1 v1)))) 29 (0, 0)) := setRow_heap _ _ _ _ _ _ GA.out
        generalize wc4.setRow wc0.heap.size (sumA (sumT (.fork k (.leaf k2 v2) (.leaf k1 v1)))) = w20 at *
        have HX5 := Lib.hid xx
        have h20 := H18.out.2.2.still xx
        have lA20 := lt_of_heap s20
        have Hrow20 := Lib.hid (cls_heap (D := [wc0.heap.size]) (w0 := w20.drew) (by simp) s20)
        have H20 := Lib.hid h20
        clear xx h20 s20 GA
        refine ⟨Cls.of_ext HX5.out fun q hq => ⟨by simp at hq; subst hq; exact lt_of_heap H18.out.1, id⟩, ?_⟩
        try dsimp only [wpM, wpSegs, pick, List.getElem?_cons_zero, List.getElem?_cons_succ]
        generalize hz : Act.mk _ _ = z
        repeat (first | (refine wpQuiet_step (fun K hK => ?_); replace hK := Lib.hid hK; subst hz; go_simp; generalize hz : Act.mk _ _ = z; refine hK.out z ?_; clear hK K) | (refine wpQuiet_step (fun K hK => ?_); replace hK := Lib.hid hK; subst hz; refine iteSkip (by kernel_rfl) ?_; go_simp; generalize hz : Act.mk _ _ = z; refine hK.out z ?_; clear hK K))
        try refine wpQuiet_nil ?_
        subst hz
        try dsimp only [NoPan]
        go_wp2_with fail
        have heq : ∀ W, (binOp .eql 29 (.agg (sumA (sumT (.fork k (.leaf k2 v2) (.leaf k1 v1))))) (.agg (sumA (sumT (.fork k (.leaf k2 v2) (.leaf k1 v1)))))).run Try.prog W = .ok (.bool true) W := fun W => by rw [sumA_eql (sumT_len _) (sumT_len _)]; simp
        refine wp_region_bar (Cls [wc0.heap.size] _) [([0, 1, 2, 3, 4, 5, 6, 7, 9], 8)] [10, 11, 12, 13] 14 [] [15, 16, 17] (by kernel_rfl) (by kernel_rfl) (Cls.refl _ _) ?_
        try dsimp only [wpMix, wpSegs, pick, List.getElem?_cons_zero, List.getElem?_cons_succ]
        generalize hz : Act.mk _ _ = z
        repeat (first | (subst hz; (refine wpQuiet_load_row 29 _ rfl (by kernel_rfl) wc0.heap.size rfl 29 (sumA (sumT (.fork k (.leaf k2 v2) (.leaf k1 v1)))) (0, 0) _ Hrow20.out Try.underlying29 rfl (info_sum (sumT_len _)) ?_); generalize hz : Act.put _ _ _ = z) | (refine wpQuiet_step (fun K hK => ?_); replace hK := Lib.hid hK; subst hz; go_simp; generalize hz : Act.mk _ _ = z; refine hK.out z ?_; clear hK K) | (refine wpQuiet_step (fun K hK => ?_); replace hK := Lib.hid hK; subst hz; refine iteSkip (by kernel_rfl) ?_; go_simp; generalize hz : Act.mk _ _ = z; refine hK.out z ?_; clear hK K))
        try refine wpQuiet_nil ?_
        subst hz
        try dsimp only [NoPan]
        go_wp2_with fail
        refine (tm_root (H20.out.still (Ext.refl _ _).drew)).mono ?_
        rintro e w21 ⟨rfl, h21, x21⟩
        rw [sumV_A, HRC.out.1]
        have H21 := Lib.hid (And.intro h21 x21)
        clear h21 x21
        go_wp2_with fail
        refine ⟨Cls.of_ext H21.out.2 fun q hq => ⟨by simp at hq; subst hq; exact lA20, id⟩, ?_⟩
        try dsimp only [wpMix, wpSegs, pick, List.getElem?_cons_zero, List.getElem?_cons_succ]
        generalize hz : Act.mk _ _ = z
        repeat (first | (subst hz; (refine wpQuiet_load_row 29 _ rfl (by kernel_rfl) wc0.heap.size rfl 29 (sumA (sumT (.fork k (.leaf k2 v2) (.leaf k1 v1)))) (0, 0) _ Hrow20.out Try.underlying29 rfl (info_sum (sumT_len _)) ?_); generalize hz : Act.put _ _ _ = z) | (refine wpQuiet_step (fun K hK => ?_); replace hK := Lib.hid hK; subst hz; go_simp; generalize hz : Act.mk _ _ = z; refine hK.out z ?_; clear hK K) | (refine wpQuiet_step (fun K hK => ?_); replace hK := Lib.hid hK; subst hz; refine iteSkip (by kernel_rfl) ?_; go_simp; generalize hz : Act.mk _ _ = z; refine hK.out z ?_; clear hK K))
        try refine wpQuiet_nil ?_
        subst hz
        try dsimp only [NoPan]
        go_wp2_with fail
        refine (tm_count H21.out.1).mono ?_
        rintro e _ ⟨rfl, rfl⟩
        rw [HRC.out.2]
        go_wp2_with fail
        try dsimp only [wpMix, wpSegs, pick, List.getElem?_cons_zero, List.getElem?_cons_succ]
        generalize hz : Act.mk _ _ = z
        repeat (first | (subst hz; (refine wpQuiet_load_row 29 _ rfl (by kernel_rfl) wc0.heap.size rfl 29 (sumA (sumT (.fork k (.leaf k2 v2) (.leaf k1 v1)))) (0, 0) _ Hrow20.out Try.underlying29 rfl (info_sum (sumT_len _)) ?_); generalize hz : Act.put _ _ _ = z) | (refine wpQuiet_step (fun K hK => ?_); replace hK := Lib.hid hK; subst hz; go_simp; generalize hz : Act.mk _ _ = z; refine hK.out z ?_; clear hK K) | (refine wpQuiet_step (fun K hK => ?_); replace hK := Lib.hid hK; subst hz; refine iteSkip (by kernel_rfl) ?_; go_simp; generalize hz : Act.mk _ _ = z; refine hK.out z ?_; clear hK K))
        try refine wpQuiet_nil ?_
        subst hz
        try dsimp only [NoPan]
        go_wp2_with fail
        go_ret
        exact ⟨rfl, HW.out.1.trans H21.out.1.2.2⟩
    | false =>
      have HBK := Lib.hid hb
      clear hb
      have H18 := Lib.hid (And.intro H16.out.2.2.1 (And.intro H16.out.2.2.2.1 (H14.out.2.2.still H16.out.2.2.2.2)))
      generalize w16 = w18 at *
      go_wp2_with fail
      have hroot : rootS o2 = sumT (.fork k (.leaf k1 v1) (.leaf k2 v2)) := by rw [F2.out.2.2.2, HBK.out, if_neg (by decide)]; rfl
      have hcnt : (Tr.entsO o2).length = 2 := by rw [F2.out.2.2.2, HBK.out, if_neg (by decide)]; rfl
      have HRC := Lib.hid (And.intro hroot hcnt)
      clear hroot hcnt
      have l12 : b12 < w18.drew.heap.size := lt_of_heap (show w18.drew.heap[b12]? = _ from H18.out.1)
      have HX0 := Lib.hid (Ext.refl (fun _ => False) w18.drew)
      refine wp_region_tree (Cls [b12] _) (.two [0, 2, 3] 1 (.two [] 4 (.two [] 5 (.one [6, 7, 8] 9 (.one [] 10 (.last [11]))) 9 (.one [] 5 (.one [6, 7, 8] 10 (.last [11])))) 9 (.one [] 4 (.one [] 5 (.one [6, 7, 8] 10 (.last [11]))))) 9 (.one [] 1 (.one [] 4 (.one [] 5 (.one [6, 7, 8] 10 (.last [11])))))) (by kernel_rfl) (by kernel_rfl) (Cls.refl _ _) ?_
      try dsimp only [wpM, wpSegs, pick, List.getElem?_cons_zero, List.getElem?_cons_succ]
      generalize hz : Act.mk _ _ = z
      repeat (first | (refine wpQuiet_step (fun K hK => ?_); replace hK := Lib.hid hK; subst hz; go_simp; generalize hz : Act.mk _ _ = z; refine hK.out z ?_; clear hK K) | (refine wpQuiet_step (fun K hK => ?_); replace hK := Lib.hid hK; subst hz; refine iteSkip (by kernel_rfl) ?_; go_simp; generalize hz : Act.mk _ _ = z; refine hK.out z ?_; clear hK K))
      try refine wpQuiet_nil ?_
      subst hz
      try dsimp only [NoPan]
      replace H18 := Lib.hid (And.intro (show w18.drew.heap[b12]? = _ from H18.out.1) (And.intro (show w18.drew.heap[b13']? = _ from H18.out.2.1) (H18.out.2.2.still (Ext.refl _ _).drew)))
      generalize w18.drew = wc0 at *
      refine ⟨?_, ?_⟩
      · skip
        go_wp2_with fail
        refine (num_walk _ k).mono ?_
        rintro e wc1 ⟨nv, rfl, f⟩
        obtain ⟨An, cn, rfl⟩ := f.own.formv
        have HF := Lib.hid (Byt.any f.own.byt)
        have xx := f.ext
        clear f
        have HX1 := Lib.hid (HX0.out.trans xx)
        clear xx
        go_wp2_with fail
        refine ⟨Cls.of_ext HX1.out fun q hq => ⟨by simp at hq; subst hq; exact lt_of_heap H18.out.1, id⟩, ?_⟩
        try dsimp only [wpM, wpSegs, pick, List.getElem?_cons_zero, List.getElem?_cons_succ]
        generalize hz : Act.mk _ _ = z
        repeat (first | (refine wpQuiet_step (fun K hK => ?_); replace hK := Lib.hid hK; subst hz; go_simp; generalize hz : Act.mk _ _ = z; refine hK.out z ?_; clear hK K) | (refine wpQuiet_step (fun K hK => ?_); replace hK := Lib.hid hK; subst hz; refine iteSkip (by kernel_rfl) ?_; go_simp; generalize hz : Act.mk _ _ = z; refine hK.out z ?_; clear hK K))
        try refine wpQuiet_nil ?_
        subst hz
        try dsimp only [NoPan]
        refine ⟨?_, ?_⟩
        · skip
          go_wp2_with fail
          generalize hwb : World.alloc wc1 _ = wc2
          have gb : wc2.heap[wc1.heap.size]? = some (.cells #[.slice An (beB k 8).length cn, .slice (some ⟨b12, 0, none⟩) 32 32, .slice (some ⟨b13', 0, none⟩) 32 32] 22 (0, 0)) := by rw [← hwb]; exact heap_alloc_self _ _
          have xx : Ext (fun _ => False) wc1 wc2 := by rw [← hwb]; exact (Ext.refl _ _).alloc _
          clear hwb
          have HX2 := Lib.hid (HX1.out.trans xx)
          replace HF := Lib.hid (HF.out.same xx)
          clear xx
          generalize wc1.heap.size = bB at *
          refine ⟨Cls.of_ext HX2.out fun q hq => ⟨by simp at hq; subst hq; exact lt_of_heap H18.out.1, id⟩, ?_⟩
          try dsimp only [wpM, wpSegs, pick, List.getElem?_cons_zero, List.getElem?_cons_succ]
          generalize hz : Act.mk _ _ = z
          repeat (first | (refine wpQuiet_step (fun K hK => ?_); replace hK := Lib.hid hK; subst hz; go_simp; generalize hz : Act.mk _ _ = z; refine hK.out z ?_; clear hK K) | (refine wpQuiet_step (fun K hK => ?_); replace hK := Lib.hid hK; subst hz; refine iteSkip (by kernel_rfl) ?_; go_simp; generalize hz : Act.mk _ _ = z; refine hK.out z ?_; clear hK K))
          try refine wpQuiet_nil ?_
          subst hz
          try dsimp only [NoPan]
          refine ⟨?_, ?_⟩
          · skip
            go_wp2_with fail
            refine (of_fork_walk (l := (.leaf k1 v1)) (r := (.leaf k2 v2)) (b := k) HF.out (sum_slice (HX2.out.heap H18.out.1 id) (sumT_len _)) (sum_slice (HX2.out.heap H18.out.2.1 id) (sumT_len _)) gb).mono ?_
            rintro e wc3 ⟨rfl, xx⟩
            have HX3 := Lib.hid (HX2.out.trans xx)
            clear xx gb
            go_wp2_with fail
            refine ⟨Cls.of_ext HX3.out fun q hq => ⟨by simp at hq; subst hq; exact lt_of_heap H18.out.1, id⟩, ?_⟩
            try dsimp only [wpM, wpSegs, pick, List.getElem?_cons_zero, List.getElem?_cons_succ]
            generalize hz : Act.mk _ _ = z
            repeat (first | (refine wpQuiet_step (fun K hK => ?_); replace hK := Lib.hid hK; subst hz; go_simp; generalize hz : Act.mk _ _ = z; refine hK.out z ?_; clear hK K) | (refine wpQuiet_step (fun K hK => ?_); replace hK := Lib.hid hK; subst hz; refine iteSkip (by kernel_rfl) ?_; go_simp; generalize hz : Act.mk _ _ = z; refine hK.out z ?_; clear hK K))
            try refine wpQuiet_nil ?_
            subst hz
            try dsimp only [NoPan]
            go_wp2_with fail
            generalize hwa : World.alloc wc3 _ = wc4
            have ga : wc4.heap[wc3.heap.size]? = some (.cells ((List.replicate 32 (0 : UInt8)).map byteV).toArray 29 (0, 0)) := by rw [← hwa]; exact heap_alloc_self _ _
            have xx : Ext (fun _ => False) wc3 wc4 := by rw [← hwa]; exact (Ext.refl _ _).alloc _
            clear hwa
            have HX4 := Lib.hid (HX3.out.trans xx)
            have lA : wc0.heap.size ≤ wc3.heap.size := HX3.out.size
            clear xx
            generalize wc3.heap.size = bA at *
            refine ⟨Cls.of_ext HX4.out fun q hq => ⟨by simp at hq; subst hq; exact lt_of_heap H18.out.1, id⟩, ?_⟩
            try dsimp only [wpM, wpSegs, pick, List.getElem?_cons_zero, List.getElem?_cons_succ]
            generalize hz : Act.mk _ _ = z
            repeat (first | (refine wpQuiet_step (fun K hK => ?_); replace hK := Lib.hid hK; subst hz; go_simp; generalize hz : Act.mk _ _ = z; refine hK.out z ?_; clear hK K) | (refine wpQuiet_step (fun K hK => ?_); replace hK := Lib.hid hK; subst hz; refine iteSkip (by kernel_rfl) ?_; go_simp; generalize hz : Act.mk _ _ = z; refine hK.out z ?_; clear hK K))
            try refine wpQuiet_nil ?_
            subst hz
            try dsimp only [NoPan]
            have GA := Lib.hid ga
            clear ga
            go_wp2_with (refine wpList_store_row rfl 29 _ _ rfl bA (sumA (sumT (.fork k (.leaf k1 v1) (.leaf k2 v2)))) rfl rfl 29 _ GA.out (info_sum (sumT_len _)) (by rw [sumA_size (sumT_len _)]; rfl) (sumA_one _) ?_)
            have xx : Ext (fun _ => False) wc0 (wc4.setRow bA (sumA (sumT (.fork k (.leaf k1 v1) (.leaf k2 v2))))) := HX4.out.setRow (.inr lA) _
            have s20 : (wc4.setRow bA (sumA (sumT (.fork k (.leaf k1 v1) (.leaf k2 v2))))).heap[bA]? = some (.cells (sumA (sumT (.fork k (.leaf k1 v1) (.leaf k2 v2)))) 29 (0, 0)) := setRow_heap _ _ _ _ _ _ GA.out
            generalize wc4.setRow bA (sumA (sumT (.fork k (.leaf k1 v1) (.leaf k2 v2)))) = w20 at *
            have HX5 := Lib.hid xx
            have h20 := H18.out.2.2.still xx
            have lA20 := lt_of_heap s20
            have Hrow20 := Lib.hid (cls_heap (D := [bA]) (w0 := w20.drew) (by simp) s20)
            have H20 := Lib.hid h20
            clear xx h20 s20 GA
            refine ⟨Cls.of_ext HX5.out fun q hq => ⟨by simp at hq; subst hq; exact lt_of_heap H18.out.1, id⟩, ?_⟩
            try dsimp only [wpM, wpSegs, pick, List.getElem?_cons_zero, List.getElem?_cons_succ]
            generalize hz : Act.mk _ _ = z
            repeat (first | (refine wpQuiet_step (fun K hK => ?_); replace hK := Lib.hid hK; subst hz; go_simp; generalize hz : Act.mk _ _ = z; refine hK.out z ?_; clear hK K) | (refine wpQuiet_step (fun K hK => ?_); replace hK := Lib.hid hK; subst hz; refine iteSkip (by kernel_rfl) ?_; go_simp; generalize hz : Act.mk _ _ = z; refine hK.out z ?_; clear hK K))
            try refine wpQuiet_nil ?_
            subst hz
            try dsimp only [NoPan]
            go_wp2_with fail
            have heq : ∀ W, (binOp .eql 29 (.agg (sumA (sumT (.fork k (.leaf k1 v1) (.leaf k2 v2))))) (.agg (sumA (sumT (.fork k (.leaf k1 v1) (.leaf k2 v2)))))).run Try.prog W = .ok (.bool true) W := fun W => by rw [sumA_eql (sumT_len _) (sumT_len _)]; simp
            refine wp_region_bar (Cls [bA] _) [([0, 1, 2, 3, 4, 5, 6, 7, 9], 8)] [10, 11, 12, 13] 14 [] [15, 16, 17] (by kernel_rfl) (by kernel_rfl) (Cls.refl _ _) ?_
            try dsimp only [wpMix, wpSegs, pick, List.getElem?_cons_zero, List.getElem?_cons_succ]
            generalize hz : Act.mk _ _ = z
            repeat (first | (subst hz; (refine wpQuiet_load_row 29 _ rfl (by kernel_rfl) bA rfl 29 (sumA (sumT (.fork k (.leaf k1 v1) (.leaf k2 v2)))) (0, 0) _ Hrow20.out Try.underlying29 rfl (info_sum (sumT_len _)) ?_); generalize hz : Act.put _ _ _ = z) | (refine wpQuiet_step (fun K hK => ?_); replace hK := Lib.hid hK; subst hz; go_simp; generalize hz : Act.mk _ _ = z; refine hK.out z ?_; clear hK K) | (refine wpQuiet_step (fun K hK => ?_); replace hK := Lib.hid hK; subst hz; refine iteSkip (by kernel_rfl) ?_; go_simp; generalize hz : Act.mk _ _ = z; refine hK.out z ?_; clear hK K))
            try refine wpQuiet_nil ?_
            subst hz
            try dsimp only [NoPan]
            go_wp2_with fail
            refine (tm_root (H20.out.still (Ext.refl _ _).drew)).mono ?_
            rintro e w21 ⟨rfl, h21, x21⟩
            rw [sumV_A, HRC.out.1]
            have H21 := Lib.hid (And.intro h21 x21)
            clear h21 x21
            go_wp2_with fail
            refine ⟨Cls.of_ext H21.out.2 fun q hq => ⟨by simp at hq; subst hq; exact lA20, id⟩, ?_⟩
            try dsimp only [wpMix, wpSegs, pick, List.getElem?_cons_zero, List.getElem?_cons_succ]
            generalize hz : Act.mk _ _ = z
            repeat (first | (subst hz; (refine wpQuiet_load_row 29 _ rfl (by kernel_rfl) bA rfl 29 (sumA (sumT (.fork k (.leaf k1 v1) (.leaf k2 v2)))) (0, 0) _ Hrow20.out Try.underlying29 rfl (info_sum (sumT_len _)) ?_); generalize hz : Act.put _ _ _ = z) | (refine wpQuiet_step (fun K hK => ?_); replace hK := Lib.hid hK; subst hz; go_simp; generalize hz : Act.mk _ _ = z; refine hK.out z ?_; clear hK K) | (refine wpQuiet_step (fun K hK => ?_); replace hK := Lib.hid hK; subst hz; refine iteSkip (by kernel_rfl) ?_; go_simp; generalize hz : Act.mk _ _ = z; refine hK.out z ?_; clear hK K))
            try refine wpQuiet_nil ?_
            subst hz
            try dsimp only [NoPan]
            go_wp2_with fail
            refine (tm_count H21.out.1).mono ?_
            rintro e _ ⟨rfl, rfl⟩
            rw [HRC.out.2]
            go_wp2_with fail
            try dsimp only [wpMix, wpSegs, pick, List.getElem?_cons_zero, List.getElem?_cons_succ]
            generalize hz : Act.mk _ _ = z
            repeat (first | (subst hz; (refine wpQuiet_load_row 29 _ rfl (by kernel_rfl) bA rfl 29 (sumA (sumT (.fork k (.leaf k1 v1) (.leaf k2 v2)))) (0, 0) _ Hrow20.out Try.underlying29 rfl (info_sum (sumT_len _)) ?_); generalize hz : Act.put _ _ _ = z) | (refine wpQuiet_step (fun K hK => ?_); replace hK := Lib.hid hK; subst hz; go_simp; generalize hz : Act.mk _ _ = z; refine hK.out z ?_; clear hK K) | (refine wpQuiet_step (fun K hK => ?_); replace hK := Lib.hid hK; subst hz; refine iteSkip (by kernel_rfl) ?_; go_simp; generalize hz : Act.mk _ _ = z; refine hK.out z ?_; clear hK K))
            try refine wpQuiet_nil ?_
            subst hz
            try dsimp only [NoPan]
            go_wp2_with fail
            go_ret
            exact ⟨rfl, HW.out.1.trans H21.out.1.2.2⟩
          · skip
            go_wp2_with fail
            generalize hwa : World.alloc wc2 _ = wc3
            have ga : wc3.heap[wc2.heap.size]? = some (.cells ((List.replicate 32 (0 : UInt8)).map byteV).toArray 29 (0, 0)) := by rw [← hwa]; exact heap_alloc_self _ _
            have xx : Ext (fun _ => False) wc2 wc3 := by rw [← hwa]; exact (Ext.refl _ _).alloc _
            clear hwa
            have HX3 := Lib.hid (HX2.out.trans xx)
            have lA : wc0.heap.size ≤ wc2.heap.size := HX2.out.size
            replace HF := Lib.hid (HF.out.same xx)
            replace gb := xx.heap gb id
            clear xx
            generalize wc2.heap.size = bA at *
            refine ⟨Cls.of_ext HX3.out fun q hq => ⟨by simp at hq; subst hq; exact lt_of_heap H18.out.1, id⟩, ?_⟩
            try dsimp only [wpM, wpSegs, pick, List.getElem?_cons_zero, List.getElem?_cons_succ]
            generalize hz : Act.mk _ _ = z
            repeat (first | (refine wpQuiet_step (fun K hK => ?_); replace hK := Lib.hid hK; subst hz; go_simp; generalize hz : Act.mk _ _ = z; refine hK.out z ?_; clear hK K) | (refine wpQuiet_step (fun K hK => ?_); replace hK := Lib.hid hK; subst hz; refine iteSkip (by kernel_rfl) ?_; go_simp; generalize hz : Act.mk _ _ = z; refine hK.out z ?_; clear hK K))
            try refine wpQuiet_nil ?_
            subst hz
            try dsimp only [NoPan]
            go_wp2_with fail
            refine (of_fork_walk (l := (.leaf k1 v1)) (r := (.leaf k2 v2)) (b := k) HF.out (sum_slice (HX3.out.heap H18.out.1 id) (sumT_len _)) (sum_slice (HX3.out.heap H18.out.2.1 id) (sumT_len _)) gb).mono ?_
            rintro e wc4 ⟨rfl, xx⟩
            have HX4 := Lib.hid (HX3.out.trans xx)
            replace ga := xx.heap ga id
            clear xx gb
            go_wp2_with fail
            refine ⟨Cls.of_ext HX4.out fun q hq => ⟨by simp at hq; subst hq; exact lt_of_heap H18.out.1, id⟩, ?_⟩
            try dsimp only [wpM, wpSegs, pick, List.getElem?_cons_zero, List.getElem?_cons_succ]
            generalize hz : Act.mk _ _ = z
            repeat (first | (refine wpQuiet_step (fun K hK => ?_); replace hK := Lib.hid hK; subst hz; go_simp; generalize hz : Act.mk _ _ = z; refine hK.out z ?_; clear hK K) | (refine wpQuiet_step (fun K hK => ?_); replace hK := Lib.hid hK; subst hz; refine iteSkip (by kernel_rfl) ?_; go_simp; generalize hz : Act.mk _ _ = z; refine hK.out z ?_; clear hK K))
            try refine wpQuiet_nil ?_
            subst hz
            try dsimp only [NoPan]
            have GA := Lib.hid ga
            clear ga
            go_wp2_with (refine wpList_store_row rfl 29 _ _ rfl bA (sumA (sumT (.fork k (.leaf k1 v1) (.leaf k2 v2)))) rfl rfl 29 _ GA.out (info_sum (sumT_len _)) (by rw [sumA_size (sumT_len _)]; rfl) (sumA_one _) ?_)
            have xx : Ext (fun _ => False) wc0 (wc4.setRow bA (sumA (sumT (.fork k (.leaf k1 v1) (.leaf k2 v2))))) := HX4.out.setRow (.inr lA) _
            have s20 : (wc4.setRow bA (sumA (sumT (.fork k (.leaf k1 v1) (.leaf k2 v2))))).heap[bA]? = some (.cells (sumA (sumT (.fork k (.leaf k1 v1) (.leaf k2 v2)))) 29 (0, 0)) := setRow_heap _ _ _ _ _ _ GA.out
            generalize wc4.setRow bA (sumA (sumT (.fork k (.leaf k1 v1) (.leaf k2 v2)))) = w20 at *
            have HX5 := Lib.hid xx
            have h20 := H18.out.2.2.still xx
            have lA20 := lt_of_heap s20
            have Hrow20 := Lib.hid (cls_heap (D := [bA]) (w0 := w20.drew) (by simp) s20)
            have H20 := Lib.hid h20
            clear xx h20 s20 GA
            refine ⟨Cls.of_ext HX5.out fun q hq => ⟨by simp at hq; subst hq; exact lt_of_heap H18.out.1, id⟩, ?_⟩
            try dsimp only [wpM, wpSegs, pick, List.getElem?_cons_zero, List.getElem?_cons_succ]
            generalize hz : Act.mk _ _ = z
            repeat (first | (refine wpQuiet_step (fun K hK => ?_); replace hK := Lib.hid hK; subst hz; go_simp; generalize hz : Act.mk _ _ = z; refine hK.out z ?_; clear hK K) | (refine wpQuiet_step (fun K hK => ?_); replace hK := Lib.hid hK; subst hz; refine iteSkip (by kernel_rfl) ?_; go_simp; generalize hz : Act.mk _ _ = z; refine hK.out z ?_; clear hK K))
            try refine wpQuiet_nil ?_
            subst hz
            try dsimp only [NoPan]
            go_wp2_with fail
            have heq : ∀ W, (binOp .eql 29 (.agg (sumA (sumT (.fork k (.leaf k1 v1) (.leaf k2 v2))))) (.agg (sumA (sumT (.fork k (.leaf k1 v1) (.leaf k2 v2)))))).run Try.prog W = .ok (.bool true) W := fun W => by rw [sumA_eql (sumT_len _) (sumT_len _)]; simp
            refine wp_region_bar (Cls [bA] _) [([0, 1, 2, 3, 4, 5, 6, 7, 9], 8)] [10, 11, 12, 13] 14 [] [15, 16, 17] (by kernel_rfl) (by kernel_rfl) (Cls.refl _ _) ?_
            try dsimp only [wpMix, wpSegs, pick, List.getElem?_cons_zero, List.getElem?_cons_succ]
            generalize hz : Act.mk _ _ = z
            repeat (first | (subst hz; (refine wpQuiet_load_row 29 _ rfl (by kernel_rfl) bA rfl 29 (sumA (sumT (.fork k (.leaf k1 v1) (.leaf k2 v2)))) (0, 0) _ Hrow20.out Try.underlying29 rfl (info_sum (sumT_len _)) ?_); generalize hz : Act.put _ _ _ = z) | (refine wpQuiet_step (fun K hK => ?_); replace hK := Lib.hid hK; subst hz; go_simp; generalize hz : Act.mk _ _ = z; refine hK.out z ?_; clear hK K) | (refine wpQuiet_step (fun K hK => ?_); replace hK := Lib.hid hK; subst hz; refine iteSkip (by kernel_rfl) ?_; go_simp; generalize hz : Act.mk _ _ = z; refine hK.out z ?_; clear hK K))
            try refine wpQuiet_nil ?_
            subst hz
            try dsimp only [NoPan]
            go_wp2_with fail
            refine (tm_root (H20.out.still (Ext.refl _ _).drew)).mono ?_
            rintro e w21 ⟨rfl, h21, x21⟩
            rw [sumV_A, HRC.out.1]
            have H21 := Lib.hid (And.intro h21 x21)
            clear h21 x21
            go_wp2_with fail
            refine ⟨Cls.of_ext H21.out.2 fun q hq => ⟨by simp at hq; subst hq; exact lA20, id⟩, ?_⟩
            try dsimp only [wpMix, wpSegs, pick, List.getElem?_cons_zero, List.getElem?_cons_succ]
            generalize hz : Act.mk _ _ = z
            repeat (first | (subst hz; (refine wpQuiet_load_row 29 _ rfl (by kernel_rfl) bA rfl 29 (sumA (sumT (.fork k (.leaf k1 v1) (.leaf k2 v2)))) (0, 0) _ Hrow20.out Try.underlying29 rfl (info_sum (sumT_len _)) ?_); generalize hz : Act.put _ _ _ = z) | (refine wpQuiet_step (fun K hK => ?_); replace hK := Lib.hid hK; subst hz; go_simp; generalize hz : Act.mk _ _ = z; refine hK.out z ?_; clear hK K) | (refine wpQuiet_step (fun K hK => ?_); replace hK := Lib.hid hK; subst hz; refine iteSkip (by kernel_rfl) ?_; go_simp; generalize hz : Act.mk _ _ = z; refine hK.out z ?_; clear hK K))
            try refine wpQuiet_nil ?_
            subst hz
            try dsimp only [NoPan]
            go_wp2_with fail
            refine (tm_count H21.out.1).mono ?_
            rintro e _ ⟨rfl, rfl⟩
            rw [HRC.out.2]
            go_wp2_with fail
            try dsimp only [wpMix, wpSegs, pick, List.getElem?_cons_zero, List.getElem?_cons_succ]
            generalize hz : Act.mk _ _ = z
            repeat (first | (subst hz; (refine wpQuiet_load_row 29 _ rfl (by kernel_rfl) bA rfl 29 (sumA (sumT (.fork k (.leaf k1 v1) (.leaf k2 v2)))) (0, 0) _ Hrow20.out Try.underlying29 rfl (info_sum (sumT_len _)) ?_); generalize hz : Act.put _ _ _ = z) | (refine wpQuiet_step (fun K hK => ?_); replace hK := Lib.hid hK; subst hz; go_simp; generalize hz : Act.mk _ _ = z; refine hK.out z ?_; clear hK K) | (refine wpQuiet_step (fun K hK => ?_); replace hK := Lib.hid hK; subst hz; refine iteSkip (by kernel_rfl) ?_; go_simp; generalize hz : Act.mk _ _ = z; refine hK.out z ?_; clear hK K))
            try refine wpQuiet_nil ?_
            subst hz
            try dsimp only [NoPan]
            go_wp2_with fail
            go_ret
            exact ⟨rfl, HW.out.1.trans H21.out.1.2.2⟩
        · skip
          go_wp2_with fail
          generalize hwa : World.alloc wc1 _ = wc2
          have ga : wc2.heap[wc1.heap.size]? = some (.cells ((List.replicate 32 (0 : UInt8)).map byteV).toArray 29 (0, 0)) := by rw [← hwa]; exact heap_alloc_self _ _
          have xx : Ext (fun _ => False) wc1 wc2 := by rw [← hwa]; exact (Ext.refl _ _).alloc _
          clear hwa
          have HX2 := Lib.hid (HX1.out.trans xx)
          have lA : wc0.heap.size ≤ wc1.heap.size := HX1.out.size
          replace HF := Lib.hid (HF.out.same xx)
          clear xx
          generalize wc1.heap.size = bA at *
          refine ⟨Cls.of_ext HX2.out fun q hq => ⟨by simp at hq; subst hq; exact lt_of_heap H18.out.1, id⟩, ?_⟩
          try dsimp only [wpM, wpSegs, pick, List.getElem?_cons_zero, List.getElem?_cons_succ]
          generalize hz : Act.mk _ _ = z
          repeat (first | (refine wpQuiet_step (fun K hK => ?_); replace hK := Lib.hid hK; subst hz; go_simp; generalize hz : Act.mk _ _ = z; refine hK.out z ?_; clear hK K) | (refine wpQuiet_step (fun K hK => ?_); replace hK := Lib.hid hK; subst hz; refine iteSkip (by kernel_rfl) ?_; go_simp; generalize hz : Act.mk _ _ = z; refine hK.out z ?_; clear hK K))
          try refine wpQuiet_nil ?_
          subst hz
          try dsimp only [NoPan]
          go_wp2_with fail
          generalize hwb : World.alloc wc2 _ = wc3
          have gb : wc3.heap[wc2.heap.size]? = some (.cells #[.slice An (beB k 8).length cn, .slice (some ⟨b12, 0, none⟩) 32 32, .slice (some ⟨b13', 0, none⟩) 32 32] 22 (0, 0)) := by rw [← hwb]; exact heap_alloc_self _ _
          have xx : Ext (fun _ => False) wc2 wc3 := by rw [← hwb]; exact (Ext.refl _ _).alloc _
          clear hwb
          have HX3 := Lib.hid (HX2.out.trans xx)
          replace ga := xx.heap ga id
          replace HF := Lib.hid (HF.out.same xx)
          clear xx
          generalize wc2.heap.size = bB at *
          refine ⟨Cls.of_ext HX3.out fun q hq => ⟨by simp at hq; subst hq; exact lt_of_heap H18.out.1, id⟩, ?_⟩
          try dsimp only [wpM, wpSegs, pick, List.getElem?_cons_zero, List.getElem?_cons_succ]
          generalize hz : Act.mk _ _ = z
          repeat (first | (refine wpQuiet_step (fun K hK => ?_); replace hK := Lib.hid hK; subst hz; go_simp; generalize hz : Act.mk _ _ = z; refine hK.out z ?_; clear hK K) | (refine wpQuiet_step (fun K hK => ?_); replace hK := Lib.hid hK; subst hz; refine iteSkip (by kernel_rfl) ?_; go_simp; generalize hz : Act.mk _ _ = z; refine hK.out z ?_; clear hK K))
          try refine wpQuiet_nil ?_
          subst hz
          try dsimp only [NoPan]
          go_wp2_with fail
          refine (of_fork_walk (l := (.leaf k1 v1)) (r := (.leaf k2 v2)) (b := k) HF.out (sum_slice (HX3.out.heap H18.out.1 id) (sumT_len _)) (sum_slice (HX3.out.heap H18.out.2.1 id) (sumT_len _)) gb).mono ?_
          rintro e wc4 ⟨rfl, xx⟩
          have HX4 := Lib.hid (HX3.out.trans xx)
          replace ga := xx.heap ga id
          clear xx gb
          go_wp2_with fail
          refine ⟨Cls.of_ext HX4.out fun q hq => ⟨by simp at hq; subst hq; exact lt_of_heap H18.out.1, id⟩, ?_⟩
          try dsimp only [wpM, wpSegs, pick, List.getElem?_cons_zero, List.getElem?_cons_succ]
          generalize hz : Act.mk _ _ = z
          repeat (first | (refine wpQuiet_step (fun K hK => ?_); replace hK := Lib.hid hK; subst hz; go_simp; generalize hz : Act.mk _ _ = z; refine hK.out z ?_; clear hK K) | (refine wpQuiet_step (fun K hK => ?_); replace hK := Lib.hid hK; subst hz; refine iteSkip (by kernel_rfl) ?_; go_simp; generalize hz : Act.mk _ _ = z; refine hK.out z ?_; clear hK K))
          try refine wpQuiet_nil ?_
          subst hz
          try dsimp only [NoPan]
          have GA := Lib.hid ga
          clear ga
          go_wp2_with (refine wpList_store_row rfl 29 _ _ rfl bA (sumA (sumT (.fork k (.leaf k1 v1) (.leaf k2 v2)))) rfl rfl 29 _ GA.out (info_sum (sumT_len _)) (by rw [sumA_size (sumT_len _)]; rfl) (sumA_one _) ?_)
          have xx : Ext (fun _ => False) wc0 (wc4.setRow bA (sumA (sumT (.fork k (.leaf k1 v1) (.leaf k2 v2))))) := HX4.out.setRow (.inr lA) _
          have s20 : (wc4.setRow bA (sumA (sumT (.fork k (.leaf k1 v1) (.leaf k2 v2))))).heap[bA]? = some (.cells (sumA (sumT (.fork k (.leaf k1 v1) (.leaf k2 v2)))) 29 (0, 0)) := setRow_heap _ _ _ _ _ _ GA.out
          generalize wc4.setRow bA (sumA (sumT (.fork k (.leaf k1 v1) (.leaf k2 v2)))) = w20 at *
          have HX5 := Lib.hid xx
          have h20 := H18.out.2.2.still xx
          have lA20 := lt_of_heap s20
          have Hrow20 := Lib.hid (cls_heap (D := [bA]) (w0 := w20.drew) (by simp) s20)
          have H20 := Lib.hid h20
          clear xx h20 s20 GA
          refine ⟨Cls.of_ext HX5.out fun q hq => ⟨by simp at hq; subst hq; exact lt_of_heap H18.out.1, id⟩, ?_⟩
          try dsimp only [wpM, wpSegs, pick, List.getElem?_cons_zero, List.getElem?_cons_succ]
          generalize hz : Act.mk _ _ = z
          repeat (first | (refine wpQuiet_step (fun K hK => ?_); replace hK := Lib.hid hK; subst hz; go_simp; generalize hz : Act.mk _ _ = z; refine hK.out z ?_; clear hK K) | (refine wpQuiet_step (fun K hK => ?_); replace hK := Lib.hid hK; subst hz; refine iteSkip (by kernel_rfl) ?_; go_simp; generalize hz : Act.mk _ _ = z; refine hK.out z ?_; clear hK K))
          try refine wpQuiet_nil ?_
          subst hz
          try dsimp only [NoPan]
          go_wp2_with fail
          have heq : ∀ W, (binOp .eql 29 (.agg (sumA (sumT (.fork k (.leaf k1 v1) (.leaf k2 v2))))) (.agg (sumA (sumT (.fork k (.leaf k1 v1) (.leaf k2 v2)))))).run Try.prog W = .ok (.bool true) W := fun W => by rw [sumA_eql (sumT_len _) (sumT_len _)]; simp
          refine wp_region_bar (Cls [bA] _) [([0, 1, 2, 3, 4, 5, 6, 7, 9], 8)] [10, 11, 12, 13] 14 [] [15, 16, 17] (by kernel_rfl) (by kernel_rfl) (Cls.refl _ _) ?_
          try dsimp only [wpMix, wpSegs, pick, List.getElem?_cons_zero, List.getElem?_cons_succ]
          generalize hz : Act.mk _ _ = z
          repeat (first | (subst hz; (refine wpQuiet_load_row 29 _ rfl (by kernel_rfl) bA rfl 29 (sumA (sumT (.fork k (.leaf k1 v1) (.leaf k2 v2)))) (0, 0) _ Hrow20.out Try.underlying29 rfl (info_sum (sumT_len _)) ?_); generalize hz : Act.put _ _ _ = z) | (refine wpQuiet_step (fun K hK => ?_); replace hK := Lib.hid hK; subst hz; go_simp; generalize hz : Act.mk _ _ = z; refine hK.out z ?_; clear hK K) | (refine wpQuiet_step (fun K hK => ?_); replace hK := Lib.hid hK; subst hz; refine iteSkip (by kernel_rfl) ?_; go_simp; generalize hz : Act.mk _ _ = z; refine hK.out z ?_; clear hK K))
          try refine wpQuiet_nil ?_
          subst hz
          try dsimp only [NoPan]
          go_wp2_with fail
          refine (tm_root (H20.out.still (Ext.refl _ _).drew)).mono ?_
          rintro e w21 ⟨rfl, h21, x21⟩
          rw [sumV_A, HRC.out.1]
          have H21 := Lib.hid (And.intro h21 x21)
          clear h21 x21
          go_wp2_with fail
          refine ⟨Cls.of_ext H21.out.2 fun q hq => ⟨by simp at hq; subst hq; exact lA20, id⟩, ?_⟩
          try dsimp only [wpMix, wpSegs, pick, List.getElem?_cons_zero, List.getElem?_cons_succ]
          generalize hz : Act.mk _ _ = z
          repeat (first | (subst hz; (refine wpQuiet_load_row 29 _ rfl (by kernel_rfl) bA rfl 29 (sumA (sumT (.fork k (.leaf k1 v1) (.leaf k2 v2)))) (0, 0) _ Hrow20.out Try.underlying29 rfl (info_sum (sumT_len _)) ?_); generalize hz : Act.put _ _ _ = z) | (refine wpQuiet_step (fun K hK => ?_); replace hK := Lib.hid hK; subst hz; go_simp; generalize hz : Act.mk _ _ = z; refine hK.out z ?_; clear hK K) | (refine wpQuiet_step (fun K hK => ?_); replace hK := Lib.hid hK; subst hz; refine iteSkip (by kernel_rfl) ?_; go_simp; generalize hz : Act.mk _ _ = z; refine hK.out z ?_; clear hK K))
          try refine wpQuiet_nil ?_
          subst hz
          try dsimp only [NoPan]
          go_wp2_with fail
          refine (tm_count H21.out.1).mono ?_
          rintro e _ ⟨rfl, rfl⟩
          rw [HRC.out.2]
          go_wp2_with fail
          try dsimp only [wpMix, wpSegs, pick, List.getElem?_cons_zero, List.getElem?_cons_succ]
          generalize hz : Act.mk _ _ = z
          repeat (first | (subst hz; (refine wpQuiet_load_row 29 _ rfl (by kernel_rfl) bA rfl 29 (sumA (sumT (.fork k (.leaf k1 v1) (.leaf k2 v2)))) (0, 0) _ Hrow20.out Try.underlying29 rfl (info_sum (sumT_len _)) ?_); generalize hz : Act.put _ _ _ = z) | (refine wpQuiet_step (fun K hK => ?_); replace hK := Lib.hid hK; subst hz; go_simp; generalize hz : Act.mk _ _ = z; refine hK.out z ?_; clear hK K) | (refine wpQuiet_step (fun K hK => ?_); replace hK := Lib.hid hK; subst hz; refine iteSkip (by kernel_rfl) ?_; go_simp; generalize hz : Act.mk _ _ = z; refine hK.out z ?_; clear hK K))
          try refine wpQuiet_nil ?_
          subst hz
          try dsimp only [NoPan]
          go_wp2_with fail
          go_ret
          exact ⟨rfl, HW.out.1.trans H21.out.1.2.2⟩
      · skip
        go_wp2_with fail
        generalize hwa : World.alloc wc0 _ = wc1
        have ga : wc1.heap[wc0.heap.size]? = some (.cells ((List.replicate 32 (0 : UInt8)).map byteV).toArray 29 (0, 0)) := by rw [← hwa]; exact heap_alloc_self _ _
        have xx : Ext (fun _ => False) wc0 wc1 := by rw [← hwa]; exact (Ext.refl _ _).alloc _
        clear hwa
        have HX1 := Lib.hid (HX0.out.trans xx)
        have lA : wc0.heap.size ≤ wc0.heap.size := HX0.out.size
        clear xx
        refine ⟨Cls.of_ext HX1.out fun q hq => ⟨by simp at hq; subst hq; exact lt_of_heap H18.out.1, id⟩, ?_⟩
        try dsimp only [wpM, wpSegs, pick, List.getElem?_cons_zero, List.getElem?_cons_succ]
        generalize hz : Act.mk _ _ = z
        repeat (first | (refine wpQuiet_step (fun K hK => ?_); replace hK := Lib.hid hK; subst hz; go_simp; generalize hz : Act.mk _ _ = z; refine hK.out z ?_; clear hK K) | (refine wpQuiet_step (fun K hK => ?_); replace hK := Lib.hid hK; subst hz; refine iteSkip (by kernel_rfl) ?_; go_simp; generalize hz : Act.mk _ _ = z; refine hK.out z ?_; clear hK K))
        try refine wpQuiet_nil ?_
        subst hz
        try dsimp only [NoPan]
        go_wp2_with fail
        refine (num_walk _ k).mono ?_
        rintro e wc2 ⟨nv, rfl, f⟩
        obtain ⟨An, cn, rfl⟩ := f.own.formv
        have HF := Lib.hid (Byt.any f.own.byt)
        have xx := f.ext
        clear f
        have HX2 := Lib.hid (HX1.out.trans xx)
        replace ga := xx.heap ga id
        clear xx
        go_wp2_with fail
        refine ⟨Cls.of_ext HX2.out fun q hq => ⟨by simp at hq; subst hq; exact lt_of_heap H18.out.1, id⟩, ?_⟩
        try dsimp only [wpM, wpSegs, pick, List.getElem?_cons_zero, List.getElem?_cons_succ]
        generalize hz : Act.mk _ _ = z
        repeat (first | (refine wpQuiet_step (fun K hK => ?_); replace hK := Lib.hid hK; subst hz; go_simp; generalize hz : Act.mk _ _ = z; refine hK.out z ?_; clear hK K) | (refine wpQuiet_step (fun K hK => ?_); replace hK := Lib.hid hK; subst hz; refine iteSkip (by kernel_rfl) ?_; go_simp; generalize hz : Act.mk _ _ = z; refine hK.out z ?_; clear hK K))
        try refine wpQuiet_nil ?_
        subst hz
        try dsimp only [NoPan]
        go_wp2_with fail
        generalize hwb : World.alloc wc2 _ = wc3
        have gb : wc3.heap[wc2.heap.size]? = some (.cells #[.slice An (beB k 8).length cn, .slice (some ⟨b12, 0, none⟩) 32 32, .slice (some ⟨b13', 0, none⟩) 32 32] 22 (0, 0)) := by rw [← hwb]; exact heap_alloc_self _ _
        have xx : Ext (fun _ => False) wc2 wc3 := by rw [← hwb]; exact (Ext.refl _ _).alloc _
        clear hwb
        have HX3 := Lib.hid (HX2.out.trans xx)
        replace ga := xx.heap ga id
        replace HF := Lib.hid (HF.out.same xx)
        clear xx
        generalize wc2.heap.size = bB at *
        refine ⟨Cls.of_ext HX3.out fun q hq => ⟨by simp at hq; subst hq; exact lt_of_heap H18.out.1, id⟩, ?_⟩
        try dsimp only [wpM, wpSegs, pick, List.getElem?_cons_zero, List.getElem?_cons_succ]
        generalize hz : Act.mk _ _ = z
        repeat (first | (refine wpQuiet_step (fun K hK => ?_); replace hK := Lib.hid hK; subst hz; go_simp; generalize hz : Act.mk _ _ = z; refine hK.out z ?_; clear hK K) | (refine wpQuiet_step (fun K hK => ?_); replace hK := Lib.hid hK; subst hz; refine iteSkip (by kernel_rfl) ?_; go_simp; generalize hz : Act.mk _ _ = z; refine hK.out z ?_; clear hK K))
        try refine wpQuiet_nil ?_
        subst hz
        try dsimp only [NoPan]
        go_wp2_with fail
        refine (of_fork_walk (l := (.leaf k1 v1)) (r := (.leaf k2 v2)) (b := k) HF.out (sum_slice (HX3.out.heap H18.out.1 id) (sumT_len _)) (sum_slice (HX3.out.heap H18.out.2.1 id) (sumT_len _)) gb).mono ?_
        rintro e wc4 ⟨rfl, xx⟩
        have HX4 := Lib.hid (HX3.out.trans xx)
        replace ga := xx.heap ga id
        clear xx gb
        go_wp2_with fail
        refine ⟨Cls.of_ext HX4.out fun q hq => ⟨by simp at hq; subst hq; exact lt_of_heap H18.out.1, id⟩, ?_⟩
        try dsimp only [wpM, wpSegs, pick, List.getElem?_cons_zero, List.getElem?_cons_succ]
        generalize hz : Act.mk _ _ = z
        repeat (first | (refine wpQuiet_step (fun K hK => ?_); replace hK := Lib.hid hK; subst hz; go_simp; generalize hz : Act.mk _ _ = z; refine hK.out z ?_; clear hK K) | (refine wpQuiet_step (fun K hK => ?_); replace hK := Lib.hid hK; subst hz; refine iteSkip (by kernel_rfl) ?_; go_simp; generalize hz : Act.mk _ _ = z; refine hK.out z ?_; clear hK K))
        try refine wpQuiet_nil ?_
        subst hz
        try dsimp only [NoPan]
        have GA := Lib.hid ga
        clear ga
        go_wp2_with (refine wpList_store_row rfl 29 _ _ rfl wc0.heap.size (sumA (sumT (.fork k (.leaf k1 v1) (.leaf k2 v2)))) rfl rfl 29 _ GA.out (info_sum (sumT_len _)) (by rw [sumA_size (sumT_len _)]; rfl) (sumA_one _) ?_)
        have xx : Ext (fun _ => False) wc0 (wc4.setRow wc0.heap.size (sumA (sumT (.fork k (.leaf k1 v1) (.leaf k2 v2))))) := HX4.out.setRow (.inr lA) _
        have s20 : (wc4.setRow wc0.heap.size (sumA (sumT (.fork k (.leaf k1 v1) (.leaf k2 v2))))).heap[wc0.heap.size]? = some (.cells (sumA (sumT (.fork k (.leaf k1 v1) (.leaf k2 v2)))) 29 (0, 0)) := setRow_heap _ _ _ _ _ _ GA.out
        generalize wc4.setRow wc0.heap.size (sumA (sumT (.fork k (.leaf k1 v1) (.leaf k2 v2)))) = w20 at *
        have HX5 := Lib.hid xx
        have h20 := H18.out.2.2.still xx
        have lA20 := lt_of_heap s20
        have Hrow20 := Lib.hid (cls_heap (D := [wc0.heap.size]) (w0 := w20.drew) (by simp) s20)
        have H20 := Lib.hid h20
        clear xx h20 s20 GA
        refine ⟨Cls.of_ext HX5.out fun q hq => ⟨by simp at hq; subst hq; exact lt_of_heap H18.out.1, id⟩, ?_⟩
        try dsimp only [wpM, wpSegs, pick, List.getElem?_cons_zero, List.getElem?_cons_succ]
        generalize hz : Act.mk _ _ = z
        repeat (first | (refine wpQuiet_step (fun K hK => ?_); replace hK := Lib.hid hK; subst hz; go_simp; generalize hz : Act.mk _ _ = z; refine hK.out z ?_; clear hK K) | (refine wpQuiet_step (fun K hK => ?_); replace hK := Lib.hid hK; subst hz; refine iteSkip (by kernel_rfl) ?_; go_simp; generalize hz : Act.mk _ _ = z; refine hK.out z ?_; clear hK K))
        try refine wpQuiet_nil ?_
        subst hz
        try dsimp only [NoPan]
        go_wp2_with fail
        have heq : ∀ W, (binOp .eql 29 (.agg (sumA (sumT (.fork k (.leaf k1 v1) (.leaf k2 v2))))) (.agg (sumA (sumT (.fork k (.leaf k1 v1) (.leaf k2 v2)))))).run Try.prog W = .ok (.bool true) W := fun W => by rw [sumA_eql (sumT_len _) (sumT_len _)]; simp
        refine wp_region_bar (Cls [wc0.heap.size] _) [([0, 1, 2, 3, 4, 5, 6, 7, 9], 8)] [10, 11, 12, 13] 14 [] [15, 16, 17] (by kernel_rfl) (by kernel_rfl) (Cls.refl _ _) ?_
        try dsimp only [wpMix, wpSegs, pick, List.getElem?_cons_zero, List.getElem?_cons_succ]
        generalize hz : Act.mk _ _ = z
        repeat (first | (subst hz; (refine wpQuiet_load_row 29 _ rfl (by kernel_rfl) wc0.heap.size rfl 29 (sumA (sumT (.fork k (.leaf k1 v1) (.leaf k2 v2)))) (0, 0) _ Hrow20.out Try.underlying29 rfl (info_sum (sumT_len _)) ?_); generalize hz : Act.put _ _ _ = z) | (refine wpQuiet_step (fun K hK => ?_); replace hK := Lib.hid hK; subst hz; go_simp; generalize hz : Act.mk _ _ = z; refine hK.out z ?_; clear hK K) | (refine wpQuiet_step (fun K hK => ?_); replace hK := Lib.hid hK; subst hz; refine iteSkip (by kernel_rfl) ?_; go_simp; generalize hz : Act.mk _ _ = z; refine hK.out z ?_; clear hK K))
        try refine wpQuiet_nil ?_
        subst hz
        try dsimp only [NoPan]
        go_wp2_with fail
        refine (tm_root (H20.out.still (Ext.refl _ _).drew)).mono ?_
        rintro e w21 ⟨rfl, h21, x21⟩
        rw [sumV_A, HRC.out.1]
        have H21 := Lib.hid (And.intro h21 x21)
        clear h21 x21
        go_wp2_with fail
        refine ⟨Cls.of_ext H21.out.2 fun q hq => ⟨by simp at hq; subst hq; exact lA20, id⟩, ?_⟩
        try dsimp only [wpMix, wpSegs, pick, List.getElem?_cons_zero, List.getElem?_cons_succ]
        generalize hz : Act.mk _ _ = z
        repeat (first | (subst hz; (refine wpQuiet_load_row 29 _ rfl (by kernel_rfl) wc0.heap.size rfl 29 (sumA (sumT (.fork k (.leaf k1 v1) (.leaf k2 v2)))) (0, 0) _ Hrow20.out Try.underlying29 rfl (info_sum (sumT_len _)) ?_); generalize hz : Act.put _ _ _ = z) | (refine wpQuiet_step (fun K hK => ?_); replace hK := Lib.hid hK; subst hz; go_simp; generalize hz : Act.mk _ _ = z; refine hK.out z ?_; clear hK K) | (refine wpQuiet_step (fun K hK => ?_); replace hK := Lib.hid hK; subst hz; refine iteSkip (by kernel_rfl) ?_; go_simp; generalize hz : Act.mk _ _ = z; refine hK.out z ?_; clear hK K))
        try refine wpQuiet_nil ?_
        subst hz
        try dsimp only [NoPan]
        go_wp2_with fail
        refine (tm_count H21.out.1).mono ?_
        rintro e _ ⟨rfl, rfl⟩
        rw [HRC.out.2]
        go_wp2_with fail
        try dsimp only [wpMix, wpSegs, pick, List.getElem?_cons_zero, List.getElem?_cons_succ]
        generalize hz : Act.mk _ _ = z
        repeat (first | (subst hz; (refine wpQuiet_load_row 29 _ rfl (by kernel_rfl) wc0.heap.size rfl 29 (sumA (sumT (.fork k (.leaf k1 v1) (.leaf k2 v2)))) (0, 0) _ Hrow20.out Try.underlying29 rfl (info_sum (sumT_len _)) ?_); generalize hz : Act.put _ _ _ = z) | (refine wpQuiet_step (fun K hK => ?_); replace hK := Lib.hid hK; subst hz; go_simp; generalize hz : Act.mk _ _ = z; refine hK.out z ?_; clear hK K) | (refine wpQuiet_step (fun K hK => ?_); replace hK := Lib.hid hK; subst hz; refine iteSkip (by kernel_rfl) ?_; go_simp; generalize hz : Act.mk _ _ = z; refine hK.out z ?_; clear hK K))
        try refine wpQuiet_nil ?_
        subst hz
        try dsimp only [NoPan]
        go_wp2_with fail
        go_ret
        exact ⟨rfl, HW.out.1.trans H21.out.1.2.2⟩
theorem forks_law {w : World} {D : Nat → Prop} {x1 y1 x2 y2 : Value} {k1 v1 k2 v2 : Bs} (hk1 : Byt D w x1 k1) (lk1 : k1.length ≤ 140737488351232) (hv1 : Byt D w y1 v1) (lv1 : v1.length ≤ 140737488351232) (hk2 : Byt D w x2 k2) (lk2 : k2.length ≤ 140737488351232) (hv2 : Byt D w y2 v2) (lv2 : v2.length ≤ 140737488351232) :
    Calls Try.prog 3 #[.agg #[x1, y1], .agg #[x2, y2]] w fun e w' => e = .returned (.bool true) ∧ Ext (fun _ => False) w w' := forks_walk hk1 hv1 hk2 hv2 lk1 lv1 lk2 lv2
end Go.Proofs.Ytkdnhnmiofhokaa
