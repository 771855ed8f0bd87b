/- The document's Texts, Root; no condition. -/
import Derived.Test.YtkdnhnmiofhokaaTrieTexts
namespace Go.Proofs.Ytkdnhnmiofhokaa
set_option linter.unusedVariables false
set_option linter.unusedSimpArgs false
open Go.RowKit

theorem text_leaf {k v : Bs} (hk : k.length ≤ 65536) (hv : v.length ≤ 65536) : (textR [108, 101, 97, 102] [k, v]).2 = 0 := by
  rw [textR, if_neg (by decide)]
  refine rowR_short (by simp) fun l hl => ?_
  simp only [List.mem_cons, List.not_mem_nil, or_false] at hl
  rcases hl with rfl | rfl | rfl
  · decide
  · exact hk
  · exact hv
theorem text_fork (b : Nat) (l r : Tr) : (textR [102, 111, 114, 107] [beB (b : Int) 8, sumT l, sumT r]).2 = 0 := by
  rw [textR, if_neg (by decide)]
  refine rowR_short (by simp) fun l' hl => ?_
  simp only [List.mem_cons, List.not_mem_nil, or_false] at hl
  rcases hl with rfl | rfl | rfl | rfl
  · decide
  · rw [beB_len]; decide
  · rw [sumT_len]; decide
  · rw [sumT_len]; decide
def TextsPost (w : World) (s : Bs) (N : Nat) (e : Ending) (w' : World) : Prop := ∃ v3 n, e = .returned (.tuple #[.agg (sumA s), v3]) ∧ OwnV w.heap.size w' v3 n ∧ 0 < n ∧ n ≤ N ∧ Ext (fun _ => False) w w'
theorem Ents.at {w : World} {v : Value} {l : List (Bs × Bs)} (h : Ents w v l) {i : Nat} (hi : i < l.length) : ∃ g off c, v = .slice (some ⟨g, off, none⟩) l.length c ∧ g < w.heap.size ∧ EntryIs (· < w.heap.size) w g (off + i * 2) l[i] := by
  obtain ⟨A, c, rfl, hc, h⟩ := h
  have hne : l ≠ [] := by rintro rfl; simp at hi
  obtain ⟨g, o, rfl, hd, hr⟩ := h hne
  exact ⟨g, o, c, rfl, hd, hr i _ (List.getElem?_eq_getElem hi)⟩
set_option maxRecDepth 100000 in
set_option maxHeartbeats 2000000 in
theorem dtexts_none {w : World} {lv : Value} (hL : Ents w lv []) : Calls Try.prog 50 #[lv] w (TextsPost w (rootS none) 1) := by
  have hs1 := heap_alloc_self w (.cells ((List.replicate 32 (0 : UInt8)).map byteV).toArray 29 (0, 0))
  have hx1 : Ext (fun _ => False) w (w.alloc (.cells ((List.replicate 32 (0 : UInt8)).map byteV).toArray 29 (0, 0))) := (Ext.refl _ _).alloc _
  obtain ⟨A, cp, rfl, _, _⟩ := hL
  have H1 := Lib.hid (And.intro hs1 hx1)
  clear hs1 hx1
  go_enter Try.func50, Try.ntmps50
  go_wp2_with fail
  refine (text4_walk (nm := [110, 111, 110, 101]) (ls := []) (D := fun _ => True) ⟨_, _, rfl, Nat.le_refl _, fun h => absurd rfl h⟩ (by simp) (by decide)).mono ?_
  rintro e w2 ⟨v2, rfl, f2⟩
  obtain ⟨A2, c2, rfl⟩ := f2.own.formv
  have x2 : Ext (fun _ => False) w w2 := H1.out.2.trans f2.ext
  have s2 := f2.ext.heap H1.out.1 id
  have hn2 := lt_of_heap s2
  have H2 := Lib.hid (And.intro f2.own (And.intro x2 s2))
  clear f2 x2 s2
  go_wp2_with fail
  refine (raw4_walk (nm := [110, 111, 110, 101]) (ls := []) H2.out.1.byt (by decide)).mono ?_
  rintro e w3 ⟨rfl, x3⟩
  rw [of_none]
  have s3 := x3.heap H2.out.2.2 id
  have y3 := H2.out.2.1.trans x3
  have hn3 := lt_of_heap s3
  have H3 := Lib.hid (And.intro s3 y3)
  clear s3 y3 x3
  have hs4 : ∀ o : Obj, (w3.alloc o).heap[w.heap.size]? = some (.cells ((List.replicate 32 (0 : UInt8)).map byteV).toArray 29 (0, 0)) := fun o => ((Ext.refl (fun _ => False) w3).alloc o).heap H3.out.1 id
  have H4 := Lib.hid hs4
  clear hs4
  go_wp2_with (refine wpList_store_row rfl 29 _ _ rfl w.heap.size (sumA (rootS none)) rfl rfl 29 _ (H4.out _) (info_sum (rootS_len _)) (by rw [sumA_size (rootS_len _)]; rfl) (sumA_one _) ?_)
  refine bodyPost_ret (results_cell_tmp rfl _ _ w.heap.size 29 (sumA (rootS none)) (0, 0) _ rfl (setRow_heap _ _ _ _ _ _ (H4.out _)) Try.underlying29 rfl (info_sum (rootS_len _))) rfl ?_
  have hg := heap_alloc_self w3 (.cells #[.slice A2 (textR [110, 111, 110, 101] []).1.length c2] 22 (0, 0))
  refine ⟨_, 1, rfl, OwnV.one (by rw [setRow_other _ _ _ _ (by omega)]; exact hg) (by omega), by decide, Nat.le_refl _, (H3.out.2.alloc _).setRow (.inr (Nat.le_refl _)) _⟩
set_option maxRecDepth 100000 in
set_option maxHeartbeats 2000000 in
theorem dtexts_leaf {w : World} {lv : Value} {k v : Bs} (hL : Ents w lv [(k, v)]) (hk : k.length ≤ 120) (hv : v.length ≤ 1200) : Calls Try.prog 50 #[lv] w (TextsPost w (sumT (.leaf k v)) 1) := by
  have hs1 := heap_alloc_self w (.cells ((List.replicate 32 (0 : UInt8)).map byteV).toArray 29 (0, 0))
  have hx1 : Ext (fun _ => False) w (w.alloc (.cells ((List.replicate 32 (0 : UInt8)).map byteV).toArray 29 (0, 0))) := (Ext.refl _ _).alloc _
  obtain ⟨g, off, c, rfl, hgl, ⟨⟨a, b, c0, c1, ha, hb⟩, _, _⟩⟩ := hL.at (i := 0) (by simp)
  have z0 : (w.alloc (.cells ((List.replicate 32 (0 : UInt8)).map byteV).toArray 29 (0, 0))).cell? ⟨g, off, none⟩ = some a := cell_same (by simpa using c0) hx1
  have z1 : (w.alloc (.cells ((List.replicate 32 (0 : UInt8)).map byteV).toArray 29 (0, 0))).cell? ⟨g, off + 1, none⟩ = some b := cell_same (by simpa using c1) hx1
  have hlen : ([(k, v)] : List (Bs × Bs)).length = 1 := rfl
  rw [hlen]
  replace ha : Byt (fun _ => True) w a k := ha.mono fun _ _ => trivial
  replace hb : Byt (fun _ => True) w b v := hb.mono fun _ _ => trivial
  have hg1 : g < (w.alloc (.cells ((List.replicate 32 (0 : UInt8)).map byteV).toArray 29 (0, 0))).heap.size := Nat.lt_of_lt_of_le hgl hx1.size
  obtain ⟨A1, cc1, rfl, _, _⟩ := id ha
  obtain ⟨A2, cc2, rfl, _, _⟩ := id hb
  have H1 := Lib.hid (And.intro hs1 (And.intro hx1 (And.intro ha hb)))
  clear ha hb hL c0 c1
  go_enter Try.func50, Try.ntmps50
  go_wp2_with fail
  generalize hW1 : World.alloc w _ = W1
  have z0' : W1.drew.cell? ⟨g, off, none⟩ = some (.slice A1 k.length cc1) := by rw [← hW1]; exact z0
  have z1' : W1.drew.cell? ⟨g, off + 1, none⟩ = some (.slice A2 v.length cc2) := by rw [← hW1]; exact z1
  have s1 : W1.drew.heap[w.heap.size]? = some (.cells ((List.replicate 32 (0 : UInt8)).map byteV).toArray 29 (0, 0)) := by rw [← hW1]; exact H1.out.1
  have x1 : Ext (fun _ => False) w W1.drew := by rw [← hW1]; exact H1.out.2.1.drew
  have hg1' : g < W1.drew.heap.size := by rw [← hW1]; exact hg1
  have hn1 := lt_of_heap s1
  have HZ := Lib.hid (And.intro s1 x1)
  clear hW1 z0 z1 hg1 s1 x1
  refine wp_region_bar (Cls [g] _) [([0, 1, 2, 3, 4, 5, 6, 7], 8)] [] 9 [] [10] (by kernel_rfl) (by kernel_rfl) (Cls.refl _ _) ?_
  try dsimp only [wpMix, wpSegs, pick, List.getElem?_cons_zero, List.getElem?_cons_succ]
  generalize hz : Act.mk _ _ = z
  repeat (first | (refine wpQuiet_step (fun K hK => ?_); replace hK := Lib.hid hK; subst hz; go_simp; generalize hz : Act.mk _ _ = z; refine hK.out z ?_; clear hK K) | (refine wpQuiet_step (fun K hK => ?_); replace hK := Lib.hid hK; subst hz; refine iteSkip (by kernel_rfl) ?_; go_simp; generalize hz : Act.mk _ _ = z; refine hK.out z ?_; clear hK K))
  try refine wpQuiet_nil ?_
  subst hz
  try dsimp only [NoPan]
  generalize W1.drew = V at *
  go_wp2_with fail
  generalize hw2 : World.alloc V _ = w2
  have g2 : w2.heap[V.heap.size]? = some (.cells #[.slice A1 k.length cc1, .slice A2 v.length cc2] 22 (0, 0)) := by rw [← hw2]; exact heap_alloc_self _ _
  have x2 : Ext (fun _ => False) V w2 := by rw [← hw2]; exact (Ext.refl _ _).alloc _
  clear hw2
  have hbs := byts_lit (D := fun _ => True) (vs := [.slice A1 k.length cc1, .slice A2 v.length cc2]) (ls := [k, v]) g2 rfl trivial (fun i a l ha hl => by
    match i with
    | 0 => simp at ha hl; subst ha hl; exact H1.out.2.2.1.same (HZ.out.2.trans x2)
    | 1 => simp at ha hl; subst ha hl; exact H1.out.2.2.2.same (HZ.out.2.trans x2)
    | n + 2 => simp at ha) 2 rfl
  have H2 := Lib.hid (And.intro hbs x2)
  clear hbs x2 g2
  refine ⟨Cls.of_ext H2.out.2 fun q hq => ⟨by simp at hq; subst hq; exact hg1', id⟩, ?_⟩
  generalize V.heap.size = gb at *
  try dsimp only [wpMix, wpSegs, pick, List.getElem?_cons_zero, List.getElem?_cons_succ]
  generalize hz : Act.mk _ _ = z
  repeat (first | (refine wpQuiet_step (fun K hK => ?_); replace hK := Lib.hid hK; subst hz; go_simp; generalize hz : Act.mk _ _ = z; refine hK.out z ?_; clear hK K) | (refine wpQuiet_step (fun K hK => ?_); replace hK := Lib.hid hK; subst hz; refine iteSkip (by kernel_rfl) ?_; go_simp; generalize hz : Act.mk _ _ = z; refine hK.out z ?_; clear hK K))
  try refine wpQuiet_nil ?_
  subst hz
  try dsimp only [NoPan]
  go_wp2_with fail
  refine (text4_walk (nm := [108, 101, 97, 102]) H2.out.1 (by simp) (by decide)).mono ?_
  rintro e w3 ⟨v3, rfl, f3⟩
  obtain ⟨A3, c3, rfl⟩ := f3.own.formv
  have y3 := (HZ.out.2.trans H2.out.2).trans f3.ext
  have s3 := (H2.out.2.trans f3.ext).heap HZ.out.1 id
  have hn3 := lt_of_heap s3
  have H3 := Lib.hid (And.intro f3.own (And.intro y3 (And.intro s3 (H2.out.2.trans f3.ext))))
  clear f3 y3 s3
  go_wp2_with fail
  try dsimp only [wpMix, wpSegs, pick, List.getElem?_cons_zero, List.getElem?_cons_succ]
  generalize hz : Act.mk _ _ = z
  repeat (first | (refine wpQuiet_step (fun K hK => ?_); replace hK := Lib.hid hK; subst hz; go_simp; generalize hz : Act.mk _ _ = z; refine hK.out z ?_; clear hK K) | (refine wpQuiet_step (fun K hK => ?_); replace hK := Lib.hid hK; subst hz; refine iteSkip (by kernel_rfl) ?_; go_simp; generalize hz : Act.mk _ _ = z; refine hK.out z ?_; clear hK K))
  try refine wpQuiet_nil ?_
  subst hz
  try dsimp only [NoPan]
  go_wp2_with fail
  refine (raw4_walk (nm := [108, 101, 97, 102]) (ls := [k, v]) H3.out.1.byt (text_leaf (by omega) (by omega))).mono ?_
  rintro e w4 ⟨rfl, x4⟩
  rw [of_leaf (by omega) (by omega)]
  have s4 := x4.heap H3.out.2.2.1 id
  have y4 := H3.out.2.1.trans x4
  have hn4 := lt_of_heap s4
  have H4 := Lib.hid (And.intro s4 y4)
  clear s4 y4 x4
  have hs5 : ∀ o : Obj, (w4.alloc o).heap[w.heap.size]? = some (.cells ((List.replicate 32 (0 : UInt8)).map byteV).toArray 29 (0, 0)) := fun o => ((Ext.refl (fun _ => False) w4).alloc o).heap H4.out.1 id
  have H5 := Lib.hid hs5
  clear hs5
  go_wp2_with (refine wpList_store_row rfl 29 _ _ rfl w.heap.size (sumA (sumT (.leaf k v))) rfl rfl 29 _ (H5.out _) (info_sum (sumT_len _)) (by rw [sumA_size (sumT_len _)]; rfl) (sumA_one _) ?_)
  refine bodyPost_ret (results_cell_tmp rfl _ _ w.heap.size 29 (sumA (sumT (.leaf k v))) (0, 0) _ rfl (setRow_heap _ _ _ _ _ _ (H5.out _)) Try.underlying29 rfl (info_sum (sumT_len _))) rfl ?_
  have hg := heap_alloc_self w4 (.cells #[.slice A3 (textR [108, 101, 97, 102] [k, v]).1.length c3] 22 (0, 0))
  refine ⟨_, 1, rfl, OwnV.one (by rw [setRow_other _ _ _ _ (by omega)]; exact hg) (by omega), by decide, by decide, (H4.out.2.alloc _).setRow (.inr (Nat.le_refl _)) _⟩
set_option maxRecDepth 100000 in
set_option maxHeartbeats 4000000 in
theorem dtexts_walk : ∀ (t : Tr), t.ok → ∀ {w : World} {lv : Value}, Ents w lv t.ents → t.ents.length ≤ 64 → Calls Try.prog 50 #[lv] w (TextsPost w (sumT t) (2 * t.ents.length - 1)) := by
  intro t
  induction t with
  | leaf k v => exact fun ht w lv hL _ => dtexts_leaf hL ht.1 ht.2
  | fork b l r ihl ihr =>
    intro ht w lv hL hn
    have hs1 := heap_alloc_self w (.cells ((List.replicate 32 (0 : UInt8)).map byteV).toArray 29 (0, 0))
    have hx1 : Ext (fun _ => False) w (w.alloc (.cells ((List.replicate 32 (0 : UInt8)).map byteV).toArray 29 (0, 0))) := (Ext.refl _ _).alloc _
    have hlp := l.ents_pos
    have hrp := r.ents_pos
    have hle : (Tr.fork b l r).ents.length = l.ents.length + r.ents.length := by rw [Tr.ents, List.length_append]
    have hsl := side_l ht
    have hsr := side_r ht
    have hb := Tr.place_lt ht
    have hfk : ∀ (W : World) (V : Value), Ents W V (Tr.fork b l r).ents → Calls Try.prog 62 #[V] W fun e w' => e = .returned (.int .i64 b) ∧ W = w' := by
      intro W V hE
      have h0 : 0 < (Tr.fork b l r).ents.length := by omega
      have hm0 : (Tr.fork b l r).ents[0] ∈ l.ents := by
        have : (Tr.fork b l r).ents[0] = l.ents[0] := List.getElem_append_left hlp
        rw [this]
        exact List.getElem_mem hlp
      obtain ⟨y, hy⟩ := r.some_ent
      refine dfork_walk hE (by omega) h0 (by omega) (fun i hi e he => Tr.alike ht he (List.getElem_mem h0) i hi) ⟨y, List.mem_append.2 (.inr hy), ?_⟩
      rw [ht.2.2.2.1 y hy, ht.2.2.1 _ hm0]
      decide
    have hE1 := hL.still hx1
    generalize (Tr.fork b l r).ents = L at *
    have HF := Lib.hid hfk
    have HT := Lib.hid (And.intro ht (And.intro hsl hsr))
    have hc0 : ((L.length : Int) == 0) = false := by rw [beq_eq_false_iff_ne]; omega
    have hc1 : ((L.length : Int) == 1) = false := by rw [beq_eq_false_iff_ne]; omega
    obtain ⟨A, cp, rfl, _, _⟩ := id hL
    have H1 := Lib.hid (And.intro hs1 (And.intro hx1 hE1))
    have HN := Lib.hid (And.intro hlp (And.intro hrp (And.intro hle (And.intro hn hb))))
    clear hs1 hx1 hE1 hL ht hsl hsr hfk hlp hrp hle hn hb
    generalize hTP : TextsPost w (sumT (Tr.fork b l r)) (2 * L.length - 1) = TP
    have HTP := Lib.hid hTP
    clear hTP
    go_enter Try.func50, Try.ntmps50
    go_wp2_with fail
    refine (HF.out _ _ H1.out.2.2).mono ?_
    rintro e w1 ⟨rfl, hw1⟩
    have s1 : w1.heap[w.heap.size]? = some (.cells ((List.replicate 32 (0 : UInt8)).map byteV).toArray 29 (0, 0)) := by rw [← hw1]; exact H1.out.1
    have x1 : Ext (fun _ => False) w w1 := by rw [← hw1]; exact H1.out.2.1
    have e1 : Ents w1 (.slice A L.length cp) L := by rw [← hw1]; exact H1.out.2.2
    have hn1 := lt_of_heap s1
    clear hw1 H1
    have H1 := Lib.hid (And.intro s1 (And.intro x1 e1))
    clear s1 x1 e1
    go_wp2_with fail
    refine (dside_walk H1.out.2.2 (by have := HN.out; omega) b false).mono ?_
    rintro e w2 ⟨v2, rfl, e2, x2⟩
    rw [HT.out.2.1] at e2
    have H2 := Lib.hid (And.intro e2 x2)
    clear e2 x2
    go_wp2_with fail
    refine (ihl HT.out.1.1 H2.out.1 (by have := HN.out; omega)).mono ?_
    rintro e w3 ⟨v3, n3, rfl, o3, p3, q3, x3⟩
    obtain ⟨A3, c3, rfl⟩ := o3.form
    have H3 := Lib.hid (And.intro (o3.less H2.out.2.size) (H2.out.2.trans x3))
    clear o3 x3 H2
    go_wp2_with (first | (refine wpList_store_row rfl 29 (.tmp 7) _ rfl w3.heap.size (sumA (sumT l)) rfl rfl 29 _ (heap_alloc_self _ _) (info_sum (sumT_len _)) (by rw [sumA_size (sumT_len _)]; rfl) (sumA_one _) ?_; rename_i ax; have HAx := Lib.hid ax; clear ax))
    refine HAx.out _ _ ?_
    clear HAx
    generalize hw4 : (w3.alloc _).setRow _ (sumA (sumT l)) = w4
    have s4 : w4.heap[w3.heap.size]? = some (.cells (sumA (sumT l)) 29 (0, 0)) := by rw [← hw4]; exact (sum_new w3).1
    have x4 : Ext (fun _ => False) w3 w4 := by rw [← hw4]; exact (sum_new w3).2
    clear hw4
    have y4 := H3.out.2.trans x4
    have H4 := Lib.hid (And.intro s4 (And.intro y4 (And.intro (H3.out.1.still x4) (And.intro (y4.heap H1.out.1 id) (H1.out.2.2.still y4)))))
    have hb7 : w3.heap.size < w4.heap.size := lt_of_heap s4
    clear s4 x4 y4 H3
    generalize w3.heap.size = b7 at *
    go_wp2_with fail
    refine (dside_walk H4.out.2.2.2.2 (by have := HN.out; omega) b true).mono ?_
    rintro e w5 ⟨v5, rfl, e5, x5⟩
    rw [HT.out.2.2] at e5
    have H5 := Lib.hid (And.intro e5 x5)
    clear e5 x5
    go_wp2_with fail
    refine (ihr HT.out.1.2.1 H5.out.1 (by have := HN.out; omega)).mono ?_
    rintro e w6 ⟨v6, n6, rfl, o6, p6, q6, x6⟩
    obtain ⟨A6, c6, rfl⟩ := o6.form
    have y6 := H5.out.2.trans x6
    have H6 := Lib.hid (And.intro o6 (And.intro (H4.out.2.2.1.still y6) (And.intro (y6.heap H4.out.1 id) (And.intro (y6.heap H4.out.2.2.2.1 id) (H4.out.2.1.trans y6)))))
    clear o6 x6 H5 y6
    go_wp2_with (first | (refine wpList_store_row rfl 29 (.tmp 9) _ rfl w6.heap.size (sumA (sumT r)) rfl rfl 29 _ (heap_alloc_self _ _) (info_sum (sumT_len _)) (by rw [sumA_size (sumT_len _)]; rfl) (sumA_one _) ?_; rename_i ax; have HAx := Lib.hid ax; clear ax))
    refine HAx.out _ _ ?_
    clear HAx
    generalize hw7 : (w6.alloc _).setRow _ (sumA (sumT r)) = w7
    have s7 : w7.heap[w6.heap.size]? = some (.cells (sumA (sumT r)) 29 (0, 0)) := by rw [← hw7]; exact (sum_new w6).1
    have x7 : Ext (fun _ => False) w6 w7 := by rw [← hw7]; exact (sum_new w6).2
    clear hw7
    have hrow6 := H6.out.1.from
    have H7 := Lib.hid (And.intro s7 (And.intro (x7.heap H6.out.2.2.1 id) (And.intro (H6.out.1.still x7) (And.intro (H6.out.2.1.still x7) (And.intro (x7.heap H6.out.2.2.2.1 id) (H6.out.2.2.2.2.trans x7))))))
    clear s7 x7 H6 hrow6
    generalize w6.heap.size = b9 at *
    go_wp2_with (first | refine wpList_load_row rfl 29 (.tmp 7) rfl b7 rfl 29 (sumA (sumT l)) (0, 0) _ H7.out.2.1 Try.underlying29 rfl (info_sum (sumT_len _)) ?_ | refine wpList_load_row rfl 29 (.tmp 9) rfl b9 rfl 29 (sumA (sumT r)) (0, 0) _ H7.out.1 Try.underlying29 rfl (info_sum (sumT_len _)) ?_)
    refine (forktext_walk (b := b) (l := l) (r := r)).mono ?_
    rintro e w8 ⟨v8, rfl, f8⟩
    obtain ⟨A8, c8, rfl⟩ := f8.own.formv
    have H8 := Lib.hid (And.intro f8.own (And.intro (H7.out.2.2.1.still f8.ext) (And.intro (H7.out.2.2.2.1.still f8.ext) (And.intro (f8.ext.heap H7.out.2.2.2.2.1 id) (H7.out.2.2.2.2.2.trans f8.ext)))))
    clear f8 H7
    go_wp2_with fail
    refine (raw4_walk (nm := [102, 111, 114, 107]) (ls := [beB (b : Int) 8, sumT l, sumT r]) H8.out.1.byt (text_fork b l r)).mono ?_
    rintro e w9 ⟨rfl, x9⟩
    rw [show (ofR [102, 111, 114, 107] [beB (b : Int) 8, sumT l, sumT r]).1 = sumT (.fork b l r) from by rw [of_fork]]
    have H9 := Lib.hid (And.intro (H8.out.2.1.still x9) (And.intro (H8.out.2.2.1.still x9) (And.intro (x9.heap H8.out.2.2.2.1 id) (H8.out.2.2.2.2.trans x9))))
    have hN9 : w1.heap.size ≤ w9.heap.size := H9.out.2.2.2.size
    have hnn : n3 + n6 + 1 ≤ 2 * L.length - 1 ∧ L.length ≤ 64 := by have := HN.out; omega
    clear x9 H8
    go_wp2_with (first
      | (refine wpList_append_ownv rfl (.tmp 59) (.tmp 60) rfl rfl rfl H9.out.2.1 H9.out.1 p6 (by omega) hN9 ?_; intro g1 cc1 W1' q1 z1; have HP := Lib.hid (And.intro q1 z1); clear q1 z1)
      | (refine wpList_append_ownv rfl (.tmp 61) (.tmp 63) rfl rfl rfl (HP.out.1.still ((Ext.refl (fun _ => False) W1').alloc _)) (OwnV.one (heap_alloc_self _ _) (Nat.zero_le _)) (by decide) (by omega) (Nat.le_trans hN9 (Nat.le_trans HP.out.2.size ((Ext.refl (fun _ => False) W1').alloc _).size)) ?_
         intro g2 cc2 W2' q2 z2
         have hz2 := ((Ext.refl (fun _ => False) W1').alloc (.cells #[.slice A8 (textR [102, 111, 114, 107] [beB (b : Int) 8, sumT l, sumT r]).1.length c8] 22 (0, 0))).heap (HP.out.2.heap H9.out.2.2.1 fun e => by have := (H9.out.2.1.from _ e).1; omega) id
         have hz3 := z2.heap hz2 fun e => by have := (HP.out.1.from _ e).1; omega
         have hxf : Ext (fun _ => False) w W2' := (((H1.out.2.1.trans H9.out.2.2.2).trans' HP.out.2 fun k' hk' => .inr (by have := (H9.out.2.1.from _ hk').1; omega)).trans ((Ext.refl (fun _ => False) W1').alloc _)).trans' z2 fun k' hk' => .inr (by have := (HP.out.1.from _ hk').1; omega)
         have HQ := Lib.hid (And.intro q2 (And.intro hz3 hxf))
         clear q2 z2 hz2 hz3 hxf
         refine wpList_store_row rfl 29 (.tmp 2) _ rfl w.heap.size (sumA (sumT (.fork b l r))) rfl rfl 29 _ HQ.out.2.1 (info_sum (sumT_len _)) (by rw [sumA_size (sumT_len _)]; rfl) (sumA_one _) ?_))
    refine bodyPost_ret (results_cell_tmp rfl _ _ w.heap.size 29 (sumA (sumT (.fork b l r))) (0, 0) _ rfl (setRow_heap _ _ _ _ _ _ HQ.out.2.1) Try.underlying29 rfl (info_sum (sumT_len _))) rfl ?_
    rw [← HTP.out]
    have hys : Ext (· = w.heap.size) W2' (W2'.setRow w.heap.size (sumA (sumT (.fork b l r)))) := (Ext.refl (· = w.heap.size) W2').setRow (.inl rfl) _
    obtain ⟨xs, k1, k2⟩ := HQ.out.1
    refine ⟨_, _, rfl, ⟨xs, own_less (own_ext k1 hys fun k' hk' e => ?_) (by omega), k2⟩, by omega, hnn.1, HQ.out.2.2.setRow (.inr (Nat.le_refl _)) _⟩
    have := own_base k1 k' hk'
    omega
end Go.Proofs.Ytkdnhnmiofhokaa
