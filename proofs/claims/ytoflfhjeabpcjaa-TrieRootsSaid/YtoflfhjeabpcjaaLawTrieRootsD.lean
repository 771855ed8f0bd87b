/- TrieRoots: for every input the statement's function returns true, and each argument reads as it did. Conditions: none. -/
import Derived.Test.YtoflfhjeabpcjaaLawTrieRootsA
import Derived.Test.YtoflfhjeabpcjaaLawTrieRootsC
import Derived.Test.YtoflfhjeabpcjaaOpenEntry
import Derived.Test.YtoflfhjeabpcjaaRows
import Derived.ProofKit
import Derived.OpenShut
import Derived.ShutString
import Derived.ChangeOld
import Derived.SizedLaws
/- The document's Same, of the same rows; no condition. -/
namespace Go.Proofs.Ytoflfhjeabpcjaa
set_option linter.unusedVariables false
set_option linter.unusedSimpArgs false
open Go.RowKit

theorem Ents.atS {w : World} {v : Value} {l : List (Bs × Bs)} (h : Ents w v l) {i : Nat} (hi : i < l.length) : ∃ g off c, v = .slice (some ⟨g, off, none⟩) l.length c ∧ g < w.heap.size ∧ EntryIs (· < w.heap.size) w g (off + i * 2) l[i] := by
  obtain ⟨A, c, rfl, hc, h⟩ := h
  have hne : l ≠ [] := by rintro rfl; simp at hi
  obtain ⟨g, o, rfl, hd, hr⟩ := h hne
  exact ⟨g, o, c, rfl, hd, hr i _ (List.getElem?_eq_getElem hi)⟩
theorem Byt.convS {P : Program} {D : Nat → Prop} {w : World} {v : Value} {l : Bs} (h : Byt D w v l) {a : Nat} (ha : a < w.heap.size) (src e dst : TypeId) (hs : P.underlying src = some (.slice e)) (he : P.underlying e = some (.int .u8))
    (hd : P.underlying dst = some .string) : ∃ bb, bb < w.heap.size ∧ ∀ W : World, W.heap[bb]? = w.heap[bb]? → (convert src dst v).run P W = .ok (str l) W := by
  by_cases hl : l = []
  · subst hl
    refine ⟨a, ha, fun W _ => ?_⟩
    obtain ⟨A, c, rfl, hc, h⟩ := h
    exact run_convert_byt (D := D) (w := W) ⟨A, c, rfl, hc, fun hne => absurd rfl hne⟩ src e dst hs he hd
  · have hcv := h.conv src e dst hs he hd
    obtain ⟨A, c, rfl, hc, h⟩ := h
    obtain ⟨ad, rfl, hd, hcell⟩ := h hl
    refine ⟨ad.block, ?_, hcv⟩
    have := World.block_lt_of_cell? _ _ (hcell 0 _ (List.getElem?_eq_getElem (List.length_pos_iff.2 hl)))
    rwa [block_add] at this
set_option maxRecDepth 100000 in
set_option maxHeartbeats 2000000 in
theorem same4_walk {w : World} {v v' : Value} {l : List (Bs × Bs)} (hL : Ents w v l) (hM : Ents w v' l) (hl : l.length ≤ 1099511627776) :
    Calls Try.prog 31 #[v, v'] w fun e w' => e = .returned (.bool true) ∧ Ext (fun _ => False) w w' := by
  have H := Lib.hid (And.intro hL hM)
  obtain ⟨A, cp, rfl, _, _⟩ := hL
  obtain ⟨A', cp', rfl, _, _⟩ := hM
  go_enter Try.func31, Try.ntmps31
  go_wp2_with fail
  go_loopw [5] (fun i W => ∃ k : Nat, k ≤ l.length ∧ i = .int .i64 k ∧ Ext (fun _ => False) w W) (fun i _ => l.length - (intOf i).toNat)
  case atStart => exact ⟨0, Nat.zero_le _, rfl, Ext.refl _ _⟩
  case round =>
    obtain ⟨k, hk, rfl, hx⟩ := hrel
    by_cases hlt : k < l.length
    · obtain ⟨g, off, c, hav, hgl, ⟨⟨a, b, c0, c1, ha, hb⟩, _, _⟩⟩ := H.out.1.atS hlt
      simp only [Value.slice.injEq, true_and] at hav
      obtain ⟨rfl, rfl⟩ := hav
      obtain ⟨g', off', c', hav', hgl', ⟨⟨a', b', e0, e1, ha', hb'⟩, _, _⟩⟩ := H.out.2.atS hlt
      simp only [Value.slice.injEq, true_and] at hav'
      obtain ⟨rfl, rfl⟩ := hav'
      have hkl : decide ((k : Int) < (l.length : Int)) = true := by simp; omega
      have d0 := cell_same c0 hx
      have d1 := cell_same c1 hx
      have f0 := cell_same e0 hx
      have f1 := cell_same e1 hx
      have hg1 : g < wr.heap.size := Nat.lt_of_lt_of_le hgl hx.size
      have hg2 : g' < wr.heap.size := Nat.lt_of_lt_of_le hgl' hx.size
      obtain ⟨b1, hb1, hc1⟩ := (ha.same hx).convS hg1 22 5 9 Try.underlying22 Try.underlying5 Try.underlying9
      obtain ⟨b2, hb2, hc2⟩ := (hb.same hx).convS hg1 22 5 9 Try.underlying22 Try.underlying5 Try.underlying9
      obtain ⟨b3, hb3, hc3⟩ := (ha'.same hx).convS hg1 22 5 9 Try.underlying22 Try.underlying5 Try.underlying9
      obtain ⟨b4, hb4, hc4⟩ := (hb'.same hx).convS hg1 22 5 9 Try.underlying22 Try.underlying5 Try.underlying9
      have HX := Lib.hid hx
      clear hx ha hb ha' hb' c0 c1 e0 e1
      go_wp2_with fail
      refine wp_region_mix (Cls [g, g', b1, b2, b3, b4] _) [] [0, 1, 2, 3, 4, 5, 6, 7, 8, 9, 10, 11, 12, 13, 14, 15, 16, 17, 18, 19, 20, 21, 22, 23, 24, 25, 26, 27] (by kernel_rfl) (by kernel_rfl) (Cls.refl _ _) ?_
      try dsimp only [wpMix, wpSegs, pick, List.getElem?_cons_zero, List.getElem?_cons_succ]
      generalize hz : Act.mk _ _ = z
      repeat (first | (refine wpQuiet_step (fun K hK => ?_); replace hK := Lib.hid hK; subst hz; go_simp; generalize hz : Act.mk _ _ = z; refine hK.out z ?_; clear hK K) | (refine wpQuiet_step (fun K hK => ?_); replace hK := Lib.hid hK; subst hz; refine iteSkip (by kernel_rfl) ?_; go_simp; generalize hz : Act.mk _ _ = z; refine hK.out z ?_; clear hK K))
      try refine wpQuiet_nil ?_
      subst hz
      try dsimp only [NoPan]
      go_wp2_with fail
      exact ⟨⟨k + 1, by omega, by go_num, HX.out.drew⟩, by simp [intOf]; omega⟩
    · have hkl : decide ((k : Int) < (l.length : Int)) = false := by simp; omega
      have HX := Lib.hid hx
      clear hx
      go_wp2_with fail
      go_ret
      exact ⟨rfl, HX.out⟩
end Go.Proofs.Ytoflfhjeabpcjaa
/- TrieRoots answers true; no condition. -/
namespace Go.Proofs.Ytoflfhjeabpcjaa
set_option linter.unusedVariables false
set_option linter.unusedSimpArgs false
open Go.RowKit

set_option maxRecDepth 100000 in
set_option maxHeartbeats 4000000 in
theorem roots_walk {w : World} {av kv vv : Value} {acts : List Act4} {k v : Bs} (hA : Row (Act4Is (· < w.heap.size)) 3 (· < w.heap.size) w av acts) (hl : acts.length ≤ maxLen) (hk : Byt (· < w.heap.size) w kv k) (hkl : k.length ≤ 140737488351232) (hv : Byt (· < w.heap.size) w vv v) (hvl : v.length ≤ 140737488351232) :
    Calls Try.prog 7 #[av, kv, vv] w fun e w' => e = .returned (.bool true) ∧ Ext (fun _ => False) w w' := by
  have HM := fun (W : World) (hx : Ext (fun _ => False) w W) => Lib.hid (made_walk hA (by unfold maxLen at hl; omega) hx)
  have HK := Lib.hid (And.intro hk hv)
  obtain ⟨Ak, ck, rfl, _, _⟩ := hk
  obtain ⟨Av, cv, rfl, _, _⟩ := hv
  clear hA hl
  go_enter Try.func7, Try.ntmps7
  go_wp2_with fail
  refine (trie_small _).mono ?_
  rintro e w1 ⟨rfl, x1⟩
  have H1 := Lib.hid x1
  clear x1
  go_wp2_with fail
  refine (HM _ H1.out).out.mono ?_
  rintro e w2 ⟨c, o, rfl, h2, n2⟩
  have H2 := Lib.hid (And.intro h2 n2)
  clear h2 n2 HM
  go_wp2_with fail
  refine (tm_all H2.out.1 (by have := H2.out.2; omega)).mono ?_
  rintro e w3 ⟨ov, vs, Do, rfl, f3, d3, h3, x3⟩
  obtain ⟨A3, c3, rfl⟩ := f3.form
  have hDo : ∀ b, Do b → b < w3.heap.size ∨ True := fun _ _ => .inr trivial
  have H3 := Lib.hid (And.intro f3 (And.intro d3 (And.intro h3 x3)))
  clear f3 d3 h3 x3 hDo
  go_wp2_with fail
  refine (rootof_walk (H3.out.1.ents H3.out.2.2.1.fit) (by have := H2.out.2; omega)).mono ?_
  rintro e w4 ⟨s, er, rfl, r4, s4, x4⟩
  obtain ⟨rfl, rfl⟩ := rootOfR_of H3.out.2.2.1.okO H3.out.2.2.1.fit r4
  rw [sumV_A]
  have H4 := Lib.hid (And.intro s4 x4)
  clear r4 s4 x4
  go_wp2_with (first | (refine wpList_store_row rfl 29 (.tmp 10) _ rfl w4.heap.size (sumA (rootS o)) rfl rfl 29 _ (heap_alloc_self _ _) (info_sum (rootS_len o)) (by rw [sumA_size (rootS_len o)]; rfl) (sumA_one _) ?_; rename_i ax; have HAx := Lib.hid ax; clear ax))
  refine HAx.out _ _ ?_
  clear HAx
  generalize hw5 : (w4.alloc _).setRow _ (sumA (rootS o)) = w5
  have s5 : w5.heap[w4.heap.size]? = some (.cells (sumA (rootS o)) 29 (0, 0)) := by rw [← hw5]; exact (sum_new w4).1
  have x5 : Ext (fun _ => False) w3 w5 := by rw [← hw5]; exact H4.out.2.trans (sum_new w4).2
  clear hw5
  have H5 := Lib.hid (And.intro s5 x5)
  clear s5 x5 H4
  generalize w4.heap.size = b10 at *
  go_wp2_with fail
  refine (tm_root (H3.out.2.2.1.still H5.out.2)).mono ?_
  rintro e w6 ⟨rfl, h6, x6⟩
  rw [sumV_A]
  have H6 := Lib.hid (And.intro h6 x6)
  clear h6 x6
  go_wp2_with (first | (refine wpList_store_row rfl 29 (.tmp 12) _ rfl w6.heap.size (sumA (rootS o)) rfl rfl 29 _ (heap_alloc_self _ _) (info_sum (rootS_len o)) (by rw [sumA_size (rootS_len o)]; rfl) (sumA_one _) ?_; rename_i ax; have HAx := Lib.hid ax; clear ax))
  refine HAx.out _ _ ?_
  clear HAx
  generalize hw7 : (w6.alloc _).setRow _ (sumA (rootS o)) = w7
  have s7 : w7.heap[w6.heap.size]? = some (.cells (sumA (rootS o)) 29 (0, 0)) := by rw [← hw7]; exact (sum_new w6).1
  have x67 : Ext (fun _ => False) w6 w7 := by rw [← hw7]; exact (sum_new w6).2
  clear hw7
  have x57 := H6.out.2.trans x67
  have s57 := x57.heap H5.out.1 id
  have x7 := H5.out.2.trans x57
  have H7 := Lib.hid (And.intro s7 (And.intro s57 (And.intro x7 (H3.out.2.2.1.still x7))))
  clear s7 s57 x7 x67 x57 H6 H5
  generalize w6.heap.size = b12 at *
  have hneq : ∀ W, (binOp .neq 29 (.agg (sumA (rootS o))) (.agg (sumA (rootS o)))).run Try.prog W = .ok (.bool false) W := fun W => by rw [sumA_neq (rootS_len o) (rootS_len o)]; simp
  have heql : ∀ W, (binOp .eql 29 (.agg (sumA (rootS o))) (.agg (sumA (rootS o)))).run Try.prog W = .ok (.bool true) W := fun W => by rw [sumA_eql (rootS_len o) (rootS_len o)]; simp
  go_wp2_with (first
      | refine wpList_load_rowg 29 (.tmp 10) rfl (by rfl) b10 rfl 29 (sumA (rootS o)) (0, 0) _ H7.out.2.1 Try.underlying29 rfl (info_sum (rootS_len o)) ?_
      | refine wpList_load_rowg 29 (.tmp 12) rfl (by rfl) b12 rfl 29 (sumA (rootS o)) (0, 0) _ H7.out.1 Try.underlying29 rfl (info_sum (rootS_len o)) ?_)
  refine (tm_count H7.out.2.2.2).mono ?_
  rintro e w7 ⟨rfl, rfl⟩
  go_wp2_with fail
  refine (tm_new (w0 := w7) (Ext.refl _ _)).mono ?_
  rintro e w8 ⟨rfl, h8⟩
  have HF := Lib.hid (H3.out.1.ext H7.out.2.2.1 fun _ _ => id)
  have hfit := H3.out.2.2.1.fit
  have hoko := H3.out.2.2.1.okO
  have HE := Lib.hid (And.intro hfit hoko)
  have hn30 : (Tr.entsO o).length ≤ 30 := H2.out.2
  have hcu : c < w7.heap.size := by
    obtain ⟨⟨D, h1, _⟩, _⟩ := H7.out.2.2.2
    exact h1.lt
  generalize w7.heap.size = cu at *
  have H8 := Lib.hid h8
  clear h8 hfit hoko
  obtain ⟨n, hn⟩ : ∃ n, n = (Tr.entsO o).length := ⟨_, rfl⟩
  have hwn : IntKind.i64.wrap ((n : Int) - 1) = (n : Int) - 1 := IntWalk.i64_in _ (by omega)
  rw [← hn]
  rw [← hn] at hn30
  have HN := Lib.hid hn
  clear hn
  go_wp2_with fail
  go_loopw [14] (fun i W => ∃ (q : Nat) (u : Option Tr), q ≤ n ∧ i = .int .i64 ((q : Int) - 1) ∧ TM w7 W cu u ∧ PutInv (Tr.entsO o).reverse (n - q) u) (fun i _ => (intOf i + 1).toNat)
  case atStart => exact ⟨n, none, Nat.le_refl _, rfl, H8.out, by rw [Nat.sub_self]; exact PutInv.zero _⟩
  case round =>
    obtain ⟨q, u, hq, rfl, hT, hP⟩ := hrel
    cases q with
    | zero =>
      have HT := Lib.hid (And.intro hT hP)
      clear hT hP
      rw [show (((0 : Nat) : Int) - 1) = -1 from rfl]
      go_wp2_with fail
      have hu : u = o := by
        have hp2 : n - 0 = (Tr.entsO o).reverse.length := by rw [List.length_reverse, ← HN.out]; rfl
        have hp := HT.out.2
        rw [hp2] at hp
        have hd := entsO_sorted HE.out.2
        exact PutInv.all hp (fun e => List.mem_reverse) (List.pairwise_reverse.2 (hd.imp fun h e => by rw [e] at h; exact absurd h (List.lt_irrefl _))) HE.out.2 HT.out.1.okO rfl
      subst hu
      have hs12 := HT.out.1.2.2.heap H7.out.1 id
      have hb12 := lt_of_heap hs12
      have hrow := Lib.hid (cls_heapq (D := [b12]) (w0 := wr.drew) (by simp) hs12)
      have HS := Lib.hid hs12
      clear hs12
      refine wp_region_mix (Cls [b12] _) [([0, 1, 2, 3, 5], 4)] [6, 7] (by kernel_rfl) (by kernel_rfl) (Cls.refl _ _) ?_
      try dsimp only [wpMix, wpSegs, pick, List.getElem?_cons_zero, List.getElem?_cons_succ]
      generalize hz : Act.mk _ _ = z
      repeat (first | (subst hz; (refine wpQuiet_load_rowq 29 _ rfl (by kernel_rfl) b12 rfl 29 (sumA (rootS u)) (0, 0) _ hrow.out Try.underlying29 rfl (info_sum (rootS_len _)) ?_); generalize hz : Act.put _ _ _ = z) | (refine wpQuiet_step (fun K hK => ?_); replace hK := Lib.hid hK; subst hz; go_simp; generalize hz : Act.mk _ _ = z; refine hK.out z ?_; clear hK K) | (refine wpQuiet_step (fun K hK => ?_); replace hK := Lib.hid hK; subst hz; refine iteSkip (by kernel_rfl) ?_; go_simp; generalize hz : Act.mk _ _ = z; refine hK.out z ?_; clear hK K))
      try refine wpQuiet_nil ?_
      subst hz
      try dsimp only [NoPan]
      go_wp2_with fail
      refine (tm_root (HT.out.1.still (Ext.refl _ _).drew)).mono ?_
      rintro e w9 ⟨rfl, h9, x9⟩
      rw [sumV_A]
      have H9 := Lib.hid (And.intro h9 (And.intro x9 ((H7.out.2.2.2.still HT.out.1.2.2).still ((Ext.refl (fun _ => False) wr).drew.trans x9))))
      clear h9 x9
      go_wp2_with fail
      refine ⟨Cls.of_ext H9.out.2.1 fun q hq => ⟨by simp at hq; subst hq; exact hb12, id⟩, ?_⟩
      try dsimp only [wpMix, wpSegs, pick, List.getElem?_cons_zero, List.getElem?_cons_succ]
      generalize hz : Act.mk _ _ = z
      repeat (first | (subst hz; (refine wpQuiet_load_rowq 29 _ rfl (by kernel_rfl) b12 rfl 29 (sumA (rootS u)) (0, 0) _ hrow.out Try.underlying29 rfl (info_sum (rootS_len _)) ?_); generalize hz : Act.put _ _ _ = z) | (refine wpQuiet_step (fun K hK => ?_); replace hK := Lib.hid hK; subst hz; go_simp; generalize hz : Act.mk _ _ = z; refine hK.out z ?_; clear hK K) | (refine wpQuiet_step (fun K hK => ?_); replace hK := Lib.hid hK; subst hz; refine iteSkip (by kernel_rfl) ?_; go_simp; generalize hz : Act.mk _ _ = z; refine hK.out z ?_; clear hK K))
      try refine wpQuiet_nil ?_
      subst hz
      try dsimp only [NoPan]
      go_wp2_with fail
      have x09 : Ext (fun _ => False) w w9 := H9.out.2.2.2.2
      refine (tm_get (k := k) H9.out.2.2 (HK.out.1.same x09) (by omega)).mono ?_
      rintro e w10 ⟨gv, rfl, g1, g2, g3, g4⟩
      obtain ⟨Ag, cg, rfl⟩ := g1.formv
      have xr10 : Ext (fun _ => False) wr w10 := ((Ext.refl (fun _ => False) wr).drew.trans H9.out.2.1).trans g4
      have hs10 := xr10.heap HS.out id
      have h10 := Lib.hid (And.intro g3 (And.intro hs10 xr10))
      have hb10 := lt_of_heap hs10
      have x010 : Ext (fun _ => False) w w10 := g3.2.2
      have HX10 := Lib.hid x010
      clear g1 g2 g3 g4 xr10 hs10 x010 hb12
      cases hg : Tr.get u k with
      | some vg =>
        have hrow10 := Lib.hid (cls_heapq (D := [b12]) (w0 := w10.drew) (by simp) h10.out.2.1)
        rw [show (some vg).isSome = true from rfl]
        clear hg
        go_wp2_with fail
        refine wp_region_mix (Cls [b12] _) [([0, 2], 1)] [3, 4] (by kernel_rfl) (by kernel_rfl) (Cls.refl _ _) ?_
        try dsimp only [wpMix, wpSegs, pick, List.getElem?_cons_zero, List.getElem?_cons_succ]
        generalize hz : Act.mk _ _ = z
        repeat (first | (subst hz; (refine wpQuiet_load_rowq 29 _ rfl (by kernel_rfl) b12 rfl 29 (sumA (rootS u)) (0, 0) _ hrow10.out Try.underlying29 rfl (info_sum (rootS_len _)) ?_); generalize hz : Act.put _ _ _ = z) | (refine wpQuiet_step (fun K hK => ?_); replace hK := Lib.hid hK; subst hz; go_simp; generalize hz : Act.mk _ _ = z; refine hK.out z ?_; clear hK K) | (refine wpQuiet_step (fun K hK => ?_); replace hK := Lib.hid hK; subst hz; refine iteSkip (by kernel_rfl) ?_; go_simp; generalize hz : Act.mk _ _ = z; refine hK.out z ?_; clear hK K))
        try refine wpQuiet_nil ?_
        subst hz
        try dsimp only [NoPan]
        go_wp2_with fail
        refine (tm_root (h10.out.1.still (Ext.refl _ _).drew)).mono ?_
        rintro e w11 ⟨rfl, h11, x11⟩
        rw [sumV_A]
        have H11 := Lib.hid (And.intro h11 x11)
        clear h11 x11
        go_wp2_with fail
        refine ⟨Cls.of_ext H11.out.2 fun q hq => ⟨by simp at hq; subst hq; exact hb10, id⟩, ?_⟩
        try dsimp only [wpMix, wpSegs, pick, List.getElem?_cons_zero, List.getElem?_cons_succ]
        generalize hz : Act.mk _ _ = z
        repeat (first | (subst hz; (refine wpQuiet_load_rowq 29 _ rfl (by kernel_rfl) b12 rfl 29 (sumA (rootS u)) (0, 0) _ hrow10.out Try.underlying29 rfl (info_sum (rootS_len _)) ?_); generalize hz : Act.put _ _ _ = z) | (refine wpQuiet_step (fun K hK => ?_); replace hK := Lib.hid hK; subst hz; go_simp; generalize hz : Act.mk _ _ = z; refine hK.out z ?_; clear hK K) | (refine wpQuiet_step (fun K hK => ?_); replace hK := Lib.hid hK; subst hz; refine iteSkip (by kernel_rfl) ?_; go_simp; generalize hz : Act.mk _ _ = z; refine hK.out z ?_; clear hK K))
        try refine wpQuiet_nil ?_
        subst hz
        try dsimp only [NoPan]
        go_wp2_with fail
        go_ret
        exact ⟨rfl, H11.out.1.2.2⟩
      | none =>
        rw [show (none : Option Bs).isSome = false from rfl]
        have hgn := (Tr.get_none HE.out.2).1 hg
        have HG := Lib.hid hgn
        clear hg hgn
        have hlen30 : (Tr.entsO u).length < 9223372036854775807 := by have := HN.out; omega
        go_wp2_with fail
        refine (tm_put (k := k) (v := v) h10.out.1 (HK.out.1.same HX10.out) (HK.out.2.same HX10.out) hlen30).mono ?_
        rintro e w11 ⟨o2, rfl, p2, h11, x11⟩
        have hbc : b12 ≠ c := by
          obtain ⟨⟨D, hi, _⟩, _⟩ := h10.out.1
          obtain ⟨vr, hr, _⟩ := hi.root
          intro e
          have h1 := h10.out.2.1
          rw [e, hr] at h1
          simp only [Option.some.injEq, Obj.cells.injEq] at h1
          exact absurd h1.2.1 (by decide)
        have hs11 := x11.heap h10.out.2.1 hbc
        have hb11 := lt_of_heap hs11
        by_cases hf : k.length ≤ 120 ∧ v.length ≤ 1200
        · unfold PutO at p2
          rw [if_pos hf] at p2
          obtain ⟨t', rfl, ok2, mem2, len2⟩ := p2
          have hpe : putE k v = 0 := by unfold putE; rw [if_pos hf]
          have hget : Tr.get (some t') k = some v := (Tr.get_mem (show Tr.okO (some t') from ok2)).2 ((mem2 _).2 (.inl rfl))
          have H11 := Lib.hid (And.intro h11 (And.intro hs11 (And.intro x11 (And.intro ok2 (And.intro mem2 len2)))))
          clear h11 hs11 x11 ok2 mem2 len2 hf
          rw [hpe]
          go_wp2_with fail
          refine (tm_delete (k := k) H11.out.1 (HK.out.1.same H11.out.1.2.2) (by omega) (by have := H11.out.2.2.2.2.2; have := HN.out; have e : (Tr.entsO (some t')).length = t'.ents.length := rfl; omega)).mono ?_
          rintro e w12 ⟨o3, rfl, p3, h12, x12⟩
          have ho3 : o3 = u := by
            refine Tr.canonO p3.1 HE.out.2 fun e => ?_
            rw [p3.2.1]
            constructor
            · rintro ⟨h1, h2⟩
              rcases (H11.out.2.2.2.2.1 e).1 h1 with rfl | ⟨h3, _⟩
              · exact absurd rfl h2
              · exact h3
            · intro h1
              have h2 := HG.out e h1
              exact ⟨(H11.out.2.2.2.2.1 e).2 (.inr ⟨h1, h2⟩), h2⟩
          subst ho3
          rw [hget, show (some v).isSome = true from rfl]
          have hs12 := x12.heap H11.out.2.1 hbc
          have hb12' := lt_of_heap hs12
          have x712 : Ext (· = c) w7 w12 := ((((HT.out.1.2.2.trans h10.out.2.2).mono (F1 := (· = c)) fun _ _ => False.elim).trans H11.out.2.2.1).trans x12)
          have H12 := Lib.hid (And.intro h12 (And.intro hs12 x712))
          have hrow12 := Lib.hid (cls_heapq (D := [b12]) (w0 := w12.drew) (by simp) hs12)
          clear h12 hs12 x12 x712 p3
          go_wp2_with fail
          refine wp_region_bar (Cls [b12] _) [([0, 1, 2, 4], 3), ([5, 6, 7, 8, 10], 9)] [] 11 [] [12, 13] (by kernel_rfl) (by kernel_rfl) (Cls.refl _ _) ?_
          try dsimp only [wpMix, wpSegs, pick, List.getElem?_cons_zero, List.getElem?_cons_succ]
          generalize hz : Act.mk _ _ = z
          repeat (first | (subst hz; (refine wpQuiet_load_rowq 29 _ rfl (by kernel_rfl) b12 rfl 29 (sumA (rootS o3)) (0, 0) _ hrow12.out Try.underlying29 rfl (info_sum (rootS_len _)) ?_); generalize hz : Act.put _ _ _ = z) | (refine wpQuiet_step (fun K hK => ?_); replace hK := Lib.hid hK; subst hz; go_simp; generalize hz : Act.mk _ _ = z; refine hK.out z ?_; clear hK K) | (refine wpQuiet_step (fun K hK => ?_); replace hK := Lib.hid hK; subst hz; refine iteSkip (by kernel_rfl) ?_; go_simp; generalize hz : Act.mk _ _ = z; refine hK.out z ?_; clear hK K))
          try refine wpQuiet_nil ?_
          subst hz
          try dsimp only [NoPan]
          go_wp2_with fail
          refine (tm_root (H12.out.1.still (Ext.refl _ _).drew)).mono ?_
          rintro e w13 ⟨rfl, h13, x13⟩
          rw [sumV_A]
          have H13 := Lib.hid (And.intro h13 x13)
          clear h13 x13
          go_wp2_with fail
          refine ⟨Cls.of_ext H13.out.2 fun q hq => ⟨by simp at hq; subst hq; exact hb12', id⟩, ?_⟩
          try dsimp only [wpMix, wpSegs, pick, List.getElem?_cons_zero, List.getElem?_cons_succ]
          generalize hz : Act.mk _ _ = z
          repeat (first | (subst hz; (refine wpQuiet_load_rowq 29 _ rfl (by kernel_rfl) b12 rfl 29 (sumA (rootS o3)) (0, 0) _ hrow12.out Try.underlying29 rfl (info_sum (rootS_len _)) ?_); generalize hz : Act.put _ _ _ = z) | (refine wpQuiet_step (fun K hK => ?_); replace hK := Lib.hid hK; subst hz; go_simp; generalize hz : Act.mk _ _ = z; refine hK.out z ?_; clear hK K) | (refine wpQuiet_step (fun K hK => ?_); replace hK := Lib.hid hK; subst hz; refine iteSkip (by kernel_rfl) ?_; go_simp; generalize hz : Act.mk _ _ = z; refine hK.out z ?_; clear hK K))
          try refine wpQuiet_nil ?_
          subst hz
          try dsimp only [NoPan]
          go_wp2_with fail
          refine (tm_all H13.out.1 (by have := HN.out; omega)).mono ?_
          rintro e w14 ⟨ov', vs', Do', rfl, f14, d14, h14, x14⟩
          obtain ⟨A14, c14, rfl⟩ := f14.form
          have x1214 : Ext (fun _ => False) w12 w14 := (((Ext.refl (fun _ => False) w12).drew).trans H13.out.2).trans x14
          have hcD : ∀ b, Do b → ¬ (b = c) := fun b hb e => by
            have h1 := H3.out.2.1 b hb
            obtain ⟨⟨D, hi, _⟩, _⟩ := H2.out.1
            have h2 := hi.lt
            omega
          have e14 : Ents w14 (.slice A3 (Tr.entsO o3).length c3) (Tr.entsO o3) := (HF.out.ext (H12.out.2.2.trans' x1214 fun _ h => h.elim) hcD).ents HE.out.1
          rw [← HN.out] at e14
          have H14 := Lib.hid (And.intro (f14.ents HE.out.1) (And.intro e14 (And.intro h14 (H13.out.2.trans x14))))
          clear f14 d14 h14 x14 x1214 hcD e14
          go_wp2_with fail
          refine ⟨Cls.of_ext H14.out.2.2.2 fun q hq => ⟨by simp at hq; subst hq; exact hb12', id⟩, ?_⟩
          try dsimp only [wpMix, wpSegs, pick, List.getElem?_cons_zero, List.getElem?_cons_succ]
          generalize hz : Act.mk _ _ = z
          repeat (first | (subst hz; (refine wpQuiet_load_rowq 29 _ rfl (by kernel_rfl) b12 rfl 29 (sumA (rootS o3)) (0, 0) _ hrow12.out Try.underlying29 rfl (info_sum (rootS_len _)) ?_); generalize hz : Act.put _ _ _ = z) | (refine wpQuiet_step (fun K hK => ?_); replace hK := Lib.hid hK; subst hz; go_simp; generalize hz : Act.mk _ _ = z; refine hK.out z ?_; clear hK K) | (refine wpQuiet_step (fun K hK => ?_); replace hK := Lib.hid hK; subst hz; refine iteSkip (by kernel_rfl) ?_; go_simp; generalize hz : Act.mk _ _ = z; refine hK.out z ?_; clear hK K))
          try refine wpQuiet_nil ?_
          subst hz
          try dsimp only [NoPan]
          go_wp2_with fail
          refine (same4_walk H14.out.1 H14.out.2.1 (by have := HN.out; omega)).mono ?_
          rintro e w15 ⟨rfl, x15⟩
          have H15 := Lib.hid x15
          clear x15
          go_wp2_with fail
          try dsimp only [wpMix, wpSegs, pick, List.getElem?_cons_zero, List.getElem?_cons_succ]
          generalize hz : Act.mk _ _ = z
          repeat (first | (subst hz; (refine wpQuiet_load_rowq 29 _ rfl (by kernel_rfl) b12 rfl 29 (sumA (rootS o3)) (0, 0) _ hrow12.out Try.underlying29 rfl (info_sum (rootS_len _)) ?_); generalize hz : Act.put _ _ _ = z) | (refine wpQuiet_step (fun K hK => ?_); replace hK := Lib.hid hK; subst hz; go_simp; generalize hz : Act.mk _ _ = z; refine hK.out z ?_; clear hK K) | (refine wpQuiet_step (fun K hK => ?_); replace hK := Lib.hid hK; subst hz; refine iteSkip (by kernel_rfl) ?_; go_simp; generalize hz : Act.mk _ _ = z; refine hK.out z ?_; clear hK K))
          try refine wpQuiet_nil ?_
          subst hz
          try dsimp only [NoPan]
          go_wp2_with fail
          go_ret
          exact ⟨rfl, H14.out.2.2.1.2.2.trans H15.out⟩
        · unfold PutO at p2
          rw [if_neg hf] at p2
          subst p2
          have hpe : putE k v = 2 := by unfold putE; rw [if_neg hf]
          have H11 := Lib.hid (And.intro h11 hs11)
          have hrow11 := Lib.hid (cls_heapq (D := [b12]) (w0 := w11.drew) (by simp) hs11)
          clear h11 hs11 x11 hf
          rw [hpe]
          go_wp2_with fail
          refine wp_region_mix (Cls [b12] _) [([0, 2], 1)] [3, 4] (by kernel_rfl) (by kernel_rfl) (Cls.refl _ _) ?_
          try dsimp only [wpMix, wpSegs, pick, List.getElem?_cons_zero, List.getElem?_cons_succ]
          generalize hz : Act.mk _ _ = z
          repeat (first | (subst hz; (refine wpQuiet_load_rowq 29 _ rfl (by kernel_rfl) b12 rfl 29 (sumA (rootS o2)) (0, 0) _ hrow11.out Try.underlying29 rfl (info_sum (rootS_len _)) ?_); generalize hz : Act.put _ _ _ = z) | (refine wpQuiet_step (fun K hK => ?_); replace hK := Lib.hid hK; subst hz; go_simp; generalize hz : Act.mk _ _ = z; refine hK.out z ?_; clear hK K) | (refine wpQuiet_step (fun K hK => ?_); replace hK := Lib.hid hK; subst hz; refine iteSkip (by kernel_rfl) ?_; go_simp; generalize hz : Act.mk _ _ = z; refine hK.out z ?_; clear hK K))
          try refine wpQuiet_nil ?_
          subst hz
          try dsimp only [NoPan]
          go_wp2_with fail
          refine (tm_root (H11.out.1.still (Ext.refl _ _).drew)).mono ?_
          rintro e w12 ⟨rfl, h12, x12⟩
          rw [sumV_A]
          have H12 := Lib.hid (And.intro h12 x12)
          clear h12 x12
          go_wp2_with fail
          refine ⟨Cls.of_ext H12.out.2 fun q hq => ⟨by simp at hq; subst hq; exact hb11, id⟩, ?_⟩
          try dsimp only [wpMix, wpSegs, pick, List.getElem?_cons_zero, List.getElem?_cons_succ]
          generalize hz : Act.mk _ _ = z
          repeat (first | (subst hz; (refine wpQuiet_load_rowq 29 _ rfl (by kernel_rfl) b12 rfl 29 (sumA (rootS o2)) (0, 0) _ hrow11.out Try.underlying29 rfl (info_sum (rootS_len _)) ?_); generalize hz : Act.put _ _ _ = z) | (refine wpQuiet_step (fun K hK => ?_); replace hK := Lib.hid hK; subst hz; go_simp; generalize hz : Act.mk _ _ = z; refine hK.out z ?_; clear hK K) | (refine wpQuiet_step (fun K hK => ?_); replace hK := Lib.hid hK; subst hz; refine iteSkip (by kernel_rfl) ?_; go_simp; generalize hz : Act.mk _ _ = z; refine hK.out z ?_; clear hK K))
          try refine wpQuiet_nil ?_
          subst hz
          try dsimp only [NoPan]
          go_wp2_with fail
          go_ret
          exact ⟨rfl, H12.out.1.2.2⟩
    | succ m =>
      have hm : m < (Tr.entsO o).length := by have := HN.out; omega
      have hE : Ents wr (.slice A3 (Tr.entsO o).length c3) (Tr.entsO o) := (HF.out.ext hT.2.2 fun _ _ => id).ents HE.out.1
      obtain ⟨g, off, c', hav, hdb, ⟨⟨a, b, c0, c1, ha, hb⟩, la, lb⟩⟩ := hE.at hm
      simp only [Value.slice.injEq, true_and] at hav
      obtain ⟨rfl, rfl⟩ := hav
      rw [show (((m + 1 : Nat) : Int) - 1) = (m : Int) by omega]
      have hfx := HE.out.1 _ (List.getElem_mem hm)
      have hx : (Tr.entsO o).reverse[n - (m + 1)]? = some (Tr.entsO o)[m] := by
        rw [List.getElem?_reverse (by have := HN.out; omega)]
        rw [show (Tr.entsO o).length - 1 - (n - (m + 1)) = m by have := HN.out; omega]
        exact List.getElem?_eq_getElem hm
      rw [← HN.out] at hm
      have hgl : g < wr.heap.size := World.block_lt_of_cell? _ _ c0
      have HB := Lib.hid (And.intro ha (And.intro hb (And.intro hfx hx)))
      have HT := Lib.hid (And.intro hT hP)
      clear hT hP hE ha hb la lb hfx hx
      generalize (Tr.entsO o)[m] = x at *
      go_wp2_with fail
      refine wp_region_bar (Cls [g] _) [] [0, 1, 2, 3, 4, 5, 6, 7, 8, 9, 10] 11 [] [] (by kernel_rfl) (by kernel_rfl) (Cls.refl _ _) ?_
      try dsimp only [wpMix, wpSegs, pick, List.getElem?_cons_zero, List.getElem?_cons_succ]
      generalize hz : Act.mk _ _ = z
      repeat (first | (refine wpQuiet_step (fun K hK => ?_); replace hK := Lib.hid hK; subst hz; go_simp; generalize hz : Act.mk _ _ = z; refine hK.out z ?_; clear hK K) | (refine wpQuiet_step (fun K hK => ?_); replace hK := Lib.hid hK; subst hz; refine iteSkip (by kernel_rfl) ?_; go_simp; generalize hz : Act.mk _ _ = z; refine hK.out z ?_; clear hK K))
      try refine wpQuiet_nil ?_
      subst hz
      try dsimp only [NoPan]
      go_wp2_with fail
      refine (tm_put (k := x.1) (v := x.2) (HT.out.1.still (Ext.refl _ _).drew) (HB.out.1.same (Ext.refl (fun _ => False) wr).drew) (HB.out.2.1.same (Ext.refl (fun _ => False) wr).drew) (by have := HT.out.2.len; omega)).mono ?_
      rintro e w9 ⟨o2, rfl, p2, h9, x9⟩
      have hp2 := HT.out.2.next HB.out.2.2.2 HB.out.2.2.1 p2
      have H9 := Lib.hid (And.intro h9 hp2)
      clear h9 p2 x9 hp2
      go_wp2_with fail
      have hwm : IntKind.i64.wrap ((m : Int) - 1) = (m : Int) - 1 := IntWalk.i64_in _ (by omega)
      try dsimp only [wpMix, wpSegs, pick, List.getElem?_cons_zero, List.getElem?_cons_succ]
      generalize hz : Act.mk _ _ = z
      repeat (first | (refine wpQuiet_step (fun K hK => ?_); replace hK := Lib.hid hK; subst hz; go_simp; generalize hz : Act.mk _ _ = z; refine hK.out z ?_; clear hK K) | (refine wpQuiet_step (fun K hK => ?_); replace hK := Lib.hid hK; subst hz; refine iteSkip (by kernel_rfl) ?_; go_simp; generalize hz : Act.mk _ _ = z; refine hK.out z ?_; clear hK K))
      try refine wpQuiet_nil ?_
      subst hz
      try dsimp only [NoPan]
      go_wp2_with fail
      refine ⟨⟨m, o2, by omega, rfl, H9.out.1, ?_⟩, by simp [intOf]⟩
      have := H9.out.2
      rw [show n - (m + 1) + 1 = n - m by omega] at this
      exact this
end Go.Proofs.Ytoflfhjeabpcjaa
namespace Go.Proofs.Ytoflfhjeabpcjaa
set_option linter.unusedVariables false
set_option linter.unusedSimpArgs false
open Go.ChangeShapes Go.WideShapes Go.ChangeAt Go.RowKit
open Go.ChangeMaps (open_string shut_string)

set_option maxRecDepth 100000 in
theorem trieRoots_lifted (os : Os) (started : os.Started) (H : Type) (enc : TypeId × Value → H) :
    ReturnsInHanded {} Try.checked os 7 .any (Rows.trieRootsSpec.pre6 enc Try.prog Try.f7 Rows.trieRootsRow.domain false) (Rows.trieRootsSpec.post enc Try.prog Try.f7 false true false false) := by
  refine returnsInHanded_of_change_sized (C := Try.checked) own started (by kernel_rfl) Try.func7
    (ChangeSpec.witness6 (enc := enc) (C := Try.checked) false ⟨#[], #[.slice none 0 0, .slice none 0 0, .slice none 0 0], []⟩ 8 (by kernel_rfl) (by kernel_rfl) (by kernel_rfl) (by kernel_rfl)) ?_
  intro W base args ds gs before hval0 hW hcnd hsz0 _
  have hsz : (DataW.weightsEach Try.prog (Try.f7.params.toList ++ Rows.trieRootsSpec.plain.varTypes Try.prog) (ds ++ gs)).all (· ≤ reachBytes) = true := hsz0
  have hval : ∀ (j : Nat) t v, Try.f7.params[j]? = some t → args[j]? = some v → Value.okWide Try.prog W .any base t v := hval0
  have hW' := hW
  obtain ⟨p, q, hA0, hV, rfl, hfz, hnd⟩ := hW
  have hA : DataW.TrodAll enc Try.prog W 0 (fun _ => true) true Try.f7.params.toList args.toList ds p := hA0
  rw [Try.params7] at hA hval hsz
  obtain ⟨v0, vs0, d0, ds0, p0, q0, hargs, rfl, rfl, h0, r0⟩ := trodAll_cons hA
  obtain ⟨v1, vs1, d1, ds1, p1, q1, rfl, rfl, rfl, h1, r1⟩ := trodAll_cons r0
  obtain ⟨v2, vs2, d2, ds2, p2, q2, rfl, rfl, rfl, h2, r2⟩ := trodAll_cons r1
  obtain ⟨rfl, rfl, rfl⟩ := trodAll_nil r2
  obtain rfl : args = #[v0, v1, v2] := by cases args; simp_all
  obtain ⟨rfl, rfl⟩ := trodVars_none hV
  obtain ⟨a0, len0, cap0, rfl⟩ := okWide_slice Try.underlying39 (hval 0 39 v0 rfl rfl)
  have k0 := h0
  have lt0 : ∀ x ∈ p0, x.block < W.heap.size := by obtain ⟨m, hm⟩ := k0; exact DataW.trod_lt m _ _ _ hm
  obtain ⟨a1, len1, cap1, rfl⟩ := okWide_slice Try.underlying22 (hval 1 22 v1 rfl rfl)
  have k1 := h1
  have lt1 : ∀ x ∈ p1, x.block < W.heap.size := by obtain ⟨m, hm⟩ := k1; exact DataW.trod_lt m _ _ _ hm
  obtain ⟨a2, len2, cap2, rfl⟩ := okWide_slice Try.underlying22 (hval 2 22 v2 rfl rfl)
  have k2 := h2
  have lt2 : ∀ x ∈ p2, x.block < W.heap.size := by obtain ⟨m, hm⟩ := k2; exact DataW.trod_lt m _ _ _ hm
  have sm0 := small_each hsz (j := 0) (t := 39) (d := d0) rfl rfl
  obtain ⟨l0, hl0⟩ := trod_row_s Try.underlying39 (by kernel_rfl) (by decide) sm0 (fun f cs x g n => opens_act4_s f cs x g n) h0
  have sm1 := small_each hsz (j := 1) (t := 22) (d := d1) rfl rfl
  obtain ⟨l1, hl1⟩ : ∃ l, Byt (· < W.heap.size) W (.slice a1 len1 cap1) l ∧ l.length ≤ 140737488351232 := by
    obtain ⟨fuel, hf⟩ := h1
    obtain ⟨v, l, e, hr, hm⟩ := opens_byt_s (x := (d1, p1)) Try.underlying22 Try.underlying5 (by kernel_rfl) (by kernel_rfl) hf sm1
    simp [Value.cells] at e
    exact ⟨l, e ▸ hr, hm⟩
  have sm2 := small_each hsz (j := 2) (t := 22) (d := d2) rfl rfl
  obtain ⟨l2, hl2⟩ : ∃ l, Byt (· < W.heap.size) W (.slice a2 len2 cap2) l ∧ l.length ≤ 140737488351232 := by
    obtain ⟨fuel, hf⟩ := h2
    obtain ⟨v, l, e, hr, hm⟩ := opens_byt_s (x := (d2, p2)) Try.underlying22 Try.underlying5 (by kernel_rfl) (by kernel_rfl) hf sm2
    simp [Value.cells] at e
    exact ⟨l, e ▸ hr, hm⟩
  clear hA0 hval0 hsz0 hsz
  refine (roots_walk hl0.1 hl0.2 hl1.1 hl1.2 hl2.1 hl2.2).mono fun e W' ⟨he, hx⟩ => ?_
  subst he
  have bel : Go.RowKit.Below W.heap.size W W' := hx.below fun _ => False.elim
  exact ⟨_, rfl, _, _, _, [], _, [], hW', trodAll_mk1 (shut_bool Try.underlying4 _), (trodAll_cons_mk (Go.RowKit.Below.trod laidOut (by kernel_rfl) (of_decide_eq_true (by kernel_rfl)) k0 bel lt0) (trodAll_cons_mk (Go.RowKit.Below.trod laidOut (by kernel_rfl) (of_decide_eq_true (by kernel_rfl)) k1 bel lt1) (trodAll_cons_mk (Go.RowKit.Below.trod laidOut (by kernel_rfl) (of_decide_eq_true (by kernel_rfl)) k2 bel lt2) trodAll_mk0))), rfl, bel.frame _, fun h => by cases h⟩

theorem trieRoots_over : Rows.trieRootsRow.holds Try.pinned (OpenSpec.ofChange Rows.trieRootsSpec) :=
  OpenClaim.holds_of_wide 7 Try.f7 rfl rfl rfl rfl rfl rfl rfl ⟨rfl, rfl, rfl, rfl, rfl⟩ rfl rfl rfl rfl rfl (by kernel_rfl) Try.func7 (by kernel_rfl)
    (of_decide_eq_true (by kernel_rfl)) (by unfold Func.isWrapper; first | (rw [if_pos (by decide +kernel)]; kernel_rfl) | (rw [if_neg (by decide +kernel)]; exact ⟨rfl, rfl⟩))
    (fun os started H enc _ => trieRoots_lifted os started H enc)
theorem trieRoots_holds : Rows.TrieRootsSaid := trieRoots_over
end Go.Proofs.Ytoflfhjeabpcjaa
