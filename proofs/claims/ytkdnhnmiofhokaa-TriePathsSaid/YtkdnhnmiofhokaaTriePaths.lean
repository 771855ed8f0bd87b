/- TriePaths answers true; no condition. -/
import Derived.Test.YtkdnhnmiofhokaaTrieActs
namespace Go.Proofs.Ytkdnhnmiofhokaa
set_option linter.unusedVariables false
set_option linter.unusedSimpArgs false
open Go.RowKit

set_option maxRecDepth 100000 in
set_option maxHeartbeats 4000000 in
theorem paths_walk {w : World} {av kv : Value} {acts : List Act4} {k : Bs} (hA : Row (Act4Is (· < w.heap.size)) 3 (· < w.heap.size) w av acts) (hl : acts.length ≤ maxLen) (hk : Byt (· < w.heap.size) w kv k) (hkl : k.length ≤ 140737488351232) :
    Calls Try.prog 4 #[av, kv] w fun e w' => e = .returned (.bool true) ∧ Ext (fun _ => False) w w' := by
  have HM := fun (W : World) (hx : Ext (fun _ => False) w W) => Lib.hid (made_walk hA (by unfold maxLen at hl; omega) hx)
  have HK := Lib.hid hk
  obtain ⟨Ak, ck, rfl, _, _⟩ := hk
  clear hA hl
  go_enter Try.func4, Try.ntmps4
  go_wp2_with fail
  refine (trie_small _).mono ?_
  rintro e w1 ⟨rfl, x1⟩
  have H1 := Lib.hid x1
  clear x1
  go_wp2_with fail
  refine (HM _ H1.out).out.mono ?_
  rintro e w2 ⟨c, o, rfl, h2, n2⟩
  have H2 := Lib.hid (And.intro h2 n2)
  clear h2 n2 HM
  go_wp2_with fail
  refine (tm_path (k := k) H2.out.1 (HK.out.same H2.out.1.2.2) (by omega) (by have := H2.out.2; omega)).mono ?_
  rintro e w3 ⟨ka, va, sv, rfl, o3, p3, _, _, r3, h3, x3⟩
  obtain ⟨A1, c1, rfl⟩ := o3.formv
  obtain ⟨A2, c2, rfl⟩ := p3.formv
  obtain ⟨A3, c3, rfl⟩ := own_form r3
  have hgr : ∀ ob : Obj, Ext (fun _ => False) w3 (w3.alloc ob) := fun ob => (Ext.refl _ _).alloc ob
  have H3 := Lib.hid (And.intro o3 (And.intro p3 (And.intro r3 (And.intro h3 hgr))))
  clear o3 p3 r3 h3 x3 hgr
  go_wp2_with fail
  have h4 := fun ob : Obj => H3.out.2.2.2.1.still (H3.out.2.2.2.2 ob)
  refine (tm_get (k := k) (h4 _) (HK.out.same (h4 _).2.2) (by omega)).mono ?_
  rintro e w5 ⟨vg, rfl, o5, _, h5, x5⟩
  obtain ⟨A5, c5, rfl⟩ := o5.formv
  have hb5 := x5.heap (heap_alloc_self w3 (.cells #[.bool o.isNone, .slice A1 (endO o k).1.length c1, .slice A2 (endO o k).2.length c2, .slice A3 (pathO o k).length c3] 43 (0, 0))) id
  have y5 := (H3.out.2.2.2.2 _).trans x5
  have hlb5 := lt_of_heap hb5
  have d0 : w5.cell? ⟨w3.heap.size, 0, none⟩ = some (.bool o.isNone) := cells_at hb5 0
  have d1 : w5.cell? ⟨w3.heap.size, 1, none⟩ = some (.slice A1 (endO o k).1.length c1) := cells_at hb5 1
  have d2 : w5.cell? ⟨w3.heap.size, 2, none⟩ = some (.slice A2 (endO o k).2.length c2) := cells_at hb5 2
  have d3 : w5.cell? ⟨w3.heap.size, 3, none⟩ = some (.slice A3 (pathO o k).length c3) := cells_at hb5 3
  have H5 := Lib.hid (And.intro o5 (And.intro h5 y5))
  clear o5 h5 x5 y5 h4
  generalize w3.heap.size = bp at *
  cases o with
  | none =>
    rw [show (Tr.get none k).isSome = false from rfl]
    rw [show Option.isNone (none : Option Tr) = true from rfl] at d0
    rw [show (pathO none k).length = 0 from rfl] at d3
    rw [show (endO none k).1.length = 0 from rfl] at d1
    rw [show (endO none k).2.length = 0 from rfl] at d2
    have hb5' := Lib.hid hb5
    clear hb5
    go_wp2_with fail
    refine wp_region_mix (Cls [bp] _) [([0, 1, 2], 3)] [4, 5, 6, 7, 8, 9, 10, 11, 12, 13, 14, 15, 16, 17, 18] (by kernel_rfl) (by kernel_rfl) (Cls.refl _ _) ?_
    try dsimp only [wpMix, wpSegs, pick, List.getElem?_cons_zero, List.getElem?_cons_succ]
    generalize hz : Act.mk _ _ = z
    repeat (first | (refine wpQuiet_step (fun K hK => ?_); replace hK := Lib.hid hK; subst hz; go_simp; generalize hz : Act.mk _ _ = z; refine hK.out z ?_; clear hK K) | (refine wpQuiet_step (fun K hK => ?_); replace hK := Lib.hid hK; subst hz; refine iteSkip (by kernel_rfl) ?_; go_simp; generalize hz : Act.mk _ _ = z; refine hK.out z ?_; clear hK K))
    try refine wpQuiet_nil ?_
    subst hz
    try dsimp only [NoPan]
    go_wp2_with fail
    refine (tm_count (H5.out.2.1.still (Ext.refl _ _).drew)).mono ?_
    rintro e _ ⟨rfl, rfl⟩
    rw [show (Tr.entsO none).length = 0 from rfl]
    go_wp2_with fail
    refine ⟨Cls.refl _ _, ?_⟩
    try dsimp only [wpMix, wpSegs, pick, List.getElem?_cons_zero, List.getElem?_cons_succ]
    generalize hz : Act.mk _ _ = z
    repeat (first | (refine wpQuiet_step (fun K hK => ?_); replace hK := Lib.hid hK; subst hz; go_simp; generalize hz : Act.mk _ _ = z; refine hK.out z ?_; clear hK K) | (refine wpQuiet_step (fun K hK => ?_); replace hK := Lib.hid hK; subst hz; refine iteSkip (by kernel_rfl) ?_; go_simp; generalize hz : Act.mk _ _ = z; refine hK.out z ?_; clear hK K))
    try refine wpQuiet_nil ?_
    subst hz
    try dsimp only [NoPan]
    go_wp2_with fail
    go_loopw [10] (fun i W => i = .int .i64 0 ∧ Ext (fun _ => False) w5 W) (fun i _ => 0)
    case atStart => exact ⟨rfl, (Ext.refl _ _).drew⟩
    case round =>
      obtain ⟨rfl, hx⟩ := hrel
      have e3 := cell_same d3 hx
      have hlr := Nat.lt_of_lt_of_le hlb5 hx.size
      have HX := Lib.hid hx
      clear hx d0 d1 d2 d3
      go_wp2_with fail
      refine wp_region_mix (Cls [bp] _) [([0, 1, 2, 3], 4)] [5, 6, 7] (by kernel_rfl) (by kernel_rfl) (Cls.refl _ _) ?_
      try dsimp only [wpMix, wpSegs, pick, List.getElem?_cons_zero, List.getElem?_cons_succ]
      generalize hz : Act.mk _ _ = z
      repeat (first | (refine wpQuiet_step (fun K hK => ?_); replace hK := Lib.hid hK; subst hz; go_simp; generalize hz : Act.mk _ _ = z; refine hK.out z ?_; clear hK K) | (refine wpQuiet_step (fun K hK => ?_); replace hK := Lib.hid hK; subst hz; refine iteSkip (by kernel_rfl) ?_; go_simp; generalize hz : Act.mk _ _ = z; refine hK.out z ?_; clear hK K))
      try refine wpQuiet_nil ?_
      subst hz
      try dsimp only [NoPan]
      go_wp2_with fail
      refine (tm_count (H5.out.2.1.still HX.out.drew)).mono ?_
      rintro e _ ⟨rfl, rfl⟩
      rw [show (Tr.entsO none).length = 0 from rfl]
      go_wp2_with fail
      refine ⟨Cls.refl _ _, ?_⟩
      try dsimp only [wpMix, wpSegs, pick, List.getElem?_cons_zero, List.getElem?_cons_succ]
      generalize hz : Act.mk _ _ = z
      repeat (first | (refine wpQuiet_step (fun K hK => ?_); replace hK := Lib.hid hK; subst hz; go_simp; generalize hz : Act.mk _ _ = z; refine hK.out z ?_; clear hK K) | (refine wpQuiet_step (fun K hK => ?_); replace hK := Lib.hid hK; subst hz; refine iteSkip (by kernel_rfl) ?_; go_simp; generalize hz : Act.mk _ _ = z; refine hK.out z ?_; clear hK K))
      try refine wpQuiet_nil ?_
      subst hz
      try dsimp only [NoPan]
      go_wp2_with fail
      go_ret
      exact ⟨rfl, H5.out.2.1.2.2.trans HX.out.drew⟩
  | some t =>
    rw [show Option.isNone (some t) = false from rfl] at d0
    rw [show pathO (some t) k = t.path k from rfl] at d3 H3
    rw [show endO (some t) k = t.last k from rfl] at d1 d2 H3
    have hlen := t.ents_pos
    have hcnt : ((t.ents.length : Int) == 0) = false := by rw [beq_eq_false_iff_ne]; omega
    have HO := Lib.hid (show t.ok by obtain ⟨⟨D, hT, _⟩, _⟩ := H2.out.1; exact hT.ok)
    have hk120 : (t.last k).1.length ≤ 120 := (Tr.ok_ent HO.out _ (t.last_mem k)).1
    have hb5' := Lib.hid hb5
    have cvk := (HK.out.same H5.out.2.1.2.2.drew).conv 22 5 9 Try.underlying22 Try.underlying5 Try.underlying9 w5.drew rfl
    have cv1 := (H3.out.1.byt.same H5.out.2.2.drew).conv 22 5 9 Try.underlying22 Try.underlying5 Try.underlying9 w5.drew rfl
    have cv2 := (H3.out.2.1.byt.same H5.out.2.2.drew).conv 22 5 9 Try.underlying22 Try.underlying5 Try.underlying9 w5.drew rfl
    have hget : Tr.get (some t) k = if (t.last k).1 = k then some (t.last k).2 else none := rfl
    have HL := Lib.hid (And.intro hb5 hget)
    clear hb5 hget hb5'
    by_cases hlk : (t.last k).1 = k
    · have hg : Tr.get (some t) k = some (t.last k).2 := by rw [HL.out.2, if_pos hlk]
      have he : ((t.last k).1 == k) = true := by simpa using hlk
      rw [hg] at H5 ⊢
      have cv5 := (H5.out.1.byt.same (Ext.refl _ _).drew).conv 22 5 9 Try.underlying22 Try.underlying5 Try.underlying9 w5.drew rfl
      rw [show gotB (some (t.last k).2) = (t.last k).2 from rfl] at cv5 ⊢
      rw [show Option.isSome (some (t.last k).2) = true from rfl]
      clear hg hlk
      go_wp2_with fail
      refine wp_region_mix (Cls [bp] _) [([0, 1, 2], 3)] [4, 5, 6, 7, 8, 9, 10, 11, 12, 13, 14, 15, 16, 17, 18] (by kernel_rfl) (by kernel_rfl) (Cls.refl _ _) ?_
      try dsimp only [wpMix, wpSegs, pick, List.getElem?_cons_zero, List.getElem?_cons_succ]
      generalize hz : Act.mk _ _ = z
      repeat (first | (refine wpQuiet_step (fun K hK => ?_); replace hK := Lib.hid hK; subst hz; go_simp; generalize hz : Act.mk _ _ = z; refine hK.out z ?_; clear hK K) | (refine wpQuiet_step (fun K hK => ?_); replace hK := Lib.hid hK; subst hz; refine iteSkip (by kernel_rfl) ?_; go_simp; generalize hz : Act.mk _ _ = z; refine hK.out z ?_; clear hK K))
      try refine wpQuiet_nil ?_
      subst hz
      try dsimp only [NoPan]
      go_wp2_with fail
      refine (tm_count (H5.out.2.1.still (Ext.refl _ _).drew)).mono ?_
      rintro e _ ⟨rfl, rfl⟩
      rw [show Tr.entsO (some t) = t.ents from rfl]
      go_wp2_with fail
      refine ⟨Cls.refl _ _, ?_⟩
      try dsimp only [wpMix, wpSegs, pick, List.getElem?_cons_zero, List.getElem?_cons_succ]
      generalize hz : Act.mk _ _ = z
      repeat (first | (refine wpQuiet_step (fun K hK => ?_); replace hK := Lib.hid hK; subst hz; go_simp; generalize hz : Act.mk _ _ = z; refine hK.out z ?_; clear hK K) | (refine wpQuiet_step (fun K hK => ?_); replace hK := Lib.hid hK; subst hz; refine iteSkip (by kernel_rfl) ?_; go_simp; generalize hz : Act.mk _ _ = z; refine hK.out z ?_; clear hK K))
      try refine wpQuiet_nil ?_
      subst hz
      try dsimp only [NoPan]
      go_wp2_with fail
      have hnl : (t.path k).length ≤ 30 := by
        have h1 := Tr.path_len t k
        have h2 := H2.out.2
        rw [show Tr.entsO (some t) = t.ents from rfl] at h2
        omega
      have HD := Lib.hid (And.intro d0 (And.intro d1 (And.intro d2 d3)))
      clear cv1 cv2 cvk cv5 he
      go_loopw [10] (fun i W => ∃ j : Nat, j ≤ (t.path k).length ∧ i = .int .i64 j ∧ Ext (fun _ => False) w5 W) (fun i _ => (t.path k).length - (intOf i).toNat)
      case atStart => exact ⟨0, Nat.zero_le _, rfl, (Ext.refl _ _).drew⟩
      case round =>
        obtain ⟨j, hj, rfl, hx⟩ := hrel
        have e0 := cell_same d0 hx
        have e1 := cell_same d1 hx
        have e3 := cell_same d3 hx
        have hbr := Nat.lt_of_lt_of_le hlb5 hx.size
        by_cases hlt : j < (t.path k).length
        · have hjl : decide ((j : Int) < ((t.path k).length : Int)) = true := by simp; omega
          obtain ⟨s, hs⟩ : ∃ s, (t.path k)[j]? = some s := ⟨_, List.getElem?_eq_getElem hlt⟩
          obtain ⟨g, cap, hsv, _, hcap, hgl, s0, s1, _⟩ := steps_at H3.out.2.2.1 hs
          simp only [Value.slice.injEq, true_and] at hsv
          obtain ⟨rfl, rfl⟩ := hsv
          have yx := H5.out.2.2.trans hx
          have hgr' := Nat.lt_of_lt_of_le hgl yx.size
          have hm := List.mem_of_getElem? hs
          have hb1 := Tr.path_bit t k s hm
          have hb2 := Tr.path_last HO.out k s hm
          clear hm
          by_cases hj0 : j = 0
          ·
            subst hj0
            have s0' : wr.cell? ⟨g, 0, none⟩ = some (.int .i64 s.1) := cell_same s0 yx
            have s1' : wr.cell? ⟨g, 1, none⟩ = some (.bool s.2.1) := cell_same s1 yx
            have HX := Lib.hid (And.intro hx (And.intro yx (And.intro hb1 hb2)))
            clear hx yx hb1 hb2 hs s0 s1 d0 d1 d2 d3 HD
            go_wp2_with fail
            refine wp_region_mix (Cls [bp, g] _) [([0, 1, 2, 3, 4, 5, 6, 7, 8, 9, 10, 11, 12, 13, 14, 15, 16, 17, 18, 19, 20, 21, 22, 23, 24, 25, 27, 28, 29, 30, 31, 32], 26), ([33, 34, 35, 36, 37, 38, 39, 40, 41, 42, 43, 44, 46, 47, 48, 49, 50, 51], 45)] [52, 53] (by kernel_rfl) (by kernel_rfl) (Cls.refl _ _) ?_
            try dsimp only [wpMix, wpSegs, pick, List.getElem?_cons_zero, List.getElem?_cons_succ]
            generalize hz : Act.mk _ _ = z
            repeat (first | (refine wpQuiet_step (fun K hK => ?_); replace hK := Lib.hid hK; subst hz; go_simp; generalize hz : Act.mk _ _ = z; refine hK.out z ?_; clear hK K) | (refine wpQuiet_step (fun K hK => ?_); replace hK := Lib.hid hK; subst hz; refine iteSkip (by kernel_rfl) ?_; go_simp; generalize hz : Act.mk _ _ = z; refine hK.out z ?_; clear hK K))
            try refine wpQuiet_nil ?_
            subst hz
            try dsimp only [NoPan]
            go_wp2_with fail
            refine (bit_walk (HK.out.same (H5.out.2.1.2.2.trans HX.out.1.drew)) (by omega) (s.1 : Int)).mono ?_
            rintro e _ ⟨rfl, rfl⟩
            rw [bitI_nat, HX.out.2.2.1]
            go_wp2_with fail
            refine ⟨Cls.refl _ _, ?_⟩
            try dsimp only [wpMix, wpSegs, pick, List.getElem?_cons_zero, List.getElem?_cons_succ]
            generalize hz : Act.mk _ _ = z
            repeat (first | (refine wpQuiet_step (fun K hK => ?_); replace hK := Lib.hid hK; subst hz; go_simp; generalize hz : Act.mk _ _ = z; refine hK.out z ?_; clear hK K) | (refine wpQuiet_step (fun K hK => ?_); replace hK := Lib.hid hK; subst hz; refine iteSkip (by kernel_rfl) ?_; go_simp; generalize hz : Act.mk _ _ = z; refine hK.out z ?_; clear hK K))
            try refine wpQuiet_nil ?_
            subst hz
            try dsimp only [NoPan]
            go_wp2_with fail
            refine (bit_walk (H3.out.1.byt.same HX.out.2.1.drew) (by omega) (s.1 : Int)).mono ?_
            rintro e _ ⟨rfl, rfl⟩
            rw [bitI_nat, HX.out.2.2.2]
            go_wp2_with fail
            refine ⟨Cls.refl _ _, ?_⟩
            try dsimp only [wpMix, wpSegs, pick, List.getElem?_cons_zero, List.getElem?_cons_succ]
            generalize hz : Act.mk _ _ = z
            repeat (first | (refine wpQuiet_step (fun K hK => ?_); replace hK := Lib.hid hK; subst hz; go_simp; generalize hz : Act.mk _ _ = z; refine hK.out z ?_; clear hK K) | (refine wpQuiet_step (fun K hK => ?_); replace hK := Lib.hid hK; subst hz; refine iteSkip (by kernel_rfl) ?_; go_simp; generalize hz : Act.mk _ _ = z; refine hK.out z ?_; clear hK K))
            try refine wpQuiet_nil ?_
            subst hz
            try dsimp only [NoPan]
            go_wp2_with fail
            exact ⟨⟨1, by omega, by go_num, HX.out.1.drew⟩, by simp [intOf]; omega⟩
          ·
            have s0' : wr.cell? ⟨g, j * 34, none⟩ = some (.int .i64 s.1) := by rw [Nat.mul_comm]; exact cell_same s0 yx
            have s1' : wr.cell? ⟨g, j * 34 + 1, none⟩ = some (.bool s.2.1) := by rw [Nat.mul_comm]; exact cell_same s1 yx
            obtain ⟨m, hm⟩ : ∃ m, m = j - 1 := ⟨_, rfl⟩
            have hj1 : m < (t.path k).length := by omega
            obtain ⟨q, hq⟩ : ∃ q, (t.path k)[m]? = some q := ⟨_, List.getElem?_eq_getElem hj1⟩
            obtain ⟨g', cap', hsv', _, _, _, q0, _, _⟩ := steps_at H3.out.2.2.1 hq
            simp only [Value.slice.injEq, Option.some.injEq, Addr.mk.injEq, true_and, and_true] at hsv'
            obtain ⟨rfl, rfl⟩ := hsv'
            have q0' : wr.cell? ⟨g, m * 34, none⟩ = some (.int .i64 q.1) := by rw [Nat.mul_comm]; exact cell_same q0 yx
            have hgt : decide (0 < (j : Int)) = true := by simp; omega
            have hgt2 : decide (0 < j) = true := by simp; omega
            have hgt3 : 0 < j := by omega
            have hw1 : IntKind.i64.wrap ((j : Int) - 1) = (m : Int) := by
              have h1 := Tr.path_len t k
              have h2 := H2.out.2
              rw [show Tr.entsO (some t) = t.ents from rfl] at h2
              rw [IntWalk.i64_in _ (by omega)]
              omega
            have hle3 : ¬ (s.1 ≤ q.1) := by
              have hp := List.pairwise_iff_getElem.1 (Tr.path_rises HO.out k) m j hj1 hlt (by omega)
              rw [List.getElem?_eq_getElem hlt] at hs
              rw [List.getElem?_eq_getElem hj1] at hq
              rw [Option.some.inj hs, Option.some.inj hq] at hp
              omega
            have hle : decide ((s.1 : Int) ≤ (q.1 : Int)) = false := by simp; omega
            have hle2 : decide (s.1 ≤ q.1) = false := by simp; omega
            clear hle3
            clear hq q0 hm
            have HX := Lib.hid (And.intro hx (And.intro yx (And.intro hb1 hb2)))
            clear hx yx hb1 hb2 hs s0 s1 d0 d1 d2 d3 HD
            go_wp2_with fail
            refine wp_region_mix (Cls [bp, g] _) [([0, 1, 2, 3, 4, 5, 6, 7, 8, 9, 10, 11, 12, 13, 14, 15, 16, 17, 18, 19, 20, 21, 22, 23, 24, 25, 27, 28, 29, 30, 31, 32], 26), ([33, 34, 35, 36, 37, 38, 39, 40, 41, 42, 43, 44, 46, 47, 48, 49, 50, 51], 45)] [52, 53] (by kernel_rfl) (by kernel_rfl) (Cls.refl _ _) ?_
            try dsimp only [wpMix, wpSegs, pick, List.getElem?_cons_zero, List.getElem?_cons_succ]
            generalize hz : Act.mk _ _ = z
            repeat (first | (refine wpQuiet_step (fun K hK => ?_); replace hK := Lib.hid hK; subst hz; go_simp; generalize hz : Act.mk _ _ = z; refine hK.out z ?_; clear hK K) | (refine wpQuiet_step (fun K hK => ?_); replace hK := Lib.hid hK; subst hz; refine iteSkip (by kernel_rfl) ?_; go_simp; generalize hz : Act.mk _ _ = z; refine hK.out z ?_; clear hK K))
            try refine wpQuiet_nil ?_
            subst hz
            try dsimp only [NoPan]
            go_wp2_with fail
            refine (bit_walk (HK.out.same (H5.out.2.1.2.2.trans HX.out.1.drew)) (by omega) (s.1 : Int)).mono ?_
            rintro e _ ⟨rfl, rfl⟩
            rw [bitI_nat, HX.out.2.2.1]
            go_wp2_with fail
            refine ⟨Cls.refl _ _, ?_⟩
            try dsimp only [wpMix, wpSegs, pick, List.getElem?_cons_zero, List.getElem?_cons_succ]
            generalize hz : Act.mk _ _ = z
            repeat (first | (refine wpQuiet_step (fun K hK => ?_); replace hK := Lib.hid hK; subst hz; go_simp; generalize hz : Act.mk _ _ = z; refine hK.out z ?_; clear hK K) | (refine wpQuiet_step (fun K hK => ?_); replace hK := Lib.hid hK; subst hz; refine iteSkip (by kernel_rfl) ?_; go_simp; generalize hz : Act.mk _ _ = z; refine hK.out z ?_; clear hK K))
            try refine wpQuiet_nil ?_
            subst hz
            try dsimp only [NoPan]
            go_wp2_with fail
            refine (bit_walk (H3.out.1.byt.same HX.out.2.1.drew) (by omega) (s.1 : Int)).mono ?_
            rintro e _ ⟨rfl, rfl⟩
            rw [bitI_nat, HX.out.2.2.2]
            go_wp2_with fail
            refine ⟨Cls.refl _ _, ?_⟩
            try dsimp only [wpMix, wpSegs, pick, List.getElem?_cons_zero, List.getElem?_cons_succ]
            generalize hz : Act.mk _ _ = z
            repeat (first | (refine wpQuiet_step (fun K hK => ?_); replace hK := Lib.hid hK; subst hz; go_simp; generalize hz : Act.mk _ _ = z; refine hK.out z ?_; clear hK K) | (refine wpQuiet_step (fun K hK => ?_); replace hK := Lib.hid hK; subst hz; refine iteSkip (by kernel_rfl) ?_; go_simp; generalize hz : Act.mk _ _ = z; refine hK.out z ?_; clear hK K))
            try refine wpQuiet_nil ?_
            subst hz
            try dsimp only [NoPan]
            go_wp2_with fail
            exact ⟨⟨j + 1, by omega, by go_num, HX.out.1.drew⟩, by simp [intOf]; omega⟩
        · have hjl : decide ((j : Int) < ((t.path k).length : Int)) = false := by simp; omega
          have hfin : decide ((t.path k).length < t.ents.length) = true := by
            have := Tr.path_len t k
            simp
            omega
          have hmx : max (t.ents.length : Int) 1 = (t.ents.length : Int) := by omega
          have HX := Lib.hid hx
          clear hx d0 d1 d2 d3 HD
          go_wp2_with fail
          refine wp_region_mix (Cls [bp] _) [([0, 1, 2, 3], 4)] [5, 6, 7] (by kernel_rfl) (by kernel_rfl) (Cls.refl _ _) ?_
          try dsimp only [wpMix, wpSegs, pick, List.getElem?_cons_zero, List.getElem?_cons_succ]
          generalize hz : Act.mk _ _ = z
          repeat (first | (refine wpQuiet_step (fun K hK => ?_); replace hK := Lib.hid hK; subst hz; go_simp; generalize hz : Act.mk _ _ = z; refine hK.out z ?_; clear hK K) | (refine wpQuiet_step (fun K hK => ?_); replace hK := Lib.hid hK; subst hz; refine iteSkip (by kernel_rfl) ?_; go_simp; generalize hz : Act.mk _ _ = z; refine hK.out z ?_; clear hK K))
          try refine wpQuiet_nil ?_
          subst hz
          try dsimp only [NoPan]
          go_wp2_with fail
          refine (tm_count (H5.out.2.1.still HX.out.drew)).mono ?_
          rintro e _ ⟨rfl, rfl⟩
          rw [show Tr.entsO (some t) = t.ents from rfl]
          go_wp2_with fail
          refine ⟨Cls.refl _ _, ?_⟩
          try dsimp only [wpMix, wpSegs, pick, List.getElem?_cons_zero, List.getElem?_cons_succ]
          generalize hz : Act.mk _ _ = z
          repeat (first | (refine wpQuiet_step (fun K hK => ?_); replace hK := Lib.hid hK; subst hz; go_simp; generalize hz : Act.mk _ _ = z; refine hK.out z ?_; clear hK K) | (refine wpQuiet_step (fun K hK => ?_); replace hK := Lib.hid hK; subst hz; refine iteSkip (by kernel_rfl) ?_; go_simp; generalize hz : Act.mk _ _ = z; refine hK.out z ?_; clear hK K))
          try refine wpQuiet_nil ?_
          subst hz
          try dsimp only [NoPan]
          go_wp2_with fail
          go_ret
          exact ⟨rfl, H5.out.2.1.2.2.trans HX.out.drew⟩
    · have hg : Tr.get (some t) k = none := by rw [HL.out.2, if_neg hlk]
      have he : ((t.last k).1 == k) = false := by simpa using hlk
      rw [hg] at H5 ⊢
      rw [show gotB (none : Option Bs) = [] from rfl, show Option.isSome (none : Option Bs) = false from rfl]
      clear hg hlk
      go_wp2_with fail
      refine wp_region_mix (Cls [bp] _) [([0, 1, 2], 3)] [4, 5, 6, 7, 8, 9, 10, 11, 12, 13, 14, 15, 16, 17, 18] (by kernel_rfl) (by kernel_rfl) (Cls.refl _ _) ?_
      try dsimp only [wpMix, wpSegs, pick, List.getElem?_cons_zero, List.getElem?_cons_succ]
      generalize hz : Act.mk _ _ = z
      repeat (first | (refine wpQuiet_step (fun K hK => ?_); replace hK := Lib.hid hK; subst hz; go_simp; generalize hz : Act.mk _ _ = z; refine hK.out z ?_; clear hK K) | (refine wpQuiet_step (fun K hK => ?_); replace hK := Lib.hid hK; subst hz; refine iteSkip (by kernel_rfl) ?_; go_simp; generalize hz : Act.mk _ _ = z; refine hK.out z ?_; clear hK K))
      try refine wpQuiet_nil ?_
      subst hz
      try dsimp only [NoPan]
      go_wp2_with fail
      refine (tm_count (H5.out.2.1.still (Ext.refl _ _).drew)).mono ?_
      rintro e _ ⟨rfl, rfl⟩
      rw [show Tr.entsO (some t) = t.ents from rfl]
      go_wp2_with fail
      refine ⟨Cls.refl _ _, ?_⟩
      try dsimp only [wpMix, wpSegs, pick, List.getElem?_cons_zero, List.getElem?_cons_succ]
      generalize hz : Act.mk _ _ = z
      repeat (first | (refine wpQuiet_step (fun K hK => ?_); replace hK := Lib.hid hK; subst hz; go_simp; generalize hz : Act.mk _ _ = z; refine hK.out z ?_; clear hK K) | (refine wpQuiet_step (fun K hK => ?_); replace hK := Lib.hid hK; subst hz; refine iteSkip (by kernel_rfl) ?_; go_simp; generalize hz : Act.mk _ _ = z; refine hK.out z ?_; clear hK K))
      try refine wpQuiet_nil ?_
      subst hz
      try dsimp only [NoPan]
      go_wp2_with fail
      have hnl : (t.path k).length ≤ 30 := by
        have h1 := Tr.path_len t k
        have h2 := H2.out.2
        rw [show Tr.entsO (some t) = t.ents from rfl] at h2
        omega
      have HD := Lib.hid (And.intro d0 (And.intro d1 (And.intro d2 d3)))
      clear cv1 cv2 cvk he
      go_loopw [10] (fun i W => ∃ j : Nat, j ≤ (t.path k).length ∧ i = .int .i64 j ∧ Ext (fun _ => False) w5 W) (fun i _ => (t.path k).length - (intOf i).toNat)
      case atStart => exact ⟨0, Nat.zero_le _, rfl, (Ext.refl _ _).drew⟩
      case round =>
        obtain ⟨j, hj, rfl, hx⟩ := hrel
        have e0 := cell_same d0 hx
        have e1 := cell_same d1 hx
        have e3 := cell_same d3 hx
        have hbr := Nat.lt_of_lt_of_le hlb5 hx.size
        by_cases hlt : j < (t.path k).length
        · have hjl : decide ((j : Int) < ((t.path k).length : Int)) = true := by simp; omega
          obtain ⟨s, hs⟩ : ∃ s, (t.path k)[j]? = some s := ⟨_, List.getElem?_eq_getElem hlt⟩
          obtain ⟨g, cap, hsv, _, hcap, hgl, s0, s1, _⟩ := steps_at H3.out.2.2.1 hs
          simp only [Value.slice.injEq, true_and] at hsv
          obtain ⟨rfl, rfl⟩ := hsv
          have yx := H5.out.2.2.trans hx
          have hgr' := Nat.lt_of_lt_of_le hgl yx.size
          have hm := List.mem_of_getElem? hs
          have hb1 := Tr.path_bit t k s hm
          have hb2 := Tr.path_last HO.out k s hm
          clear hm
          by_cases hj0 : j = 0
          ·
            subst hj0
            have s0' : wr.cell? ⟨g, 0, none⟩ = some (.int .i64 s.1) := cell_same s0 yx
            have s1' : wr.cell? ⟨g, 1, none⟩ = some (.bool s.2.1) := cell_same s1 yx
            have HX := Lib.hid (And.intro hx (And.intro yx (And.intro hb1 hb2)))
            clear hx yx hb1 hb2 hs s0 s1 d0 d1 d2 d3 HD
            go_wp2_with fail
            refine wp_region_mix (Cls [bp, g] _) [([0, 1, 2, 3, 4, 5, 6, 7, 8, 9, 10, 11, 12, 13, 14, 15, 16, 17, 18, 19, 20, 21, 22, 23, 24, 25, 27, 28, 29, 30, 31, 32], 26), ([33, 34, 35, 36, 37, 38, 39, 40, 41, 42, 43, 44, 46, 47, 48, 49, 50, 51], 45)] [52, 53] (by kernel_rfl) (by kernel_rfl) (Cls.refl _ _) ?_
            try dsimp only [wpMix, wpSegs, pick, List.getElem?_cons_zero, List.getElem?_cons_succ]
            generalize hz : Act.mk _ _ = z
            repeat (first | (refine wpQuiet_step (fun K hK => ?_); replace hK := Lib.hid hK; subst hz; go_simp; generalize hz : Act.mk _ _ = z; refine hK.out z ?_; clear hK K) | (refine wpQuiet_step (fun K hK => ?_); replace hK := Lib.hid hK; subst hz; refine iteSkip (by kernel_rfl) ?_; go_simp; generalize hz : Act.mk _ _ = z; refine hK.out z ?_; clear hK K))
            try refine wpQuiet_nil ?_
            subst hz
            try dsimp only [NoPan]
            go_wp2_with fail
            refine (bit_walk (HK.out.same (H5.out.2.1.2.2.trans HX.out.1.drew)) (by omega) (s.1 : Int)).mono ?_
            rintro e _ ⟨rfl, rfl⟩
            rw [bitI_nat, HX.out.2.2.1]
            go_wp2_with fail
            refine ⟨Cls.refl _ _, ?_⟩
            try dsimp only [wpMix, wpSegs, pick, List.getElem?_cons_zero, List.getElem?_cons_succ]
            generalize hz : Act.mk _ _ = z
            repeat (first | (refine wpQuiet_step (fun K hK => ?_); replace hK := Lib.hid hK; subst hz; go_simp; generalize hz : Act.mk _ _ = z; refine hK.out z ?_; clear hK K) | (refine wpQuiet_step (fun K hK => ?_); replace hK := Lib.hid hK; subst hz; refine iteSkip (by kernel_rfl) ?_; go_simp; generalize hz : Act.mk _ _ = z; refine hK.out z ?_; clear hK K))
            try refine wpQuiet_nil ?_
            subst hz
            try dsimp only [NoPan]
            go_wp2_with fail
            refine (bit_walk (H3.out.1.byt.same HX.out.2.1.drew) (by omega) (s.1 : Int)).mono ?_
            rintro e _ ⟨rfl, rfl⟩
            rw [bitI_nat, HX.out.2.2.2]
            go_wp2_with fail
            refine ⟨Cls.refl _ _, ?_⟩
            try dsimp only [wpMix, wpSegs, pick, List.getElem?_cons_zero, List.getElem?_cons_succ]
            generalize hz : Act.mk _ _ = z
            repeat (first | (refine wpQuiet_step (fun K hK => ?_); replace hK := Lib.hid hK; subst hz; go_simp; generalize hz : Act.mk _ _ = z; refine hK.out z ?_; clear hK K) | (refine wpQuiet_step (fun K hK => ?_); replace hK := Lib.hid hK; subst hz; refine iteSkip (by kernel_rfl) ?_; go_simp; generalize hz : Act.mk _ _ = z; refine hK.out z ?_; clear hK K))
            try refine wpQuiet_nil ?_
            subst hz
            try dsimp only [NoPan]
            go_wp2_with fail
            exact ⟨⟨1, by omega, by go_num, HX.out.1.drew⟩, by simp [intOf]; omega⟩
          ·
            have s0' : wr.cell? ⟨g, j * 34, none⟩ = some (.int .i64 s.1) := by rw [Nat.mul_comm]; exact cell_same s0 yx
            have s1' : wr.cell? ⟨g, j * 34 + 1, none⟩ = some (.bool s.2.1) := by rw [Nat.mul_comm]; exact cell_same s1 yx
            obtain ⟨m, hm⟩ : ∃ m, m = j - 1 := ⟨_, rfl⟩
            have hj1 : m < (t.path k).length := by omega
            obtain ⟨q, hq⟩ : ∃ q, (t.path k)[m]? = some q := ⟨_, List.getElem?_eq_getElem hj1⟩
            obtain ⟨g', cap', hsv', _, _, _, q0, _, _⟩ := steps_at H3.out.2.2.1 hq
            simp only [Value.slice.injEq, Option.some.injEq, Addr.mk.injEq, true_and, and_true] at hsv'
            obtain ⟨rfl, rfl⟩ := hsv'
            have q0' : wr.cell? ⟨g, m * 34, none⟩ = some (.int .i64 q.1) := by rw [Nat.mul_comm]; exact cell_same q0 yx
            have hgt : decide (0 < (j : Int)) = true := by simp; omega
            have hgt2 : decide (0 < j) = true := by simp; omega
            have hgt3 : 0 < j := by omega
            have hw1 : IntKind.i64.wrap ((j : Int) - 1) = (m : Int) := by
              have h1 := Tr.path_len t k
              have h2 := H2.out.2
              rw [show Tr.entsO (some t) = t.ents from rfl] at h2
              rw [IntWalk.i64_in _ (by omega)]
              omega
            have hle3 : ¬ (s.1 ≤ q.1) := by
              have hp := List.pairwise_iff_getElem.1 (Tr.path_rises HO.out k) m j hj1 hlt (by omega)
              rw [List.getElem?_eq_getElem hlt] at hs
              rw [List.getElem?_eq_getElem hj1] at hq
              rw [Option.some.inj hs, Option.some.inj hq] at hp
              omega
            have hle : decide ((s.1 : Int) ≤ (q.1 : Int)) = false := by simp; omega
            have hle2 : decide (s.1 ≤ q.1) = false := by simp; omega
            clear hle3
            clear hq q0 hm
            have HX := Lib.hid (And.intro hx (And.intro yx (And.intro hb1 hb2)))
            clear hx yx hb1 hb2 hs s0 s1 d0 d1 d2 d3 HD
            go_wp2_with fail
            refine wp_region_mix (Cls [bp, g] _) [([0, 1, 2, 3, 4, 5, 6, 7, 8, 9, 10, 11, 12, 13, 14, 15, 16, 17, 18, 19, 20, 21, 22, 23, 24, 25, 27, 28, 29, 30, 31, 32], 26), ([33, 34, 35, 36, 37, 38, 39, 40, 41, 42, 43, 44, 46, 47, 48, 49, 50, 51], 45)] [52, 53] (by kernel_rfl) (by kernel_rfl) (Cls.refl _ _) ?_
            try dsimp only [wpMix, wpSegs, pick, List.getElem?_cons_zero, List.getElem?_cons_succ]
            generalize hz : Act.mk _ _ = z
            repeat (first | (refine wpQuiet_step (fun K hK => ?_); replace hK := Lib.hid hK; subst hz; go_simp; generalize hz : Act.mk _ _ = z; refine hK.out z ?_; clear hK K) | (refine wpQuiet_step (fun K hK => ?_); replace hK := Lib.hid hK; subst hz; refine iteSkip (by kernel_rfl) ?_; go_simp; generalize hz : Act.mk _ _ = z; refine hK.out z ?_; clear hK K))
            try refine wpQuiet_nil ?_
            subst hz
            try dsimp only [NoPan]
            go_wp2_with fail
            refine (bit_walk (HK.out.same (H5.out.2.1.2.2.trans HX.out.1.drew)) (by omega) (s.1 : Int)).mono ?_
            rintro e _ ⟨rfl, rfl⟩
            rw [bitI_nat, HX.out.2.2.1]
            go_wp2_with fail
            refine ⟨Cls.refl _ _, ?_⟩
            try dsimp only [wpMix, wpSegs, pick, List.getElem?_cons_zero, List.getElem?_cons_succ]
            generalize hz : Act.mk _ _ = z
            repeat (first | (refine wpQuiet_step (fun K hK => ?_); replace hK := Lib.hid hK; subst hz; go_simp; generalize hz : Act.mk _ _ = z; refine hK.out z ?_; clear hK K) | (refine wpQuiet_step (fun K hK => ?_); replace hK := Lib.hid hK; subst hz; refine iteSkip (by kernel_rfl) ?_; go_simp; generalize hz : Act.mk _ _ = z; refine hK.out z ?_; clear hK K))
            try refine wpQuiet_nil ?_
            subst hz
            try dsimp only [NoPan]
            go_wp2_with fail
            refine (bit_walk (H3.out.1.byt.same HX.out.2.1.drew) (by omega) (s.1 : Int)).mono ?_
            rintro e _ ⟨rfl, rfl⟩
            rw [bitI_nat, HX.out.2.2.2]
            go_wp2_with fail
            refine ⟨Cls.refl _ _, ?_⟩
            try dsimp only [wpMix, wpSegs, pick, List.getElem?_cons_zero, List.getElem?_cons_succ]
            generalize hz : Act.mk _ _ = z
            repeat (first | (refine wpQuiet_step (fun K hK => ?_); replace hK := Lib.hid hK; subst hz; go_simp; generalize hz : Act.mk _ _ = z; refine hK.out z ?_; clear hK K) | (refine wpQuiet_step (fun K hK => ?_); replace hK := Lib.hid hK; subst hz; refine iteSkip (by kernel_rfl) ?_; go_simp; generalize hz : Act.mk _ _ = z; refine hK.out z ?_; clear hK K))
            try refine wpQuiet_nil ?_
            subst hz
            try dsimp only [NoPan]
            go_wp2_with fail
            exact ⟨⟨j + 1, by omega, by go_num, HX.out.1.drew⟩, by simp [intOf]; omega⟩
        · have hjl : decide ((j : Int) < ((t.path k).length : Int)) = false := by simp; omega
          have hfin : decide ((t.path k).length < t.ents.length) = true := by
            have := Tr.path_len t k
            simp
            omega
          have hmx : max (t.ents.length : Int) 1 = (t.ents.length : Int) := by omega
          have HX := Lib.hid hx
          clear hx d0 d1 d2 d3 HD
          go_wp2_with fail
          refine wp_region_mix (Cls [bp] _) [([0, 1, 2, 3], 4)] [5, 6, 7] (by kernel_rfl) (by kernel_rfl) (Cls.refl _ _) ?_
          try dsimp only [wpMix, wpSegs, pick, List.getElem?_cons_zero, List.getElem?_cons_succ]
          generalize hz : Act.mk _ _ = z
          repeat (first | (refine wpQuiet_step (fun K hK => ?_); replace hK := Lib.hid hK; subst hz; go_simp; generalize hz : Act.mk _ _ = z; refine hK.out z ?_; clear hK K) | (refine wpQuiet_step (fun K hK => ?_); replace hK := Lib.hid hK; subst hz; refine iteSkip (by kernel_rfl) ?_; go_simp; generalize hz : Act.mk _ _ = z; refine hK.out z ?_; clear hK K))
          try refine wpQuiet_nil ?_
          subst hz
          try dsimp only [NoPan]
          go_wp2_with fail
          refine (tm_count (H5.out.2.1.still HX.out.drew)).mono ?_
          rintro e _ ⟨rfl, rfl⟩
          rw [show Tr.entsO (some t) = t.ents from rfl]
          go_wp2_with fail
          refine ⟨Cls.refl _ _, ?_⟩
          try dsimp only [wpMix, wpSegs, pick, List.getElem?_cons_zero, List.getElem?_cons_succ]
          generalize hz : Act.mk _ _ = z
          repeat (first | (refine wpQuiet_step (fun K hK => ?_); replace hK := Lib.hid hK; subst hz; go_simp; generalize hz : Act.mk _ _ = z; refine hK.out z ?_; clear hK K) | (refine wpQuiet_step (fun K hK => ?_); replace hK := Lib.hid hK; subst hz; refine iteSkip (by kernel_rfl) ?_; go_simp; generalize hz : Act.mk _ _ = z; refine hK.out z ?_; clear hK K))
          try refine wpQuiet_nil ?_
          subst hz
          try dsimp only [NoPan]
          go_wp2_with fail
          go_ret
          exact ⟨rfl, H5.out.2.1.2.2.trans HX.out.drew⟩
end Go.Proofs.Ytkdnhnmiofhokaa
