/- ProofOwn: for every input the statement's function returns true, and each argument reads as it did. Conditions: none. -/
import Derived.Test.YtoflfhjeabpcjaaLawProofOwnD
import Derived.Test.YtoflfhjeabpcjaaLawProofOwnB
import Derived.Test.YtoflfhjeabpcjaaSized
import Derived.Test.YtoflfhjeabpcjaaSha7
import Derived.Test.YtoflfhjeabpcjaaPlain2
import Derived.Test.YtoflfhjeabpcjaaLawProofOwnC
import Derived.Test.YtoflfhjeabpcjaaRows
import Derived.ProofKit
import Derived.OpenShut
import Derived.ShutString
import Derived.ChangeOld
import Derived.SizedLaws
/- A proof against a root: proof.Check; no condition. -/
namespace Go.Proofs.Ytoflfhjeabpcjaa
set_option linter.unusedVariables false
set_option linter.unusedSimpArgs false
open Go.RowKit

theorem checkP_nil {root key : Bs} {nn : Bool} {k v : Bs} {L : List PS} (h : textsP nn k v L = []) : checkP root key nn k v L = ([], false, 5) := by unfold checkP; rw [h]; rfl
theorem checkP_cons {root key : Bs} {nn : Bool} {k v : Bs} {L : List PS} {ls : List Bs} {T : Bs} (h : textsP nn k v L = ls ++ [T]) :
    checkP root key nn k v L = if rawB T ≠ root ∨ agreesP key L = false then ([], false, 5) else if nn = true ∨ k ≠ key then ([], false, 0) else (v, true, 0) := by
  unfold checkP
  rw [h]
  simp
theorem textsP_le (nn : Bool) (k v : Bs) (L : List PS) : ∀ t ∈ textsP nn k v L, t.length ≤ 400000 := by
  unfold textsP
  split
  · split
    · intro t ht
      rw [List.mem_singleton.1 ht]
      exact Nat.le_trans (textR_le4 _ _) (by simp)
    · have key : ∀ (M : List PS) (t : Bs), t.length ≤ 400000 → ∀ u ∈ scanT t M, u.length ≤ 400000 := by
        intro M
        induction M with
        | nil => intro t ht u hu; rw [List.mem_singleton.1 hu]; exact ht
        | cons s r ih =>
          intro t ht u hu
          rcases List.mem_cons.1 hu with rfl | hu
          · exact ht
          · exact ih _ (nextT_len t s) u hu
      exact key _ _ (Nat.le_trans (textR_le4 _ _) (by simp))
  · simp
theorem ownRows_last {N : Nat} {w : World} {ov : Value} {vs : List Value} {ls : List Bs} {T : Bs} (h : OwnRows N w ov vs (ls ++ [T])) :
    ∃ g c u, ov = .slice (some ⟨g, 0, none⟩) (ls.length + 1) c ∧ w.cell? ⟨g, ls.length, none⟩ = some u ∧ OwnB w u T ∧ N ≤ g ∧ g < w.heap.size ∧ ls.length + 1 ≤ c := by
  have hl := h.len
  rw [List.length_append, List.length_singleton] at hl
  have hn : (ls ++ [T]).length = ls.length + 1 := by simp
  rcases h.row.2 with ⟨_, h0⟩ | ⟨g, cap, cur, rfl, hb, hg, hc, _, hsz, htk⟩
  · simp at h0
  · have hv : vs[ls.length]? = some vs[ls.length] := List.getElem?_eq_getElem (by omega)
    refine ⟨g, cap, vs[ls.length], by rw [hn], ?_, h.each ls.length _ T hv (by simp), hb, lt_of_heap hg, by rw [hn] at hc; exact hc⟩
    rw [cells_at hg, ← hv, ← htk, List.getElem?_take_of_lt (by rw [hn]; omega), Array.getElem?_toList]
/-- What Check hands back. -/
def CheckPost (w : World) (r : Bs × Bool × Int) (e : Ending) (w' : World) : Prop := ∃ ov, e = .returned (.tuple #[ov, .bool r.2.1, .int .i64 r.2.2]) ∧ OwnB w' ov r.1 ∧ (∀ q, ov.ownBlock = some q → w.heap.size ≤ q) ∧ Ext (fun _ => False) w w'
set_option maxRecDepth 100000 in
set_option maxHeartbeats 2000000 in
theorem check_walk {D D' : Nat → Prop} {w : World} {nn : Bool} {kv vv sv keyv : Value} {k v key root : Bs} {L : List PS} (h : PIs D w kv vv sv k v L) (hD : ∀ b, D b → b < w.heap.size) (hr : root.length = 32) (hk : Byt D' w keyv key) (hkl : key.length ≤ 140737488351232) :
    Calls Try.prog 40 #[.agg (sumA root), keyv, .agg #[.bool nn, kv, vv, sv]] w (CheckPost w (checkP root key nn k v L)) := by
  have H := Lib.hid (And.intro h hk)
  obtain ⟨Ak, ck, rfl, hkc, _⟩ := h.key
  obtain ⟨Av, cv, rfl, hvc, _⟩ := h.value
  obtain ⟨As, cs, rfl, hsc, _⟩ := h.steps
  obtain ⟨Ay, cy, rfl, hyc, _⟩ := hk
  have hsl := h.sl
  have hvl := h.vl
  clear h
  have g3 := heap_alloc_self w (.cells (sumA root) 29 (0, 0))
  have x3 := (Ext.refl (fun _ => False) w).alloc (.cells (sumA root) 29 (0, 0))
  have x5 := x3.alloc (.cells #[.bool nn, .slice Ak k.length ck, .slice Av v.length cv, .slice As L.length cs] 43 (0, 0))
  have g5 : ((w.alloc (.cells (sumA root) 29 (0, 0))).alloc (.cells #[.bool nn, .slice Ak k.length ck, .slice Av v.length cv, .slice As L.length cs] 43 (0, 0))).heap[w.heap.size + 1]? = some (.cells #[.bool nn, .slice Ak k.length ck, .slice Av v.length cv, .slice As L.length cs] 43 (0, 0)) := heap_alloc_at (by simp)
  have g3' : ((w.alloc (.cells (sumA root) 29 (0, 0))).alloc (.cells #[.bool nn, .slice Ak k.length ck, .slice Av v.length cv, .slice As L.length cs] 43 (0, 0))).heap[w.heap.size]? = some (.cells (sumA root) 29 (0, 0)) := by
    rw [heap_alloc_lt _ _ _ (by simp)]
    exact g3
  have HP := Lib.hid (And.intro g3' (And.intro g5 (And.intro x5 (H.out.1.same fun b hb => x5.heap_eq (hD b hb) id))))
  clear g3 x3 x5 g5 g3'
  go_enter Try.func40, Try.ntmps40
  go_wp2_with fail
  refine (texts_walk (nn := nn) HP.out.2.2.2 (fun b hb => Nat.lt_of_lt_of_le (hD b hb) HP.out.2.2.1.size)).mono ?_
  rintro e w1 ⟨ov, vs, rfl, o1, n1, x1⟩
  have p3 := x1.heap HP.out.1 id
  have p5 := x1.heap HP.out.2.1 id
  have y1 := HP.out.2.2.1.trans x1
  have hb3 := lt_of_heap p3
  have hb5 := lt_of_heap p5
  have d0 : w1.cell? ⟨w.heap.size + 1, 0, none⟩ = some (.bool nn) := cells_at p5 0
  have d1 : w1.cell? ⟨w.heap.size + 1, 1, none⟩ = some (.slice Ak k.length ck) := cells_at p5 1
  have d2 : w1.cell? ⟨w.heap.size + 1, 2, none⟩ = some (.slice Av v.length cv) := cells_at p5 2
  have d3 : w1.cell? ⟨w.heap.size + 1, 3, none⟩ = some (.slice As L.length cs) := cells_at p5 3
  rcases List.eq_nil_or_concat (textsP nn k v L) with ht | ⟨ls, T, ht⟩
  · have hov := n1 ht
    subst hov
    have H1 := Lib.hid (And.intro y1 (checkP_nil (root := root) (key := key) ht))
    have hnil : ∀ W, (binOp .eql 68 (.slice none 0 0) (.slice none 0 0)).run Try.prog W = .ok (.bool true) W := fun W => by rfl
    clear o1 n1 x1 p3 p5 y1 ht
    go_wp2_with fail
    refine wp_region_bar (Cls [w.heap.size, w.heap.size + 1] _) [([0, 1, 2, 3, 4, 5, 6, 7, 8, 10], 9)] [11, 12, 13, 14, 15, 16] 17 [] [18, 19] (by kernel_rfl) (by kernel_rfl) (Cls.refl _ _) ?_
    try dsimp only [wpMix, wpSegs, pick, List.getElem?_cons_zero, List.getElem?_cons_succ]
    generalize hz : Act.mk _ _ = z
    repeat (first | (refine wpQuiet_step (fun K hK => ?_); replace hK := Lib.hid hK; subst hz; go_simp; generalize hz : Act.mk _ _ = z; refine hK.out z ?_; clear hK K) | (refine wpQuiet_step (fun K hK => ?_); replace hK := Lib.hid hK; subst hz; refine iteSkip (by kernel_rfl) ?_; go_simp; generalize hz : Act.mk _ _ = z; refine hK.out z ?_; clear hK K))
    try refine wpQuiet_nil ?_
    subst hz
    try dsimp only [NoPan]
    go_wp2_with fail
    refine ⟨Cls.refl _ _, ?_⟩
    try dsimp only [wpMix, wpSegs, pick, List.getElem?_cons_zero, List.getElem?_cons_succ]
    generalize hz : Act.mk _ _ = z
    repeat (first | (refine wpQuiet_step (fun K hK => ?_); replace hK := Lib.hid hK; subst hz; go_simp; generalize hz : Act.mk _ _ = z; refine hK.out z ?_; clear hK K) | (refine wpQuiet_step (fun K hK => ?_); replace hK := Lib.hid hK; subst hz; refine iteSkip (by kernel_rfl) ?_; go_simp; generalize hz : Act.mk _ _ = z; refine hK.out z ?_; clear hK K))
    try refine wpQuiet_nil ?_
    subst hz
    try dsimp only [NoPan]
    go_wp2_with fail
    try dsimp only [wpMix, wpSegs, pick, List.getElem?_cons_zero, List.getElem?_cons_succ]
    generalize hz : Act.mk _ _ = z
    repeat (first | (refine wpQuiet_step (fun K hK => ?_); replace hK := Lib.hid hK; subst hz; go_simp; generalize hz : Act.mk _ _ = z; refine hK.out z ?_; clear hK K) | (refine wpQuiet_step (fun K hK => ?_); replace hK := Lib.hid hK; subst hz; refine iteSkip (by kernel_rfl) ?_; go_simp; generalize hz : Act.mk _ _ = z; refine hK.out z ?_; clear hK K))
    try refine wpQuiet_nil ?_
    subst hz
    try dsimp only [NoPan]
    go_wp2_with fail
    go_ret3
    refine ⟨.slice none 0 0, by rw [H1.out.2]; rfl, by rw [H1.out.2]; exact .inl ⟨rfl, rfl⟩, fun q hq => by simp [Value.ownBlock] at hq, H1.out.1.drew⟩
  · rw [List.concat_eq_append] at ht
    rw [ht] at o1
    obtain ⟨g, c, u, rfl, hu, hT, hNg, hgl, hmc⟩ := ownRows_last o1
    have hTl := textsP_le nn k v L T (by rw [ht]; simp)
    obtain ⟨AT, cT, rfl⟩ := hT.formv
    have hcons := checkP_cons (root := root) (key := key) ht
    have hPI := H.out.1.same fun b hb => y1.heap_eq (hD b hb) id
    have hrow := Lib.hid (cls_heapq (D := [w.heap.size, w.heap.size + 1, g]) (w0 := w1.drew) (by simp) p3)
    have hm62 : ls.length ≤ 1099511627776 + 1 := by
      have h1 := congrArg List.length ht
      rw [List.length_append, List.length_singleton] at h1
      unfold textsP at h1
      split at h1
      · split at h1
        · rw [List.length_singleton] at h1; omega
        · rw [scanT_len, List.length_reverse] at h1; omega
      · rw [List.length_nil] at h1; omega
    have H1 := Lib.hid (And.intro y1 (And.intro hT (And.intro hPI (And.intro hcons (H.out.2.same y1)))))
    clear o1 n1 x1 p3 p5 y1 ht hT hPI hcons
    generalize ls.length = m at *
    have hwm : IntKind.i64.wrap (m : Int) = (m : Int) := IntWalk.i64_in _ (by omega)
    have hwm2 : IntKind.i64.wrap ((m : Int) + 1 - 1) = (m : Int) := by rw [IntWalk.i64_in _ (by omega)]; omega
    have hi1 : decide ((m : Int) < (m : Int) + 1) = true := by rw [decide_eq_true_iff]; omega
    have hi3 : (m : Int) < (m : Int) + 1 := by omega
    have hi4 : m < m + 1 := by omega
    obtain ⟨bd, hbd⟩ : ∃ bd, bd = decide (rawB T = root) := ⟨_, rfl⟩
    have hneq : ∀ W, (binOp .neq 29 (.agg (sumA (rawB T))) (.agg (sumA root))).run Try.prog W = .ok (.bool (!bd)) W := fun W => by rw [sumA_neq (rawB_len _) hr, hbd]
    have hnil : ∀ W, (binOp .eql 68 (.slice (some ⟨g, 0, none⟩) (m + 1) c) (.slice none 0 0)).run Try.prog W = .ok (.bool false) W := fun W => by rfl
    have HBD := Lib.hid hbd
    clear hbd
    cases bd with
    | false =>
      have hne : ¬ rawB T = root := by have := HBD.out; simpa using this
      have hre : checkP root key nn k v L = ([], false, 5) := by rw [H1.out.2.2.2.1, if_pos (.inl hne)]
      have HRE := Lib.hid hre
      clear hne hre
      go_wp2_with fail
      refine wp_region_bar (Cls [w.heap.size, w.heap.size + 1, g] _) [([0, 1, 2, 3, 4, 5, 6, 7, 8, 10], 9)] [11, 12, 13, 14, 15, 16] 17 [] [18, 19] (by kernel_rfl) (by kernel_rfl) (Cls.refl _ _) ?_
      try dsimp only [wpMix, wpSegs, pick, List.getElem?_cons_zero, List.getElem?_cons_succ]
      generalize hz : Act.mk _ _ = z
      repeat (first | (subst hz; (refine wpQuiet_load_rowq 29 (.tmp 3) rfl (by kernel_rfl) w.heap.size rfl 29 (sumA root) (0, 0) _ hrow.out Try.underlying29 rfl (info_sum hr) ?_); generalize hz : Act.put _ _ _ = z) | (refine wpQuiet_step (fun K hK => ?_); replace hK := Lib.hid hK; subst hz; go_simp; generalize hz : Act.mk _ _ = z; refine hK.out z ?_; clear hK K) | (refine wpQuiet_step (fun K hK => ?_); replace hK := Lib.hid hK; subst hz; refine iteSkip (by kernel_rfl) ?_; go_simp; generalize hz : Act.mk _ _ = z; refine hK.out z ?_; clear hK K))
      try refine wpQuiet_nil ?_
      subst hz
      try dsimp only [NoPan]
      go_wp2_with fail
      refine (raw_walk (l := T) (H1.out.2.1.byt.same (Ext.refl (fun _ => False) w1).drew) (by omega)).mono ?_
      rintro e w2 ⟨rfl, x2⟩
      rw [sumV_A]
      have H2 := Lib.hid x2
      clear x2
      go_wp2_with fail
      refine ⟨Cls.of_ext H2.out fun q hq => ⟨by simp at hq; rcases hq with rfl | rfl | rfl <;> assumption, id⟩, ?_⟩
      try dsimp only [wpMix, wpSegs, pick, List.getElem?_cons_zero, List.getElem?_cons_succ]
      generalize hz : Act.mk _ _ = z
      repeat (first | (subst hz; (refine wpQuiet_load_rowq 29 (.tmp 3) rfl (by kernel_rfl) w.heap.size rfl 29 (sumA root) (0, 0) _ hrow.out Try.underlying29 rfl (info_sum hr) ?_); generalize hz : Act.put _ _ _ = z) | (refine wpQuiet_step (fun K hK => ?_); replace hK := Lib.hid hK; subst hz; go_simp; generalize hz : Act.mk _ _ = z; refine hK.out z ?_; clear hK K) | (refine wpQuiet_step (fun K hK => ?_); replace hK := Lib.hid hK; subst hz; refine iteSkip (by kernel_rfl) ?_; go_simp; generalize hz : Act.mk _ _ = z; refine hK.out z ?_; clear hK K))
      try refine wpQuiet_nil ?_
      subst hz
      try dsimp only [NoPan]
      go_wp2_with fail
      try dsimp only [wpMix, wpSegs, pick, List.getElem?_cons_zero, List.getElem?_cons_succ]
      generalize hz : Act.mk _ _ = z
      repeat (first | (refine wpQuiet_step (fun K hK => ?_); replace hK := Lib.hid hK; subst hz; go_simp; generalize hz : Act.mk _ _ = z; refine hK.out z ?_; clear hK K) | (refine wpQuiet_step (fun K hK => ?_); replace hK := Lib.hid hK; subst hz; refine iteSkip (by kernel_rfl) ?_; go_simp; generalize hz : Act.mk _ _ = z; refine hK.out z ?_; clear hK K))
      try refine wpQuiet_nil ?_
      subst hz
      try dsimp only [NoPan]
      go_wp2_with fail
      go_ret3
      refine ⟨.slice none 0 0, by rw [HRE.out]; rfl, by rw [HRE.out]; exact .inl ⟨rfl, rfl⟩, fun q hq => by simp [Value.ownBlock] at hq, H1.out.1.trans ((Ext.refl (fun _ => False) w1).drew.trans H2.out)⟩
    | true =>
      have heq : rawB T = root := by have := HBD.out; simpa using this
      have HEQ := Lib.hid heq
      clear heq
      go_wp2_with fail
      refine wp_region_bar (Cls [w.heap.size, w.heap.size + 1, g] _) [([0, 1, 2, 3, 4, 5, 6, 7, 8, 10], 9)] [11, 12, 13, 14, 15, 16] 17 [] [18, 19] (by kernel_rfl) (by kernel_rfl) (Cls.refl _ _) ?_
      try dsimp only [wpMix, wpSegs, pick, List.getElem?_cons_zero, List.getElem?_cons_succ]
      generalize hz : Act.mk _ _ = z
      repeat (first | (subst hz; (refine wpQuiet_load_rowq 29 (.tmp 3) rfl (by kernel_rfl) w.heap.size rfl 29 (sumA root) (0, 0) _ hrow.out Try.underlying29 rfl (info_sum hr) ?_); generalize hz : Act.put _ _ _ = z) | (refine wpQuiet_step (fun K hK => ?_); replace hK := Lib.hid hK; subst hz; go_simp; generalize hz : Act.mk _ _ = z; refine hK.out z ?_; clear hK K) | (refine wpQuiet_step (fun K hK => ?_); replace hK := Lib.hid hK; subst hz; refine iteSkip (by kernel_rfl) ?_; go_simp; generalize hz : Act.mk _ _ = z; refine hK.out z ?_; clear hK K))
      try refine wpQuiet_nil ?_
      subst hz
      try dsimp only [NoPan]
      go_wp2_with fail
      refine (raw_walk (l := T) (H1.out.2.1.byt.same (Ext.refl (fun _ => False) w1).drew) (by omega)).mono ?_
      rintro e w2 ⟨rfl, x2⟩
      rw [sumV_A]
      have H2 := Lib.hid x2
      clear x2
      go_wp2_with fail
      refine ⟨Cls.of_ext H2.out fun q hq => ⟨by simp at hq; rcases hq with rfl | rfl | rfl <;> assumption, id⟩, ?_⟩
      try dsimp only [wpMix, wpSegs, pick, List.getElem?_cons_zero, List.getElem?_cons_succ]
      generalize hz : Act.mk _ _ = z
      repeat (first | (subst hz; (refine wpQuiet_load_rowq 29 (.tmp 3) rfl (by kernel_rfl) w.heap.size rfl 29 (sumA root) (0, 0) _ hrow.out Try.underlying29 rfl (info_sum hr) ?_); generalize hz : Act.put _ _ _ = z) | (refine wpQuiet_step (fun K hK => ?_); replace hK := Lib.hid hK; subst hz; go_simp; generalize hz : Act.mk _ _ = z; refine hK.out z ?_; clear hK K) | (refine wpQuiet_step (fun K hK => ?_); replace hK := Lib.hid hK; subst hz; refine iteSkip (by kernel_rfl) ?_; go_simp; generalize hz : Act.mk _ _ = z; refine hK.out z ?_; clear hK K))
      try refine wpQuiet_nil ?_
      subst hz
      try dsimp only [NoPan]
      go_wp2_with fail
      have xw2 : Ext (fun _ => False) w w2 := H1.out.1.trans ((Ext.refl (fun _ => False) w1).drew.trans H2.out)
      have hP2 := H.out.1.same fun b hb => xw2.heap_eq (hD b hb) id
      refine (agrees_walk hP2.steps hsl (H.out.2.same xw2) hkl).mono ?_
      rintro e w3 ⟨rfl, x3⟩
      have xw3 := xw2.trans x3
      have x13 : Ext (fun _ => False) w1 w3 := ((Ext.refl (fun _ => False) w1).drew.trans H2.out).trans x3
      have e0 := cell_same d0 x13
      have e1 := cell_same d1 x13
      have e2 := cell_same d2 x13
      have H3 := Lib.hid (And.intro xw3 (And.intro (H.out.1.same fun b hb => xw3.heap_eq (hD b hb) id) (H.out.2.same xw3)))
      clear x3 xw2 hP2 xw3 x13 d0 d1 d2 d3
      obtain ⟨ag, hag⟩ : ∃ ag, ag = agreesP key L := ⟨_, rfl⟩
      rw [← hag]
      have HAG := Lib.hid hag
      clear hag
      cases ag with
      | false =>
        have HRE := Lib.hid (show checkP root key nn k v L = ([], false, 5) by rw [H1.out.2.2.2.1, if_pos (.inr HAG.out.symm)])
        go_wp2_with fail
        try dsimp only [wpMix, wpSegs, pick, List.getElem?_cons_zero, List.getElem?_cons_succ]
        generalize hz : Act.mk _ _ = z
        repeat (first | (refine wpQuiet_step (fun K hK => ?_); replace hK := Lib.hid hK; subst hz; go_simp; generalize hz : Act.mk _ _ = z; refine hK.out z ?_; clear hK K) | (refine wpQuiet_step (fun K hK => ?_); replace hK := Lib.hid hK; subst hz; refine iteSkip (by kernel_rfl) ?_; go_simp; generalize hz : Act.mk _ _ = z; refine hK.out z ?_; clear hK K))
        try refine wpQuiet_nil ?_
        subst hz
        try dsimp only [NoPan]
        go_wp2_with fail
        go_ret3
        exact ⟨.slice none 0 0, by rw [HRE.out]; rfl, by rw [HRE.out]; exact .inl ⟨rfl, rfl⟩, fun q hq => by simp [Value.ownBlock] at hq, H3.out.1⟩
      | true =>
        have HRE := Lib.hid (show checkP root key nn k v L = if nn = true ∨ k ≠ key then ([], false, 0) else (v, true, 0) by
          rw [H1.out.2.2.2.1, if_neg (by rintro (h | h); exact h HEQ.out; rw [← HAG.out] at h; cases h)])
        cases nn with
        | true =>
          go_wp2_with fail
          try dsimp only [wpMix, wpSegs, pick, List.getElem?_cons_zero, List.getElem?_cons_succ]
          generalize hz : Act.mk _ _ = z
          repeat (first | (refine wpQuiet_step (fun K hK => ?_); replace hK := Lib.hid hK; subst hz; go_simp; generalize hz : Act.mk _ _ = z; refine hK.out z ?_; clear hK K) | (refine wpQuiet_step (fun K hK => ?_); replace hK := Lib.hid hK; subst hz; refine iteSkip (by kernel_rfl) ?_; go_simp; generalize hz : Act.mk _ _ = z; refine hK.out z ?_; clear hK K))
          try refine wpQuiet_nil ?_
          subst hz
          try dsimp only [NoPan]
          go_wp2_with fail
          go_ret3
          have hre : checkP root key true k v L = ([], false, 0) := by rw [HRE.out]; simp
          exact ⟨.slice none 0 0, by rw [hre]; rfl, by rw [hre]; exact .inl ⟨rfl, rfl⟩, fun q hq => by simp [Value.ownBlock] at hq, H3.out.1⟩
        | false =>
          go_wp2_with fail
          try dsimp only [wpMix, wpSegs, pick, List.getElem?_cons_zero, List.getElem?_cons_succ]
          generalize hz : Act.mk _ _ = z
          repeat (first | (refine wpQuiet_step (fun K hK => ?_); replace hK := Lib.hid hK; subst hz; go_simp; generalize hz : Act.mk _ _ = z; refine hK.out z ?_; clear hK K) | (refine wpQuiet_step (fun K hK => ?_); replace hK := Lib.hid hK; subst hz; refine iteSkip (by kernel_rfl) ?_; go_simp; generalize hz : Act.mk _ _ = z; refine hK.out z ?_; clear hK K))
          try refine wpQuiet_nil ?_
          subst hz
          try dsimp only [NoPan]
          go_wp2_with fail
          refine (equal_walk H3.out.2.1.key H3.out.2.2).mono ?_
          rintro e w4 ⟨rfl, rfl⟩
          by_cases hkk : k = key
          · have hre : checkP root key false k v L = (v, true, 0) := by rw [HRE.out]; simp [hkk]
            have HR2 := Lib.hid hre
            rw [show decide (k = key) = true by simpa using hkk]
            clear hre hkk
            go_wp2_with fail
            refine (clone_walk H3.out.2.1.value (by omega)).mono ?_
            rintro e w5 ⟨v5, rfl, o5, x5, n5⟩
            obtain ⟨A5, c5, rfl⟩ := o5.formv
            have H5 := Lib.hid (And.intro o5 (And.intro x5 n5))
            clear o5 x5 n5
            go_wp2_with fail
            go_ret3
            exact ⟨_, by rw [HR2.out]; rfl, by rw [HR2.out]; exact H5.out.1, fun q hq => Nat.le_trans H3.out.1.size (H5.out.2.2 q hq), H3.out.1.trans H5.out.2.1⟩
          · have hre : checkP root key false k v L = ([], false, 0) := by rw [HRE.out]; simp [hkk]
            have HR2 := Lib.hid hre
            rw [show decide (k = key) = false by simpa using hkk]
            clear hre hkk
            go_wp2_with fail
            go_ret3
            exact ⟨.slice none 0 0, by rw [HR2.out]; rfl, by rw [HR2.out]; exact .inl ⟨rfl, rfl⟩, fun q hq => by simp [Value.ownBlock] at hq, H3.out.1⟩
end Go.Proofs.Ytoflfhjeabpcjaa
/- Whether a proof is short; a proof that may not be has no bytes; no condition. -/
namespace Go.Proofs.Ytoflfhjeabpcjaa
set_option linter.unusedVariables false
set_option linter.unusedSimpArgs false
open Go.RowKit

def shortP (k v : Bs) (L : List PS) : Bool := decide (k.length ≤ 4096) && decide (v.length ≤ 4096) && decide (L.length ≤ 2000)
set_option maxRecDepth 100000 in
set_option maxHeartbeats 1000000 in
theorem short_walk {D : Nat → Prop} {w : World} {nn : Bool} {kv vv sv : Value} {k v : Bs} {L : List PS} (hk : Byt D w kv k) (hv : Byt D w vv v) (hs : StepsR D w sv L) :
    Calls Try.prog 35 #[.agg #[.bool nn, kv, vv, sv]] w fun e w' => e = .returned (.bool (shortP k v L)) ∧ Ext (fun _ => False) w w' := by
  obtain ⟨Ak, ck, rfl, hkc, _⟩ := hk
  obtain ⟨Av, cv, rfl, hvc, _⟩ := hv
  obtain ⟨As, cs, rfl, hsc, _⟩ := hs
  by_cases h1 : k.length ≤ 4096
  · have h1' : decide ((k.length : Int) ≤ 4096) = true := by simp; omega
    have g1 : decide (k.length ≤ 4096) = true := by simpa using h1
    by_cases h2 : v.length ≤ 4096
    · have h2' : decide ((v.length : Int) ≤ 4096) = true := by simp; omega
      have g2 : decide (v.length ≤ 4096) = true := by simpa using h2
      by_cases h3 : L.length ≤ 2000
      · have h3' : decide ((L.length : Int) ≤ 2000) = true := by simp; omega
        have hr : shortP k v L = true := by unfold shortP; rw [g1, g2]; simpa using h3
        rw [hr]
        go_enter Try.func35, Try.ntmps35
        go_wp2_with fail
        go_ret
        exact ⟨rfl, (Ext.refl _ _).alloc _⟩
      · have h3' : decide ((L.length : Int) ≤ 2000) = false := by simp; omega
        have hr : shortP k v L = false := by unfold shortP; rw [g1, g2]; simpa using h3
        rw [hr]
        go_enter Try.func35, Try.ntmps35
        go_wp2_with fail
        go_ret
        exact ⟨rfl, (Ext.refl _ _).alloc _⟩
    · have h2' : decide ((v.length : Int) ≤ 4096) = false := by simp; omega
      have g2 : decide (v.length ≤ 4096) = false := by simpa using h2
      have hr : shortP k v L = false := by unfold shortP; rw [g1, g2]; rfl
      rw [hr]
      go_enter Try.func35, Try.ntmps35
      go_wp2_with fail
      go_ret
      exact ⟨rfl, (Ext.refl _ _).alloc _⟩
  · have h1' : decide ((k.length : Int) ≤ 4096) = false := by simp; omega
    have g1 : decide (k.length ≤ 4096) = false := by simpa using h1
    have hr : shortP k v L = false := by unfold shortP; rw [g1]; rfl
    rw [hr]
    go_enter Try.func35, Try.ntmps35
    go_wp2_with fail
    go_ret
    exact ⟨rfl, (Ext.refl _ _).alloc _⟩
set_option maxRecDepth 100000 in
theorem bytes_bad {D : Nat → Prop} {w : World} {nn : Bool} {kv vv sv : Value} {k v : Bs} {L : List PS} (h : PIs D w kv vv sv k v L) (hD : ∀ b, D b → b < w.heap.size) (hm : mayP nn k v L = false) :
    Calls Try.prog 46 #[.agg #[.bool nn, kv, vv, sv]] w fun e w' => e = .returned (.tuple #[.slice none 0 0, .int .i64 5]) ∧ Ext (fun _ => False) w w' := by
  have H := Lib.hid h
  obtain ⟨Ak, ck, rfl, hkc, _⟩ := h.key
  obtain ⟨Av, cv, rfl, hvc, _⟩ := h.value
  obtain ⟨As, cs, rfl, hsc, _⟩ := h.steps
  clear h
  have hx0 := (Ext.refl (fun _ => False) w).alloc (.cells #[.bool nn, .slice Ak k.length ck, .slice Av v.length cv, .slice As L.length cs] 43 (0, 0))
  have H0 := Lib.hid (And.intro hx0 (may_walk (nn := nn) (H.out.same fun b hb => hx0.heap_eq (hD b hb) id) (fun b hb => Nat.lt_of_lt_of_le (hD b hb) hx0.size)))
  clear hx0
  go_enter Try.func46, Try.ntmps46
  go_wp2_with fail
  refine H0.out.2.mono ?_
  rintro e w1 ⟨rfl, x1⟩
  rw [hm]
  have H1 := Lib.hid (H0.out.1.trans x1)
  clear x1
  go_wp2_with fail
  go_ret2
  exact ⟨rfl, H1.out⟩
end Go.Proofs.Ytoflfhjeabpcjaa
/- A tree of entries, a key's proof, and whether a proof is short; no condition. -/
namespace Go.Proofs.Ytoflfhjeabpcjaa
set_option linter.unusedVariables false
set_option linter.unusedSimpArgs false
open Go.RowKit

set_option maxRecDepth 100000 in
set_option maxHeartbeats 1000000 in
theorem pmade_walk {w0 w : World} {D : Nat → Prop} {lv : Value} {l : List (Bs × Bs)} (hL : Row (EntryIs D) 2 D w lv l) (hl : l.length ≤ 9223372036854775807) (hx : Ext (fun _ => False) w0 w) :
    Calls Try.prog 48 #[lv] w fun e w' => ∃ c o, e = .returned (ptrV c) ∧ TM w0 w' c o ∧ (Tr.entsO o).length ≤ 12 ∧ Ext (fun _ => False) w w' ∧
      (∀ a b c1 d : Bs, l = [(a, b), (c1, d)] → ∃ o1, PutO a b none o1 ∧ PutO c1 d o1 o) := by
  have HL := Lib.hid hL
  obtain ⟨A, cp, rfl, hcap, _⟩ := id hL
  clear hL
  go_enter Try.func48, Try.ntmps48
  go_wp2_with fail
  refine (tm_new (w0 := w) (Ext.refl _ _)).mono ?_
  rintro e w1 ⟨rfl, h1⟩
  have H1 := Lib.hid h1
  clear h1
  generalize w.heap.size = c at *
  go_wp2_with fail
  go_loopw [4] (fun i W => ∃ (q : Nat) (o : Option Tr), q ≤ l.length ∧ q ≤ 12 ∧ i = .int .i64 q ∧ TM w W c o ∧ (Tr.entsO o).length ≤ q ∧ (q = 0 → o = none) ∧ (∀ x, q = 1 → l[0]? = some x → PutO x.1 x.2 none o) ∧ (∀ x y, q = 2 → l[0]? = some x → l[1]? = some y → ∃ o1, PutO x.1 x.2 none o1 ∧ PutO y.1 y.2 o1 o)) (fun i _ => 12 - (intOf i).toNat)
  case atStart => exact ⟨0, none, Nat.zero_le _, by omega, rfl, H1.out, Nat.le_refl _, fun _ => rfl, fun _ h => by omega, fun _ _ h => by omega⟩
  case round =>
    obtain ⟨q, o, hq, hq12, rfl, hT, hn, h0, h1, h2⟩ := hrel
    have hfin : q = l.length → ∀ a b c1 d : Bs, l = [(a, b), (c1, d)] → ∃ o1, PutO a b none o1 ∧ PutO c1 d o1 o := fun hql a b c1 d hl => by
      subst hl
      exact h2 (a, b) (c1, d) hql rfl rfl
    by_cases hlt : q < l.length
    · by_cases h12 : q < 12
      · have hql : decide ((q : Int) < (l.length : Int)) = true := by simp; omega
        have hq1 : decide ((q : Int) < 12) = true := by simp; omega
        obtain ⟨g, off, c', hav, hdb, ⟨⟨a, b, c0, c1, ha, hb⟩, la, lb⟩⟩ := HL.out.at hlt
        simp only [Value.slice.injEq, true_and] at hav
        obtain ⟨rfl, rfl⟩ := hav
        have d0 := cell_same c0 hT.2.2
        have d1 := cell_same c1 hT.2.2
        have hgl : g < wr.heap.size := World.block_lt_of_cell? _ _ d0
        have hx0 : l[q]? = some l[q] := List.getElem?_eq_getElem hlt
        have HT := Lib.hid (And.intro hT (And.intro hn (And.intro h0 (And.intro h1 h2))))
        have HB := Lib.hid (And.intro ha (And.intro hb (And.intro la (And.intro lb hx0))))
        clear hT hn h0 h1 h2 ha hb la lb hx0 c0 c1 hfin
        generalize l[q] = x at *
        go_wp2_with fail
        refine wp_region_bar (Cls [g] _) [] [0, 1, 2, 3, 4, 5, 6, 7, 8, 9, 10] 11 [] [] (by kernel_rfl) (by kernel_rfl) (Cls.refl _ _) ?_
        try dsimp only [wpMix, wpSegs, pick, List.getElem?_cons_zero, List.getElem?_cons_succ]
        generalize hz : Act.mk _ _ = z
        repeat (first | (refine wpQuiet_step (fun K hK => ?_); replace hK := Lib.hid hK; subst hz; go_simp; generalize hz : Act.mk _ _ = z; refine hK.out z ?_; clear hK K) | (refine wpQuiet_step (fun K hK => ?_); replace hK := Lib.hid hK; subst hz; refine iteSkip (by kernel_rfl) ?_; go_simp; generalize hz : Act.mk _ _ = z; refine hK.out z ?_; clear hK K))
        try refine wpQuiet_nil ?_
        subst hz
        try dsimp only [NoPan]
        go_wp2_with fail
        refine (tm_put (k := x.1) (v := x.2) (HT.out.1.still (Ext.refl _ _).drew) (HB.out.1.same HT.out.1.2.2.drew) (HB.out.2.1.same HT.out.1.2.2.drew) (by have := HT.out.2.1; omega)).mono ?_
        rintro e w2 ⟨o2, rfl, p2, h2, x2⟩
        have H2 := Lib.hid (And.intro h2 p2)
        clear h2 p2 x2 d0 d1
        go_wp2_with fail
        try dsimp only [wpMix, wpSegs, pick, List.getElem?_cons_zero, List.getElem?_cons_succ]
        generalize hz : Act.mk _ _ = z
        repeat (first | (refine wpQuiet_step (fun K hK => ?_); replace hK := Lib.hid hK; subst hz; go_simp; generalize hz : Act.mk _ _ = z; refine hK.out z ?_; clear hK K) | (refine wpQuiet_step (fun K hK => ?_); replace hK := Lib.hid hK; subst hz; refine iteSkip (by kernel_rfl) ?_; go_simp; generalize hz : Act.mk _ _ = z; refine hK.out z ?_; clear hK K))
        try refine wpQuiet_nil ?_
        subst hz
        try dsimp only [NoPan]
        go_wp2_with fail
        refine ⟨⟨q + 1, o2, by omega, by omega, by go_num, H2.out.1, by have := H2.out.2.len; have := HT.out.2.1; omega, fun h => by omega, fun y hq1 hy => ?_, fun y z hq1 hy hz => ?_⟩, by simp [intOf]; omega⟩
        · have hq0 : q = 0 := by omega
          subst hq0
          have h3 := HB.out.2.2.2.2
          rw [hy] at h3
          have h4 := HT.out.2.2.1 rfl
          have h5 := H2.out.2
          rw [h4] at h5
          rw [Option.some.inj h3]
          exact h5
        · have hq0 : q = 1 := by omega
          subst hq0
          have h3 := HB.out.2.2.2.2
          rw [hz] at h3
          rw [Option.some.inj h3]
          exact ⟨o, HT.out.2.2.2.1 y rfl hy, H2.out.2⟩
      · have hql : decide ((q : Int) < (l.length : Int)) = true := by simp; omega
        have hq1 : decide ((q : Int) < 12) = false := by simp; omega
        have HT := Lib.hid (And.intro hT hn)
        clear hT hn h0 h1 h2
        go_wp2_with fail
        go_ret
        refine ⟨c, o, rfl, ⟨by obtain ⟨⟨D1, a1, a2⟩, _⟩ := HT.out.1; exact ⟨D1, a1, fun b hb => Nat.le_trans hx.size (a2 b hb)⟩, Nat.le_trans hx.size HT.out.1.2.1, hx.trans HT.out.1.2.2⟩, by have := HT.out.2; omega, HT.out.1.2.2, fun a b c1 d hl => ?_⟩
        have : l.length = 2 := by rw [hl]; rfl
        omega
    · have hql : decide ((q : Int) < (l.length : Int)) = false := by simp; omega
      have HT := Lib.hid (And.intro hT hn)
      clear hT hn h0 h1 h2
      go_wp2_with fail
      go_ret
      exact ⟨c, o, rfl, ⟨by obtain ⟨⟨D1, a1, a2⟩, _⟩ := HT.out.1; exact ⟨D1, a1, fun b hb => Nat.le_trans hx.size (a2 b hb)⟩, Nat.le_trans hx.size HT.out.1.2.1, hx.trans HT.out.1.2.2⟩, by have := HT.out.2; omega, HT.out.1.2.2, hfin (by omega)⟩
end Go.Proofs.Ytoflfhjeabpcjaa
/- A proof that was made, in plain words: it holds against the tree's root; no condition. -/
namespace Go.Proofs.Ytoflfhjeabpcjaa
set_option linter.unusedVariables false
set_option linter.unusedSimpArgs false
open Go.RowKit

def stOf (s : Nat × Bool × Tr) : PS := ⟨s.1, s.2.1, sumT s.2.2⟩
theorem stOf_V (s : Nat × Bool × Tr) : stepV (stOf s) = stC s := rfl
theorem path_bound : ∀ {t : Tr}, t.ok → ∀ (q : Bs), ∀ s ∈ t.path q, s.1 ≤ 9 * (t.last q).1.length
  | .leaf _ _, _, _, _, h => by cases h
  | .fork b l r, ho, q, s, h => by
    obtain ⟨ol, or, hfl, hfr, hag⟩ := ho
    cases hb : bitB q b with
    | true =>
      rw [Tr.path, hb, if_pos rfl] at h
      rw [Tr.last, hb, if_pos rfl]
      rcases List.mem_cons.1 h with rfl | h
      · have h1 := hfr _ (r.last_mem q)
        unfold bitB at h1
        split at h1
        · cases h1
        · simp only at *; omega
      · exact path_bound or q s h
    | false =>
      rw [Tr.path, hb, if_neg (by decide)] at h
      rw [Tr.last, hb, if_neg (by decide)]
      rcases List.mem_cons.1 h with rfl | h
      · refine Nat.le_of_not_lt fun hlt => ?_
        simp only at hlt
        obtain ⟨f, hf⟩ := r.some_ent
        have h1 := hfr f hf
        have h2 := hag _ (l.last_mem q) f hf (9 * (l.last q).1.length) hlt
        have h3 : b < 9 * f.1.length := by
          unfold bitB at h1
          split at h1
          · cases h1
          · omega
        have h4 : bitB (l.last q).1 (9 * (l.last q).1.length) = false := by unfold bitB; rw [if_pos (Nat.le_refl _)]
        have h5 : bitB f.1 (9 * (l.last q).1.length) = true := by
          unfold bitB
          rw [if_neg (by omega), if_pos (by omega)]
        rw [h4, h5] at h2
        cases h2
      · exact path_bound ol q s h
theorem rises_of {n : Nat} : ∀ (M : List (Nat × Bool × Tr)) (last : Int), M.Pairwise (fun s s' => s.1 < s'.1) → (∀ s ∈ M, last < (s.1 : Int)) → (∀ s ∈ M, s.1 ≤ 9 * n) → risesP n last (M.map stOf) = true
  | [], _, _, _, _ => rfl
  | s :: r, last, hp, hl, hb => by
    obtain ⟨p1, p2⟩ := List.pairwise_cons.1 hp
    have h1 := hl s (List.mem_cons_self ..)
    have h2 := hb s (List.mem_cons_self ..)
    rw [List.map_cons, risesP_cons, rises_of r (stOf s).bit p2 (fun x hx => by have := p1 x hx; show (s.1 : Int) < x.1; omega) (fun x hx => hb x (List.mem_cons_of_mem _ hx))]
    have h3 : decide (last < (stOf s).bit) = true := by rw [decide_eq_true_iff]; exact h1
    have h4 : decide ((stOf s).bit ≤ 9 * (n : Int)) = true := by rw [decide_eq_true_iff]; show (s.1 : Int) ≤ _; omega
    rw [h3, h4]
    rfl
theorem agrees_of {k : Bs} {M : List (Nat × Bool × Tr)} (h : ∀ s ∈ M, bitB k s.1 = s.2.1) : agreesP k (M.map stOf) = true := by
  unfold agreesP
  rw [List.all_eq_true]
  intro x hx
  obtain ⟨s, hs, rfl⟩ := List.mem_map.1 hx
  show (bitI k (s.1 : Int) == s.2.1) = true
  rw [bitI_nat, h s hs]
  simp
theorem textR_ok {nm : Bs} {ls : List Bs} (hn : nm.length ≤ 16) (hl : ls.length ≤ 4095) (h : ∀ l ∈ ls, l.length ≤ 65536) : (textR nm ls).2 = 0 := by
  unfold textR
  rw [if_neg (by omega)]
  refine rowR_short (by simp; omega) fun l hm => ?_
  rcases List.mem_cons.1 hm with rfl | hm
  · omega
  · exact h l hm
theorem raw_noneT : rawB noneT = rootS none := by
  show _ = (ofR _ _).1
  unfold ofR
  rw [if_pos (textR_ok (by decide) (by simp) (by simp))]
  rfl
theorem raw_leafT {k v : Bs} (hk : k.length ≤ 65536) (hv : v.length ≤ 65536) : rawB (leafT k v) = sumT (.leaf k v) := by
  show _ = (ofR _ _).1
  unfold ofR
  rw [if_pos (textR_ok (by decide) (by simp) (by simp; exact ⟨hk, hv⟩))]
  rfl
theorem raw_forkT (b : Nat) (l r : Tr) : rawB (forkT b (sumT l) (sumT r)) = sumT (.fork b l r) := by
  show _ = (ofR _ _).1
  unfold ofR
  rw [if_pos (textR_ok (by decide) (by simp) (by simp [sumT_len, beB_len]))]
  rfl
theorem raw_path (q : Bs) : ∀ {t : Tr}, t.ok → rawB (lastT (leafT (t.last q).1 (t.last q).2) ((t.path q).map stOf).reverse) = sumT t
  | .leaf k v, ho => by
    show rawB (leafT k v) = _
    exact raw_leafT (by have := ho.1; omega) (by have := ho.2; omega)
  | .fork b l r, ho => by
    obtain ⟨ol, or, _⟩ := ho
    cases hb : bitB q b with
    | true =>
      rw [Tr.path, Tr.last, hb, if_pos rfl, if_pos rfl, List.map_cons, List.reverse_cons, lastT_snoc]
      unfold nextT
      rw [show (stOf (b, true, l)).right = true from rfl, if_pos rfl, raw_path q or]
      exact raw_forkT b l r
    | false =>
      rw [Tr.path, Tr.last, hb, if_neg (by decide), if_neg (by decide), List.map_cons, List.reverse_cons, lastT_snoc]
      unfold nextT
      rw [show (stOf (b, false, r)).right = false from rfl, if_neg (by decide), raw_path q ol]
      exact raw_forkT b l r
/-- A made proof may be. -/
theorem may_made {o : Option Tr} (ho : Tr.okO o) (q : Bs) : mayP o.isNone (endO o q).1 (endO o q).2 ((pathO o q).map stOf) = true := by
  cases o with
  | none => rfl
  | some t =>
    have hf := Tr.ok_ent ho _ (t.last_mem q)
    show mayP false (t.last q).1 (t.last q).2 ((t.path q).map stOf) = true
    unfold mayP
    rw [if_neg (by decide), rises_of _ _ (Tr.path_rises ho q) (fun s _ => by omega) (path_bound ho q), agrees_of (Tr.path_last ho q)]
    simp [hf.1, hf.2]
/-- A made proof holds, and tells what the tree has. -/
theorem check_made {o : Option Tr} (ho : Tr.okO o) (q : Bs) : checkP (rootS o) q o.isNone (endO o q).1 (endO o q).2 ((pathO o q).map stOf) = (gotB (Tr.get o q), (Tr.get o q).isSome, 0) := by
  have hm := may_made ho q
  cases o with
  | none =>
    have ht : textsP true [] [] [] = [] ++ [noneT] := rfl
    show checkP (rootS none) q true [] [] [] = _
    rw [checkP_cons ht, if_neg (by rw [raw_noneT]; rintro (h | h); exact h rfl; cases h), if_pos (.inl rfl)]
    rfl
  | some t =>
    have hc : checkP (sumT t) q false (t.last q).1 (t.last q).2 ((t.path q).map stOf) = if (t.last q).1 ≠ q then ([], false, 0) else ((t.last q).2, true, 0) := by
      unfold checkP
      have ht : textsP false (t.last q).1 (t.last q).2 ((t.path q).map stOf) = scanT (leafT (t.last q).1 (t.last q).2) ((t.path q).map stOf).reverse := by
        unfold textsP
        rw [if_pos (show mayP false (t.last q).1 (t.last q).2 ((t.path q).map stOf) = true from hm), if_neg (by decide)]
      rw [ht, scanT_last]
      simp only
      rw [if_neg (by rw [raw_path q ho, agrees_of (Tr.path_bit t q)]; rintro (h | h); exact h rfl; cases h)]
      simp
    show checkP (sumT t) q false (t.last q).1 (t.last q).2 ((t.path q).map stOf) = _
    rw [hc]
    have hg : Tr.get (some t) q = if (t.last q).1 = q then some (t.last q).2 else none := rfl
    rw [hg]
    by_cases h : (t.last q).1 = q
    · rw [if_neg (fun hn => hn h), if_pos h]; rfl
    · rw [if_pos h, if_neg h]; rfl
/-- The steps of a path in memory. -/
theorem steps_of_own {w : World} {N : Nat} {sv : Value} {M : List (Nat × Bool × Tr)} (h : w.ownsRow N 48 34 sv M.length (M.flatMap stC)) : StepsR (fun b => sv.ownBlock = some b) w sv (M.map stOf) := by
  obtain ⟨A, c, rfl⟩ := own_form h
  have hlen : (M.map stOf).length = M.length := List.length_map ..
  refine ⟨A, c, by rw [hlen], ?_, fun hne => ?_⟩
  · rcases h.2 with ⟨h1, h0⟩ | ⟨g, cap, cur, h1, _, _, h4, _⟩
    · rw [hlen, h0]; exact Nat.zero_le _
    · simp only [Value.slice.injEq] at h1
      rw [hlen, h1.2.2]
      exact h4
  · rcases h.2 with ⟨h1, h0⟩ | ⟨g, cap, cur, h1, _, hg, h4, _, hsz, htk⟩
    · exact absurd (List.eq_nil_of_length_eq_zero (by rw [hlen, h0])) hne
    · simp only [Value.slice.injEq] at h1
      obtain ⟨rfl, _, rfl⟩ := h1
      refine ⟨g, 0, rfl, rfl, fun i x hi => ?_⟩
      obtain ⟨s, hs, rfl⟩ : ∃ s, M[i]? = some s ∧ stOf s = x := by
        rw [List.getElem?_map] at hi
        cases hm : M[i]? with
        | none => rw [hm] at hi; cases hi
        | some s => rw [hm] at hi; exact ⟨s, rfl, Option.some.inj hi⟩
      have hil := (List.getElem?_eq_some_iff.1 hs).1
      refine ⟨sumT_len _, fun j u hj => ?_⟩
      rw [stOf_V] at hj
      have hjl : j < 34 := by rw [← stC_len s]; exact (List.getElem?_eq_some_iff.1 hj).1
      rw [cells_at hg, ← hj, ← flatMap_at (f := stC) (m := 34) stC_len M i j s hjl hs, ← htk, List.getElem?_take_of_lt (by omega), Array.getElem?_toList]
      rw [show 0 + i * 34 + j = 34 * i + j by omega]
set_option maxRecDepth 100000 in
/-- A key's proof is made. -/
theorem make_walk {w0 w : World} {Dk : Nat → Prop} {c : Nat} {o : Option Tr} {kv : Value} {k : Bs} (h : TM w0 w c o) (hk : Byt Dk w kv k) (hkl : k.length ≤ 140737488355328) (hn : (Tr.entsO o).length ≤ 1099511627776) :
    Calls Try.prog 56 #[ptrV c, kv] w fun e w' => ∃ ka va sv, e = .returned (.agg #[.bool o.isNone, ka, va, sv]) ∧ PIs (fun b => b < w'.heap.size) w' ka va sv (endO o k).1 (endO o k).2 ((pathO o k).map stOf) ∧ TM w0 w' c o ∧ Ext (fun _ => False) w w' := by
  have hg := heap_alloc_self w (.cells #[.bool false, .slice none 0 0, .slice none 0 0, .slice none 0 0] 43 (0, 0))
  have hx := (Ext.refl (fun _ => False) w).alloc (.cells #[.bool false, .slice none 0 0, .slice none 0 0, .slice none 0 0] 43 (0, 0))
  have HW := Lib.hid (tm_path (k := k) (h.still hx) (hk.same hx) hkl hn)
  have hfit : (endO o k).1.length ≤ 120 ∧ (endO o k).2.length ≤ 1200 := by
    cases o with
    | none => exact ⟨Nat.zero_le _, Nat.zero_le _⟩
    | some t => exact h.fit _ (t.last_mem k)
  have hpl : (pathO o k).length ≤ 1099511627776 := by
    cases o with
    | none => exact Nat.zero_le _
    | some t => have := Tr.path_len t k; show (t.path k).length ≤ _; have e : (Tr.entsO (some t)).length = t.ents.length := rfl; omega
  have HH := Lib.hid (And.intro hg (And.intro hx h))
  obtain ⟨A, cp, rfl, _, _⟩ := hk
  clear hg hx h
  go_enter Try.func56, Try.ntmps56
  go_wp2_with fail
  refine HW.out.mono ?_
  rintro e w2 ⟨ka, va, sv, rfl, o1, o2, n1, n2, r2, h2, x2⟩
  obtain ⟨A1, c1, rfl⟩ := o1.formv
  obtain ⟨A2, c2, rfl⟩ := o2.formv
  obtain ⟨A3, c3, rfl⟩ := own_form r2
  have g2 := x2.heap HH.out.1 id
  have H2 := Lib.hid (And.intro o1 (And.intro o2 (And.intro n1 (And.intro n2 (And.intro r2 (And.intro h2 x2))))))
  clear o1 o2 n1 n2 r2 h2 x2
  go_wp2_with (refine wpList_store_row rfl 43 _ _ rfl w.heap.size _ rfl rfl 43 _ g2 (by kernel_rfl) (by kernel_rfl) (by kernel_rfl) ?_)
  refine bodyPost_ret (results_cell_row rfl _ _ w.heap.size 43 #[.bool o.isNone, .slice A1 (endO o k).1.length c1, .slice A2 (endO o k).2.length c2, .slice A3 (pathO o k).length c3] (0, 0) _ rfl (setRow_heap _ _ _ _ _ _ g2) Try.underlying43 rfl (by kernel_rfl)) rfl ?_
  have x3 : Ext (· = w.heap.size) w2 (w2.setRow w.heap.size #[.bool o.isNone, .slice A1 (endO o k).1.length c1, .slice A2 (endO o k).2.length c2, .slice A3 (pathO o k).length c3]) := (Ext.refl (· = w.heap.size) w2).setRow (.inl rfl) _
  obtain ⟨o1, o2, n1, n2, r2, h2, x2⟩ := H2.out
  have hsz : (w.alloc (.cells #[.bool false, .slice none 0 0, .slice none 0 0, .slice none 0 0] 43 (0, 0))).heap.size = w.heap.size + 1 := by simp
  have q1 := o1.ext x3 fun q hq e => by have := n1 q hq; omega
  have q2 := o2.ext x3 fun q hq e => by have := (n2 q hq).1; omega
  have q3 := own_ext r2 x3 fun q hq e => by have := own_base r2 q hq; omega
  refine ⟨_, _, _, rfl, ⟨q1.byt.mono fun b hb => q1.lt b hb, q2.byt.mono fun b hb => q2.lt b hb, ?_, by have := hfit.1; omega, by have := hfit.2; omega, by rw [List.length_map]; exact hpl⟩, HH.out.2.2.far (HH.out.2.1.trans x2) x3 (fun b hb => by omega), ((HH.out.2.1.trans x2).mono (F1 := fun b => b = w.heap.size ∧ False) fun _ _ h => h.elim).trans' x3 (fun b hb => .inr (by omega)) |>.mono fun _ _ h => h.2⟩
  obtain ⟨A', c', e1, h3, h4⟩ := steps_of_own q3
  refine ⟨A', c', e1, h3, fun hne => ?_⟩
  obtain ⟨g, o', e2, h5, h6⟩ := h4 hne
  refine ⟨g, o', e2, ?_, h6⟩
  obtain ⟨x, hx⟩ := List.exists_mem_of_ne_nil _ hne
  obtain ⟨i, hi⟩ := List.mem_iff_getElem?.1 hx
  exact World.block_lt_of_cell? _ _ ((h6 i x hi).2 0 _ rfl)
end Go.Proofs.Ytoflfhjeabpcjaa
/- ProofOwn answers true, where the small case does; its premise: vestrylaw05.small answers true. -/
namespace Go.Proofs.Ytoflfhjeabpcjaa
set_option linter.unusedVariables false
set_option linter.unusedSimpArgs false
open Go.RowKit

theorem own_facts {nn : Bool} {k v : Bs} {L : List PS} {ls : List Bs} {T : Bs} (h : textsP nn k v L = ls ++ [T]) : mayP nn k v L = true ∧ ls.length = L.length ∧ checkP (rawB T) k nn k v L = (v, !nn, 0) := by
  have hm : mayP nn k v L = true := by
    cases hm : mayP nn k v L with
    | true => rfl
    | false =>
      unfold textsP at h
      rw [hm] at h
      simp at h
  refine ⟨hm, ?_, ?_⟩
  · have hl := congrArg List.length h
    unfold textsP at hl
    rw [hm, if_pos rfl, List.length_append, List.length_singleton] at hl
    cases nn with
    | true =>
      unfold mayP at hm
      simp at hm
      rw [if_pos rfl] at hl
      simp at hl
      rw [hl, hm.1.2]
      rfl
    | false =>
      rw [if_neg (by decide), scanT_len, List.length_reverse] at hl
      omega
  · rw [checkP_cons h]
    cases nn with
    | true =>
      unfold mayP at hm
      simp at hm
      have hL : agreesP k L = true := by rw [hm.1.2]; rfl
      rw [if_neg (by rintro (h | h); exact h rfl; rw [hL] at h; cases h), if_pos (.inl rfl), hm.2]
      rfl
    | false =>
      unfold mayP at hm
      rw [if_neg (by decide)] at hm
      simp only [Bool.and_eq_true] at hm
      rw [if_neg (by rintro (h | h); exact h rfl; rw [hm.2.2] at h; cases h), if_neg (by simp)]
      rfl
set_option maxRecDepth 100000 in
set_option maxHeartbeats 2000000 in
theorem own_walk (hs : ∀ w : World, Calls Try.prog 34 #[] w fun e w' => e = .returned (.bool true) ∧ Ext (fun _ => False) w w') {w : World} {nn : Bool} {kv vv sv : Value} {k v : Bs} {L : List PS} (hk : Byt (· < w.heap.size) w kv k) (hkl : k.length ≤ 140737488351232) (hv : Byt (· < w.heap.size) w vv v) (hvl : v.length ≤ 140737488351232) (hL : StepsR (· < w.heap.size) w sv L) :
    Calls Try.prog 9 #[.agg #[.bool nn, kv, vv, sv]] w fun e w' => e = .returned (.bool true) ∧ Ext (fun _ => False) w w' := by
  have H := Lib.hid (And.intro hk (And.intro hv hL))
  obtain ⟨Ak, ck, rfl, hkc, _⟩ := hk
  obtain ⟨Av, cv, rfl, hvc, _⟩ := hv
  obtain ⟨As, cs, rfl, hsc, _⟩ := hL
  have hP0 := heap_alloc_self w (.cells #[.bool nn, .slice Ak k.length ck, .slice Av v.length cv, .slice As L.length cs] 43 (0, 0))
  have hx0 := (Ext.refl (fun _ => False) w).alloc (.cells #[.bool nn, .slice Ak k.length ck, .slice Av v.length cv, .slice As L.length cs] 43 (0, 0))
  have H0 := Lib.hid (And.intro hP0 hx0)
  clear hP0 hx0
  go_enter Try.func9, Try.ntmps9
  go_wp2_with fail
  refine (hs _).mono ?_
  rintro e w1 ⟨rfl, x1⟩
  have p1 := x1.heap H0.out.1 id
  have y1 := H0.out.2.trans x1
  have hb : ∀ (W : World) (x : Ext (fun _ => False) w W) (b : Nat), b < w.heap.size → W.heap[b]? = w.heap[b]? := fun _ x b hb => x.heap_eq hb id
  have d0 : w1.cell? ⟨w.heap.size, 0, none⟩ = some (.bool nn) := cells_at p1 0
  have d1 : w1.cell? ⟨w.heap.size, 1, none⟩ = some (.slice Ak k.length ck) := cells_at p1 1
  have d2 : w1.cell? ⟨w.heap.size, 2, none⟩ = some (.slice Av v.length cv) := cells_at p1 2
  have d3 : w1.cell? ⟨w.heap.size, 3, none⟩ = some (.slice As L.length cs) := cells_at p1 3
  have HB := Lib.hid hb
  have H1 := Lib.hid (And.intro p1 y1)
  clear p1 y1 x1 hb
  go_wp2_with fail
  refine (short_walk (nn := nn) (D := (· < w.heap.size)) (H.out.1.heaps (HB.out _ H1.out.2)) (H.out.2.1.heaps (HB.out _ H1.out.2)) (H.out.2.2.same (HB.out _ H1.out.2))).mono ?_
  rintro e w2 ⟨rfl, x2⟩
  have p2 := x2.heap H1.out.1 id
  have e0 := cell_same d0 x2
  have e1 := cell_same d1 x2
  have e2 := cell_same d2 x2
  have e3 := cell_same d3 x2
  have H2 := Lib.hid (And.intro p2 (H1.out.2.trans x2))
  clear p2 x2 d0 d1 d2 d3
  obtain ⟨sh, hsh⟩ : ∃ sh, sh = shortP k v L := ⟨_, rfl⟩
  rw [← hsh]
  have HSH := Lib.hid hsh
  clear hsh
  cases sh with
  | false =>
    go_wp2_with fail
    go_ret
    exact ⟨rfl, H2.out.2⟩
  | true =>
    have hsl : L.length ≤ 2000 := by
      have := HSH.out
      unfold shortP at this
      simp at this
      exact this.2
    have hP : PIs (· < w.heap.size) w (.slice Ak k.length ck) (.slice Av v.length cv) (.slice As L.length cs) k v L := ⟨H.out.1, H.out.2.1, H.out.2.2, hkl, hvl, by omega⟩
    have HP := Lib.hid hP
    clear hP
    go_wp2_with fail
    refine (texts_walk (nn := nn) (HP.out.same (HB.out _ H2.out.2)) (fun b hb => Nat.lt_of_lt_of_le hb H2.out.2.size)).mono ?_
    rintro e w3 ⟨ov, vs, rfl, o3, n3, x3⟩
    have p3 := x3.heap H2.out.1 id
    have f0 := cell_same e0 x3
    have f1 := cell_same e1 x3
    have f2 := cell_same e2 x3
    have f3 := cell_same e3 x3
    have y3 := H2.out.2.trans x3
    have hbl := lt_of_heap p3
    clear e0 e1 e2 e3 p3
    rcases List.eq_nil_or_concat (textsP nn k v L) with ht | ⟨ls, T, ht⟩
    · have hov := n3 ht
      subst hov
      have hmf : mayP nn k v L = false := by
        cases hm : mayP nn k v L with
        | false => rfl
        | true =>
          unfold textsP at ht
          rw [hm, if_pos rfl] at ht
          split at ht
          · cases ht
          · have := congrArg List.length ht
            rw [scanT_len] at this
            simp at this
      have H3 := Lib.hid (And.intro y3 hmf)
      clear o3 n3 x3 ht y3 hmf
      go_wp2_with fail
      refine (bytes_bad (nn := nn) (HP.out.same (HB.out _ H3.out.1)) (fun b hb => Nat.lt_of_lt_of_le hb H3.out.1.size) H3.out.2).mono ?_
      rintro e w4 ⟨rfl, x4⟩
      have H4 := Lib.hid (H3.out.1.trans x4)
      clear x4
      go_wp2_with fail
      go_ret
      exact ⟨rfl, H4.out⟩
    · rw [List.concat_eq_append] at ht
      obtain ⟨hmt, hln, hck⟩ := own_facts ht
      rw [ht] at o3
      obtain ⟨g, c, u, rfl, hu, hT, hNg, hgl, hmc⟩ := ownRows_last o3
      have hTl := textsP_le nn k v L T (by rw [ht]; simp)
      obtain ⟨AT, cT, rfl⟩ := hT.formv
      rw [hln] at hu hmc ⊢
      have H3 := Lib.hid (And.intro y3 (And.intro hT (And.intro hck (HP.out.same (HB.out _ y3)))))
      clear o3 n3 x3 ht y3 hT hck hln hmt
      generalize L.length = m at *
      have hwm : IntKind.i64.wrap (m : Int) = (m : Int) := IntWalk.i64_in _ (by omega)
      have hwm1 : IntKind.i64.wrap ((m : Int) + 1) = (m : Int) + 1 := IntWalk.i64_in _ (by omega)
      have hi1 : decide ((m : Int) < (m : Int) + 1) = true := by rw [decide_eq_true_iff]; omega
      have hi3 : (m : Int) < (m : Int) + 1 := by omega
      have hi4 : m < m + 1 := by omega
      have hne0 : (((m : Int) + 1) == 0) = false := by rw [beq_eq_false_iff_ne]; omega
      go_wp2_with fail
      refine wp_region_bar (Cls [w.heap.size, g] _) [([0, 1, 2, 3, 4, 5, 7, 8, 9, 10], 6)] [] 11 [] [12, 13, 14, 15, 16, 17, 18] (by kernel_rfl) (by kernel_rfl) (Cls.refl _ _) ?_
      try dsimp only [wpMix, wpSegs, pick, List.getElem?_cons_zero, List.getElem?_cons_succ]
      generalize hz : Act.mk _ _ = z
      repeat (first | (refine wpQuiet_step (fun K hK => ?_); replace hK := Lib.hid hK; subst hz; go_simp; generalize hz : Act.mk _ _ = z; refine hK.out z ?_; clear hK K) | (refine wpQuiet_step (fun K hK => ?_); replace hK := Lib.hid hK; subst hz; refine iteSkip (by kernel_rfl) ?_; go_simp; generalize hz : Act.mk _ _ = z; refine hK.out z ?_; clear hK K))
      try refine wpQuiet_nil ?_
      subst hz
      try dsimp only [NoPan]
      go_wp2_with fail
      refine (raw_walk (l := T) (H3.out.2.1.byt.same (Ext.refl (fun _ => False) w3).drew) (by omega)).mono ?_
      rintro e w4 ⟨rfl, x4⟩
      rw [sumV_A]
      have H4 := Lib.hid x4
      clear x4
      go_wp2_with fail
      refine ⟨Cls.of_ext H4.out fun q hq => ⟨by simp at hq; rcases hq with rfl | rfl <;> assumption, id⟩, ?_⟩
      try dsimp only [wpMix, wpSegs, pick, List.getElem?_cons_zero, List.getElem?_cons_succ]
      generalize hz : Act.mk _ _ = z
      repeat (first | (refine wpQuiet_step (fun K hK => ?_); replace hK := Lib.hid hK; subst hz; go_simp; generalize hz : Act.mk _ _ = z; refine hK.out z ?_; clear hK K) | (refine wpQuiet_step (fun K hK => ?_); replace hK := Lib.hid hK; subst hz; refine iteSkip (by kernel_rfl) ?_; go_simp; generalize hz : Act.mk _ _ = z; refine hK.out z ?_; clear hK K))
      try refine wpQuiet_nil ?_
      subst hz
      try dsimp only [NoPan]
      go_wp2_with fail
      have xw4 : Ext (fun _ => False) w w4 := H3.out.1.trans ((Ext.refl (fun _ => False) w3).drew.trans H4.out)
      refine (check_walk (nn := nn) (HP.out.same (HB.out _ xw4)) (fun b hb => Nat.lt_of_lt_of_le hb xw4.size) (rawB_len T) (HP.out.same (HB.out _ xw4)).key hkl).mono ?_
      rintro e w5 ⟨v5, rfl, o5, n5, x5⟩
      rw [H3.out.2.2.1] at o5 ⊢
      obtain ⟨A5, c5, rfl⟩ := o5.formv
      have xw5 := xw4.trans x5
      have x35 : Ext (fun _ => False) w3 w5 := ((Ext.refl (fun _ => False) w3).drew.trans H4.out).trans x5
      have k0 := cell_same f0 x35
      have k2 := cell_same f2 x35
      have k3 := cell_same f3 x35
      have cv5 := (o5.byt.same (Ext.refl (fun _ => False) w5)).conv 22 5 9 Try.underlying22 Try.underlying5 Try.underlying9 w5 rfl
      have cvv := (HP.out.same (HB.out _ xw5)).value.conv 22 5 9 Try.underlying22 Try.underlying5 Try.underlying9 w5 rfl
      have H5 := Lib.hid xw5
      clear f0 f1 f2 f3 o5 n5 x5 xw5 xw4 x35
      cases nn with
      | true =>
        go_wp2_with fail
        try dsimp only [wpMix, wpSegs, pick, List.getElem?_cons_zero, List.getElem?_cons_succ]
        generalize hz : Act.mk _ _ = z
        repeat (first | (refine wpQuiet_step (fun K hK => ?_); replace hK := Lib.hid hK; subst hz; go_simp; generalize hz : Act.mk _ _ = z; refine hK.out z ?_; clear hK K) | (refine wpQuiet_step (fun K hK => ?_); replace hK := Lib.hid hK; subst hz; refine iteSkip (by kernel_rfl) ?_; go_simp; generalize hz : Act.mk _ _ = z; refine hK.out z ?_; clear hK K))
        try refine wpQuiet_nil ?_
        subst hz
        try dsimp only [NoPan]
        go_wp2_with fail
        go_ret
        exact ⟨rfl, H5.out⟩
      | false =>
        go_wp2_with fail
        try dsimp only [wpMix, wpSegs, pick, List.getElem?_cons_zero, List.getElem?_cons_succ]
        generalize hz : Act.mk _ _ = z
        repeat (first | (refine wpQuiet_step (fun K hK => ?_); replace hK := Lib.hid hK; subst hz; go_simp; generalize hz : Act.mk _ _ = z; refine hK.out z ?_; clear hK K) | (refine wpQuiet_step (fun K hK => ?_); replace hK := Lib.hid hK; subst hz; refine iteSkip (by kernel_rfl) ?_; go_simp; generalize hz : Act.mk _ _ = z; refine hK.out z ?_; clear hK K))
        try refine wpQuiet_nil ?_
        subst hz
        try dsimp only [NoPan]
        go_wp2_with fail
        go_ret
        exact ⟨rfl, H5.out⟩
end Go.Proofs.Ytoflfhjeabpcjaa
/- The small case of the proofs: vestrylaw05.small answers true; no condition. -/
namespace Go.Proofs.Ytoflfhjeabpcjaa
set_option linter.unusedVariables false
set_option linter.unusedSimpArgs false
open Go.RowKit

theorem row_two {V : World} {b : Nat} {x0 x1 x2 x3 : Value} {k1 v1 k2 v2 : Bs} (hb : V.heap[b]? = some (.cells #[x0, x1, x2, x3] 24 (0, 0))) (h0 : Byt (fun _ => True) V x0 k1) (h1 : Byt (fun _ => True) V x1 v1) (h2 : Byt (fun _ => True) V x2 k2) (h3 : Byt (fun _ => True) V x3 v2)
    (l0 : k1.length ≤ 9) (l1 : v1.length ≤ 9) (l2 : k2.length ≤ 9) (l3 : v2.length ≤ 9) : Row (EntryIs (fun _ => True)) 2 (fun _ => True) V (.slice (some ⟨b, 0, none⟩) 2 2) [(k1, v1), (k2, v2)] := by
  refine ⟨_, 2, rfl, Nat.le_refl _, fun _ => ⟨b, 0, rfl, trivial, fun i x hi => ?_⟩⟩
  match i with
  | 0 =>
    simp at hi
    subst hi
    exact ⟨⟨x0, x1, cells_at hb 0, cells_at hb 1, h0, h1⟩, by show k1.length ≤ _; omega, by show v1.length ≤ _; omega⟩
  | 1 =>
    simp at hi
    subst hi
    exact ⟨⟨x2, x3, cells_at hb 2, cells_at hb 3, h2, h3⟩, by show k2.length ≤ _; omega, by show v2.length ≤ _; omega⟩
  | j + 2 => simp at hi
theorem one_byt {V W : World} {b : Nat} {c : UInt8} (hb : V.heap[b]? = some (.cells #[.int .u8 c.toNat] 5 (1, 2))) (hx : Ext (fun _ => False) V W) : Byt (fun _ => True) W (.slice (some ⟨b, 0, none⟩) 1 1) [c] :=
  ((Byt.const (l := [c]) hb rfl 1 rfl).mono fun _ _ => trivial).same hx
theorem checkP_not {root key : Bs} {nn : Bool} {k v : Bs} {L : List PS} (h : agreesP key L = false) : checkP root key nn k v L = ([], false, 5) := by
  unfold checkP
  split
  · rfl
  · rw [if_pos (.inr h)]
def oSm : Option Tr := some (.fork 7 (.leaf [97] [49]) (.leaf [98] [50]))
theorem oSm_a (h : Tr.okO oSm) : checkP (rootS oSm) [97] false (endO oSm [97]).1 (endO oSm [97]).2 ((pathO oSm [97]).map stOf) = ([49], true, 0) := (check_made h [97]).trans rfl
theorem oSm_c (h : Tr.okO oSm) : checkP (rootS oSm) [99] false (endO oSm [99]).1 (endO oSm [99]).2 ((pathO oSm [99]).map stOf) = ([], false, 0) := (check_made h [99]).trans rfl
theorem oSm_b : checkP (rootS oSm) [97] false (endO oSm [98]).1 (endO oSm [98]).2 ((pathO oSm [98]).map stOf) = ([], false, 5) := checkP_not rfl
set_option maxRecDepth 100000 in
set_option maxHeartbeats 1000000 in
theorem psmall_walk (w : World) : Calls Try.prog 34 #[] w fun e w' => e = .returned (.bool true) ∧ Ext (fun _ => False) w w' := by
  have kc := fun (w : World) (C : Array Value) (n c : Nat) => Lib.run_convert_bytes_const (P := Try.prog) w 22 5 C n c Try.underlying22 Try.underlying5
  have kc2 : ∀ (w : World) (o1 : Obj) (C : Array Value) (n c : Nat), (convert 22 22 (.slice (some ⟨w.heap.size + 1, 0, none⟩) n c)).run Try.prog ((w.alloc o1).alloc (.cells C 5)) = .ok (.slice (some ⟨w.heap.size + 1, 0, none⟩) n c) ((w.alloc o1).alloc (.cells C 5 (C.size, C.size + 1))) := fun w o1 C n c => by
    have h := kc (w.alloc o1) C n c
    rwa [show (w.alloc o1).heap.size = w.heap.size + 1 by simp] at h
  have kc3 : ∀ (w : World) (o1 o2 : Obj) (C : Array Value) (n c : Nat), (convert 22 22 (.slice (some ⟨w.heap.size + 1 + 1, 0, none⟩) n c)).run Try.prog (((w.alloc o1).alloc o2).alloc (.cells C 5)) = .ok (.slice (some ⟨w.heap.size + 1 + 1, 0, none⟩) n c) (((w.alloc o1).alloc o2).alloc (.cells C 5 (C.size, C.size + 1))) := fun w o1 o2 C n c => by
    have h := kc ((w.alloc o1).alloc o2) C n c
    rwa [show ((w.alloc o1).alloc o2).heap.size = w.heap.size + 1 + 1 by simp] at h
  have kc4 : ∀ (w : World) (o1 o2 o3 : Obj) (C : Array Value) (n c : Nat), (convert 22 22 (.slice (some ⟨w.heap.size + 1 + 1 + 1, 0, none⟩) n c)).run Try.prog ((((w.alloc o1).alloc o2).alloc o3).alloc (.cells C 5)) = .ok (.slice (some ⟨w.heap.size + 1 + 1 + 1, 0, none⟩) n c) ((((w.alloc o1).alloc o2).alloc o3).alloc (.cells C 5 (C.size, C.size + 1))) := fun w o1 o2 o3 C n c => by
    have h := kc (((w.alloc o1).alloc o2).alloc o3) C n c
    rwa [show (((w.alloc o1).alloc o2).alloc o3).heap.size = w.heap.size + 1 + 1 + 1 by simp] at h
  go_enter Try.func34, Try.ntmps34
  go_wp2_with fail
  have a1 := fun (V : World) (c : UInt8) => heap_alloc_self V (.cells #[.int .u8 c.toNat] 5 (1, 2))
  have xa := fun (V : World) (o : Obj) => (Ext.refl (fun _ => False) V).alloc o
  have b0 := fun o1 o2 o3 o4 => one_byt (a1 w 97) (((((xa _ o1).alloc o2).alloc o3).alloc o4))
  have b1 := fun V (h : V.heap.size = w.heap.size + 1) o2 o3 o4 => one_byt (a1 V 49) ((((xa _ o2).alloc o3).alloc o4))
  refine (pmade_walk (w0 := w) (row_two (k1 := [97]) (v1 := [49]) (k2 := [98]) (v2 := [50]) (heap_alloc_at (by simp)) ?_ ?_ ?_ ?_ (by decide) (by decide) (by decide) (by decide)) (by simp) (((((xa _ _).alloc _).alloc _).alloc _).alloc _)).mono ?_
  · exact b0 _ _ _ _
  · have := one_byt (a1 (w.alloc (.cells #[.int .u8 97] 5 (1, 2))) 49) ((((xa _ (.cells #[.int .u8 98] 5 (1, 2))).alloc (.cells #[.int .u8 50] 5 (1, 2))).alloc (.cells #[.slice (some ⟨w.heap.size, 0, none⟩) 1 1, .slice (some ⟨w.heap.size + 1, 0, none⟩) 1 1, .slice (some ⟨w.heap.size + 1 + 1, 0, none⟩) 1 1, .slice (some ⟨w.heap.size + 1 + 1 + 1, 0, none⟩) 1 1] 24 (0, 0))))
    rwa [show (w.alloc (.cells #[.int .u8 97] 5 (1, 2))).heap.size = w.heap.size + 1 by simp] at this
  · have := one_byt (a1 ((w.alloc (.cells #[.int .u8 97] 5 (1, 2))).alloc (.cells #[.int .u8 49] 5 (1, 2))) 98) (((xa _ (.cells #[.int .u8 50] 5 (1, 2))).alloc (.cells #[.slice (some ⟨w.heap.size, 0, none⟩) 1 1, .slice (some ⟨w.heap.size + 1, 0, none⟩) 1 1, .slice (some ⟨w.heap.size + 1 + 1, 0, none⟩) 1 1, .slice (some ⟨w.heap.size + 1 + 1 + 1, 0, none⟩) 1 1] 24 (0, 0))))
    rwa [show ((w.alloc (.cells #[.int .u8 97] 5 (1, 2))).alloc (.cells #[.int .u8 49] 5 (1, 2))).heap.size = w.heap.size + 1 + 1 by simp] at this
  · have := one_byt (a1 (((w.alloc (.cells #[.int .u8 97] 5 (1, 2))).alloc (.cells #[.int .u8 49] 5 (1, 2))).alloc (.cells #[.int .u8 98] 5 (1, 2))) 50) ((xa _ (.cells #[.slice (some ⟨w.heap.size, 0, none⟩) 1 1, .slice (some ⟨w.heap.size + 1, 0, none⟩) 1 1, .slice (some ⟨w.heap.size + 1 + 1, 0, none⟩) 1 1, .slice (some ⟨w.heap.size + 1 + 1 + 1, 0, none⟩) 1 1] 24 (0, 0))))
    rwa [show (((w.alloc (.cells #[.int .u8 97] 5 (1, 2))).alloc (.cells #[.int .u8 49] 5 (1, 2))).alloc (.cells #[.int .u8 98] 5 (1, 2))).heap.size = w.heap.size + 1 + 1 + 1 by simp] at this
  rintro e w2 ⟨c, o, rfl, h2, n2, x2, hput⟩
  obtain ⟨o1, q1, q2⟩ := hput _ _ _ _ rfl
  obtain rfl := small_tree q1 q2
  have H2 := Lib.hid (show TM w w2 c oSm from h2)
  clear h2 n2 x2 hput q1 q2 a1 b0 b1
  have HO := Lib.hid H2.out.okO
  go_wp2_with fail
  refine (tm_root H2.out).mono ?_
  rintro e r3 ⟨rfl, hr3, xr3⟩
  rw [sumV_A]
  have HR3 := Lib.hid (And.intro hr3 xr3)
  clear hr3 xr3
  go_wp2_with fail
  have k3 := one_byt (c := 97) (heap_alloc_self r3 (.cells #[.int .u8 97] 5 (1, 2))) (xa _ (.cells #[.int .u8 97] 5 (1, 2)))
  have j3 := one_byt (c := 97) (heap_alloc_self (r3.alloc (.cells #[.int .u8 97] 5 (1, 2))) (.cells #[.int .u8 97] 5 (1, 2))) (Ext.refl _ _)
  rw [show (r3.alloc (.cells #[.int .u8 97] 5 (1, 2))).heap.size = r3.heap.size + 1 by simp] at j3
  have HK3 := Lib.hid k3
  clear k3
  refine (make_walk (k := [97]) (HR3.out.1.still ((xa _ _).alloc _)) j3 (by decide) (by decide)).mono ?_
  rintro e m3 ⟨ka3, va3, sv3, rfl, p3, t3, x3⟩
  have HM3 := Lib.hid (And.intro p3 (And.intro t3 x3))
  clear p3 t3 x3 j3
  go_wp2_with fail
  refine (check_walk (nn := false) HM3.out.1 (fun b hb => hb) (rootS_len _) (HK3.out.same HM3.out.2.2) (by decide)).mono ?_
  rintro e c3 ⟨ov3, rfl, o3, n3, x3⟩
  rw [oSm_a HO.out] at o3 ⊢
  obtain ⟨A3, cc3, rfl⟩ := o3.formv
  have HC3 := Lib.hid (And.intro o3 (And.intro n3 (And.intro x3 (HM3.out.2.1.still x3))))
  clear o3 n3 x3
  go_wp2_with fail
  refine (tm_root HC3.out.2.2.2).mono ?_
  rintro e r4 ⟨rfl, hr4, xr4⟩
  rw [sumV_A]
  have HR4 := Lib.hid (And.intro hr4 xr4)
  clear hr4 xr4
  go_wp2_with fail
  have k4 := one_byt (c := 99) (heap_alloc_self r4 (.cells #[.int .u8 99] 5 (1, 2))) (xa _ (.cells #[.int .u8 99] 5 (1, 2)))
  have j4 := one_byt (c := 99) (heap_alloc_self (r4.alloc (.cells #[.int .u8 99] 5 (1, 2))) (.cells #[.int .u8 99] 5 (1, 2))) (Ext.refl _ _)
  rw [show (r4.alloc (.cells #[.int .u8 99] 5 (1, 2))).heap.size = r4.heap.size + 1 by simp] at j4
  have HK4 := Lib.hid k4
  clear k4
  refine (make_walk (k := [99]) (HR4.out.1.still ((xa _ _).alloc _)) j4 (by decide) (by decide)).mono ?_
  rintro e m4 ⟨ka4, va4, sv4, rfl, p4, t4, x4⟩
  have HM4 := Lib.hid (And.intro p4 (And.intro t4 x4))
  clear p4 t4 x4 j4
  go_wp2_with fail
  refine (check_walk (nn := false) HM4.out.1 (fun b hb => hb) (rootS_len _) (HK4.out.same HM4.out.2.2) (by decide)).mono ?_
  rintro e c4 ⟨ov4, rfl, o4, n4, x4⟩
  rw [oSm_c HO.out] at o4 ⊢
  obtain ⟨A4, cc4, rfl⟩ := o4.formv
  have HC4 := Lib.hid (And.intro o4 (And.intro n4 (And.intro x4 (HM4.out.2.1.still x4))))
  clear o4 n4 x4
  go_wp2_with fail
  refine (tm_root HC4.out.2.2.2).mono ?_
  rintro e r5 ⟨rfl, hr5, xr5⟩
  rw [sumV_A]
  have HR5 := Lib.hid (And.intro hr5 xr5)
  clear hr5 xr5
  go_wp2_with fail
  have k5 := one_byt (c := 97) (heap_alloc_self r5 (.cells #[.int .u8 97] 5 (1, 2))) (xa _ (.cells #[.int .u8 98] 5 (1, 2)))
  have j5 := one_byt (c := 98) (heap_alloc_self (r5.alloc (.cells #[.int .u8 97] 5 (1, 2))) (.cells #[.int .u8 98] 5 (1, 2))) (Ext.refl _ _)
  rw [show (r5.alloc (.cells #[.int .u8 97] 5 (1, 2))).heap.size = r5.heap.size + 1 by simp] at j5
  have HK5 := Lib.hid k5
  clear k5
  refine (make_walk (k := [98]) (HR5.out.1.still ((xa _ _).alloc _)) j5 (by decide) (by decide)).mono ?_
  rintro e m5 ⟨ka5, va5, sv5, rfl, p5, t5, x5⟩
  have HM5 := Lib.hid (And.intro p5 (And.intro t5 x5))
  clear p5 t5 x5 j5
  go_wp2_with fail
  refine (check_walk (nn := false) HM5.out.1 (fun b hb => hb) (rootS_len _) (HK5.out.same HM5.out.2.2) (by decide)).mono ?_
  rintro e c5 ⟨ov5, rfl, o5, n5, x5⟩
  rw [oSm_b] at o5 ⊢
  obtain ⟨A5, cc5, rfl⟩ := o5.formv
  have HC5 := Lib.hid (And.intro o5 (And.intro n5 (And.intro x5 (HM5.out.2.1.still x5))))
  clear o5 n5 x5
  have cvf := (HC3.out.1.byt.same (((((HR4.out.2.trans ((xa _ _).alloc _)).trans HM4.out.2.2).trans HC4.out.2.2.1).trans ((HR5.out.2.trans ((xa _ _).alloc _)).trans HM5.out.2.2)).trans HC5.out.2.2.1)).conv 22 5 9 Try.underlying22 Try.underlying5 Try.underlying9 c5 rfl
  simp only [List.length_cons, List.length_nil, Nat.zero_add] at cvf
  go_wp2_with fail
  go_ret
  exact ⟨rfl, HC5.out.2.2.2.2.2⟩
end Go.Proofs.Ytoflfhjeabpcjaa
/- ProofOwn, all together; no condition. -/
namespace Go.Proofs.Ytoflfhjeabpcjaa
set_option linter.unusedVariables false
set_option linter.unusedSimpArgs false
open Go.RowKit
theorem own_all {w : World} {nn : Bool} {kv vv sv : Value} {k v : Bs} {L : List PS} (hk : Byt (· < w.heap.size) w kv k) (hkl : k.length ≤ 140737488351232) (hv : Byt (· < w.heap.size) w vv v) (hvl : v.length ≤ 140737488351232) (hL : StepsR (· < w.heap.size) w sv L) (_ : L.length ≤ maxLen) :
    Calls Try.prog 9 #[.agg #[.bool nn, kv, vv, sv]] w fun e w' => e = .returned (.bool true) ∧ Ext (fun _ => False) w w' :=
  own_walk psmall_walk hk hkl hv hvl hL
end Go.Proofs.Ytoflfhjeabpcjaa
/- Digests, texts and rows of byte slices that come in; no condition. -/
namespace Go.Proofs.Ytoflfhjeabpcjaa
set_option linter.unusedVariables false
set_option linter.unusedSimpArgs false
open Go.RowKit Go.ChangeShapes Go.WideShapes Go.Deep

theorem bytes_of_cells : ∀ (cs : List Value), (∀ i, i < cs.length → ∃ u : UInt8, cs[i]? = some (byteV u)) → ∃ s : Bs, s.length = cs.length ∧ cs = s.map byteV
  | [], _ => ⟨[], rfl, rfl⟩
  | v :: r, h => by
    obtain ⟨u, hu⟩ := h 0 (by simp)
    obtain ⟨s, hl, rfl⟩ := bytes_of_cells r fun i hi => by
      obtain ⟨u, hu⟩ := h (i + 1) (by simpa using hi)
      exact ⟨u, by simpa using hu⟩
    simp at hu
    exact ⟨u :: s, by simp, by simp [hu]⟩
set_option maxRecDepth 100000 in
theorem open_sum {H : Type} {enc : TypeId × Value → H} {W : World} {base : Nat} {spare : Nat → Bool} {held : Bool} {v : Value} {d : DataW H} {p : List MemPlace} (hval : Value.okWide Try.prog W .any base 29 v)
    (h : ∃ fuel, DataW.trod enc Try.prog W 0 spare held fuel 29 v.cells.toList = some (d, p)) : ∃ s : Bs, s.length = 32 ∧ v = sumV s := by
  have hv := hval
  simp only [Value.okWide, Try.underlying29] at hv
  obtain ⟨cs, rfl, hsz, _⟩ := hv
  obtain ⟨fuel, hf⟩ := h
  obtain ⟨xs, m, _, _, hlen, hxl, hat⟩ := DataW.trod_array Try.underlying29 hf
  simp only [Value.cells] at hlen hat
  rw [show Try.prog.cellsOf 29 = 32 by kernel_rfl] at hlen
  rw [show Try.prog.cellsOf 5 = 1 by kernel_rfl] at hat
  obtain ⟨s, hl, he⟩ := bytes_of_cells cs.toList fun i hi => by
    have h1 := hat i (by omega)
    rw [List.getElem?_eq_getElem (by omega)] at h1
    obtain ⟨q, hq, _, hw⟩ := DataW.trod_int Try.underlying5 h1
    have hdt : (cs.toList.drop (i * 1)).take 1 = [cs.toList[i]] := by
      rw [Nat.mul_one, List.drop_eq_getElem_cons hi]
      rfl
    rw [hdt] at hq
    simp only [List.cons.injEq, and_true] at hq
    have hw' := bounds_u8 hw
    refine ⟨UInt8.ofNat q.toNat, ?_⟩
    rw [List.getElem?_eq_getElem hi, hq]
    simp [byteV]
    omega
  refine ⟨s, by omega, ?_⟩
  show Value.agg cs = .agg (s.map byteV).toArray
  rw [← he]
set_option maxRecDepth 100000 in
theorem open_text {H : Type} {enc : TypeId × Value → H} {W : World} {base : Nat} {spare : Nat → Bool} {held : Bool} {v : Value} {d : DataW H} {p : List MemPlace} (hval : Value.okWide Try.prog W .any base 9 v)
    (h : ∃ fuel, DataW.trod enc Try.prog W 0 spare held fuel 9 v.cells.toList = some (d, p)) : ∃ l : Bs, v = str l ∧ l.length ≤ maxLen := by
  obtain ⟨s, rfl⟩ := okWide_string Try.underlying9 hval
  obtain ⟨fuel, hf⟩ := h
  obtain ⟨s', h, _, hs⟩ := DataW.trod_string Try.underlying9 hf
  simp [Value.cells] at h
  subst h
  exact ⟨s.data.toList, rfl, hs⟩
set_option maxRecDepth 100000 in
theorem open_byts {H : Type} {enc : TypeId × Value → H} {W : World} {spare : Nat → Bool} {held : Bool} {A : Option Addr} {len cap : Nat} {d : DataW H} {p : List MemPlace} (hsm : Small Try.prog 68 d)
    (h : ∃ fuel, DataW.trod enc Try.prog W 0 spare held fuel 68 (Value.slice A len cap).cells.toList = some (d, p)) : ∃ l : List Bs, Byts (· < W.heap.size) W (.slice A len cap) l ∧ l.length ≤ 5864062014634 := by
  have h' := h
  obtain ⟨l, hl, _⟩ := trod_row_s (R := fun w g n x => ∃ u, w.cell? ⟨g, n, none⟩ = some u ∧ Byt (· < W.heap.size) w u x) (size := 1) Try.underlying68 (by kernel_rfl) (by decide) hsm (fun f cs x g n hf hs hc hcell => by
    obtain ⟨v, l, rfl, hb, _⟩ := opens_byt Try.underlying22 Try.underlying5 (by kernel_rfl) hf
    exact ⟨l, v, by simpa using hcell 0 v (by simp), hb⟩) h
  obtain ⟨fuel, hf⟩ := h'
  have hsl := small_slice (x := (d, p)) Try.underlying68 hf hsm
  rw [show Try.prog.bytesOf 22 = 24 by kernel_rfl] at hsl
  refine ⟨l, hl, ?_⟩
  obtain ⟨A', c', e, _⟩ := hl
  simp only [Value.slice.injEq] at e
  omega
end Go.Proofs.Ytoflfhjeabpcjaa
/- Steps and proofs that come in; no condition. -/
namespace Go.Proofs.Ytoflfhjeabpcjaa
set_option linter.unusedVariables false
set_option linter.unusedSimpArgs false
open Go.RowKit Go.ChangeShapes Go.WideShapes Go.Deep

set_option maxRecDepth 100000 in
theorem cells_sum {H : Type} {enc : TypeId × Value → H} {W : World} {spare : Nat → Bool} {held : Bool} {fuel : Nat} {cs : List Value} {x : DataW H × List MemPlace} (hf : DataW.trod enc Try.prog W 0 spare held fuel 29 cs = some x) : ∃ s : Bs, s.length = 32 ∧ cs = s.map byteV := by
  obtain ⟨xs, m, _, _, hlen, hxl, hat⟩ := DataW.trod_array Try.underlying29 hf
  rw [show Try.prog.cellsOf 29 = 32 by kernel_rfl] at hlen
  rw [show Try.prog.cellsOf 5 = 1 by kernel_rfl] at hat
  obtain ⟨s, hl, he⟩ := bytes_of_cells cs fun i hi => by
    have h1 := hat i (by omega)
    rw [List.getElem?_eq_getElem (by omega)] at h1
    obtain ⟨q, hq, _, hw⟩ := DataW.trod_int Try.underlying5 h1
    have hdt : (cs.drop (i * 1)).take 1 = [cs[i]] := by
      rw [Nat.mul_one, List.drop_eq_getElem_cons hi]
      rfl
    rw [hdt] at hq
    simp only [List.cons.injEq, and_true] at hq
    have hw' := bounds_u8 hw
    refine ⟨UInt8.ofNat q.toNat, ?_⟩
    rw [List.getElem?_eq_getElem hi, hq]
    simp [byteV]
    omega
  exact ⟨s, by omega, he⟩
set_option maxRecDepth 100000 in
theorem opens_step_s {H : Type} {enc : TypeId × Value → H} {W : World} {spare : Nat → Bool} {held : Bool} (fuel : Nat) (cs : List Value) (x : DataW H × List MemPlace) (g n : Nat)
    (h : DataW.trod enc Try.prog W 0 spare held fuel 48 cs = some x) (hs : Small Try.prog 48 x.1) (hl : cs.length = 34) (hat : ∀ j u, cs[j]? = some u → W.cell? ⟨g, n + j, none⟩ = some u) : ∃ d, StepAt W g n d := by
  have ki : Try.prog.cellsOf 3 = 1 := by kernel_rfl
  have kb : Try.prog.cellsOf 4 = 1 := by kernel_rfl
  have ks : Try.prog.cellsOf 29 = 32 := by kernel_rfl
  obtain ⟨_, _, h0⟩ := opens_field Try.underlying48 h 0 rfl ki
  obtain ⟨_, _, h1⟩ := opens_field Try.underlying48 h 1 rfl kb
  obtain ⟨_, _, h2⟩ := opens_field Try.underlying48 h 2 rfl ks
  obtain ⟨q0, e0, _, _⟩ := DataW.trod_int Try.underlying3 h0
  obtain ⟨s, hsl, e2⟩ := cells_sum h2
  obtain ⟨q1, e1⟩ : ∃ b, (cs.drop 1).take 1 = [.bool b] := by
    obtain ⟨b, e1, _⟩ := DataW.trod_bool Try.underlying4 h1
    exact ⟨b, e1⟩
  refine ⟨⟨q0, q1, s⟩, hsl, ?_⟩
  have hcs : cs = stepV ⟨q0, q1, s⟩ := by
    match cs, hl with
    | c0 :: c1 :: r, hl =>
      simp at e0 e1 e2
      subst e0 e1
      have hr : r.take 32 = r := List.take_of_length_le (by simp at hl; omega)
      rw [hr] at e2
      rw [e2]
      rfl
  intro j u hj
  exact hat j u (by rw [hcs]; exact hj)
theorem four_of {α : Type} : ∀ {l : List α}, l.length = 4 → ∃ a b c d, l = [a, b, c, d]
  | [a, b, c, d], _ => ⟨a, b, c, d, rfl⟩
set_option maxRecDepth 100000 in
theorem trod_len4 {H : Type} {enc : TypeId × Value → H} {W : World} {spare : Nat → Bool} {held : Bool} {fuel : Nat} {cs : List Value} {x : DataW H × List MemPlace} (h : DataW.trod enc Try.prog W 0 spare held fuel 43 cs = some x) : cs.length = 4 := by
  obtain ⟨_, _, _, _, hl, _⟩ := DataW.trod_struct Try.underlying43 h
  rw [hl]
  kernel_rfl
set_option maxRecDepth 100000 in
theorem open_proof {H : Type} {enc : TypeId × Value → H} {W : World} {base : Nat} {spare : Nat → Bool} {held : Bool} {v : Value} {d : DataW H} {p : List MemPlace} (hval : Value.okWide Try.prog W .any base 43 v) (hsm : Small Try.prog 43 d)
    (h : ∃ fuel, DataW.trod enc Try.prog W 0 spare held fuel 43 v.cells.toList = some (d, p)) : ∃ nn a b c k x L, v = .agg #[.bool nn, a, b, c] ∧ Byt (· < W.heap.size) W a k ∧ k.length ≤ 140737488351232 ∧ Byt (· < W.heap.size) W b x ∧ x.length ≤ 140737488351232 ∧ StepsR (· < W.heap.size) W c L ∧ L.length ≤ maxLen := by
  obtain ⟨fuel, hf⟩ := h
  have kb : Try.prog.cellsOf 4 = 1 := by kernel_rfl
  have ke : Try.prog.cellsOf 24 = 2 := by kernel_rfl
  have ks : Try.prog.cellsOf 41 = 1 := by kernel_rfl
  have k8 : Try.prog.cellsOf 22 = 1 := by kernel_rfl
  obtain ⟨_, _, h0⟩ := opens_field Try.underlying43 hf 0 rfl kb
  obtain ⟨_, _, h1, hs1⟩ := opens_field_s Try.underlying43 hf hsm 1 rfl ke
  obtain ⟨_, _, h2, hs2⟩ := opens_field_s Try.underlying43 hf hsm 2 rfl ks
  obtain ⟨nn, e0, _⟩ := DataW.trod_bool Try.underlying4 h0
  obtain ⟨_, _, h10, hs10⟩ := opens_field_s Try.underlying24 h1 hs1 0 rfl k8
  obtain ⟨_, _, h11, hs11⟩ := opens_field_s Try.underlying24 h1 hs1 1 rfl k8
  obtain ⟨a, k, e1, ha, la⟩ := opens_byt_s Try.underlying22 Try.underlying5 (by kernel_rfl) (by kernel_rfl) h10 hs10
  obtain ⟨b, x, e2, hb, lb⟩ := opens_byt_s Try.underlying22 Try.underlying5 (by kernel_rfl) (by kernel_rfl) h11 hs11
  obtain ⟨c, L, e3, hL, hl⟩ := opens_row_s (R := StepAt) (size := 34) Try.underlying41 (by kernel_rfl) (by decide) hs2 (fun f cs x g n => opens_step_s f cs x g n) h2
  have hlen := trod_len4 hf
  refine ⟨nn, a, b, c, k, x, L, ?_, ha, la, hb, lb, hL, hl⟩
  obtain ⟨c0, c1, c2, c3, hc⟩ := four_of hlen
  rw [hc] at e0 e1 e2 e3
  simp at e0 e1 e2 e3
  rw [e0, e1, e2, e3] at hc
  clear e0 e1 e2 e3 hf hval
  cases v
  case agg cs =>
    simp only [Value.cells] at hc
    congr 1
    exact Array.toList_inj.1 hc
  all_goals simp [Value.cells] at hc
end Go.Proofs.Ytoflfhjeabpcjaa
namespace Go.Proofs.Ytoflfhjeabpcjaa
set_option linter.unusedVariables false
set_option linter.unusedSimpArgs false
open Go.ChangeShapes Go.WideShapes Go.ChangeAt Go.RowKit
open Go.ChangeMaps (open_string shut_string)

set_option maxRecDepth 100000 in
theorem proofOwn_lifted (os : Os) (started : os.Started) (H : Type) (enc : TypeId × Value → H) :
    ReturnsInHanded {} Try.checked os 9 .any (Rows.proofOwnSpec.pre6 enc Try.prog Try.f9 Rows.proofOwnRow.domain false) (Rows.proofOwnSpec.post enc Try.prog Try.f9 false true false false) := by
  refine returnsInHanded_of_change_sized (C := Try.checked) own started (by kernel_rfl) Try.func9
    (ChangeSpec.witness6 (enc := enc) (C := Try.checked) false ⟨#[], #[.agg #[.bool false, .slice none 0 0, .slice none 0 0, .slice none 0 0]], []⟩ 8 (by kernel_rfl) (by kernel_rfl) (by kernel_rfl) (by kernel_rfl)) ?_
  intro W base args ds gs before hval0 hW hcnd hsz0 _
  have hsz : (DataW.weightsEach Try.prog (Try.f9.params.toList ++ Rows.proofOwnSpec.plain.varTypes Try.prog) (ds ++ gs)).all (· ≤ reachBytes) = true := hsz0
  have hval : ∀ (j : Nat) t v, Try.f9.params[j]? = some t → args[j]? = some v → Value.okWide Try.prog W .any base t v := hval0
  have hW' := hW
  obtain ⟨p, q, hA0, hV, rfl, hfz, hnd⟩ := hW
  have hA : DataW.TrodAll enc Try.prog W 0 (fun _ => true) true Try.f9.params.toList args.toList ds p := hA0
  rw [Try.params9] at hA hval hsz
  obtain ⟨v0, vs0, d0, ds0, p0, q0, hargs, rfl, rfl, h0, r0⟩ := trodAll_cons hA
  obtain ⟨rfl, rfl, rfl⟩ := trodAll_nil r0
  obtain rfl : args = #[v0] := by cases args; simp_all
  obtain ⟨rfl, rfl⟩ := trodVars_none hV
  have k0 := h0
  have lt0 : ∀ x ∈ p0, x.block < W.heap.size := by obtain ⟨m, hm⟩ := k0; exact DataW.trod_lt m _ _ _ hm
  have sm0 := small_each hsz (j := 0) (t := 43) (d := d0) rfl rfl
  obtain ⟨nn0, a0, b0, c0, ek0, ev0, es0, ee0, ha0, la0, hb0, lb0, hc0, lc0⟩ := open_proof (hval 0 43 v0 rfl rfl) sm0 h0
  subst ee0
  clear hA0 hval0 hsz0 hsz
  refine (own_all ha0 la0 hb0 lb0 hc0 lc0).mono fun e W' ⟨he, hx⟩ => ?_
  subst he
  have bel : Go.RowKit.Below W.heap.size W W' := hx.below fun _ => False.elim
  exact ⟨_, rfl, _, _, _, [], _, [], hW', trodAll_mk1 (shut_bool Try.underlying4 _), (trodAll_cons_mk (Go.RowKit.Below.trod laidOut (by kernel_rfl) (of_decide_eq_true (by kernel_rfl)) k0 bel lt0) trodAll_mk0), rfl, bel.frame _, fun h => by cases h⟩

theorem proofOwn_over : Rows.proofOwnRow.holds Try.pinned (OpenSpec.ofChange Rows.proofOwnSpec) :=
  OpenClaim.holds_of_wide 9 Try.f9 rfl rfl rfl rfl rfl rfl rfl ⟨rfl, rfl, rfl, rfl, rfl⟩ rfl rfl rfl rfl rfl (by kernel_rfl) Try.func9 (by kernel_rfl)
    (of_decide_eq_true (by kernel_rfl)) (by unfold Func.isWrapper; first | (rw [if_pos (by decide +kernel)]; kernel_rfl) | (rw [if_neg (by decide +kernel)]; exact ⟨rfl, rfl⟩))
    (fun os started H enc _ => proofOwn_lifted os started H enc)
theorem proofOwn_holds : Rows.ProofOwnSaid := proofOwn_over
end Go.Proofs.Ytoflfhjeabpcjaa
