/- What the document's client was answered; no condition. -/
import Derived.Test.YtcedpdjjjfdbiaaCliDoc
import Derived.Test.YtcedpdjjjfdbiaaTakeLaw
namespace Go.Proofs.Ytcedpdjjjfdbiaa
set_option linter.unusedVariables false
set_option linter.unusedSimpArgs false
open Go.RowKit
theorem read_used {id st : Int} {t : Bs} (h : readR id st t ≠ []) : (takeRow t).2.1 = t.length := by
  unfold readR at h
  split at h
  · rename_i hc
    obtain ⟨h1, h2, h3⟩ := hc
    have hl : ((takeRow t).1.getD 3 []).length ≤ 65536 := by
      rw [List.getD_eq_getElem?_getD, List.getElem?_eq_getElem (by omega)]
      exact takeRow_len t _ (List.getElem_mem _)
    generalize (takeRow t).1.getD 3 [] = l3 at *
    have hall : ∀ l ∈ [replyN, beB id 8, beB st 8, l3], l.length ≤ 65536 := by
      intro l hm
      simp only [List.mem_cons, List.not_mem_nil, or_false] at hm
      rcases hm with rfl | rfl | rfl | rfl
      · decide
      · rw [beB_len]; omega
      · rw [beB_len]; omega
      · exact hl
    have hr : replyB id st l3 = rowB [replyN, beB id 8, beB st 8, l3] := by
      rw [replyB, rowR, if_pos ⟨by simp, hall⟩]
    have ht := takeRow_rowB (ls := [replyN, beB id 8, beB st 8, l3]) (by simp) hall
    rw [← hr, ← h3] at ht
    rw [ht]
  · exact absurd rfl h
theorem read_none {id st : Int} {t : Bs} {l : List Bs} {used : Nat} {k : Int} (hq : takeRow t = (l, used, k)) (h : k ≠ 0 ∨ used ≠ t.length ∨ l.length ≠ 4 ∨ t ≠ replyB id st (l.getD 3 []) ∨ l.getD 3 [] = []) : readR id st t = [] := by
  apply Classical.byContradiction
  intro hne
  have hu := read_used hne
  rw [hq] at hu
  unfold readR at hne
  rw [hq] at hne
  split at hne
  · rename_i hc
    rcases h with h | h | h | h | h
    · exact h hc.1
    · exact h hu
    · exact h hc.2.1
    · exact h hc.2.2
    · exact hne h
  · exact hne rfl
theorem read_some {id st : Int} {t : Bs} {l : List Bs} {used : Nat} (hq : takeRow t = (l, used, 0)) (h4 : l.length = 4) (h : t = replyB id st (l.getD 3 [])) : readR id st t = l.getD 3 [] := by
  unfold readR
  rw [hq, if_pos ⟨rfl, h4, h⟩]
theorem replyB_ne {id st : Int} {b : Bs} (hb : b.length ≤ 65536) : replyB id st b ≠ [] := by
  have hall : ∀ l ∈ [replyN, beB id 8, beB st 8, b], l.length ≤ 65536 := by
    intro l hm
    simp only [List.mem_cons, List.not_mem_nil, or_false] at hm
    rcases hm with rfl | rfl | rfl | rfl
    · decide
    · rw [beB_len]; omega
    · rw [beB_len]; omega
    · exact hb
  rw [replyB, rowR, if_pos ⟨by simp, hall⟩]
  intro h
  have := congrArg List.length h
  simp [rowB, beB_len] at this
set_option maxRecDepth 100000 in
set_option maxHeartbeats 4000000 in
theorem answered_walk {F : Nat → Prop} {w : World} {a r : Nat} {n id : Int} {st0 : Nat} {L : List (Int × Bs)} (h : DCt F w a r n id st0 L) (who st : Int) (hG : ∀ p ∈ L, p.2.length ≤ 65536) (hL : L.length < 1073741824) :
    Calls Try.prog 41 #[.pointer (some ⟨a, 0, none⟩), .int .i64 who, .int .i64 st] w fun e w' => e = .returned (str (firstR id st (byL who L))) ∧ Ext (fun _ => False) w w' := by
  have c0 : w.cell? ⟨a, 0, none⟩ = some (.pointer (some ⟨r, 0, none⟩)) := cells_at h.obj 0
  have hG' : ∀ s ∈ byL who L, s.length ≤ 65536 := fun s hs => by
    simp only [byL, List.mem_map, List.mem_filter] at hs
    obtain ⟨p, ⟨hp, _⟩, rfl⟩ := hs
    exact hG p hp
  have HB := Lib.hid (rg_by h.reg who (fun s hs => by have := hG' s hs; omega) hL)
  have hbn : (byL who L).length ≤ L.length := by simp [byL]; exact List.length_filter_le _ _
  have H := Lib.hid h
  clear h hG
  go_enter Try.func41, Try.ntmps41
  go_wp2_with fail
  refine HB.out.mono ?_
  rintro e w2 ⟨v2, vs, rfl, hR, hx⟩
  obtain ⟨RA, Rc, rfl⟩ := own_slice_form hR.row
  generalize hts : byL who L = ts at *
  have Hts := Lib.hid hts
  clear hts
  have H2 := Lib.hid (And.intro hR hx)
  clear hR hx HB c0
  go_wp2_with fail
  go_loopw [8] (fun i W => ∃ j : Nat, j ≤ ts.length ∧ i = .int .i64 j ∧ (∀ t ∈ ts.take j, readR id st t = []) ∧ Ext (fun _ => False) w2 W) (fun i _ => ts.length - (intOf i).toNat)
  case atStart => exact ⟨0, by omega, rfl, fun t ht => by simp at ht, Ext.refl _ _⟩
  case round =>
    obtain ⟨j, hj, rfl, hall, hx⟩ := hrel
    by_cases hlt : j < ts.length
    case neg =>
      have hlt' : decide ((j : Int) < (ts.length : Int)) = false := by simp; omega
      have hje : j = ts.length := by omega
      subst hje
      rw [List.take_of_length_le (Nat.le_refl _)] at hall
      have HF := Lib.hid (And.intro (firstR_none hall) (H2.out.2.trans hx))
      clear hall hx
      go_wp2_with fail
      go_ret
      exact ⟨by rw [Hts.out, HF.out.1]; rfl, HF.out.2⟩
    have hlt' : decide ((j : Int) < (ts.length : Int)) = true := by simp; omega
    have hRw := H2.out.1.ext hx (fun _ _ => _root_.id) (own_from H2.out.1.row)
    obtain ⟨g, gc, u, hA, _, hcell, hu, _⟩ := rows_at hRw hlt
    obtain ⟨rfl, rfl⟩ : RA = some ⟨g, 0, none⟩ ∧ Rc = gc := by simpa using hA
    have hgw := own_below hRw.row g rfl
    have htl := hG' _ (List.getElem_mem hlt)
    have htk : ts.take (j + 1) = ts.take j ++ [ts[j]] := List.take_succ_eq_append_getElem hlt
    have hfa := fun hne => firstR_at (id := id) (st := st) hlt hall hne
    have hobj := (H.out.ext (H2.out.2.trans hx)).obj
    have d2 : wr.cell? ⟨a, 2, none⟩ = some (.int .i64 id) := cells_at hobj 2
    have haw := lt_of_heap hobj
    generalize ts[j] = t at *
    obtain ⟨UA, Uc, rfl, _, _⟩ := hu.form
    have HT := Lib.hid (dtakerow_walk hu (by omega))
    unfold TRPost at HT
    have HX := Lib.hid (And.intro hall (And.intro hx (And.intro htk (And.intro hfa hu))))
    have hnext : readR id st t = [] → ∀ t' ∈ ts.take (j + 1), readR id st t' = [] := fun h0 t' ht' => by
      rw [htk] at ht'
      rcases List.mem_append.1 ht' with ht' | ht'
      · exact hall t' ht'
      · simp at ht'; subst ht'; exact h0
    have HNx := Lib.hid hnext
    clear hRw hA hall hx htk hfa hu hobj hnext
    generalize hq : takeRow t = q at *
    obtain ⟨l, used, k⟩ := q
    have Hq := Lib.hid hq
    clear hq
    by_cases hk : k = 0
    case neg =>
      have hk1 : (k == 0) = false := by simpa using hk
      have HN0 := Lib.hid (read_none (id := id) (st := st) Hq.out (.inl hk))
      clear hk
      go_wp2_with fail
      refine HT.out.mono ?_
      rintro e w3 ⟨v3, vs3, rfl, hR3, hx3⟩
      obtain ⟨RB, Rb, rfl⟩ := own_slice_form hR3.row
      have hcell3 := cell_same hcell hx3
      have d23 : w3.cell? ⟨a, 2, none⟩ = some (.int .i64 id) := cell_same d2 hx3
      have hs3 := hx3.size
      have hg3 : g < w3.heap.size := by omega
      have ha3 : a < w3.heap.size := by omega
      have H3 := Lib.hid (HX.out.2.1.trans hx3)
      clear hR3 hx3 HT
      go_wp2_with fail
      refine wp_region_mix2 (Cls [g, a] _) [([0, 1, 2, 3, 4, 5, 6, 7, 8, 9, 10, 11, 12, 13, 14, 15, 16, 17, 18, 19, 20, 21, 22, 23, 24, 25, 26, 27, 28, 29], 30)] [] [31, 32, 33, 34, 35, 36, 37, 38, 39, 40] (by kernel_rfl) (by kernel_rfl) (Cls.refl _ _) ?_
      try dsimp only [wpMix, wpSegs, pick, List.getElem?_cons_zero, List.getElem?_cons_succ]
      generalize hz : Act.mk _ _ = z
      repeat (first | (refine wpQuiet_step (fun K hK => ?_); replace hK := Lib.hid hK; subst hz; go_simp; generalize hz : Act.mk _ _ = z; refine hK.out z ?_; clear hK K) | (refine wpQuiet_step (fun K hK => ?_); replace hK := Lib.hid hK; subst hz; refine iteSkip (by kernel_rfl) ?_; go_simp; generalize hz : Act.mk _ _ = z; refine hK.out z ?_; clear hK K))
      refine wpQuiet_nil ?_
      subst hz
      try dsimp only [NoPan]
      go_wp2_with fail
      refine ⟨Cls.refl _ _, Cls [g, a] w3.drew, fun w' hw' => hw', Cls.refl _ _, ?_⟩
      try dsimp only [wpMix, wpSegs, pick, List.getElem?_cons_zero, List.getElem?_cons_succ]
      generalize hz : Act.mk _ _ = z
      repeat (first | (refine wpQuiet_step (fun K hK => ?_); replace hK := Lib.hid hK; subst hz; go_simp; generalize hz : Act.mk _ _ = z; refine hK.out z ?_; clear hK K) | (refine wpQuiet_step (fun K hK => ?_); replace hK := Lib.hid hK; subst hz; refine iteSkip (by kernel_rfl) ?_; go_simp; generalize hz : Act.mk _ _ = z; refine hK.out z ?_; clear hK K))
      refine wpQuiet_nil ?_
      subst hz
      try dsimp only [NoPan]
      go_wp2_with fail
      exact ⟨⟨j + 1, by omega, by go_num, HNx.out HN0.out, H3.out.drew⟩, by simp [intOf]; omega⟩
    subst hk
    by_cases hused : used = t.length
    case neg =>
      have hu1 : (((used : Nat) : Int) == (t.length : Int)) = false := by simp; omega
      have hu2 : (used == t.length) = false := by simpa using hused
      have HN0 := Lib.hid (read_none (id := id) (st := st) Hq.out (.inr (.inl hused)))
      clear hused
      go_wp2_with fail
      refine HT.out.mono ?_
      rintro e w3 ⟨v3, vs3, rfl, hR3, hx3⟩
      obtain ⟨RB, Rb, rfl⟩ := own_slice_form hR3.row
      have hcell3 := cell_same hcell hx3
      have d23 : w3.cell? ⟨a, 2, none⟩ = some (.int .i64 id) := cell_same d2 hx3
      have hs3 := hx3.size
      have hg3 : g < w3.heap.size := by omega
      have ha3 : a < w3.heap.size := by omega
      have H3 := Lib.hid (HX.out.2.1.trans hx3)
      clear hR3 hx3 HT
      go_wp2_with fail
      refine wp_region_mix2 (Cls [g, a] _) [([0, 1, 2, 3, 4, 5, 6, 7, 8, 9, 10, 11, 12, 13, 14, 15, 16, 17, 18, 19, 20, 21, 22, 23, 24, 25, 26, 27, 28, 29], 30)] [] [31, 32, 33, 34, 35, 36, 37, 38, 39, 40] (by kernel_rfl) (by kernel_rfl) (Cls.refl _ _) ?_
      try dsimp only [wpMix, wpSegs, pick, List.getElem?_cons_zero, List.getElem?_cons_succ]
      generalize hz : Act.mk _ _ = z
      repeat (first | (refine wpQuiet_step (fun K hK => ?_); replace hK := Lib.hid hK; subst hz; go_simp; generalize hz : Act.mk _ _ = z; refine hK.out z ?_; clear hK K) | (refine wpQuiet_step (fun K hK => ?_); replace hK := Lib.hid hK; subst hz; refine iteSkip (by kernel_rfl) ?_; go_simp; generalize hz : Act.mk _ _ = z; refine hK.out z ?_; clear hK K))
      refine wpQuiet_nil ?_
      subst hz
      try dsimp only [NoPan]
      go_wp2_with fail
      refine ⟨Cls.refl _ _, Cls [g, a] w3.drew, fun w' hw' => hw', Cls.refl _ _, ?_⟩
      try dsimp only [wpMix, wpSegs, pick, List.getElem?_cons_zero, List.getElem?_cons_succ]
      generalize hz : Act.mk _ _ = z
      repeat (first | (refine wpQuiet_step (fun K hK => ?_); replace hK := Lib.hid hK; subst hz; go_simp; generalize hz : Act.mk _ _ = z; refine hK.out z ?_; clear hK K) | (refine wpQuiet_step (fun K hK => ?_); replace hK := Lib.hid hK; subst hz; refine iteSkip (by kernel_rfl) ?_; go_simp; generalize hz : Act.mk _ _ = z; refine hK.out z ?_; clear hK K))
      refine wpQuiet_nil ?_
      subst hz
      try dsimp only [NoPan]
      go_wp2_with fail
      exact ⟨⟨j + 1, by omega, by go_num, HNx.out HN0.out, H3.out.drew⟩, by simp [intOf]; omega⟩
    have hu1 : (((used : Nat) : Int) == (t.length : Int)) = true := by simp; omega
    have hu2 : (used == t.length) = true := by simpa using hused
    by_cases h4 : l.length = 4
    case neg =>
      have h41 : ((l.length : Int) == 4) = false := by rw [beq_eq_false_iff_ne]; omega
      have h42 : (l.length == 4) = false := by simpa using h4
      have HN0 := Lib.hid (read_none (id := id) (st := st) Hq.out (.inr (.inr (.inl h4))))
      clear h4 hused
      go_wp2_with fail
      refine HT.out.mono ?_
      rintro e w3 ⟨v3, vs3, rfl, hR3, hx3⟩
      obtain ⟨RB, Rb, rfl⟩ := own_slice_form hR3.row
      have hcell3 := cell_same hcell hx3
      have d23 : w3.cell? ⟨a, 2, none⟩ = some (.int .i64 id) := cell_same d2 hx3
      have hs3 := hx3.size
      have hg3 : g < w3.heap.size := by omega
      have ha3 : a < w3.heap.size := by omega
      have H3 := Lib.hid (HX.out.2.1.trans hx3)
      clear hR3 hx3 HT
      go_wp2_with fail
      refine wp_region_mix2 (Cls [g, a] _) [([0, 1, 2, 3, 4, 5, 6, 7, 8, 9, 10, 11, 12, 13, 14, 15, 16, 17, 18, 19, 20, 21, 22, 23, 24, 25, 26, 27, 28, 29], 30)] [] [31, 32, 33, 34, 35, 36, 37, 38, 39, 40] (by kernel_rfl) (by kernel_rfl) (Cls.refl _ _) ?_
      try dsimp only [wpMix, wpSegs, pick, List.getElem?_cons_zero, List.getElem?_cons_succ]
      generalize hz : Act.mk _ _ = z
      repeat (first | (refine wpQuiet_step (fun K hK => ?_); replace hK := Lib.hid hK; subst hz; go_simp; generalize hz : Act.mk _ _ = z; refine hK.out z ?_; clear hK K) | (refine wpQuiet_step (fun K hK => ?_); replace hK := Lib.hid hK; subst hz; refine iteSkip (by kernel_rfl) ?_; go_simp; generalize hz : Act.mk _ _ = z; refine hK.out z ?_; clear hK K))
      refine wpQuiet_nil ?_
      subst hz
      try dsimp only [NoPan]
      go_wp2_with fail
      refine ⟨Cls.refl _ _, Cls [g, a] w3.drew, fun w' hw' => hw', Cls.refl _ _, ?_⟩
      try dsimp only [wpMix, wpSegs, pick, List.getElem?_cons_zero, List.getElem?_cons_succ]
      generalize hz : Act.mk _ _ = z
      repeat (first | (refine wpQuiet_step (fun K hK => ?_); replace hK := Lib.hid hK; subst hz; go_simp; generalize hz : Act.mk _ _ = z; refine hK.out z ?_; clear hK K) | (refine wpQuiet_step (fun K hK => ?_); replace hK := Lib.hid hK; subst hz; refine iteSkip (by kernel_rfl) ?_; go_simp; generalize hz : Act.mk _ _ = z; refine hK.out z ?_; clear hK K))
      refine wpQuiet_nil ?_
      subst hz
      try dsimp only [NoPan]
      go_wp2_with fail
      exact ⟨⟨j + 1, by omega, by go_num, HNx.out HN0.out, H3.out.drew⟩, by simp [intOf]; omega⟩
    clear hused
    go_wp2_with fail
    refine HT.out.mono ?_
    rintro e w3 ⟨v3, vs3, rfl, hR3, hx3⟩
    obtain ⟨RB, Rb, rfl⟩ := own_slice_form hR3.row
    have hcell3 := cell_same hcell hx3
    have d23 : w3.cell? ⟨a, 2, none⟩ = some (.int .i64 id) := cell_same d2 hx3
    have hs3 := hx3.size
    have hg3 : g < w3.heap.size := by omega
    have ha3 : a < w3.heap.size := by omega
    obtain ⟨gB, gb, u3, hBv, _, hcellB, hu3, _⟩ := rows_at hR3 (i := 3) (by omega)
    obtain ⟨rfl, rfl⟩ : RB = some ⟨gB, 0, none⟩ ∧ Rb = gb := by simpa using hBv
    have hgB := own_below hR3.row gB rfl
    obtain ⟨A3, c3, hf3, _, _⟩ := hu3.formP
    subst hf3
    have hl3 : l.getD 3 [] = l[3] := by rw [List.getD_eq_getElem?_getD, List.getElem?_eq_getElem (by omega)]; rfl
    have hsome := fun he => read_some (id := id) (st := st) Hq.out h4 he
    have hnone1 := fun he => read_none Hq.out (id := id) (st := st) (.inr (.inr (.inr (.inl he))))
    have hnone2 := fun he => read_none Hq.out (id := id) (st := st) (.inr (.inr (.inr (.inr he))))
    rw [hl3] at hsome hnone1 hnone2
    have hl3n : (l[3]).length ≤ 65536 := by
      have := takeRow_len t l[3]
      rw [Hq.out] at this
      exact this (List.getElem_mem _)
    generalize l[3] = l3 at *
    have HLaw := Lib.hid (And.intro hsome (And.intro hnone1 hnone2))
    have hut := HX.out.2.2.2.2.ext hx3 fun _ _ => _root_.id
    rcases hut.byt0 with ⟨he, _⟩ | ⟨gU, cU, hUe, _⟩
    · have := Hq.out
      rw [he] at this
      exact absurd (show (3 : Int) = 0 from congrArg (fun q => q.2.2) this) (by decide)
    obtain ⟨rfl, rfl⟩ : UA = some ⟨gU, 0, none⟩ ∧ Uc = cU := by simpa using hUe
    have hgU := hut.lt gU rfl
    have hcu : ∀ W : World, W.heap[gU]? = w3.heap[gU]? → (convert 33 9 (.slice (some ⟨gU, 0, none⟩) t.length Uc)).run Try.prog W = .ok (str t) W := hut.byt.conv 33 5 9 Try.underlying33 Try.underlying5 Try.underlying9
    have HU3 := Lib.hid (And.intro hu3 (And.intro hut (HX.out.2.1.trans hx3)))
    have HRp := Lib.hid (dreply_walk (hu3.byt.same ((Ext.refl (fun _ => False) w3).drew)) id st)
    clear hsome hnone1 hnone2 hl3 hBv hR3 hx3 HT hu3 hut hUe
    have HD : ∀ b ∈ [g, a, gB, gU], b < w3.drew.heap.size := by
      intro b hb
      simp only [List.mem_cons, List.not_mem_nil, or_false] at hb
      rcases hb with rfl | rfl | rfl | rfl
      · exact hg3
      · exact ha3
      · exact hgB
      · exact hgU
    have HDh := Lib.hid HD
    clear HD
    rw [h4]
    go_wp2_with fail
    refine wp_region_mix2 (Cls [g, a, gB, gU] _) [([0, 1, 2, 3, 4, 5, 6, 7, 8, 9, 10, 11, 12, 13, 14, 15, 16, 17, 18, 19, 20, 21, 22, 23, 24, 25, 26, 27, 28, 29], 30)] [] [31, 32, 33, 34, 35, 36, 37, 38, 39, 40] (by kernel_rfl) (by kernel_rfl) (Cls.refl _ _) ?_
    try dsimp only [wpMix, wpSegs, pick, List.getElem?_cons_zero, List.getElem?_cons_succ]
    generalize hz : Act.mk _ _ = z
    repeat (first | (refine wpQuiet_step (fun K hK => ?_); replace hK := Lib.hid hK; subst hz; go_simp; generalize hz : Act.mk _ _ = z; refine hK.out z ?_; clear hK K) | (refine wpQuiet_step (fun K hK => ?_); replace hK := Lib.hid hK; subst hz; refine iteSkip (by kernel_rfl) ?_; go_simp; generalize hz : Act.mk _ _ = z; refine hK.out z ?_; clear hK K))
    refine wpQuiet_nil ?_
    subst hz
    try dsimp only [NoPan]
    go_wp2_with fail
    refine HRp.out.mono ?_
    rintro e w5 ⟨v5, rfl, h5⟩
    rcases h5.own.byt0 with ⟨he, hv5⟩ | ⟨g5, c5, hv5, _⟩
    · exact absurd he (replyB_ne hl3n)
    subst hv5
    have hg5 := h5.own.lt g5 rfl
    have hcr : ∀ W : World, W.heap[g5]? = w5.heap[g5]? → (convert 33 9 (.slice (some ⟨g5, 0, none⟩) (replyB id st l3).length c5)).run Try.prog W = .ok (str (replyB id st l3)) W := h5.own.byt.conv 33 5 9 Try.underlying33 Try.underlying5 Try.underlying9
    have hcB5 := cell_same hcellB ((Ext.refl (fun _ => False) w3).drew.trans h5.ext)
    have hs5 := h5.ext.size
    have hgB5 : gB < w5.heap.size := Nat.lt_of_lt_of_le (HDh.out gB (by simp)) hs5
    have hc5 : Cls [g, a, gB, gU] w3.drew w5 := Cls.of_ext h5.ext fun b hb => ⟨HDh.out b hb, _root_.id⟩
    have hcv3 := (HU3.out.1.ext ((Ext.refl (fun _ => False) w3).drew.trans h5.ext) fun _ _ => _root_.id).byt.conv 33 5 9 Try.underlying33 Try.underlying5 Try.underlying9 w5 rfl
    have H5 := Lib.hid (And.intro hc5 (HU3.out.2.2.drew.trans h5.ext))
    have hbe : ((⟨t.toArray⟩ : ByteArray) == ⟨(replyB id st l3).toArray⟩) = decide (t = replyB id st l3) := str_eq _ _
    clear h5 hc5 hs5
    go_wp2_with fail
    refine ⟨H5.out.1, Cls [g, a, gB, gU, g5] w5, fun w' hw' => H5.out.1.sub (by simp only [List.mem_cons, List.not_mem_nil, or_false]; intro b hb; rcases hb with rfl | rfl | rfl | rfl <;> simp) hw', Cls.refl _ _, ?_⟩
    by_cases heq : t = replyB id st l3
    · have hd : decide (t = replyB id st l3) = true := by simpa using heq
      have hd2 : (t == replyB id st l3) = true := by simpa using heq
      rw [hd] at hbe
      by_cases hl0 : l3 = []
      · have hn0 : decide (0 < (l3.length : Int)) = false := by rw [hl0]; rfl
        have hn1 : decide (0 < l3.length) = false := by rw [hl0]; rfl
        have HN0 := Lib.hid (HLaw.out.2.2 hl0)
        clear heq hd hl0
        try dsimp only [wpMix, wpSegs, pick, List.getElem?_cons_zero, List.getElem?_cons_succ]
        generalize hz : Act.mk _ _ = z
        repeat (first | (refine wpQuiet_step (fun K hK => ?_); replace hK := Lib.hid hK; subst hz; go_simp; generalize hz : Act.mk _ _ = z; refine hK.out z ?_; clear hK K) | (refine wpQuiet_step (fun K hK => ?_); replace hK := Lib.hid hK; subst hz; refine iteSkip (by kernel_rfl) ?_; go_simp; generalize hz : Act.mk _ _ = z; refine hK.out z ?_; clear hK K))
        refine wpQuiet_nil ?_
        subst hz
        try dsimp only [NoPan]
        go_wp2_with fail
        exact ⟨⟨j + 1, by omega, by go_num, HNx.out HN0.out, H5.out.2⟩, by simp [intOf]; omega⟩
      · have hp0 := List.length_pos_iff.2 hl0
        have hn0 : decide (0 < (l3.length : Int)) = true := by simp; omega
        have hn1 : decide (0 < l3.length) = true := by simpa using hp0
        have hrd := HLaw.out.1 heq
        have HRes := Lib.hid (show firstR id st ts = l3 by rw [HX.out.2.2.2.1 (by rw [hrd]; exact hl0), hrd])
        clear heq hd hl0 hrd
        try dsimp only [wpMix, wpSegs, pick, List.getElem?_cons_zero, List.getElem?_cons_succ]
        generalize hz : Act.mk _ _ = z
        repeat (first | (refine wpQuiet_step (fun K hK => ?_); replace hK := Lib.hid hK; subst hz; go_simp; generalize hz : Act.mk _ _ = z; refine hK.out z ?_; clear hK K) | (refine wpQuiet_step (fun K hK => ?_); replace hK := Lib.hid hK; subst hz; refine iteSkip (by kernel_rfl) ?_; go_simp; generalize hz : Act.mk _ _ = z; refine hK.out z ?_; clear hK K))
        refine wpQuiet_nil ?_
        subst hz
        try dsimp only [NoPan]
        go_wp2_with fail
        go_ret
        exact ⟨by rw [Hts.out, HRes.out]; rfl, H2.out.2.trans H5.out.2⟩
    · have hd : decide (t = replyB id st l3) = false := by simpa using heq
      have hd2 : (t == replyB id st l3) = false := by simpa using heq
      have HN0 := Lib.hid (HLaw.out.2.1 heq)
      rw [hd] at hbe
      clear heq hd
      try dsimp only [wpMix, wpSegs, pick, List.getElem?_cons_zero, List.getElem?_cons_succ]
      generalize hz : Act.mk _ _ = z
      repeat (first | (refine wpQuiet_step (fun K hK => ?_); replace hK := Lib.hid hK; subst hz; go_simp; generalize hz : Act.mk _ _ = z; refine hK.out z ?_; clear hK K) | (refine wpQuiet_step (fun K hK => ?_); replace hK := Lib.hid hK; subst hz; refine iteSkip (by kernel_rfl) ?_; go_simp; generalize hz : Act.mk _ _ = z; refine hK.out z ?_; clear hK K))
      refine wpQuiet_nil ?_
      subst hz
      try dsimp only [NoPan]
      go_wp2_with fail
      exact ⟨⟨j + 1, by omega, by go_num, HNx.out HN0.out, H5.out.2⟩, by simp [intOf]; omega⟩
end Go.Proofs.Ytcedpdjjjfdbiaa
