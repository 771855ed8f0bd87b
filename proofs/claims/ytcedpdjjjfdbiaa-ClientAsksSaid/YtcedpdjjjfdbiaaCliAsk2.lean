/- A request is read back: the document's; no condition. -/
import Derived.Test.YtcedpdjjjfdbiaaCliAsk1
namespace Go.Proofs.Ytcedpdjjjfdbiaa
set_option linter.unusedVariables false
set_option linter.unusedSimpArgs false
open Go.RowKit
theorem askI_take {id st : Int} {txt : Bs} (h : rightQ id st txt = true) : takeRow (askI id st txt) = ([beB id 8, beB st 8, txt], (askI id st txt).length, 0) := by
  have := right_len h
  refine takeRow_rowB (by simp) fun l hl => ?_
  simp only [List.mem_cons, List.not_mem_nil, or_false] at hl
  rcases hl with rfl | rfl | rfl
  · rw [beB_len]; omega
  · rw [beB_len]; omega
  · omega
theorem askB_take {id st : Int} {txt : Bs} (h : rightQ id st txt = true) : takeRow (askB id st txt) = ([requestN, askI id st txt], (askB id st txt).length, 0) := by
  have := askI_len h
  refine takeRow_rowB (by simp) fun l hl => ?_
  simp only [List.mem_cons, List.not_mem_nil, or_false] at hl
  rcases hl with rfl | rfl
  · decide
  · omega
theorem askB_len {id st : Int} {txt : Bs} (h : rightQ id st txt = true) : (askB id st txt).length ≤ 4096 ∧ 0 < (askB id st txt).length := by
  have := askI_len h
  simp only [askB, rowB, List.length_append, List.flatMap_cons, List.flatMap_nil, blobB_len, beB_len, List.length_nil]
  have : requestN.length = 7 := rfl
  omega
theorem three_set {w : World} {b : Nat} {x0 x1 x2 a0 a1 a2 : Value} {t : TypeId} {fr : Nat × Nat} (h : w.heap[b]? = some (.cells #[x0, x1, x2] t fr)) :
    (((w.setCell ⟨b, 0, none⟩ a0).setCell ⟨b, 1, none⟩ a1).setCell ⟨b, 2, none⟩ a2).heap[b]? = some (.cells #[a0, a1, a2] t fr) := by
  rw [heap_setCell_self (heap_setCell_self (heap_setCell_self h))]
  rfl
theorem three_ext {w0 w : World} {b : Nat} {a0 a1 a2 : Value} (h : Ext (fun _ => False) w0 w) (hb : w0.heap.size ≤ b) : Ext (fun _ => False) w0 (((w.setCell ⟨b, 0, none⟩ a0).setCell ⟨b, 1, none⟩ a1).setCell ⟨b, 2, none⟩ a2) :=
  ((h.setCell (a := ⟨b, 0, none⟩) (.inr hb) _).setCell (a := ⟨b, 1, none⟩) (.inr hb) _).setCell (a := ⟨b, 2, none⟩) (.inr hb) _
set_option maxRecDepth 100000 in
set_option maxHeartbeats 1000000 in
theorem dparse_walk {w : World} {v : Value} {i s : Nat} {txt : Bs} (hq : rightQ i s txt = true) (hb : OwnB w v (askI i s txt)) :
    Calls Try.prog 44 #[v] w fun e w' => e = .returned (.tuple #[reqV i s txt, .int .i64 0]) ∧ Ext (fun _ => False) w w' := by
  have hx0 := (Ext.refl (fun _ => False) w).alloc (.cells #[.int .i64 0, .int .i64 0, .string ByteArray.empty] 65)
  have hob := heap_alloc_self w (.cells #[.int .i64 0, .int .i64 0, .string ByteArray.empty] 65)
  have hil : i ≤ 8 ∧ s ≤ 1099511627776 := by
    simp [rightQ] at hq
    omega
  have HW := Lib.hid (drowof_walk (hb.ext hx0 fun _ _ => _root_.id) (by have := askI_len hq; omega) (askI_take hq) rfl)
  obtain ⟨A, c, rfl, _, _⟩ := hb.form
  have H0 := Lib.hid (And.intro hx0 (And.intro hob hq))
  have hRt := fun w => Lib.hid (dright_walk (w := w) i s txt)
  rw [hq] at hRt
  clear hb hx0 hob hq
  go_enter Try.func44, Try.ntmps44
  go_wp2_with fail
  refine HW.out.mono ?_
  rintro e w2 ⟨v', vs, rfl, hR, hx⟩
  obtain ⟨g, gc, u0, hv', _, hc0, hu0, _⟩ := rows_at hR (i := 0) (by simp)
  obtain ⟨g1, gc1, u1, hv1, _, hc1, hu1, _⟩ := rows_at hR (i := 1) (by simp)
  obtain ⟨g2, gc2, u2, hv2, _, hc2, hu2, _⟩ := rows_at hR (i := 2) (by simp)
  obtain ⟨rfl, rfl⟩ : g = g1 ∧ gc = gc1 := by rw [hv'] at hv1; simpa using hv1
  obtain ⟨rfl, rfl⟩ : g = g2 ∧ gc = gc2 := by rw [hv'] at hv2; simpa using hv2
  subst hv'
  have hcv := hu2.byt.conv 33 5 9 Try.underlying33 Try.underlying5 Try.underlying9 w2 rfl
  have HU := Lib.hid (And.intro hu0 (And.intro hu1 hx))
  have hb2 := hx.heap H0.out.2.1 _root_.id
  clear hR hx hu0 hu1 hu2 hv1 hv2
  go_wp2_with fail
  refine (dnumof_walk (by omega) HU.out.1.byt).mono ?_
  rintro e _ ⟨rfl, rfl⟩
  go_wp2_with fail
  refine (dnumof_walk (by omega) HU.out.2.1.byt).mono ?_
  rintro e _ ⟨rfl, rfl⟩
  go_wp2_with fail
  have hx3 := (Ext.refl (fun _ => False) w2).alloc (Obj.cells #[.int .i64 i, .int .i64 s, str txt] 65)
  have ho3 := heap_alloc_self w2 (Obj.cells #[.int .i64 i, .int .i64 s, str txt] 65)
  have hb3 := hx3.heap hb2 _root_.id
  refine (hRt _).out.mono ?_
  rintro e w4 ⟨rfl, hx4⟩
  have ho4 := hx4.heap ho3 _root_.id
  have hb4 := hx4.heap hb3 _root_.id
  have q0 : w4.cell? ⟨w2.heap.size, 0, none⟩ = some (.int .i64 i) := cells_at ho4 0
  have q1 : w4.cell? ⟨w2.heap.size, 1, none⟩ = some (.int .i64 s) := cells_at ho4 1
  have q2 : w4.cell? ⟨w2.heap.size, 2, none⟩ = some (str txt) := cells_at ho4 2
  have r0 : w4.cell? ⟨w.heap.size, 0, none⟩ = some (.int .i64 0) := cells_at hb4 0
  have r1 : w4.cell? ⟨w.heap.size, 1, none⟩ = some (.int .i64 0) := cells_at hb4 1
  have r2 : w4.cell? ⟨w.heap.size, 2, none⟩ = some (.string ByteArray.empty) := cells_at hb4 2
  have f0 : w4.frozen? ⟨w.heap.size, 0, none⟩ = false := by simp [World.frozen?, hb4]
  have f1 : w4.frozen? ⟨w.heap.size, 1, none⟩ = false := by simp [World.frozen?, hb4]
  have f2 : w4.frozen? ⟨w.heap.size, 2, none⟩ = false := by simp [World.frozen?, hb4]
  have H4 := Lib.hid (And.intro hb4 (((H0.out.1.trans HU.out.2.2).trans hx3).trans hx4))
  clear hx3 ho3 hb3 hx4 ho4 hb4 hb2
  go_wp2_with fail
  refine bodyPost_ret (results_cell_tmp rfl _ _ w.heap.size 65 _ (0, 0) _ rfl (three_set H4.out.1) Try.underlying65 rfl (by kernel_rfl)) rfl ?_
  exact ⟨rfl, three_ext H4.out.2 (Nat.le_refl _)⟩
set_option maxRecDepth 100000 in
set_option maxHeartbeats 2000000 in
theorem dreq_walk {w : World} {v : Value} {i s : Nat} {txt : Bs} (hq : rightQ i s txt = true) (hb : OwnB w v (askB i s txt)) :
    Calls Try.prog 27 #[v] w fun e w' => e = .returned (.tuple #[reqV i s txt, .bool true]) ∧ Ext (fun _ => False) w w' := by
  have hx0 := (Ext.refl (fun _ => False) w).alloc (.cells #[.int .i64 0, .int .i64 0, .string ByteArray.empty] 65)
  have hob := heap_alloc_self w (.cells #[.int .i64 0, .int .i64 0, .string ByteArray.empty] 65)
  have HW := Lib.hid (dtakerow_walk (hb.ext hx0 fun _ _ => _root_.id) (by have := (askB_len hq).1; omega))
  unfold TRPost at HW
  rw [askB_take hq] at HW
  have hpos := (askB_len hq).2
  rcases hb.byt0 with ⟨he, _⟩ | ⟨gA, c, rfl, _⟩
  · rw [he] at hpos
    simp at hpos
  have hgA := hb.lt gA rfl
  have HT := fun w => Lib.hid (dtext_walk (w := w) i s txt)
  rw [hq] at HT
  have H0 := Lib.hid (And.intro hx0 (And.intro hob (And.intro hq hb)))
  clear hb hx0 hob hq
  go_enter Try.func27, Try.ntmps27
  go_wp2_with fail
  refine HW.out.mono ?_
  rintro e w2 ⟨v', vs, rfl, hR, hx⟩
  obtain ⟨g, gc, u0, hv', _, hc0, hu0, _⟩ := rows_at hR (i := 0) (by simp)
  obtain ⟨g1, gc1, u1, hv1, _, hc1, hu1, _⟩ := rows_at hR (i := 1) (by simp)
  obtain ⟨rfl, rfl⟩ : g = g1 ∧ gc = gc1 := by rw [hv'] at hv1; simpa using hv1
  subst hv'
  have hcv : (convert 33 9 u0).run Try.prog w2 = .ok (.string ⟨#[114, 101, 113, 117, 101, 115, 116]⟩) w2 := hu0.byt.conv 33 5 9 Try.underlying33 Try.underlying5 Try.underlying9 w2 rfl
  have HP := Lib.hid (dparse_walk H0.out.2.2.1 hu1)
  have hb2 := hx.heap H0.out.2.1 _root_.id
  have H2 := Lib.hid hx
  clear hR hx hu0 hu1 hv1
  go_wp2_with fail
  refine HP.out.mono ?_
  rintro e w3 ⟨rfl, hx3⟩
  have hb3 := hx3.heap hb2 _root_.id
  have H3 := Lib.hid hx3
  clear hb2 hx3 hcv
  go_wp2_with fail
  have hx4 := (Ext.refl (fun _ => False) w3).alloc (Obj.cells #[.int .i64 i, .int .i64 s, str txt] 65)
  have ho4 := heap_alloc_self w3 (Obj.cells #[.int .i64 i, .int .i64 s, str txt] 65)
  have hb4 := hx4.heap hb3 _root_.id
  refine (HT _).out.mono ?_
  rintro e w5 ⟨v5, rfl, h5⟩
  rcases h5.own.byt0 with ⟨he, _⟩ | ⟨g5, c5, hf5, _⟩
  · rw [he] at hpos
    simp at hpos
  subst hf5
  have hg5 := h5.own.lt g5 rfl
  have hn5 : (w3.alloc (Obj.cells #[.int .i64 i, .int .i64 s, str txt] 65)).heap.size ≤ g5 := h5.new g5 rfl
  have hw3 := hx4.size
  have ho5 := h5.ext.heap ho4 _root_.id
  have hb5 := h5.ext.heap hb4 _root_.id
  have hx05 := (((H0.out.1.trans H2.out).trans H3.out).trans hx4).trans h5.ext
  have q0 : w5.cell? ⟨w3.heap.size, 0, none⟩ = some (.int .i64 i) := cells_at ho5 0
  have q1 : w5.cell? ⟨w3.heap.size, 1, none⟩ = some (.int .i64 s) := cells_at ho5 1
  have q2 : w5.cell? ⟨w3.heap.size, 2, none⟩ = some (str txt) := cells_at ho5 2
  have hcv1 : ∀ W : World, W.heap[g5]? = w5.heap[g5]? → (convert 33 9 (.slice (some ⟨g5, 0, none⟩) (askB i s txt).length c5)).run Try.prog W = .ok (str (askB i s txt)) W := h5.own.byt.conv 33 5 9 Try.underlying33 Try.underlying5 Try.underlying9
  have hcv2 : ∀ W : World, W.heap[gA]? = w5.heap[gA]? → (convert 33 9 (.slice (some ⟨gA, 0, none⟩) (askB i s txt).length c)).run Try.prog W = .ok (str (askB i s txt)) W := (H0.out.2.2.2.ext hx05 fun _ _ => _root_.id).byt.conv 33 5 9 Try.underlying33 Try.underlying5 Try.underlying9
  have hk5 := lt_of_heap ho5
  have r0 : w5.drew.cell? ⟨w.heap.size, 0, none⟩ = some (.int .i64 0) := cells_at hb5 0
  have r1 : w5.drew.cell? ⟨w.heap.size, 1, none⟩ = some (.int .i64 0) := cells_at hb5 1
  have r2 : w5.drew.cell? ⟨w.heap.size, 2, none⟩ = some (.string ByteArray.empty) := cells_at hb5 2
  have f0 : w5.drew.frozen? ⟨w.heap.size, 0, none⟩ = false := by simp [World.frozen?, hb5, heap_drew]
  have f1 : w5.drew.frozen? ⟨w.heap.size, 1, none⟩ = false := by simp [World.frozen?, hb5, heap_drew]
  have f2 : w5.drew.frozen? ⟨w.heap.size, 2, none⟩ = false := by simp [World.frozen?, hb5, heap_drew]
  have p0 : w5.cell? ⟨w.heap.size, 0, none⟩ = some (.int .i64 0) := cells_at hb5 0
  have p1 : w5.cell? ⟨w.heap.size, 1, none⟩ = some (.int .i64 0) := cells_at hb5 1
  have p2 : w5.cell? ⟨w.heap.size, 2, none⟩ = some (.string ByteArray.empty) := cells_at hb5 2
  have g0 : w5.frozen? ⟨w.heap.size, 0, none⟩ = false := by simp [World.frozen?, hb5, heap_drew]
  have g1 : w5.frozen? ⟨w.heap.size, 1, none⟩ = false := by simp [World.frozen?, hb5, heap_drew]
  have g2 : w5.frozen? ⟨w.heap.size, 2, none⟩ = false := by simp [World.frozen?, hb5, heap_drew]
  have hs05 : w.heap.size < w3.heap.size := lt_of_heap hb3
  have hgA5 : gA < w5.heap.size := by omega
  have H5 := Lib.hid (And.intro hx05 hb5)
  clear h5 hx05 hx4 ho4 hb4 hb3 ho5 hb5
  go_wp2_with fail
  refine wp_region_mix (Cls [w3.heap.size, g5, gA] _) [([0, 1, 2, 3, 4, 5, 6, 7, 8, 9, 10, 11, 12, 13], 14)] [15] (by kernel_rfl) (by kernel_rfl) (Cls.refl _ _) ?_
  try dsimp only [wpMix, wpSegs, pick, List.getElem?_cons_zero, List.getElem?_cons_succ]
  generalize hz : Act.mk _ _ = z
  repeat (first | (refine wpQuiet_step (fun K hK => ?_); replace hK := Lib.hid hK; subst hz; go_simp; generalize hz : Act.mk _ _ = z; refine hK.out z ?_; clear hK K) | (refine wpQuiet_step (fun K hK => ?_); replace hK := Lib.hid hK; subst hz; refine iteSkip (by kernel_rfl) ?_; go_simp; generalize hz : Act.mk _ _ = z; refine hK.out z ?_; clear hK K))
  refine wpQuiet_nil ?_
  subst hz
  try dsimp only [NoPan]
  go_wp2_with fail
  have hset : Ext (· = w.heap.size) w5.drew ((((w5.setCell ⟨w.heap.size, 0, none⟩ (.int .i64 i)).setCell ⟨w.heap.size, 1, none⟩ (.int .i64 s)).setCell ⟨w.heap.size, 2, none⟩ (str txt)).drew) :=
    have h := (((Ext.refl (· = w.heap.size) w5).setCell (a := ⟨w.heap.size, 0, none⟩) (.inl rfl) (.int .i64 i)).setCell (a := ⟨w.heap.size, 1, none⟩) (.inl rfl) (.int .i64 s)).setCell (a := ⟨w.heap.size, 2, none⟩) (.inl rfl) (str txt)
    ⟨h.os, h.tape, h.output, h.size, h.block⟩
  refine ⟨Cls.of_ext hset fun q hq => ?_, ?_⟩
  · simp only [List.mem_cons, List.not_mem_nil, or_false] at hq
    rcases hq with rfl | rfl | rfl
    · exact ⟨hk5, by omega⟩
    · exact ⟨hg5, by omega⟩
    · exact ⟨hgA5, by omega⟩
  have HF := Lib.hid (And.intro (three_set (a0 := .int .i64 i) (a1 := .int .i64 s) (a2 := str txt) H5.out.2) (three_ext (a0 := .int .i64 i) (a1 := .int .i64 s) (a2 := str txt) (b := w.heap.size) H5.out.1 (Nat.le_refl _)))
  clear hset
  try dsimp only [wpMix, wpSegs, pick, List.getElem?_cons_zero, List.getElem?_cons_succ]
  generalize hz : Act.mk _ _ = z
  repeat (first | (refine wpQuiet_step (fun K hK => ?_); replace hK := Lib.hid hK; subst hz; go_simp; generalize hz : Act.mk _ _ = z; refine hK.out z ?_; clear hK K) | (refine wpQuiet_step (fun K hK => ?_); replace hK := Lib.hid hK; subst hz; refine iteSkip (by kernel_rfl) ?_; go_simp; generalize hz : Act.mk _ _ = z; refine hK.out z ?_; clear hK K))
  refine wpQuiet_nil ?_
  subst hz
  try dsimp only [NoPan]
  go_wp2_with fail
  refine bodyPost_ret (results_cell_tmp rfl _ _ w.heap.size 65 _ (0, 0) _ rfl (show ((((w5.setCell ⟨w.heap.size, 0, none⟩ (.int .i64 i)).setCell ⟨w.heap.size, 1, none⟩ (.int .i64 s)).setCell ⟨w.heap.size, 2, none⟩ (str txt)).drew).heap[w.heap.size]? = _ from HF.out.1) Try.underlying65 rfl (by kernel_rfl)) rfl ?_
  exact ⟨rfl, HF.out.2.drew⟩
end Go.Proofs.Ytcedpdjjjfdbiaa
