/- All: the entries, in other memory; no condition. -/
import Derived.Test.YtoflfhjeabpcjaaTrieIter1
import Derived.Test.YtoflfhjeabpcjaaTrieMade
import Derived.Test.YtoflfhjeabpcjaaTrieSide
namespace Go.Proofs.Ytoflfhjeabpcjaa
set_option linter.unusedVariables false
set_option linter.unusedSimpArgs false
open Go.RowKit Go.Shelf
attribute [local go_sem] Oper.semAt_some

/-- A row of entries of one's own, each with bytes of its own. -/
structure OwnF (N : Nat) (D : Nat → Prop) (w : World) (ov : Value) (vs : List (Value × Value)) (l : List (Bs × Bs)) : Prop where
  len : vs.length = l.length
  row : w.ownsRow N 24 2 ov l.length (vs.flatMap fun p => [p.1, p.2])
  rowD : ∀ k, ov.ownBlock = some k → D k
  ent : ∀ (i : Nat) (p : Value × Value) (e : Bs × Bs), vs[i]? = some p → l[i]? = some e → OwnB w p.1 e.1 ∧ OwnB w p.2 e.2
  from_ : ∀ (i : Nat) (p : Value × Value), vs[i]? = some p → (∀ q, p.1.ownBlock = some q → N ≤ q ∧ D q) ∧ (∀ q, p.2.ownBlock = some q → N ≤ q ∧ D q ∧ p.1.ownBlock ≠ some q)
theorem OwnF.nil (N : Nat) (D : Nat → Prop) (w : World) : OwnF N D w (.slice none 0 0) [] [] := ⟨rfl, ⟨rfl, .inl ⟨rfl, rfl⟩⟩, fun k hk => by simp [Value.ownBlock] at hk, by simp, by simp⟩
theorem OwnF.form {N : Nat} {D : Nat → Prop} {w : World} {ov : Value} {vs : List (Value × Value)} {l : List (Bs × Bs)} (h : OwnF N D w ov vs l) : ∃ A c, ov = .slice A l.length c := own_form h.row
theorem OwnF.ext {N : Nat} {D F : Nat → Prop} {w w' : World} {ov : Value} {vs : List (Value × Value)} {l : List (Bs × Bs)} (h : OwnF N D w ov vs l) (hx : Ext F w w') (hF : ∀ k, D k → ¬ F k) : OwnF N D w' ov vs l := by
  refine ⟨h.len, own_ext h.row hx fun k hk => hF k (h.rowD k hk), h.rowD, fun i p e hp he => ?_, h.from_⟩
  obtain ⟨h1, h2⟩ := h.ent i p e hp he
  obtain ⟨f1, f2⟩ := h.from_ i p hp
  exact ⟨h1.ext hx fun k hk => hF k (f1 k hk).2, h2.ext hx fun k hk => hF k (f2 k hk).2.1⟩
/-- A block of bytes is no row of entries. -/
theorem OwnB.not_row {w : World} {v ov : Value} {b : Bs} {N n : Nat} {xs : List Value} (h : OwnB w v b) (hr : w.ownsRow N 24 2 ov n xs) : ∀ q, v.ownBlock = some q → ov.ownBlock ≠ some q := by
  intro q hq ho
  obtain ⟨cs, fr, hc⟩ := h.ty q hq
  rcases hr.2 with ⟨rfl, _⟩ | ⟨g, cap, cur, rfl, _, hg, _⟩
  · simp [Value.ownBlock] at ho
  · simp only [Value.ownBlock, Option.some.injEq] at ho
    subst ho
    rw [hg] at hc
    simp only [Option.some.injEq, Obj.cells.injEq] at hc
    exact absurd hc.2.1 (by decide)
theorem OwnF.snoc {N : Nat} {D D' : Nat → Prop} {w w1 : World} {ov ov' a b : Value} {vs : List (Value × Value)} {l : List (Bs × Bs)} {k v : Bs} (h : OwnF N D w ov vs l) (hx : Ext (fun q => ov.ownBlock = some q) w w1)
    (hr : w1.ownsRow N 24 2 ov' (l.length + 1) ((vs.flatMap fun p => [p.1, p.2]) ++ [a, b])) (ha : OwnB w a k) (hb : OwnB w b v) (hD : ∀ q, D q → D' q) (hD1 : ∀ q, ov'.ownBlock = some q → D' q) (hD2 : ∀ q, a.ownBlock = some q → N ≤ q ∧ D' q) (hD3 : ∀ q, b.ownBlock = some q → N ≤ q ∧ D' q ∧ a.ownBlock ≠ some q) :
    OwnF N D' w1 ov' (vs ++ [(a, b)]) (l ++ [(k, v)]) := by
  refine ⟨by simp [h.len], by simpa using hr, hD1, fun i p e hp he => ?_, fun i p hp => ?_⟩
  · have hne : ∀ (u : Value) (x : Bs), OwnB w u x → OwnB w1 u x := fun u x hu => hu.ext hx fun q hq => hu.not_row h.row q hq
    by_cases hi : i < l.length
    · rw [List.getElem?_append_left (by rw [h.len]; exact hi)] at hp
      rw [List.getElem?_append_left hi] at he
      obtain ⟨h1, h2⟩ := h.ent i p e hp he
      exact ⟨hne _ _ h1, hne _ _ h2⟩
    · have hi' : i = l.length := by
        have := (List.getElem?_eq_some_iff.1 he).1
        simp at this
        omega
      subst hi'
      rw [← h.len] at hp
      simp only [List.getElem?_concat_length, Option.some.injEq] at hp he
      subst hp he
      exact ⟨hne _ _ ha, hne _ _ hb⟩
  · by_cases hi : i < vs.length
    · rw [List.getElem?_append_left hi] at hp
      obtain ⟨f1, f2⟩ := h.from_ i p hp
      exact ⟨fun q hq => ⟨(f1 q hq).1, hD q (f1 q hq).2⟩, fun q hq => ⟨(f2 q hq).1, hD q (f2 q hq).2.1, (f2 q hq).2.2⟩⟩
    · have hi' : i = vs.length := by
        have := (List.getElem?_eq_some_iff.1 hp).1
        simp at this
        omega
      subst hi'
      simp only [List.getElem?_concat_length, Option.some.injEq] at hp
      subst hp
      exact ⟨hD2, hD3⟩
theorem OwnF.less {N N' : Nat} {D : Nat → Prop} {w : World} {ov : Value} {vs : List (Value × Value)} {l : List (Bs × Bs)} (h : OwnF N D w ov vs l) (hN : N' ≤ N) : OwnF N' D w ov vs l :=
  ⟨h.len, own_less h.row hN, h.rowD, h.ent, fun i p hp => ⟨fun q hq => ⟨Nat.le_trans hN ((h.from_ i p hp).1 q hq).1, ((h.from_ i p hp).1 q hq).2⟩, fun q hq => ⟨Nat.le_trans hN ((h.from_ i p hp).2 q hq).1, ((h.from_ i p hp).2 q hq).2⟩⟩⟩
/-- What All's own cells hold when some entries have come. -/
def AllI (b0 : Nat) (w1 : World) (D : Nat → Prop) (pre : List EntV) (A : World) : Prop :=
  ∃ ov vs, A.heap[b0]? = some (.cells #[ov] 50 (0, 0)) ∧ OwnF w1.heap.size (fun b => D b ∧ b ≠ b0) A ov vs (pre.map EntV.kvs) ∧ D b0 ∧ (∀ b, D b → b < A.heap.size ∧ (b = b0 ∨ w1.heap.size ≤ b)) ∧ Ext (· = b0) w1 A
set_option maxRecDepth 100000 in
set_option maxHeartbeats 1000000 in
theorem all_walk {D : Nat → Prop} {w : World} {c : Nat} {o : Option Tr} (h : TI D w c o) (hn : (Tr.entsO o).length ≤ 1048576) :
    Calls Try.prog 30 #[ptrV c] w fun e w' => ∃ ov vs D', e = .returned ov ∧ OwnF w.heap.size D' w' ov vs (Tr.entsO o) ∧ (∀ b, D' b → w.heap.size ≤ b) ∧ Ext (fun _ => False) w w' := by
  obtain ⟨v, h1, h2⟩ := h.root
  have c0 : w.cell? ⟨c, 0, none⟩ = some v := cells_at h1 0
  have hc := lt_of_heap h1
  have HT := Lib.hid h
  clear h
  cases o with
  | none =>
    simp only [RootV] at h2
    subst h2
    clear h1
    refine callsIn_wide.1 (callsIn_of_wp_marks (F := Fence.wide) (n := 0) Try.func30 rfl trivial ?_)
    simp only [Try.ntmps30, List.size_toArray, List.length_cons, List.length_nil, Nat.reduceAdd, Nat.reduceSub, Array.replicate_succ, Array.replicate_zero, List.push_toArray, List.append_toArray, List.nil_append, List.cons_append]
    refine wpIn_wide.2 ?_
    go_wp2_with fail
    refine ⟨_, results_tmp rfl _ _ _, ?_⟩
    exact ⟨.slice none 0 0, [], fun _ => False, rfl, OwnF.nil _ _ _, fun _ => False.elim, Ext.refl _ _⟩
  | some t =>
    obtain ⟨p, rfl, hN⟩ := h2
    have HN := Lib.hid (And.intro h1 hN)
    clear h1 hN
    refine callsIn_wide.1 (callsIn_of_wp_marks (F := Fence.wide) (n := 0) Try.func30 rfl trivial ?_)
    simp only [Try.ntmps30, List.size_toArray, List.length_cons, List.length_nil, Nat.reduceAdd, Nat.reduceSub, Array.replicate_succ, Array.replicate_zero, List.push_toArray, List.append_toArray, List.nil_append, List.cons_append]
    refine wpIn_wide.2 ?_
    go_wp2_with fail
    refine (entries_walk _ p).mono ?_
    rintro e w1 ⟨rfl, hb, x1⟩
    have H1 := Lib.hid (And.intro hb x1)
    clear hb x1
    go_wp2_with fail
    have hsz : (w.alloc (.cells #[.slice none 0 0] 50 (0, 0))).heap.size = w.heap.size + 1 := by simp
    have hb1 : w1.heap[w.heap.size + 1]? = some (.cells #[ptrV p] 92 (0, 0)) := by rw [← hsz]; exact H1.out.1
    have ho1 : w1.heap[w.heap.size]? = some (.cells #[.slice none 0 0] 50 (0, 0)) := H1.out.2.heap (heap_alloc_self _ _) id
    have xw : Ext (fun _ => False) w w1 := ((Ext.refl (fun _ => False) w).alloc _).trans H1.out.2
    obtain ⟨xs, y1, y2, y3⟩ := YR.of HN.out.2
    have hDw : ∀ b, D b → b < w.heap.size := HT.out.below
    have y1' : YR D w1 t p xs := y1.heaps fun k hk => xw.heap_eq (hDw k hk) id
    have hxl : xs.length = (Tr.entsO (some t)).length := by rw [show Tr.entsO (some t) = t.ents from rfl, ← y2, List.length_map]
    have hlt1 := lt_of_heap hb1
    have HX := Lib.hid (And.intro y2 (And.intro y3 (And.intro xw hxl)))
    clear y1 y2 y3 xw H1
    refine (wpIn_wide (n := 0)).1 ?_
    refine wpIn_range1 (m := 0) (gf := 108) (lb := #[.pointer (some ⟨w.heap.size + 1, 0, none⟩)]) rfl (enters_of Try.func108 (by kernel_rfl) rfl) (enc := EntV.enc) (xs := xs) (K := fun b => b < w1.heap.size ∧ b ≠ w.heap.size) (fun b hb => hb.1)
      (entries_iter (D := D) y1' hb1 (fun b hb => ⟨by have := hDw b hb; omega, by have := hDw b hb; omega⟩) ⟨hlt1, by omega⟩ (fun b hb => hb.1) (by omega)) (AllI w.heap.size w1) (· = w.heap.size) ?_ ?_ ?_ ?_ ?_
    · rintro D' pre A B ⟨ov, vs, i1, i2, i3, i4, i5⟩ hx
      exact ⟨ov, vs, hx.heap i1 (fun h => h.1 i3), i2.ext hx (fun k hk hh => hh.1 hk.1), i3, fun b hb => ⟨Nat.lt_of_lt_of_le (i4 b hb).1 hx.size, (i4 b hb).2⟩, i5.trans' hx fun b hb => by
        by_cases h1 : b = w.heap.size
        · exact .inl h1
        · exact .inr (Nat.le_of_not_lt fun h2 => hb.2 ⟨h2, h1⟩)⟩
    · rintro D' pre A b ⟨ov, vs, i1, i2, i3, i4, i5⟩ hb
      refine ⟨(i4 b hb).1, fun h => ?_⟩
      rcases (i4 b hb).2 with h1 | h1
      · exact h.2 h1
      · have := h.1
        omega
    · exact ⟨.slice none 0 0, [], ho1, OwnF.nil _ _ _, rfl, fun b hb => ⟨by have := lt_of_heap ho1; omega, .inl hb⟩, Ext.refl _ _⟩
    · rintro l D' pre ⟨kv, vv, k, v⟩ A ⟨ov, vs, i1, i2, i3, i4, i5⟩ hpre hl hl2 hnl
      obtain ⟨b1, b2⟩ := HX.out.2.1 ⟨kv, vv, k, v⟩ (by obtain ⟨r, hr⟩ := hpre; rw [← hr]; simp)
      have hmem : (k, v) ∈ t.ents := by
        rw [← HX.out.1]
        exact List.mem_map.2 ⟨⟨kv, vv, k, v⟩, by obtain ⟨r, hr⟩ := hpre; rw [← hr]; simp, rfl⟩
      have hlen : pre.length + 1 ≤ xs.length := by
        obtain ⟨r, hr⟩ := hpre
        have := congrArg List.length hr
        simp at this
        omega
      obtain ⟨lk, lv⟩ := HT.out.ents (k, v) hmem
      simp only at b1 b2 lk lv
      have xA : Ext (fun _ => False) w A := (HX.out.2.2.1.trans' i5 fun b hb => .inr (by omega))
      have HB := Lib.hid (And.intro (b1.ext xA fun _ _ => id) (b2.ext xA fun _ _ => id))
      obtain ⟨A1, c1, rfl, _, _⟩ := b1
      obtain ⟨A2, c2, rfl, _, _⟩ := b2
      have HI := Lib.hid (And.intro i1 (And.intro i2 (And.intro i3 (And.intro i4 (And.intro i5 (And.intro hpre (And.intro xA (And.intro hl (And.intro hl2 hnl)))))))))
      clear i1 i2 i3 i4 i5 hpre y1' ho1 hb1 xA hl hl2 hnl hmem
      refine wpR_region_lit (by kernel_rfl) (by rintro ⟨_, _, h⟩; exact h) ?_
      unfold EntV.enc
      have hnew := heap_alloc_self A (.cells #[.slice none 0 0, .slice none 0 0] 24 (0, 0))
      go_wp2_with (refine wpList_store_row rfl 24 (.tmp 4) _ rfl A.heap.size _ rfl rfl 24 _ hnew (by kernel_rfl) (by kernel_rfl) (by kernel_rfl) ?_)
      have x2 : Ext (fun b => A.heap.size ≤ b) A ((A.alloc (.cells #[.slice none 0 0, .slice none 0 0] 24 (0, 0))).setRow A.heap.size #[.slice A1 k.length c1, .slice A2 v.length c2]) := ((Ext.refl _ A).alloc _).setRow (.inl (Nat.le_refl _)) _
      have g2 : ((A.alloc (.cells #[.slice none 0 0, .slice none 0 0] 24 (0, 0))).setRow A.heap.size #[.slice A1 k.length c1, .slice A2 v.length c2]).heap[A.heap.size]? = some (.cells #[.slice A1 k.length c1, .slice A2 v.length c2] 24 (0, 0)) := setRow_heap _ _ _ _ _ _ hnew
      refine ⟨x2, fun W2 hw2 => ?_⟩
      have hlA := HI.out.2.2.2.2.2.2.2.1
      have g3 := hw2.heap g2 (fun e => by omega)
      have o3 := hw2.heap (x2.heap HI.out.1 (by have := lt_of_heap HI.out.1; omega)) (fun e => HI.out.2.2.2.2.2.2.2.2.2 (by rw [← e]; exact HI.out.2.2.1))
      have x3 : Ext (· = l) A W2 := (x2.mono (F1 := (· = l)) fun b hb hh => by omega).trans hw2
      clear x2 g2 hnew hw2
      have hAl := lt_of_heap g3
      have hol := lt_of_heap o3
      have d0 : W2.cell? ⟨A.heap.size, 0, none⟩ = some (.slice A1 k.length c1) := cells_at g3 0
      have d1 : W2.cell? ⟨A.heap.size, 1, none⟩ = some (.slice A2 v.length c2) := cells_at g3 1
      have d2 : W2.cell? ⟨w.heap.size, 0, none⟩ = some ov := cells_at o3 0
      obtain ⟨Ao, co, rfl⟩ := HI.out.2.1.form
      have HW := Lib.hid (And.intro g3 (And.intro o3 x3))
      clear g3 o3 x3
      refine wpIn_block ?_
      refine wpR_region_bar (Cls [w.heap.size, A.heap.size] _) [([0, 1], 2), ([], 3), ([], 4)] [] 5 [] [] (by kernel_rfl) (by kernel_rfl) (by kernel_rfl) (by rintro ⟨_, _, h⟩; exact h) (Cls.refl _ _) ?_
      try dsimp only [wpMix, wpSegs, pick, List.getElem?_cons_zero, List.getElem?_cons_succ]
      generalize hz : Act.mk _ _ = z
      repeat (first | (refine wpQuiet_step (fun K hK => ?_); replace hK := Lib.hid hK; subst hz; go_simp; generalize hz : Act.mk _ _ = z; refine hK.out z ?_; clear hK K) | (refine wpQuiet_step (fun K hK => ?_); replace hK := Lib.hid hK; subst hz; refine iteSkip (by kernel_rfl) ?_; go_simp; generalize hz : Act.mk _ _ = z; refine hK.out z ?_; clear hK K))
      try refine wpQuiet_nil ?_
      subst hz
      try dsimp only [NoPan]
      go_wp2_with fail
      have hw1 : w.heap.size ≤ w1.heap.size := HX.out.2.2.1.size
      have hll : w1.heap.size ≤ l := HI.out.2.2.2.2.2.2.2.2.1
      have hDl : ∀ b, D b → ¬ (b = l) := fun b hb e => by have := hDw b hb; omega
      refine (copied_walk (k := k) (v := v) (HB.out.1.ext HW.out.2.2.drew hDl) (HB.out.2.ext HW.out.2.2.drew hDl) (by omega) (by omega)).mono ?_
      rintro e w3 ⟨ka, va, rfl, ok, ov3, fk, fv, x4⟩
      obtain ⟨A5, c5, rfl⟩ := ok.formv
      obtain ⟨A6, c6, rfl⟩ := ov3.formv
      have H3 := Lib.hid (And.intro ok (And.intro ov3 (And.intro fk (And.intro fv x4))))
      clear ok ov3 fk fv x4
      go_wp2_with fail
      have hCl : ∀ b' ∈ [w.heap.size, A.heap.size], b' < W2.drew.heap.size := by simp; exact ⟨hol, hAl⟩
      have C3 : Cls [w.heap.size, A.heap.size] W2.drew w3 := (Cls.refl _ _).old H3.out.2.2.2.2 hCl
      have hC3 : ∀ b' ∈ [w.heap.size, A.heap.size], b' < w3.heap.size := fun b' hb' => Nat.lt_of_lt_of_le (hCl b' hb') H3.out.2.2.2.2.size
      refine ⟨C3, ?_⟩
      try dsimp only [wpMix, wpSegs, pick, List.getElem?_cons_zero, List.getElem?_cons_succ]
      generalize hz : Act.mk _ _ = z
      repeat (first | (refine wpQuiet_step (fun K hK => ?_); replace hK := Lib.hid hK; subst hz; go_simp; generalize hz : Act.mk _ _ = z; refine hK.out z ?_; clear hK K) | (refine wpQuiet_step (fun K hK => ?_); replace hK := Lib.hid hK; subst hz; refine iteSkip (by kernel_rfl) ?_; go_simp; generalize hz : Act.mk _ _ = z; refine hK.out z ?_; clear hK K))
      try refine wpQuiet_nil ?_
      subst hz
      try dsimp only [NoPan]
      go_wp2_with fail
      have hxe : ∀ o : Obj, Ext (fun _ => False) w3 (w3.alloc o) := fun o => (Ext.refl (fun _ => False) w3).alloc o
      have C4 := fun o : Obj => C3.old (hxe o) hC3
      refine ⟨C4 _, ?_⟩
      try dsimp only [wpMix, wpSegs, pick, List.getElem?_cons_zero, List.getElem?_cons_succ]
      generalize hz : Act.mk _ _ = z
      repeat (first | (refine wpQuiet_step (fun K hK => ?_); replace hK := Lib.hid hK; subst hz; go_simp; generalize hz : Act.mk _ _ = z; refine hK.out z ?_; clear hK K) | (refine wpQuiet_step (fun K hK => ?_); replace hK := Lib.hid hK; subst hz; refine iteSkip (by kernel_rfl) ?_; go_simp; generalize hz : Act.mk _ _ = z; refine hK.out z ?_; clear hK K))
      try refine wpQuiet_nil ?_
      subst hz
      try dsimp only [NoPan]
      have xA3 : Ext (· = l) A w3 := HW.out.2.2.drew.trans' H3.out.2.2.2.2 fun _ h => h.elim
      have hnl := HI.out.2.2.2.2.2.2.2.2.2
      have hpl : (pre.map EntV.kvs).length = pre.length := List.length_map ..
      have o4 : OwnF w1.heap.size (fun b => D' b ∧ b ≠ w.heap.size) w3 (.slice Ao pre.length co) vs (pre.map EntV.kvs) := by
        rw [← hpl]
        exact HI.out.2.1.ext xA3 fun q hq e => hnl (e ▸ hq.1)
      have hxn := HX.out.2.2.2
      have hw13 : w1.heap.size ≤ w3.heap.size := Nat.le_trans HI.out.2.2.2.2.1.size xA3.size
      refine wpList_append_lit rfl _ _ 50 rfl Try.underlying50 info_entry rfl (by decide) (v := .slice Ao pre.length co) rfl (own_ext o4.row (hxe _) fun _ _ => id) (Nat.le_trans hw13 (hxe _).size) (m := 1) (cs := [.slice A5 k.length c5, .slice A6 v.length c6]) rfl (heap_alloc_self _ _) rfl (by simp [Value.oneCell']) (by decide) (by omega) (by omega) ?_
      intro g5 c6' W5 ho5 hx5 hg5 hl5
      apply wpList_nil
      simp only [Exit.then]
      have hob : ∀ q, (Value.slice Ao pre.length co).ownBlock = some q → w1.heap.size ≤ q ∧ q < A.heap.size := fun q hq => by
        have := HI.out.2.1.row.lt q (by rw [hpl]; exact hq)
        exact this
      have hsz4 : ∀ o : Obj, (w3.alloc o).heap.size = w3.heap.size + 1 := fun o => by simp
      have hws : w.heap.size < w1.heap.size := by omega
      have C5 := (C4 (.cells #[.slice A5 k.length c5, .slice A6 v.length c6] 24 (0, 0))).step hx5 (fun b' hb' => ⟨by have := hC3 b' hb'; have := hsz4 (.cells #[.slice A5 k.length c5, .slice A6 v.length c6] 24 (0, 0)); omega, fun e => by
        have := hob b' e
        simp only [List.mem_cons, List.not_mem_nil, or_false] at hb'
        omega⟩)
      refine ⟨C5, ?_⟩
      have x35 : Ext (fun q => (Value.slice Ao pre.length co).ownBlock = some q) w3 W5 := ((hxe _).mono fun _ _ => False.elim).trans hx5
      have o5 : W5.heap[w.heap.size]? = some (.cells #[.slice Ao pre.length co] 50 (0, 0)) := by
        refine x35.heap (H3.out.2.2.2.2.heap (by have := HW.out.2.1; rw [hpl] at this; exact this) id) fun e => ?_
        have := hob _ e
        omega
      have e0 : W5.cell? ⟨w.heap.size, 0, none⟩ = some (.slice Ao pre.length co) := cells_at o5 0
      have e0f : W5.frozen? ⟨w.heap.size, 0, none⟩ = false := by simp [World.frozen?, o5]
      have HS := Lib.hid (And.intro o4.row (And.intro ho5 (And.intro hx5 (And.intro hg5 (And.intro hl5 (And.intro xA3 (And.intro x35 (And.intro o4 o5))))))))
      clear o4 ho5 hx5 hg5 hl5 xA3 x35 o5 d0 d1 d2 C3 C4 C5 hxe
      try dsimp only [wpMix, wpSegs, pick, List.getElem?_cons_zero, List.getElem?_cons_succ]
      generalize hz : Act.mk _ _ = z
      repeat (first | (refine wpQuiet_step (fun K hK => ?_); replace hK := Lib.hid hK; subst hz; go_simp; generalize hz : Act.mk _ _ = z; refine hK.out z ?_; clear hK K) | (refine wpQuiet_step (fun K hK => ?_); replace hK := Lib.hid hK; subst hz; refine iteSkip (by kernel_rfl) ?_; go_simp; generalize hz : Act.mk _ _ = z; refine hK.out z ?_; clear hK K))
      try refine wpQuiet_nil ?_
      subst hz
      try dsimp only [NoPan]
      go_wp2_with fail
      try dsimp only [wpMix, wpSegs, pick, List.getElem?_cons_zero, List.getElem?_cons_succ]
      generalize hz : Act.mk _ _ = z
      repeat (first | (refine wpQuiet_step (fun K hK => ?_); replace hK := Lib.hid hK; subst hz; go_simp; generalize hz : Act.mk _ _ = z; refine hK.out z ?_; clear hK K) | (refine wpQuiet_step (fun K hK => ?_); replace hK := Lib.hid hK; subst hz; refine iteSkip (by kernel_rfl) ?_; go_simp; generalize hz : Act.mk _ _ = z; refine hK.out z ?_; clear hK K))
      try refine wpQuiet_nil ?_
      subst hz
      try dsimp only [NoPan]
      simp only [roundEnd]
      obtain ⟨hrw, ho5, hx5, hg5, hl5, xA3, x35, o4, o5⟩ := HS.out
      obtain ⟨ok, ov3, fk, fv, x4⟩ := H3.out
      obtain ⟨i1, i2, i3, i4, i5, hpre, xA, hl, hl2, hnl⟩ := HI.out
      have hAW2 : A.heap.size ≤ W2.heap.size := HW.out.2.2.size
      have hW23 : W2.heap.size ≤ w3.heap.size := x4.size
      have hW35 : w3.heap.size ≤ W5.heap.size := x35.size
      have hwA : w1.heap.size ≤ A.heap.size := i5.size
      have hg5w : w1.heap.size ≤ g5 := own_base ho5 g5 rfl
      have hown : ∀ q, (Value.slice Ao pre.length co).ownBlock = some q → D' q := fun q hq => (o4.rowD q hq).1
      have z5 : Ext (· = w.heap.size) W5 (W5.setCell ⟨w.heap.size, 0, none⟩ (.slice (some ⟨g5, 0, none⟩) (pre.length + 1) c6')) := (Ext.refl (· = w.heap.size) W5).setCell (a := ⟨w.heap.size, 0, none⟩) (.inl rfl) _
      have g6 : (W5.setCell ⟨w.heap.size, 0, none⟩ (.slice (some ⟨g5, 0, none⟩) (pre.length + 1) c6')).heap[w.heap.size]? = some (.cells #[.slice (some ⟨g5, 0, none⟩) (pre.length + 1) c6'] 50 (0, 0)) := heap_setCell_self o5
      have hfk : ∀ q, (Value.slice A5 k.length c5).ownBlock = some q → A.heap.size ≤ q := fun q hq => Nat.le_trans hAW2 (fk q hq)
      have hfv : ∀ q, (Value.slice A6 v.length c6).ownBlock = some q → A.heap.size ≤ q := fun q hq => Nat.le_trans hAW2 (fv q hq).1
      have y5 := OwnF.snoc (D' := fun b => (D' b ∨ b = g5 ∨ (Value.slice A5 k.length c5).ownBlock = some b ∨ (Value.slice A6 v.length c6).ownBlock = some b) ∧ b ≠ w.heap.size) (o4.ext ((Ext.refl (fun _ => False) w3).alloc (.cells #[.slice A5 k.length c5, .slice A6 v.length c6] 24 (0, 0))) fun _ _ => id) hx5 ho5 (ok.ext ((Ext.refl (fun _ => False) w3).alloc _) fun _ _ => id) (ov3.ext ((Ext.refl (fun _ => False) w3).alloc _) fun _ _ => id)
        (fun q hq => ⟨.inl hq.1, hq.2⟩) (fun q hq => by
          simp only [Value.ownBlock, Option.some.injEq] at hq
          subst hq
          exact ⟨.inr (.inl rfl), by omega⟩) (fun q hq => ⟨by have := hfk q hq; omega, .inr (.inr (.inl hq)), by have := hfk q hq; omega⟩) (fun q hq => ⟨by have := hfv q hq; omega, ⟨.inr (.inr (.inr hq)), by have := hfv q hq; omega⟩, (fv q hq).2⟩)
      have y6 := y5.ext z5 fun q hq => hq.2
      rw [hpl] at y6
      refine ⟨fun b => D' b ∨ b = g5 ∨ (Value.slice A5 k.length c5).ownBlock = some b ∨ (Value.slice A6 v.length c6).ownBlock = some b, ⟨_, _, g6, by rw [List.map_append]; exact y6, .inl i3, fun b hb => ?_, ?_⟩, ?_, fun b hb => ?_⟩
      · have hz := z5.size
        rcases hb with hb | rfl | hb | hb
        · have := i4 b hb
          exact ⟨by omega, this.2⟩
        · exact ⟨by omega, .inr hg5w⟩
        · have := ok.lt b hb
          have := hfk b hb
          exact ⟨by omega, .inr (by omega)⟩
        · have := ov3.lt b hb
          have := hfv b hb
          exact ⟨by omega, .inr (by omega)⟩
      · refine ((i5.trans' xA3 fun b hb => .inr (by omega)).trans' x35 fun b hb => .inr (by have := hob b hb; omega)).trans z5
      · have u1 : Ext (fun b => D' b ∨ A.heap.size ≤ b) W2 w3 := ((Ext.refl (fun _ => False) W2).drew.trans x4).mono fun _ _ => False.elim
        exact (u1.trans' x35 fun b hb => .inl (.inl (hown b hb))).trans' z5 fun b hb => .inl (.inl (by rw [hb]; exact i3))
      · rcases hb with hb | rfl | hb | hb
        · exact .inl hb
        · rcases hg5 with h | h
          · exact .inl (hown _ h)
          · exact .inr (by have := hsz4 (.cells #[.slice A5 k.length c5, .slice A6 v.length c6] 24 (0, 0)); omega)
        · exact .inr (hfk b hb)
        · exact .inr (hfv b hb)
    · rintro D' d W hd ⟨ov, vs, i1, i2, i3, i4, i5⟩ hnd hdef
      obtain ⟨Ao, co, rfl⟩ := i2.form
      have e0 := cells_at i1 0
      simp only [Exit.inBlock, Exit.then]
      have HI := Lib.hid (And.intro i2 (And.intro i4 (And.intro i5 (And.intro hnd (And.intro hdef hd)))))
      clear i1 i2 i3 i4 i5 hnd hdef y1' ho1 hb1
      go_wp2_with fail
      obtain ⟨i2, i4, i5, hnd, hdef, hd⟩ := HI.out
      refine ⟨by simp, .inl ⟨_, _, rfl, run_takeDeferred hdef, ?_⟩⟩
      refine ⟨_, results_tmp rfl _ _ _, ?_⟩
      rw [HX.out.1] at i2
      have z : Ext (· = d) W (W.putObj d (.deferred none)) := (Ext.refl (· = d) W).putObj (.inl rfl) _
      refine ⟨_, vs, _, rfl, (i2.ext z fun k hk e => hnd (e ▸ hk.1)).less HX.out.2.2.1.size, fun b hb => ?_, ?_⟩
      · have h1 := HX.out.2.2.1.size
        rcases (i4 b hb.1).2 with h | h
        · exact absurd h hb.2
        · omega
      · exact (HX.out.2.2.1.trans' i5 fun b hb => .inr (by omega)).trans' z fun b hb => .inr (by have := HX.out.2.2.1.size; omega)
end Go.Proofs.Ytoflfhjeabpcjaa
