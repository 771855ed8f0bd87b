/- Parts of the proof, put together: TrieAll, Const, TrieSmall, TrieSum, TrieTexts, TrieTexts2, TrieActs, TrieCmp, TrieRootOf; no condition. -/
import Derived.Test.YtoflfhjeabpcjaaTrieIter1
import Derived.Test.YtoflfhjeabpcjaaTrieMade
import Derived.Test.YtoflfhjeabpcjaaTrieSide
import Derived.Test.YtoflfhjeabpcjaaOpens
import Derived.Lib.SlBytesConst
import Derived.Laws.Pointers
import Derived.Test.YtoflfhjeabpcjaaDigText
import Derived.Test.YtoflfhjeabpcjaaRefSha4
import Derived.Deep.AppendLies
import Derived.Test.YtoflfhjeabpcjaaOpenEntry
import Derived.Test.YtoflfhjeabpcjaaCloneEq
import Derived.Lib.BytesEntry
/- All: the entries, in other memory; no condition. -/
namespace Go.Proofs.Ytoflfhjeabpcjaa
set_option linter.unusedVariables false
set_option linter.unusedSimpArgs false
open Go.RowKit Go.Shelf
attribute [local go_sem] Oper.semAt_some

/-- A row of entries of one's own, each with bytes of its own. -/
structure OwnF (N : Nat) (D : Nat → Prop) (w : World) (ov : Value) (vs : List (Value × Value)) (l : List (Bs × Bs)) : Prop where
  len : vs.length = l.length
  row : w.ownsRow N 24 2 ov l.length (vs.flatMap fun p => [p.1, p.2])
  rowD : ∀ k, ov.ownBlock = some k → D k
  ent : ∀ (i : Nat) (p : Value × Value) (e : Bs × Bs), vs[i]? = some p → l[i]? = some e → OwnB w p.1 e.1 ∧ OwnB w p.2 e.2
  from_ : ∀ (i : Nat) (p : Value × Value), vs[i]? = some p → (∀ q, p.1.ownBlock = some q → N ≤ q ∧ D q) ∧ (∀ q, p.2.ownBlock = some q → N ≤ q ∧ D q ∧ p.1.ownBlock ≠ some q)
theorem OwnF.nil (N : Nat) (D : Nat → Prop) (w : World) : OwnF N D w (.slice none 0 0) [] [] := ⟨rfl, ⟨rfl, .inl ⟨rfl, rfl⟩⟩, fun k hk => by simp [Value.ownBlock] at hk, by simp, by simp⟩
theorem OwnF.form {N : Nat} {D : Nat → Prop} {w : World} {ov : Value} {vs : List (Value × Value)} {l : List (Bs × Bs)} (h : OwnF N D w ov vs l) : ∃ A c, ov = .slice A l.length c := own_form h.row
theorem OwnF.ext {N : Nat} {D F : Nat → Prop} {w w' : World} {ov : Value} {vs : List (Value × Value)} {l : List (Bs × Bs)} (h : OwnF N D w ov vs l) (hx : Ext F w w') (hF : ∀ k, D k → ¬ F k) : OwnF N D w' ov vs l := by
  refine ⟨h.len, own_ext h.row hx fun k hk => hF k (h.rowD k hk), h.rowD, fun i p e hp he => ?_, h.from_⟩
  obtain ⟨h1, h2⟩ := h.ent i p e hp he
  obtain ⟨f1, f2⟩ := h.from_ i p hp
  exact ⟨h1.ext hx fun k hk => hF k (f1 k hk).2, h2.ext hx fun k hk => hF k (f2 k hk).2.1⟩
/-- A block of bytes is no row of entries. -/
theorem OwnB.not_row {w : World} {v ov : Value} {b : Bs} {N n : Nat} {xs : List Value} (h : OwnB w v b) (hr : w.ownsRow N 24 2 ov n xs) : ∀ q, v.ownBlock = some q → ov.ownBlock ≠ some q := by
  intro q hq ho
  obtain ⟨cs, fr, hc⟩ := h.ty q hq
  rcases hr.2 with ⟨rfl, _⟩ | ⟨g, cap, cur, rfl, _, hg, _⟩
  · simp [Value.ownBlock] at ho
  · simp only [Value.ownBlock, Option.some.injEq] at ho
    subst ho
    rw [hg] at hc
    simp only [Option.some.injEq, Obj.cells.injEq] at hc
    exact absurd hc.2.1 (by decide)
theorem OwnF.snoc {N : Nat} {D D' : Nat → Prop} {w w1 : World} {ov ov' a b : Value} {vs : List (Value × Value)} {l : List (Bs × Bs)} {k v : Bs} (h : OwnF N D w ov vs l) (hx : Ext (fun q => ov.ownBlock = some q) w w1)
    (hr : w1.ownsRow N 24 2 ov' (l.length + 1) ((vs.flatMap fun p => [p.1, p.2]) ++ [a, b])) (ha : OwnB w a k) (hb : OwnB w b v) (hD : ∀ q, D q → D' q) (hD1 : ∀ q, ov'.ownBlock = some q → D' q) (hD2 : ∀ q, a.ownBlock = some q → N ≤ q ∧ D' q) (hD3 : ∀ q, b.ownBlock = some q → N ≤ q ∧ D' q ∧ a.ownBlock ≠ some q) :
    OwnF N D' w1 ov' (vs ++ [(a, b)]) (l ++ [(k, v)]) := by
  refine ⟨by simp [h.len], by simpa using hr, hD1, fun i p e hp he => ?_, fun i p hp => ?_⟩
  · have hne : ∀ (u : Value) (x : Bs), OwnB w u x → OwnB w1 u x := fun u x hu => hu.ext hx fun q hq => hu.not_row h.row q hq
    by_cases hi : i < l.length
    · rw [List.getElem?_append_left (by rw [h.len]; exact hi)] at hp
      rw [List.getElem?_append_left hi] at he
      obtain ⟨h1, h2⟩ := h.ent i p e hp he
      exact ⟨hne _ _ h1, hne _ _ h2⟩
    · have hi' : i = l.length := by
        have := (List.getElem?_eq_some_iff.1 he).1
        simp at this
        omega
      subst hi'
      rw [← h.len] at hp
      simp only [List.getElem?_concat_length, Option.some.injEq] at hp he
      subst hp he
      exact ⟨hne _ _ ha, hne _ _ hb⟩
  · by_cases hi : i < vs.length
    · rw [List.getElem?_append_left hi] at hp
      obtain ⟨f1, f2⟩ := h.from_ i p hp
      exact ⟨fun q hq => ⟨(f1 q hq).1, hD q (f1 q hq).2⟩, fun q hq => ⟨(f2 q hq).1, hD q (f2 q hq).2.1, (f2 q hq).2.2⟩⟩
    · have hi' : i = vs.length := by
        have := (List.getElem?_eq_some_iff.1 hp).1
        simp at this
        omega
      subst hi'
      simp only [List.getElem?_concat_length, Option.some.injEq] at hp
      subst hp
      exact ⟨hD2, hD3⟩
theorem OwnF.less {N N' : Nat} {D : Nat → Prop} {w : World} {ov : Value} {vs : List (Value × Value)} {l : List (Bs × Bs)} (h : OwnF N D w ov vs l) (hN : N' ≤ N) : OwnF N' D w ov vs l :=
  ⟨h.len, own_less h.row hN, h.rowD, h.ent, fun i p hp => ⟨fun q hq => ⟨Nat.le_trans hN ((h.from_ i p hp).1 q hq).1, ((h.from_ i p hp).1 q hq).2⟩, fun q hq => ⟨Nat.le_trans hN ((h.from_ i p hp).2 q hq).1, ((h.from_ i p hp).2 q hq).2⟩⟩⟩
/-- What All's own cells hold when some entries have come. -/
def AllI (b0 : Nat) (w1 : World) (D : Nat → Prop) (pre : List EntV) (A : World) : Prop :=
  ∃ ov vs, A.heap[b0]? = some (.cells #[ov] 50 (0, 0)) ∧ OwnF w1.heap.size (fun b => D b ∧ b ≠ b0) A ov vs (pre.map EntV.kvs) ∧ D b0 ∧ (∀ b, D b → b < A.heap.size ∧ (b = b0 ∨ w1.heap.size ≤ b)) ∧ Ext (· = b0) w1 A
set_option maxRecDepth 100000 in
set_option maxHeartbeats 1000000 in
theorem all_walk {D : Nat → Prop} {w : World} {c : Nat} {o : Option Tr} (h : TI D w c o) (hn : (Tr.entsO o).length ≤ 1048576) :
    Calls Try.prog 30 #[ptrV c] w fun e w' => ∃ ov vs D', e = .returned ov ∧ OwnF w.heap.size D' w' ov vs (Tr.entsO o) ∧ (∀ b, D' b → w.heap.size ≤ b) ∧ Ext (fun _ => False) w w' := by
  obtain ⟨v, h1, h2⟩ := h.root
  have c0 : w.cell? ⟨c, 0, none⟩ = some v := cells_at h1 0
  have hc := lt_of_heap h1
  have HT := Lib.hid h
  clear h
  cases o with
  | none =>
    simp only [RootV] at h2
    subst h2
    clear h1
    refine callsIn_wide.1 (callsIn_of_wp_marks (F := Fence.wide) (n := 0) Try.func30 rfl trivial ?_)
    simp only [Try.ntmps30, List.size_toArray, List.length_cons, List.length_nil, Nat.reduceAdd, Nat.reduceSub, Array.replicate_succ, Array.replicate_zero, List.push_toArray, List.append_toArray, List.nil_append, List.cons_append]
    refine wpIn_wide.2 ?_
    go_wp2_with fail
    refine ⟨_, results_tmp rfl _ _ _, ?_⟩
    exact ⟨.slice none 0 0, [], fun _ => False, rfl, OwnF.nil _ _ _, fun _ => False.elim, Ext.refl _ _⟩
  | some t =>
    obtain ⟨p, rfl, hN⟩ := h2
    have HN := Lib.hid (And.intro h1 hN)
    clear h1 hN
    refine callsIn_wide.1 (callsIn_of_wp_marks (F := Fence.wide) (n := 0) Try.func30 rfl trivial ?_)
    simp only [Try.ntmps30, List.size_toArray, List.length_cons, List.length_nil, Nat.reduceAdd, Nat.reduceSub, Array.replicate_succ, Array.replicate_zero, List.push_toArray, List.append_toArray, List.nil_append, List.cons_append]
    refine wpIn_wide.2 ?_
    go_wp2_with fail
    refine (entries_walk _ p).mono ?_
    rintro e w1 ⟨rfl, hb, x1⟩
    have H1 := Lib.hid (And.intro hb x1)
    clear hb x1
    go_wp2_with fail
    have hsz : (w.alloc (.cells #[.slice none 0 0] 50 (0, 0))).heap.size = w.heap.size + 1 := by simp
    have hb1 : w1.heap[w.heap.size + 1]? = some (.cells #[ptrV p] 92 (0, 0)) := by rw [← hsz]; exact H1.out.1
    have ho1 : w1.heap[w.heap.size]? = some (.cells #[.slice none 0 0] 50 (0, 0)) := H1.out.2.heap (heap_alloc_self _ _) id
    have xw : Ext (fun _ => False) w w1 := ((Ext.refl (fun _ => False) w).alloc _).trans H1.out.2
    obtain ⟨xs, y1, y2, y3⟩ := YR.of HN.out.2
    have hDw : ∀ b, D b → b < w.heap.size := HT.out.below
    have y1' : YR D w1 t p xs := y1.heaps fun k hk => xw.heap_eq (hDw k hk) id
    have hxl : xs.length = (Tr.entsO (some t)).length := by rw [show Tr.entsO (some t) = t.ents from rfl, ← y2, List.length_map]
    have hlt1 := lt_of_heap hb1
    have HX := Lib.hid (And.intro y2 (And.intro y3 (And.intro xw hxl)))
    clear y1 y2 y3 xw H1
    refine (wpIn_wide (n := 0)).1 ?_
    refine wpIn_range1 (m := 0) (gf := 108) (lb := #[.pointer (some ⟨w.heap.size + 1, 0, none⟩)]) rfl (enters_of Try.func108 (by kernel_rfl) rfl) (enc := EntV.enc) (xs := xs) (K := fun b => b < w1.heap.size ∧ b ≠ w.heap.size) (fun b hb => hb.1)
      (entries_iter (D := D) y1' hb1 (fun b hb => ⟨by have := hDw b hb; omega, by have := hDw b hb; omega⟩) ⟨hlt1, by omega⟩ (fun b hb => hb.1) (by omega)) (AllI w.heap.size w1) (· = w.heap.size) ?_ ?_ ?_ ?_ ?_
    · rintro D' pre A B ⟨ov, vs, i1, i2, i3, i4, i5⟩ hx
      exact ⟨ov, vs, hx.heap i1 (fun h => h.1 i3), i2.ext hx (fun k hk hh => hh.1 hk.1), i3, fun b hb => ⟨Nat.lt_of_lt_of_le (i4 b hb).1 hx.size, (i4 b hb).2⟩, i5.trans' hx fun b hb => by
        by_cases h1 : b = w.heap.size
        · exact .inl h1
        · exact .inr (Nat.le_of_not_lt fun h2 => hb.2 ⟨h2, h1⟩)⟩
    · rintro D' pre A b ⟨ov, vs, i1, i2, i3, i4, i5⟩ hb
      refine ⟨(i4 b hb).1, fun h => ?_⟩
      rcases (i4 b hb).2 with h1 | h1
      · exact h.2 h1
      · have := h.1
        omega
    · exact ⟨.slice none 0 0, [], ho1, OwnF.nil _ _ _, rfl, fun b hb => ⟨by have := lt_of_heap ho1; omega, .inl hb⟩, Ext.refl _ _⟩
    · rintro l D' pre ⟨kv, vv, k, v⟩ A ⟨ov, vs, i1, i2, i3, i4, i5⟩ hpre hl hl2 hnl
      obtain ⟨b1, b2⟩ := HX.out.2.1 ⟨kv, vv, k, v⟩ (by obtain ⟨r, hr⟩ := hpre; rw [← hr]; simp)
      have hmem : (k, v) ∈ t.ents := by
        rw [← HX.out.1]
        exact List.mem_map.2 ⟨⟨kv, vv, k, v⟩, by obtain ⟨r, hr⟩ := hpre; rw [← hr]; simp, rfl⟩
      have hlen : pre.length + 1 ≤ xs.length := by
        obtain ⟨r, hr⟩ := hpre
        have := congrArg List.length hr
        simp at this
        omega
      obtain ⟨lk, lv⟩ := HT.out.ents (k, v) hmem
      simp only at b1 b2 lk lv
      have xA : Ext (fun _ => False) w A := (HX.out.2.2.1.trans' i5 fun b hb => .inr (by omega))
      have HB := Lib.hid (And.intro (b1.ext xA fun _ _ => id) (b2.ext xA fun _ _ => id))
      obtain ⟨A1, c1, rfl, _, _⟩ := b1
      obtain ⟨A2, c2, rfl, _, _⟩ := b2
      have HI := Lib.hid (And.intro i1 (And.intro i2 (And.intro i3 (And.intro i4 (And.intro i5 (And.intro hpre (And.intro xA (And.intro hl (And.intro hl2 hnl)))))))))
      clear i1 i2 i3 i4 i5 hpre y1' ho1 hb1 xA hl hl2 hnl hmem
      refine wpR_region_lit (by kernel_rfl) (by rintro ⟨_, _, h⟩; exact h) ?_
      unfold EntV.enc
      have hnew := heap_alloc_self A (.cells #[.slice none 0 0, .slice none 0 0] 24 (0, 0))
      go_wp2_with (refine wpList_store_row rfl 24 (.tmp 4) _ rfl A.heap.size _ rfl rfl 24 _ hnew (by kernel_rfl) (by kernel_rfl) (by kernel_rfl) ?_)
      have x2 : Ext (fun b => A.heap.size ≤ b) A ((A.alloc (.cells #[.slice none 0 0, .slice none 0 0] 24 (0, 0))).setRow A.heap.size #[.slice A1 k.length c1, .slice A2 v.length c2]) := ((Ext.refl _ A).alloc _).setRow (.inl (Nat.le_refl _)) _
      have g2 : ((A.alloc (.cells #[.slice none 0 0, .slice none 0 0] 24 (0, 0))).setRow A.heap.size #[.slice A1 k.length c1, .slice A2 v.length c2]).heap[A.heap.size]? = some (.cells #[.slice A1 k.length c1, .slice A2 v.length c2] 24 (0, 0)) := setRow_heap _ _ _ _ _ _ hnew
      refine ⟨x2, fun W2 hw2 => ?_⟩
      have hlA := HI.out.2.2.2.2.2.2.2.1
      have g3 := hw2.heap g2 (fun e => by omega)
      have o3 := hw2.heap (x2.heap HI.out.1 (by have := lt_of_heap HI.out.1; omega)) (fun e => HI.out.2.2.2.2.2.2.2.2.2 (by rw [← e]; exact HI.out.2.2.1))
      have x3 : Ext (· = l) A W2 := (x2.mono (F1 := (· = l)) fun b hb hh => by omega).trans hw2
      clear x2 g2 hnew hw2
      have hAl := lt_of_heap g3
      have hol := lt_of_heap o3
      have d0 : W2.cell? ⟨A.heap.size, 0, none⟩ = some (.slice A1 k.length c1) := cells_at g3 0
      have d1 : W2.cell? ⟨A.heap.size, 1, none⟩ = some (.slice A2 v.length c2) := cells_at g3 1
      have d2 : W2.cell? ⟨w.heap.size, 0, none⟩ = some ov := cells_at o3 0
      obtain ⟨Ao, co, rfl⟩ := HI.out.2.1.form
      have HW := Lib.hid (And.intro g3 (And.intro o3 x3))
      clear g3 o3 x3
      refine wpIn_block ?_
      refine wpR_region_bar (Cls [w.heap.size, A.heap.size] _) [([0, 1], 2), ([], 3), ([], 4)] [] 5 [] [] (by kernel_rfl) (by kernel_rfl) (by kernel_rfl) (by rintro ⟨_, _, h⟩; exact h) (Cls.refl _ _) ?_
      try dsimp only [wpMix, wpSegs, pick, List.getElem?_cons_zero, List.getElem?_cons_succ]
      generalize hz : Act.mk _ _ = z
      repeat (first | (refine wpQuiet_step (fun K hK => ?_); replace hK := Lib.hid hK; subst hz; go_simp; generalize hz : Act.mk _ _ = z; refine hK.out z ?_; clear hK K) | (refine wpQuiet_step (fun K hK => ?_); replace hK := Lib.hid hK; subst hz; refine iteSkip (by kernel_rfl) ?_; go_simp; generalize hz : Act.mk _ _ = z; refine hK.out z ?_; clear hK K))
      try refine wpQuiet_nil ?_
      subst hz
      try dsimp only [NoPan]
      go_wp2_with fail
      have hw1 : w.heap.size ≤ w1.heap.size := HX.out.2.2.1.size
      have hll : w1.heap.size ≤ l := HI.out.2.2.2.2.2.2.2.2.1
      have hDl : ∀ b, D b → ¬ (b = l) := fun b hb e => by have := hDw b hb; omega
      refine (copied_walk (k := k) (v := v) (HB.out.1.ext HW.out.2.2.drew hDl) (HB.out.2.ext HW.out.2.2.drew hDl) (by omega) (by omega)).mono ?_
      rintro e w3 ⟨ka, va, rfl, ok, ov3, fk, fv, x4⟩
      obtain ⟨A5, c5, rfl⟩ := ok.formv
      obtain ⟨A6, c6, rfl⟩ := ov3.formv
      have H3 := Lib.hid (And.intro ok (And.intro ov3 (And.intro fk (And.intro fv x4))))
      clear ok ov3 fk fv x4
      go_wp2_with fail
      have hCl : ∀ b' ∈ [w.heap.size, A.heap.size], b' < W2.drew.heap.size := by simp; exact ⟨hol, hAl⟩
      have C3 : Cls [w.heap.size, A.heap.size] W2.drew w3 := (Cls.refl _ _).old H3.out.2.2.2.2 hCl
      have hC3 : ∀ b' ∈ [w.heap.size, A.heap.size], b' < w3.heap.size := fun b' hb' => Nat.lt_of_lt_of_le (hCl b' hb') H3.out.2.2.2.2.size
      refine ⟨C3, ?_⟩
      try dsimp only [wpMix, wpSegs, pick, List.getElem?_cons_zero, List.getElem?_cons_succ]
      generalize hz : Act.mk _ _ = z
      repeat (first | (refine wpQuiet_step (fun K hK => ?_); replace hK := Lib.hid hK; subst hz; go_simp; generalize hz : Act.mk _ _ = z; refine hK.out z ?_; clear hK K) | (refine wpQuiet_step (fun K hK => ?_); replace hK := Lib.hid hK; subst hz; refine iteSkip (by kernel_rfl) ?_; go_simp; generalize hz : Act.mk _ _ = z; refine hK.out z ?_; clear hK K))
      try refine wpQuiet_nil ?_
      subst hz
      try dsimp only [NoPan]
      go_wp2_with fail
      have hxe : ∀ o : Obj, Ext (fun _ => False) w3 (w3.alloc o) := fun o => (Ext.refl (fun _ => False) w3).alloc o
      have C4 := fun o : Obj => C3.old (hxe o) hC3
      refine ⟨C4 _, ?_⟩
      try dsimp only [wpMix, wpSegs, pick, List.getElem?_cons_zero, List.getElem?_cons_succ]
      generalize hz : Act.mk _ _ = z
      repeat (first | (refine wpQuiet_step (fun K hK => ?_); replace hK := Lib.hid hK; subst hz; go_simp; generalize hz : Act.mk _ _ = z; refine hK.out z ?_; clear hK K) | (refine wpQuiet_step (fun K hK => ?_); replace hK := Lib.hid hK; subst hz; refine iteSkip (by kernel_rfl) ?_; go_simp; generalize hz : Act.mk _ _ = z; refine hK.out z ?_; clear hK K))
      try refine wpQuiet_nil ?_
      subst hz
      try dsimp only [NoPan]
      have xA3 : Ext (· = l) A w3 := HW.out.2.2.drew.trans' H3.out.2.2.2.2 fun _ h => h.elim
      have hnl := HI.out.2.2.2.2.2.2.2.2.2
      have hpl : (pre.map EntV.kvs).length = pre.length := List.length_map ..
      have o4 : OwnF w1.heap.size (fun b => D' b ∧ b ≠ w.heap.size) w3 (.slice Ao pre.length co) vs (pre.map EntV.kvs) := by
        rw [← hpl]
        exact HI.out.2.1.ext xA3 fun q hq e => hnl (e ▸ hq.1)
      have hxn := HX.out.2.2.2
      have hw13 : w1.heap.size ≤ w3.heap.size := Nat.le_trans HI.out.2.2.2.2.1.size xA3.size
      refine wpList_append_lit rfl _ _ 50 rfl Try.underlying50 info_entry rfl (by decide) (v := .slice Ao pre.length co) rfl (own_ext o4.row (hxe _) fun _ _ => id) (Nat.le_trans hw13 (hxe _).size) (m := 1) (cs := [.slice A5 k.length c5, .slice A6 v.length c6]) rfl (heap_alloc_self _ _) rfl (by simp [Value.oneCell']) (by decide) (by omega) (by omega) ?_
      intro g5 c6' W5 ho5 hx5 hg5 hl5
      apply wpList_nil
      simp only [Exit.then]
      have hob : ∀ q, (Value.slice Ao pre.length co).ownBlock = some q → w1.heap.size ≤ q ∧ q < A.heap.size := fun q hq => by
        have := HI.out.2.1.row.lt q (by rw [hpl]; exact hq)
        exact this
      have hsz4 : ∀ o : Obj, (w3.alloc o).heap.size = w3.heap.size + 1 := fun o => by simp
      have hws : w.heap.size < w1.heap.size := by omega
      have C5 := (C4 (.cells #[.slice A5 k.length c5, .slice A6 v.length c6] 24 (0, 0))).step hx5 (fun b' hb' => ⟨by have := hC3 b' hb'; have := hsz4 (.cells #[.slice A5 k.length c5, .slice A6 v.length c6] 24 (0, 0)); omega, fun e => by
        have := hob b' e
        simp only [List.mem_cons, List.not_mem_nil, or_false] at hb'
        omega⟩)
      refine ⟨C5, ?_⟩
      have x35 : Ext (fun q => (Value.slice Ao pre.length co).ownBlock = some q) w3 W5 := ((hxe _).mono fun _ _ => False.elim).trans hx5
      have o5 : W5.heap[w.heap.size]? = some (.cells #[.slice Ao pre.length co] 50 (0, 0)) := by
        refine x35.heap (H3.out.2.2.2.2.heap (by have := HW.out.2.1; rw [hpl] at this; exact this) id) fun e => ?_
        have := hob _ e
        omega
      have e0 : W5.cell? ⟨w.heap.size, 0, none⟩ = some (.slice Ao pre.length co) := cells_at o5 0
      have e0f : W5.frozen? ⟨w.heap.size, 0, none⟩ = false := by simp [World.frozen?, o5]
      have HS := Lib.hid (And.intro o4.row (And.intro ho5 (And.intro hx5 (And.intro hg5 (And.intro hl5 (And.intro xA3 (And.intro x35 (And.intro o4 o5))))))))
      clear o4 ho5 hx5 hg5 hl5 xA3 x35 o5 d0 d1 d2 C3 C4 C5 hxe
      try dsimp only [wpMix, wpSegs, pick, List.getElem?_cons_zero, List.getElem?_cons_succ]
      generalize hz : Act.mk _ _ = z
      repeat (first | (refine wpQuiet_step (fun K hK => ?_); replace hK := Lib.hid hK; subst hz; go_simp; generalize hz : Act.mk _ _ = z; refine hK.out z ?_; clear hK K) | (refine wpQuiet_step (fun K hK => ?_); replace hK := Lib.hid hK; subst hz; refine iteSkip (by kernel_rfl) ?_; go_simp; generalize hz : Act.mk _ _ = z; refine hK.out z ?_; clear hK K))
      try refine wpQuiet_nil ?_
      subst hz
      try dsimp only [NoPan]
      go_wp2_with fail
      try dsimp only [wpMix, wpSegs, pick, List.getElem?_cons_zero, List.getElem?_cons_succ]
      generalize hz : Act.mk _ _ = z
      repeat (first | (refine wpQuiet_step (fun K hK => ?_); replace hK := Lib.hid hK; subst hz; go_simp; generalize hz : Act.mk _ _ = z; refine hK.out z ?_; clear hK K) | (refine wpQuiet_step (fun K hK => ?_); replace hK := Lib.hid hK; subst hz; refine iteSkip (by kernel_rfl) ?_; go_simp; generalize hz : Act.mk _ _ = z; refine hK.out z ?_; clear hK K))
      try refine wpQuiet_nil ?_
      subst hz
      try dsimp only [NoPan]
      simp only [roundEnd]
      obtain ⟨hrw, ho5, hx5, hg5, hl5, xA3, x35, o4, o5⟩ := HS.out
      obtain ⟨ok, ov3, fk, fv, x4⟩ := H3.out
      obtain ⟨i1, i2, i3, i4, i5, hpre, xA, hl, hl2, hnl⟩ := HI.out
      have hAW2 : A.heap.size ≤ W2.heap.size := HW.out.2.2.size
      have hW23 : W2.heap.size ≤ w3.heap.size := x4.size
      have hW35 : w3.heap.size ≤ W5.heap.size := x35.size
      have hwA : w1.heap.size ≤ A.heap.size := i5.size
      have hg5w : w1.heap.size ≤ g5 := own_base ho5 g5 rfl
      have hown : ∀ q, (Value.slice Ao pre.length co).ownBlock = some q → D' q := fun q hq => (o4.rowD q hq).1
      have z5 : Ext (· = w.heap.size) W5 (W5.setCell ⟨w.heap.size, 0, none⟩ (.slice (some ⟨g5, 0, none⟩) (pre.length + 1) c6')) := (Ext.refl (· = w.heap.size) W5).setCell (a := ⟨w.heap.size, 0, none⟩) (.inl rfl) _
      have g6 : (W5.setCell ⟨w.heap.size, 0, none⟩ (.slice (some ⟨g5, 0, none⟩) (pre.length + 1) c6')).heap[w.heap.size]? = some (.cells #[.slice (some ⟨g5, 0, none⟩) (pre.length + 1) c6'] 50 (0, 0)) := heap_setCell_self o5
      have hfk : ∀ q, (Value.slice A5 k.length c5).ownBlock = some q → A.heap.size ≤ q := fun q hq => Nat.le_trans hAW2 (fk q hq)
      have hfv : ∀ q, (Value.slice A6 v.length c6).ownBlock = some q → A.heap.size ≤ q := fun q hq => Nat.le_trans hAW2 (fv q hq).1
      have y5 := OwnF.snoc (D' := fun b => (D' b ∨ b = g5 ∨ (Value.slice A5 k.length c5).ownBlock = some b ∨ (Value.slice A6 v.length c6).ownBlock = some b) ∧ b ≠ w.heap.size) (o4.ext ((Ext.refl (fun _ => False) w3).alloc (.cells #[.slice A5 k.length c5, .slice A6 v.length c6] 24 (0, 0))) fun _ _ => id) hx5 ho5 (ok.ext ((Ext.refl (fun _ => False) w3).alloc _) fun _ _ => id) (ov3.ext ((Ext.refl (fun _ => False) w3).alloc _) fun _ _ => id)
        (fun q hq => ⟨.inl hq.1, hq.2⟩) (fun q hq => by
          simp only [Value.ownBlock, Option.some.injEq] at hq
          subst hq
          exact ⟨.inr (.inl rfl), by omega⟩) (fun q hq => ⟨by have := hfk q hq; omega, .inr (.inr (.inl hq)), by have := hfk q hq; omega⟩) (fun q hq => ⟨by have := hfv q hq; omega, ⟨.inr (.inr (.inr hq)), by have := hfv q hq; omega⟩, (fv q hq).2⟩)
      have y6 := y5.ext z5 fun q hq => hq.2
      rw [hpl] at y6
      refine ⟨fun b => D' b ∨ b = g5 ∨ (Value.slice A5 k.length c5).ownBlock = some b ∨ (Value.slice A6 v.length c6).ownBlock = some b, ⟨_, _, g6, by rw [List.map_append]; exact y6, .inl i3, fun b hb => ?_, ?_⟩, ?_, fun b hb => ?_⟩
      · have hz := z5.size
        rcases hb with hb | rfl | hb | hb
        · have := i4 b hb
          exact ⟨by omega, this.2⟩
        · exact ⟨by omega, .inr hg5w⟩
        · have := ok.lt b hb
          have := hfk b hb
          exact ⟨by omega, .inr (by omega)⟩
        · have := ov3.lt b hb
          have := hfv b hb
          exact ⟨by omega, .inr (by omega)⟩
      · refine ((i5.trans' xA3 fun b hb => .inr (by omega)).trans' x35 fun b hb => .inr (by have := hob b hb; omega)).trans z5
      · have u1 : Ext (fun b => D' b ∨ A.heap.size ≤ b) W2 w3 := ((Ext.refl (fun _ => False) W2).drew.trans x4).mono fun _ _ => False.elim
        exact (u1.trans' x35 fun b hb => .inl (.inl (hown b hb))).trans' z5 fun b hb => .inl (.inl (by rw [hb]; exact i3))
      · rcases hb with hb | rfl | hb | hb
        · exact .inl hb
        · rcases hg5 with h | h
          · exact .inl (hown _ h)
          · exact .inr (by have := hsz4 (.cells #[.slice A5 k.length c5, .slice A6 v.length c6] 24 (0, 0)); omega)
        · exact .inr (hfk b hb)
        · exact .inr (hfv b hb)
    · rintro D' d W hd ⟨ov, vs, i1, i2, i3, i4, i5⟩ hnd hdef
      obtain ⟨Ao, co, rfl⟩ := i2.form
      have e0 := cells_at i1 0
      simp only [Exit.inBlock, Exit.then]
      have HI := Lib.hid (And.intro i2 (And.intro i4 (And.intro i5 (And.intro hnd (And.intro hdef hd)))))
      clear i1 i2 i3 i4 i5 hnd hdef y1' ho1 hb1
      go_wp2_with fail
      obtain ⟨i2, i4, i5, hnd, hdef, hd⟩ := HI.out
      refine ⟨by simp, .inl ⟨_, _, rfl, run_takeDeferred hdef, ?_⟩⟩
      refine ⟨_, results_tmp rfl _ _ _, ?_⟩
      rw [HX.out.1] at i2
      have z : Ext (· = d) W (W.putObj d (.deferred none)) := (Ext.refl (· = d) W).putObj (.inl rfl) _
      refine ⟨_, vs, _, rfl, (i2.ext z fun k hk e => hnd (e ▸ hk.1)).less HX.out.2.2.1.size, fun b hb => ?_, ?_⟩
      · have h1 := HX.out.2.2.1.size
        rcases (i4 b hb.1).2 with h | h
        · exact absurd h hb.2
        · omega
      · exact (HX.out.2.2.1.trans' i5 fun b hb => .inr (by omega)).trans' z fun b hb => .inr (by have := HX.out.2.2.1.size; omega)
end Go.Proofs.Ytoflfhjeabpcjaa
/- Constant bytes laid out; no condition. -/
namespace Go.Proofs.Ytoflfhjeabpcjaa
set_option linter.unusedVariables false
set_option linter.unusedSimpArgs false
open Go.RowKit

theorem Byt.const {w : World} {g : Nat} {l : Bs} {t : TypeId} {fr : Nat × Nat} {cs : Array Value} (h : w.heap[g]? = some (.cells cs t fr)) (hc : cs = (l.map fun c => Value.int .u8 c.toNat).toArray) (n : Nat) (hn : n = l.length) :
    Byt (fun b => b = g) w (.slice (some ⟨g, 0, none⟩) n n) l := by
  subst hc hn
  refine ⟨_, _, rfl, Nat.le_refl _, fun _ => ⟨_, rfl, rfl, fun j u hu => ?_⟩⟩
  have ha : (⟨g, 0, none⟩ : Addr).add j = ⟨g, j, none⟩ := by unfold Addr.add; split <;> simp_all
  rw [ha]
  simp [World.cell?, h, hu]

end Go.Proofs.Ytoflfhjeabpcjaa
/- The small case of the tree's statements; no condition. -/
namespace Go.Proofs.Ytoflfhjeabpcjaa
set_option linter.unusedVariables false
set_option linter.unusedSimpArgs false
open Go.RowKit

set_option maxRecDepth 100000 in
set_option maxHeartbeats 1000000 in
theorem trie_small (w : World) : Calls Try.prog 13 #[] w fun e w' => e = .returned (.bool true) ∧ Ext (fun _ => False) w w' := by
  have kc := fun (w : World) (C : Array Value) (n c : Nat) => Lib.run_convert_bytes_const (P := Try.prog) w 22 5 C n c Try.underlying22 Try.underlying5
  have kc2 : ∀ (w : World) (o : Obj) (C : Array Value) (n c : Nat), (convert 22 22 (.slice (some ⟨w.heap.size + 1, 0, none⟩) n c)).run Try.prog ((w.alloc o).alloc (.cells C 5)) = .ok (.slice (some ⟨w.heap.size + 1, 0, none⟩) n c) ((w.alloc o).alloc (.cells C 5 (C.size, C.size + 1))) := fun w o C n c => by
    have h := kc (w.alloc o) C n c
    rwa [show (w.alloc o).heap.size = w.heap.size + 1 by simp] at h
  have hxa := fun (w : World) (o : Obj) => (Ext.refl (fun _ => False) w).alloc o
  have hk1 : ∀ (w : World) (x : UInt8) (o : Obj), Byt (fun _ => True) ((w.alloc (.cells #[.int .u8 x.toNat] 5 (1, 2))).alloc o) (.slice (some ⟨w.heap.size, 0, none⟩) 1 1) [x] := fun w x o => ((Byt.const (l := [x]) (heap_alloc_self w (.cells #[.int .u8 x.toNat] 5 (1, 2))) rfl 1 rfl).mono fun _ _ => trivial).same (hxa _ o)
  have hk2 : ∀ (w : World) (x : UInt8) (o : Obj), Byt (fun _ => True) ((w.alloc o).alloc (.cells #[.int .u8 x.toNat] 5 (1, 2))) (.slice (some ⟨w.heap.size + 1, 0, none⟩) 1 1) [x] := fun w x o => by
    have := (Byt.const (l := [x]) (heap_alloc_self (w.alloc o) (.cells #[.int .u8 x.toNat] 5 (1, 2))) rfl 1 rfl).mono (D' := fun _ => True) fun _ _ => trivial
    rwa [show (w.alloc o).heap.size = w.heap.size + 1 by simp] at this
  have hk0 : ∀ (w : World) (x : UInt8), Byt (fun _ => True) (w.alloc (.cells #[.int .u8 x.toNat] 5 (1, 2))) (.slice (some ⟨w.heap.size, 0, none⟩) 1 1) [x] := fun w x => (Byt.const (l := [x]) (heap_alloc_self w (.cells #[.int .u8 x.toNat] 5 (1, 2))) rfl 1 rfl).mono fun _ _ => trivial
  have HK := Lib.hid (And.intro hk0 (And.intro hk1 hk2))
  have HXA := Lib.hid hxa
  clear hk0 hk1 hk2 hxa
  go_enter Try.func13, Try.ntmps13
  go_wp2_with fail
  refine (tm_new (Ext.refl _ _)).mono ?_
  rintro e w1 ⟨rfl, h1⟩
  generalize w.heap.size = c at *
  go_wp2_with fail
  refine (tm_put (k := [97]) (v := [49]) ((h1.still (HXA.out _ _)).still (HXA.out _ _)) (HK.out.2.1 _ 97 _) (HK.out.2.2 _ 49 _) (by decide)).mono ?_
  rintro e w2 ⟨o1, rfl, p1, h2, _⟩
  have hl1 : (Tr.entsO o1).length = 1 := by
    unfold PutO at p1
    rw [if_pos (by decide)] at p1
    obtain ⟨t1, rfl, k1, k2, k3⟩ := p1
    have := t1.ents_pos
    simp [Tr.entsO] at k3 ⊢
    omega
  have H1 := Lib.hid (And.intro p1 hl1)
  clear h1 p1 hl1
  rw [show putE [97] [49] = 0 by decide]
  have H2 := Lib.hid h2
  clear h2
  go_wp2_with fail
  refine (tm_put (k := [98]) (v := [50]) ((H2.out.still (HXA.out _ _)).still (HXA.out _ _)) (HK.out.2.1 _ 98 _) (HK.out.2.2 _ 50 _) (by rw [H1.out.2]; decide)).mono ?_
  rintro e w3 ⟨o2, rfl, p2, h3, _⟩
  obtain rfl := small_tree H1.out.1 p2
  rw [show putE [98] [50] = 0 by decide]
  have H3 := Lib.hid h3
  clear h3 p2
  go_wp2_with fail
  refine (tm_get (k := [97]) (H3.out.still (HXA.out _ _)) (HK.out.1 _ 97) (by decide)).mono ?_
  rw [show Tr.get (some (.fork 7 (.leaf [97] [49]) (.leaf [98] [50]))) [97] = some [49] by decide]
  rintro e w4 ⟨vg, rfl, o4, n4, h4, x4⟩
  have hcv := fun (W : World) (hx : Ext (fun _ => False) w4 W) => (o4.byt.same hx).conv 22 5 9 Try.underlying22 Try.underlying5 Try.underlying9 W rfl
  have H4 := Lib.hid (And.intro h4 hcv)
  clear o4 n4 h4 x4 hcv
  go_wp2_with fail
  refine (tm_path (k := [97]) (H4.out.1.still (HXA.out _ _)) (HK.out.1 _ 97) (by decide) (by decide)).mono ?_
  rintro e w5 ⟨ka, va, sv, rfl, o5, o6, n5, _, r5, h5, x5⟩
  rw [show pathO (some (.fork 7 (.leaf [97] [49]) (.leaf [98] [50]))) [97] = [(7, false, .leaf [98] [50])] from rfl] at r5
  rw [show endO (some (.fork 7 (.leaf [97] [49]) (.leaf [98] [50]))) [97] = ([97], [49]) from rfl] at o5
  obtain ⟨g, cap, rfl, _, hcap, hg, s0, s1, _⟩ := steps_at r5 (i := 0) rfl
  obtain ⟨A5, c5, rfl⟩ := o5.formv
  change OwnB w5 (.slice A5 1 c5) [97] at o5
  obtain ⟨A6, c6, rfl⟩ := o6.formv
  clear o6
  have hxo := fun o : Obj => HXA.out w5 o
  have s0' := fun o : Obj => cell_same s0 (hxo o)
  have s1' := fun o : Obj => cell_same s1 (hxo o)
  have hcv1 := fun o : Obj => H4.out.2 (w5.alloc o) (((HXA.out _ _).trans x5).trans (hxo o))
  have hcv2 := fun o : Obj => (o5.byt.same (hxo o)).conv 22 5 9 Try.underlying22 Try.underlying5 Try.underlying9 (w5.alloc o) rfl
  have hc5 := fun o : Obj => tm_count (h5.still (hxo o))
  rw [show (Tr.entsO (some (.fork 7 (.leaf [97] [49]) (.leaf [98] [50])))).length = 2 from rfl] at hc5
  have H5 := Lib.hid (And.intro h5 (And.intro hc5 hxo))
  rw [show (Option.isNone (some (Tr.fork 7 (.leaf [97] [49]) (.leaf [98] [50])))) = false from rfl, show ([(7, false, Tr.leaf [98] [50])] : List (Nat × Bool × Tr)).length = 1 from rfl, show (([97], [49]) : Bs × Bs).1 = [97] from rfl, show ([97] : Bs).length = 1 from rfl]
  rw [show ([(7, false, Tr.leaf [98] [50])] : List (Nat × Bool × Tr)).length = 1 from rfl] at hcap
  clear r5 o5 n5 h5 x5 hc5 s0 s1 hxo
  go_wp2_with fail
  refine (H5.out.2.1 _).mono ?_
  rintro e _ ⟨rfl, rfl⟩
  go_wp2_with fail
  refine (bit_walk (k := [97]) (HK.out.2.2 _ 97 _) (by decide) 0).mono ?_
  rw [show bitI [97] 0 = true by decide]
  rintro e w6 ⟨rfl, hw6⟩
  have x6 : Ext (fun _ => False) w w6 := by rw [← hw6]; exact (H5.out.1.2.2.alloc _).alloc _
  have H6 := Lib.hid x6
  clear hw6 x6
  go_wp2_with fail
  refine (bit_walk (k := [97]) (HK.out.1 _ 97) (by decide) 9).mono ?_
  rw [show bitI [97] 9 = false by decide]
  rintro e _ ⟨rfl, rfl⟩
  go_wp2_with fail
  go_ret
  exact ⟨rfl, H6.out.alloc _⟩
end Go.Proofs.Ytoflfhjeabpcjaa
/- Digests in variables; no condition. -/
namespace Go.Proofs.Ytoflfhjeabpcjaa
set_option linter.unusedVariables false
set_option linter.unusedSimpArgs false
open Go.RowKit

/-- A digest's cells. -/
def sumA (s : Bs) : Array Value := (s.map byteV).toArray
theorem sumV_A (s : Bs) : sumV s = .agg (sumA s) := sumV_cells s
theorem sumA_size {s : Bs} (h : s.length = 32) : (sumA s).size = 32 := sum_size s h
theorem sumA_one (s : Bs) : (sumA s).all (·.oneCell') = true := sum_one s
theorem sumA_eql {s t : Bs} (hs : s.length = 32) (ht : t.length = 32) (w : World) : (binOp .eql 29 (.agg (sumA s)) (.agg (sumA t))).run Try.prog w = .ok (.bool (decide (s = t))) w := by
  have := run_eql_sum s t hs ht w
  rwa [sumV_A, sumV_A] at this
theorem sumA_neq {s t : Bs} (hs : s.length = 32) (ht : t.length = 32) (w : World) : (binOp .neq 29 (.agg (sumA s)) (.agg (sumA t))).run Try.prog w = .ok (.bool (!decide (s = t))) w := by
  have h := sumA_eql hs ht w
  rw [run_eql_struct] at h
  rw [run_neq_struct]
  generalize hX : (Op.equalIn 10000 29 (.agg (sumA s)) (.agg (sumA t))).run Try.prog w = X at h ⊢
  cases X with
  | ok b w' =>
    simp only [Result.andThen_ok, Result.ok.injEq, Value.bool.injEq] at h ⊢
    rw [h.1, h.2]
    exact ⟨rfl, rfl⟩
  | _ => simp [Result.andThen] at h
theorem sum_new (w : World) {s : Bs} {t : TypeId} {cs : Array Value} : ((w.alloc (.cells cs t (0, 0))).setRow w.heap.size (sumA s)).heap[w.heap.size]? = some (.cells (sumA s) t (0, 0)) ∧ Ext (fun _ => False) w ((w.alloc (.cells cs t (0, 0))).setRow w.heap.size (sumA s)) :=
  ⟨setRow_heap _ _ _ _ _ _ (heap_alloc_self _ _), ((Ext.refl _ _).alloc _).setRow (.inr (Nat.le_refl _)) _⟩
theorem info_sum {s : Bs} (h : s.length = 32) : (Try.prog.info? 29).map (·.size) = some (sumA s).size := by rw [sumA_size h]; exact sum_info
theorem of_none : (ofR [110, 111, 110, 101] []) = (rootS none, 0) := by
  have : (ofR [110, 111, 110, 101] []).2 = 0 := by
    rw [ofR, if_pos (by decide)]
  rw [← this]
  rfl
theorem rowR_short {ls : List Bs} (hl : ls.length ≤ 4096) (h : ∀ l ∈ ls, l.length ≤ 65536) : (rowR ls).2 = 0 := by rw [rowR, if_pos ⟨hl, h⟩]
theorem of_leaf {k v : Bs} (hk : k.length ≤ 65536) (hv : v.length ≤ 65536) : ofR [108, 101, 97, 102] [k, v] = (sumT (.leaf k v), 0) := by
  have : (ofR [108, 101, 97, 102] [k, v]).2 = 0 := by
    have h : (textR [108, 101, 97, 102] [k, v]).2 = 0 := by
      rw [textR, if_neg (by decide)]
      refine rowR_short (by simp) fun l hl => ?_
      simp only [List.mem_cons, List.not_mem_nil, or_false] at hl
      rcases hl with rfl | rfl | rfl
      · decide
      · exact hk
      · exact hv
    rw [ofR, if_pos h]
  rw [← this]
  rfl
theorem of_fork (b : Nat) (l r : Tr) : ofR [102, 111, 114, 107] [beB (b : Int) 8, sumT l, sumT r] = (sumT (.fork b l r), 0) := by
  have : (ofR [102, 111, 114, 107] [beB (b : Int) 8, sumT l, sumT r]).2 = 0 := by
    have h : (textR [102, 111, 114, 107] [beB (b : Int) 8, sumT l, sumT r]).2 = 0 := by
      rw [textR, if_neg (by decide)]
      refine rowR_short (by simp) fun l' hl => ?_
      simp only [List.mem_cons, List.not_mem_nil, or_false] at hl
      rcases hl with rfl | rfl | rfl | rfl
      · decide
      · rw [beB_len]; decide
      · rw [sumT_len]; decide
      · rw [sumT_len]; decide
    rw [ofR, if_pos h]
  rw [← this]
  rfl
theorem sum_slice {w : World} {b : Nat} {s : Bs} {t : TypeId} {fr : Nat × Nat} (h : w.heap[b]? = some (.cells (sumA s) t fr)) (hs : s.length = 32) : Byt (fun _ => True) w (.slice (some ⟨b, 0, none⟩) 32 32) s :=
  (byt_const h rfl 32 hs.symm).mono fun _ _ => trivial
end Go.Proofs.Ytoflfhjeabpcjaa
/- The document's texts and roots; no condition. -/
namespace Go.Proofs.Ytoflfhjeabpcjaa
set_option linter.unusedVariables false
set_option linter.unusedSimpArgs false
open Go.RowKit

theorem of_text {nm : Bs} {ls : List Bs} (h : (textR nm ls).2 = 0) : (ofR nm ls).1 = rawB (textR nm ls).1 := by rw [ofR, if_pos h]
set_option maxRecDepth 100000 in
theorem text4_walk {w : World} {D : Nat → Prop} {v : Value} {nm : Bs} {ls : List Bs} (hv : Byts D w v ls) (hl : ls.length ≤ 5864062014634) (hnm : nm.length ≤ 9223372036854775807) :
    Calls Try.prog 95 #[str nm, v] w fun e w' => ∃ v', e = .returned v' ∧ FreshB w (textR nm ls).1 v' w' := by
  have H := Lib.hid (dtext_walk hv hl hnm)
  clear hv
  go_enter Try.func95, Try.ntmps95
  go_wp2_with fail
  refine H.out.mono ?_
  rintro e w2 ⟨v', rfl, hf⟩
  have HF := Lib.hid hf
  clear hf H
  go_wp2_with fail
  go_ret
  exact ⟨_, rfl, HF.out⟩
/-- The digest of a text that the document makes. -/
theorem raw4_walk {w : World} {D : Nat → Prop} {v : Value} {nm : Bs} {ls : List Bs} (hv : Byt D w v (textR nm ls).1) (h0 : (textR nm ls).2 = 0) :
    Calls Try.prog 37 #[v] w fun e w' => e = .returned (.agg (sumA (ofR nm ls).1)) ∧ Ext (fun _ => False) w w' := by
  refine (draw_walk hv (by have := textR_len nm ls; omega)).mono ?_
  rintro e w' ⟨rfl, hx⟩
  rw [sumV_A, of_text h0]
  exact ⟨rfl, hx⟩
set_option maxRecDepth 100000 in
set_option maxHeartbeats 1000000 in
theorem forktext_walk {w : World} {b : Nat} {l r : Tr} :
    Calls Try.prog 78 #[.int .i64 b, .agg (sumA (sumT l)), .agg (sumA (sumT r))] w fun e w' => ∃ v', e = .returned v' ∧ FreshB w (textR [102, 111, 114, 107] [beB (b : Int) 8, sumT l, sumT r]).1 v' w' := by
  go_enter Try.func78, Try.ntmps78
  go_wp2_with fail
  obtain ⟨g1, g2, g3⟩ := alloc2 w (.cells (sumA (sumT l)) 29 (0, 0)) (.cells (sumA (sumT r)) 29 (0, 0))
  generalize ((w.alloc (.cells (sumA (sumT l)) 29 (0, 0))).alloc (.cells (sumA (sumT r)) 29 (0, 0))) = W at *
  have HG := Lib.hid (And.intro (show W.drew.heap[w.heap.size]? = _ from g1) (And.intro (show W.drew.heap[w.heap.size + 1]? = _ from g2) g3.drew))
  have hgl : w.heap.size < W.drew.heap.size := lt_of_heap (show W.drew.heap[w.heap.size]? = _ from g1)
  clear g1 g2 g3
  refine wp_region_bar (Cls [w.heap.size] _) [([0, 2, 3], 1), ([], 4)] [] 5 [] [6] (by kernel_rfl) (by kernel_rfl) (Cls.refl _ _) ?_
  try dsimp only [wpMix, wpSegs, pick, List.getElem?_cons_zero, List.getElem?_cons_succ]
  generalize hz : Act.mk _ _ = z
  repeat (first | (refine wpQuiet_step (fun K hK => ?_); replace hK := Lib.hid hK; subst hz; go_simp; generalize hz : Act.mk _ _ = z; refine hK.out z ?_; clear hK K) | (refine wpQuiet_step (fun K hK => ?_); replace hK := Lib.hid hK; subst hz; refine iteSkip (by kernel_rfl) ?_; go_simp; generalize hz : Act.mk _ _ = z; refine hK.out z ?_; clear hK K))
  try refine wpQuiet_nil ?_
  subst hz
  try dsimp only [NoPan]
  generalize W.drew = V at *
  go_wp2_with fail
  refine (dnum_walk _ b).mono ?_
  rintro e w3 ⟨nv, rfl, f3⟩
  obtain ⟨A3, c3, rfl⟩ := f3.own.formv
  have HF := Lib.hid f3
  clear f3
  go_wp2_with fail
  refine ⟨Cls.of_ext HF.out.ext fun q hq => ⟨by simp at hq; subst hq; exact hgl, id⟩, ?_⟩
  try dsimp only [wpMix, wpSegs, pick, List.getElem?_cons_zero, List.getElem?_cons_succ]
  generalize hz : Act.mk _ _ = z
  repeat (first | (refine wpQuiet_step (fun K hK => ?_); replace hK := Lib.hid hK; subst hz; go_simp; generalize hz : Act.mk _ _ = z; refine hK.out z ?_; clear hK K) | (refine wpQuiet_step (fun K hK => ?_); replace hK := Lib.hid hK; subst hz; refine iteSkip (by kernel_rfl) ?_; go_simp; generalize hz : Act.mk _ _ = z; refine hK.out z ?_; clear hK K))
  try refine wpQuiet_nil ?_
  subst hz
  try dsimp only [NoPan]
  go_wp2_with fail
  generalize hw4 : World.alloc w3 _ = w4
  have g4 : w4.heap[w3.heap.size]? = some (.cells #[.slice A3 (beB b 8).length c3, .slice (some ⟨w.heap.size, 0, none⟩) 32 32, .slice (some ⟨w.heap.size + 1, 0, none⟩) 32 32] 22 (0, 0)) := by rw [← hw4]; exact heap_alloc_self _ _
  have x4 : Ext (fun _ => False) w3 w4 := by rw [← hw4]; exact (Ext.refl _ _).alloc _
  clear hw4
  have y4 := HF.out.ext.trans x4
  refine ⟨Cls.of_ext y4 fun q hq => ⟨by simp at hq; subst hq; exact hgl, id⟩, ?_⟩
  have hbs := byts_lit (D := fun _ => True) (ls := [beB b 8, sumT l, sumT r]) g4 rfl trivial (fun i x m hx hm => by
    match i with
    | 0 => simp at hx hm; subst hx hm; exact (HF.out.own.byt.mono (fun _ _ => trivial)).same x4
    | 1 => simp at hx hm; subst hx hm; exact (sum_slice HG.out.1 (sumT_len _)).same y4
    | 2 => simp at hx hm; subst hx hm; exact (sum_slice HG.out.2.1 (sumT_len _)).same y4
    | n + 3 => simp at hx) 3 rfl
  have H4 := Lib.hid (And.intro hbs y4)
  clear hbs x4 y4 g4
  generalize w3.heap.size = b4 at *
  try dsimp only [wpMix, wpSegs, pick, List.getElem?_cons_zero, List.getElem?_cons_succ]
  generalize hz : Act.mk _ _ = z
  repeat (first | (refine wpQuiet_step (fun K hK => ?_); replace hK := Lib.hid hK; subst hz; go_simp; generalize hz : Act.mk _ _ = z; refine hK.out z ?_; clear hK K) | (refine wpQuiet_step (fun K hK => ?_); replace hK := Lib.hid hK; subst hz; refine iteSkip (by kernel_rfl) ?_; go_simp; generalize hz : Act.mk _ _ = z; refine hK.out z ?_; clear hK K))
  try refine wpQuiet_nil ?_
  subst hz
  try dsimp only [NoPan]
  go_wp2_with fail
  refine (text4_walk (nm := [102, 111, 114, 107]) H4.out.1 (by simp) (by decide)).mono ?_
  rintro e w5 ⟨v5, rfl, f5⟩
  have H5 := Lib.hid (f5.base (HG.out.2.2.trans H4.out.2))
  clear f5
  go_wp2_with fail
  try dsimp only [wpMix, wpSegs, pick, List.getElem?_cons_zero, List.getElem?_cons_succ]
  generalize hz : Act.mk _ _ = z
  repeat (first | (refine wpQuiet_step (fun K hK => ?_); replace hK := Lib.hid hK; subst hz; go_simp; generalize hz : Act.mk _ _ = z; refine hK.out z ?_; clear hK K) | (refine wpQuiet_step (fun K hK => ?_); replace hK := Lib.hid hK; subst hz; refine iteSkip (by kernel_rfl) ?_; go_simp; generalize hz : Act.mk _ _ = z; refine hK.out z ?_; clear hK K))
  try refine wpQuiet_nil ?_
  subst hz
  try dsimp only [NoPan]
  go_wp2_with fail
  go_ret
  exact ⟨_, rfl, H5.out⟩
/-- A row of the call's own, of some values. -/
def OwnV (N : Nat) (w : World) (v : Value) (n : Nat) : Prop := ∃ xs, w.ownsRow N 22 1 v n xs ∧ ∀ u ∈ xs, u.oneCell' = true
theorem OwnV.still {N n : Nat} {w w' : World} {v : Value} (h : OwnV N w v n) (hx : Ext (fun _ => False) w w') : OwnV N w' v n := by
  obtain ⟨xs, h1, h2⟩ := h
  exact ⟨xs, own_ext h1 hx fun _ _ => id, h2⟩
theorem OwnV.less {N N' n : Nat} {w : World} {v : Value} (h : OwnV N w v n) (hN : N' ≤ N) : OwnV N' w v n := by
  obtain ⟨xs, h1, h2⟩ := h
  exact ⟨xs, own_less h1 hN, h2⟩
theorem OwnV.from {N n : Nat} {w : World} {v : Value} (h : OwnV N w v n) : ∀ k, v.ownBlock = some k → N ≤ k ∧ k < w.heap.size := by
  obtain ⟨xs, h1, h2⟩ := h
  exact fun k hk => ⟨own_base h1 k hk, own_below h1 k hk⟩
theorem OwnV.form {N n : Nat} {w : World} {v : Value} (h : OwnV N w v n) : ∃ A c, v = .slice A n c := by
  obtain ⟨xs, h1, h2⟩ := h
  exact own_form h1
theorem OwnV.one {w : World} {N g : Nat} {A : Option Addr} {m c : Nat} (h : w.heap[g]? = some (.cells #[.slice A m c] 22 (0, 0))) (hN : N ≤ g) : OwnV N w (.slice (some ⟨g, 0, none⟩) 1 1) 1 :=
  ⟨[.slice A m c], ⟨rfl, .inr ⟨g, 1, #[.slice A m c], rfl, hN, h, Nat.le_refl _, by unfold maxLen; decide, rfl, rfl⟩⟩, fun u hu => by rw [List.mem_singleton.1 hu]; rfl⟩
theorem info_row24 : (Try.prog.info? 22).map (fun i => (i.zero, i.size, i.bytes)) = some (some (.slice none 0 0), 1, 24) := by kernel_rfl
/-- A row is put behind a row of the call's own. -/
theorem wpList_append_ownv {ops : Array Oper} {rest : List Oper} {o : Oper} {a : Act} {Q : Exit → Act → World → Prop} {w : World} (hgd : o.guard = none) (s x : Operand)
    (ho : o.op = .call { callee := .builtin .append, args := #[s, x], argTypes := #[68, 68] })
    {N N' n m : Nat} {v v' : Value} (hs : a.eval s = v) (hx : a.eval x = v') (h : OwnV N w v n) (h' : OwnV N' w v' m) (hm : 0 < m) (hnm : n + m ≤ 4096) (hN : N ≤ w.heap.size)
    (next : ∀ g cap w', OwnV N w' (.slice (some ⟨g, 0, none⟩) (n + m) cap) (n + m) → Ext (fun k => v.ownBlock = some k) w w' → wpList Try.prog ops Q rest (a.put o.dst (.slice (some ⟨g, 0, none⟩) (n + m) cap)) w') :
    wpList Try.prog ops Q (o :: rest) a w := by
  obtain ⟨xs, h1, h2⟩ := h
  obtain ⟨ys, k1, k2⟩ := h'
  obtain ⟨i, hi1, hi2⟩ := Option.map_eq_some_iff.1 info_row24
  simp only [Prod.mk.injEq] at hi2
  obtain ⟨z1, z2, z3⟩ := hi2
  rcases k1.2 with ⟨_, h0⟩ | ⟨g, cap, cur, hv', hg, hh, hc1, hc2, hsz, htk⟩
  · omega
  have hyl := k1.1
  refine wpList_append_lies w hgd s x 68 ho N 22 i _ 1 24 Try.underlying68 hi1 z1 z2 z3 rfl (by decide) v n xs hs h1 ⟨g, 0, none⟩ m cap ys (by rw [hx, hv']) hyl ?_ k2 hm (by unfold maxLen; omega) (by omega) hN _ rfl ?_
  · intro j u hu
    have ha : (⟨g, 0, none⟩ : Addr).add j = ⟨g, j, none⟩ := by unfold Addr.add; split <;> simp_all
    have hj := (List.getElem?_eq_some_iff.1 hu).1
    rw [ha, cells_at hh]
    rw [← htk, List.getElem?_take_of_lt (by omega)] at hu
    simpa using hu
  · intro g' cap' w' e1 e2 e3 e4
    refine next g' cap' w' ⟨xs ++ ys, e1, fun u hu => (List.mem_append.1 hu).elim (h2 u) (k2 u)⟩ ⟨e2.os, e2.tape, e2.output, e2.size, fun k hk hn => e2.block k hk fun e => hn e.symm⟩
theorem side_l {b : Nat} {l r : Tr} (h : (Tr.fork b l r).ok) : sideL (Tr.fork b l r).ents b false = l.ents := by
  rw [sideL, Tr.ents, List.filter_append]
  rw [List.filter_eq_self.2 (fun e he => by rw [h.2.2.1 e he]; rfl), List.filter_eq_nil_iff.2 (fun e he => by rw [h.2.2.2.1 e he]; decide), List.append_nil]
theorem side_r {b : Nat} {l r : Tr} (h : (Tr.fork b l r).ok) : sideL (Tr.fork b l r).ents b true = r.ents := by
  rw [sideL, Tr.ents, List.filter_append]
  rw [List.filter_eq_nil_iff.2 (fun e he => by rw [h.2.2.1 e he]; decide), List.filter_eq_self.2 (fun e he => by rw [h.2.2.2.1 e he]; rfl), List.nil_append]
end Go.Proofs.Ytoflfhjeabpcjaa
/- The document's Texts, Root; no condition. -/
namespace Go.Proofs.Ytoflfhjeabpcjaa
set_option linter.unusedVariables false
set_option linter.unusedSimpArgs false
open Go.RowKit

theorem text_leaf {k v : Bs} (hk : k.length ≤ 65536) (hv : v.length ≤ 65536) : (textR [108, 101, 97, 102] [k, v]).2 = 0 := by
  rw [textR, if_neg (by decide)]
  refine rowR_short (by simp) fun l hl => ?_
  simp only [List.mem_cons, List.not_mem_nil, or_false] at hl
  rcases hl with rfl | rfl | rfl
  · decide
  · exact hk
  · exact hv
theorem text_fork (b : Nat) (l r : Tr) : (textR [102, 111, 114, 107] [beB (b : Int) 8, sumT l, sumT r]).2 = 0 := by
  rw [textR, if_neg (by decide)]
  refine rowR_short (by simp) fun l' hl => ?_
  simp only [List.mem_cons, List.not_mem_nil, or_false] at hl
  rcases hl with rfl | rfl | rfl | rfl
  · decide
  · rw [beB_len]; decide
  · rw [sumT_len]; decide
  · rw [sumT_len]; decide
def TextsPost (w : World) (s : Bs) (N : Nat) (e : Ending) (w' : World) : Prop := ∃ v3 n, e = .returned (.tuple #[.agg (sumA s), v3]) ∧ OwnV w.heap.size w' v3 n ∧ 0 < n ∧ n ≤ N ∧ Ext (fun _ => False) w w'
theorem Ents.at {w : World} {v : Value} {l : List (Bs × Bs)} (h : Ents w v l) {i : Nat} (hi : i < l.length) : ∃ g off c, v = .slice (some ⟨g, off, none⟩) l.length c ∧ g < w.heap.size ∧ EntryIs (· < w.heap.size) w g (off + i * 2) l[i] := by
  obtain ⟨A, c, rfl, hc, h⟩ := h
  have hne : l ≠ [] := by rintro rfl; simp at hi
  obtain ⟨g, o, rfl, hd, hr⟩ := h hne
  exact ⟨g, o, c, rfl, hd, hr i _ (List.getElem?_eq_getElem hi)⟩
set_option maxRecDepth 100000 in
set_option maxHeartbeats 2000000 in
theorem dtexts_none {w : World} {lv : Value} (hL : Ents w lv []) : Calls Try.prog 49 #[lv] w (TextsPost w (rootS none) 1) := by
  have hs1 := heap_alloc_self w (.cells ((List.replicate 32 (0 : UInt8)).map byteV).toArray 29 (0, 0))
  have hx1 : Ext (fun _ => False) w (w.alloc (.cells ((List.replicate 32 (0 : UInt8)).map byteV).toArray 29 (0, 0))) := (Ext.refl _ _).alloc _
  obtain ⟨A, cp, rfl, _, _⟩ := hL
  have H1 := Lib.hid (And.intro hs1 hx1)
  clear hs1 hx1
  go_enter Try.func49, Try.ntmps49
  go_wp2_with fail
  refine (text4_walk (nm := [110, 111, 110, 101]) (ls := []) (D := fun _ => True) ⟨_, _, rfl, Nat.le_refl _, fun h => absurd rfl h⟩ (by simp) (by decide)).mono ?_
  rintro e w2 ⟨v2, rfl, f2⟩
  obtain ⟨A2, c2, rfl⟩ := f2.own.formv
  have x2 : Ext (fun _ => False) w w2 := H1.out.2.trans f2.ext
  have s2 := f2.ext.heap H1.out.1 id
  have hn2 := lt_of_heap s2
  have H2 := Lib.hid (And.intro f2.own (And.intro x2 s2))
  clear f2 x2 s2
  go_wp2_with fail
  refine (raw4_walk (nm := [110, 111, 110, 101]) (ls := []) H2.out.1.byt (by decide)).mono ?_
  rintro e w3 ⟨rfl, x3⟩
  rw [of_none]
  have s3 := x3.heap H2.out.2.2 id
  have y3 := H2.out.2.1.trans x3
  have hn3 := lt_of_heap s3
  have H3 := Lib.hid (And.intro s3 y3)
  clear s3 y3 x3
  have hs4 : ∀ o : Obj, (w3.alloc o).heap[w.heap.size]? = some (.cells ((List.replicate 32 (0 : UInt8)).map byteV).toArray 29 (0, 0)) := fun o => ((Ext.refl (fun _ => False) w3).alloc o).heap H3.out.1 id
  have H4 := Lib.hid hs4
  clear hs4
  go_wp2_with (refine wpList_store_row rfl 29 _ _ rfl w.heap.size (sumA (rootS none)) rfl rfl 29 _ (H4.out _) (info_sum (rootS_len _)) (by rw [sumA_size (rootS_len _)]; rfl) (sumA_one _) ?_)
  refine bodyPost_ret (results_cell_tmp rfl _ _ w.heap.size 29 (sumA (rootS none)) (0, 0) _ rfl (setRow_heap _ _ _ _ _ _ (H4.out _)) Try.underlying29 rfl (info_sum (rootS_len _))) rfl ?_
  have hg := heap_alloc_self w3 (.cells #[.slice A2 (textR [110, 111, 110, 101] []).1.length c2] 22 (0, 0))
  refine ⟨_, 1, rfl, OwnV.one (by rw [setRow_other _ _ _ _ (by omega)]; exact hg) (by omega), by decide, Nat.le_refl _, (H3.out.2.alloc _).setRow (.inr (Nat.le_refl _)) _⟩
set_option maxRecDepth 100000 in
set_option maxHeartbeats 2000000 in
theorem dtexts_leaf {w : World} {lv : Value} {k v : Bs} (hL : Ents w lv [(k, v)]) (hk : k.length ≤ 120) (hv : v.length ≤ 1200) : Calls Try.prog 49 #[lv] w (TextsPost w (sumT (.leaf k v)) 1) := by
  have hs1 := heap_alloc_self w (.cells ((List.replicate 32 (0 : UInt8)).map byteV).toArray 29 (0, 0))
  have hx1 : Ext (fun _ => False) w (w.alloc (.cells ((List.replicate 32 (0 : UInt8)).map byteV).toArray 29 (0, 0))) := (Ext.refl _ _).alloc _
  obtain ⟨g, off, c, rfl, hgl, ⟨⟨a, b, c0, c1, ha, hb⟩, _, _⟩⟩ := hL.at (i := 0) (by simp)
  have z0 : (w.alloc (.cells ((List.replicate 32 (0 : UInt8)).map byteV).toArray 29 (0, 0))).cell? ⟨g, off, none⟩ = some a := cell_same (by simpa using c0) hx1
  have z1 : (w.alloc (.cells ((List.replicate 32 (0 : UInt8)).map byteV).toArray 29 (0, 0))).cell? ⟨g, off + 1, none⟩ = some b := cell_same (by simpa using c1) hx1
  have hlen : ([(k, v)] : List (Bs × Bs)).length = 1 := rfl
  rw [hlen]
  replace ha : Byt (fun _ => True) w a k := ha.mono fun _ _ => trivial
  replace hb : Byt (fun _ => True) w b v := hb.mono fun _ _ => trivial
  have hg1 : g < (w.alloc (.cells ((List.replicate 32 (0 : UInt8)).map byteV).toArray 29 (0, 0))).heap.size := Nat.lt_of_lt_of_le hgl hx1.size
  obtain ⟨A1, cc1, rfl, _, _⟩ := id ha
  obtain ⟨A2, cc2, rfl, _, _⟩ := id hb
  have H1 := Lib.hid (And.intro hs1 (And.intro hx1 (And.intro ha hb)))
  clear ha hb hL c0 c1
  go_enter Try.func49, Try.ntmps49
  go_wp2_with fail
  generalize hW1 : World.alloc w _ = W1
  have z0' : W1.drew.cell? ⟨g, off, none⟩ = some (.slice A1 k.length cc1) := by rw [← hW1]; exact z0
  have z1' : W1.drew.cell? ⟨g, off + 1, none⟩ = some (.slice A2 v.length cc2) := by rw [← hW1]; exact z1
  have s1 : W1.drew.heap[w.heap.size]? = some (.cells ((List.replicate 32 (0 : UInt8)).map byteV).toArray 29 (0, 0)) := by rw [← hW1]; exact H1.out.1
  have x1 : Ext (fun _ => False) w W1.drew := by rw [← hW1]; exact H1.out.2.1.drew
  have hg1' : g < W1.drew.heap.size := by rw [← hW1]; exact hg1
  have hn1 := lt_of_heap s1
  have HZ := Lib.hid (And.intro s1 x1)
  clear hW1 z0 z1 hg1 s1 x1
  refine wp_region_bar (Cls [g] _) [([0, 1, 2, 3, 4, 5, 6, 7], 8)] [] 9 [] [10] (by kernel_rfl) (by kernel_rfl) (Cls.refl _ _) ?_
  try dsimp only [wpMix, wpSegs, pick, List.getElem?_cons_zero, List.getElem?_cons_succ]
  generalize hz : Act.mk _ _ = z
  repeat (first | (refine wpQuiet_step (fun K hK => ?_); replace hK := Lib.hid hK; subst hz; go_simp; generalize hz : Act.mk _ _ = z; refine hK.out z ?_; clear hK K) | (refine wpQuiet_step (fun K hK => ?_); replace hK := Lib.hid hK; subst hz; refine iteSkip (by kernel_rfl) ?_; go_simp; generalize hz : Act.mk _ _ = z; refine hK.out z ?_; clear hK K))
  try refine wpQuiet_nil ?_
  subst hz
  try dsimp only [NoPan]
  generalize W1.drew = V at *
  go_wp2_with fail
  generalize hw2 : World.alloc V _ = w2
  have g2 : w2.heap[V.heap.size]? = some (.cells #[.slice A1 k.length cc1, .slice A2 v.length cc2] 22 (0, 0)) := by rw [← hw2]; exact heap_alloc_self _ _
  have x2 : Ext (fun _ => False) V w2 := by rw [← hw2]; exact (Ext.refl _ _).alloc _
  clear hw2
  have hbs := byts_lit (D := fun _ => True) (vs := [.slice A1 k.length cc1, .slice A2 v.length cc2]) (ls := [k, v]) g2 rfl trivial (fun i a l ha hl => by
    match i with
    | 0 => simp at ha hl; subst ha hl; exact H1.out.2.2.1.same (HZ.out.2.trans x2)
    | 1 => simp at ha hl; subst ha hl; exact H1.out.2.2.2.same (HZ.out.2.trans x2)
    | n + 2 => simp at ha) 2 rfl
  have H2 := Lib.hid (And.intro hbs x2)
  clear hbs x2 g2
  refine ⟨Cls.of_ext H2.out.2 fun q hq => ⟨by simp at hq; subst hq; exact hg1', id⟩, ?_⟩
  generalize V.heap.size = gb at *
  try dsimp only [wpMix, wpSegs, pick, List.getElem?_cons_zero, List.getElem?_cons_succ]
  generalize hz : Act.mk _ _ = z
  repeat (first | (refine wpQuiet_step (fun K hK => ?_); replace hK := Lib.hid hK; subst hz; go_simp; generalize hz : Act.mk _ _ = z; refine hK.out z ?_; clear hK K) | (refine wpQuiet_step (fun K hK => ?_); replace hK := Lib.hid hK; subst hz; refine iteSkip (by kernel_rfl) ?_; go_simp; generalize hz : Act.mk _ _ = z; refine hK.out z ?_; clear hK K))
  try refine wpQuiet_nil ?_
  subst hz
  try dsimp only [NoPan]
  go_wp2_with fail
  refine (text4_walk (nm := [108, 101, 97, 102]) H2.out.1 (by simp) (by decide)).mono ?_
  rintro e w3 ⟨v3, rfl, f3⟩
  obtain ⟨A3, c3, rfl⟩ := f3.own.formv
  have y3 := (HZ.out.2.trans H2.out.2).trans f3.ext
  have s3 := (H2.out.2.trans f3.ext).heap HZ.out.1 id
  have hn3 := lt_of_heap s3
  have H3 := Lib.hid (And.intro f3.own (And.intro y3 (And.intro s3 (H2.out.2.trans f3.ext))))
  clear f3 y3 s3
  go_wp2_with fail
  try dsimp only [wpMix, wpSegs, pick, List.getElem?_cons_zero, List.getElem?_cons_succ]
  generalize hz : Act.mk _ _ = z
  repeat (first | (refine wpQuiet_step (fun K hK => ?_); replace hK := Lib.hid hK; subst hz; go_simp; generalize hz : Act.mk _ _ = z; refine hK.out z ?_; clear hK K) | (refine wpQuiet_step (fun K hK => ?_); replace hK := Lib.hid hK; subst hz; refine iteSkip (by kernel_rfl) ?_; go_simp; generalize hz : Act.mk _ _ = z; refine hK.out z ?_; clear hK K))
  try refine wpQuiet_nil ?_
  subst hz
  try dsimp only [NoPan]
  go_wp2_with fail
  refine (raw4_walk (nm := [108, 101, 97, 102]) (ls := [k, v]) H3.out.1.byt (text_leaf (by omega) (by omega))).mono ?_
  rintro e w4 ⟨rfl, x4⟩
  rw [of_leaf (by omega) (by omega)]
  have s4 := x4.heap H3.out.2.2.1 id
  have y4 := H3.out.2.1.trans x4
  have hn4 := lt_of_heap s4
  have H4 := Lib.hid (And.intro s4 y4)
  clear s4 y4 x4
  have hs5 : ∀ o : Obj, (w4.alloc o).heap[w.heap.size]? = some (.cells ((List.replicate 32 (0 : UInt8)).map byteV).toArray 29 (0, 0)) := fun o => ((Ext.refl (fun _ => False) w4).alloc o).heap H4.out.1 id
  have H5 := Lib.hid hs5
  clear hs5
  go_wp2_with (refine wpList_store_row rfl 29 _ _ rfl w.heap.size (sumA (sumT (.leaf k v))) rfl rfl 29 _ (H5.out _) (info_sum (sumT_len _)) (by rw [sumA_size (sumT_len _)]; rfl) (sumA_one _) ?_)
  refine bodyPost_ret (results_cell_tmp rfl _ _ w.heap.size 29 (sumA (sumT (.leaf k v))) (0, 0) _ rfl (setRow_heap _ _ _ _ _ _ (H5.out _)) Try.underlying29 rfl (info_sum (sumT_len _))) rfl ?_
  have hg := heap_alloc_self w4 (.cells #[.slice A3 (textR [108, 101, 97, 102] [k, v]).1.length c3] 22 (0, 0))
  refine ⟨_, 1, rfl, OwnV.one (by rw [setRow_other _ _ _ _ (by omega)]; exact hg) (by omega), by decide, by decide, (H4.out.2.alloc _).setRow (.inr (Nat.le_refl _)) _⟩
set_option maxRecDepth 100000 in
set_option maxHeartbeats 4000000 in
theorem dtexts_walk : ∀ (t : Tr), t.ok → ∀ {w : World} {lv : Value}, Ents w lv t.ents → t.ents.length ≤ 64 → Calls Try.prog 49 #[lv] w (TextsPost w (sumT t) (2 * t.ents.length - 1)) := by
  intro t
  induction t with
  | leaf k v => exact fun ht w lv hL _ => dtexts_leaf hL ht.1 ht.2
  | fork b l r ihl ihr =>
    intro ht w lv hL hn
    have hs1 := heap_alloc_self w (.cells ((List.replicate 32 (0 : UInt8)).map byteV).toArray 29 (0, 0))
    have hx1 : Ext (fun _ => False) w (w.alloc (.cells ((List.replicate 32 (0 : UInt8)).map byteV).toArray 29 (0, 0))) := (Ext.refl _ _).alloc _
    have hlp := l.ents_pos
    have hrp := r.ents_pos
    have hle : (Tr.fork b l r).ents.length = l.ents.length + r.ents.length := by rw [Tr.ents, List.length_append]
    have hsl := side_l ht
    have hsr := side_r ht
    have hb := Tr.place_lt ht
    have hfk : ∀ (W : World) (V : Value), Ents W V (Tr.fork b l r).ents → Calls Try.prog 96 #[V] W fun e w' => e = .returned (.int .i64 b) ∧ W = w' := by
      intro W V hE
      have h0 : 0 < (Tr.fork b l r).ents.length := by omega
      have hm0 : (Tr.fork b l r).ents[0] ∈ l.ents := by
        have : (Tr.fork b l r).ents[0] = l.ents[0] := List.getElem_append_left hlp
        rw [this]
        exact List.getElem_mem hlp
      obtain ⟨y, hy⟩ := r.some_ent
      refine dfork_walk hE (by omega) h0 (by omega) (fun i hi e he => Tr.alike ht he (List.getElem_mem h0) i hi) ⟨y, List.mem_append.2 (.inr hy), ?_⟩
      rw [ht.2.2.2.1 y hy, ht.2.2.1 _ hm0]
      decide
    have hE1 := hL.still hx1
    generalize (Tr.fork b l r).ents = L at *
    have HF := Lib.hid hfk
    have HT := Lib.hid (And.intro ht (And.intro hsl hsr))
    have hc0 : ((L.length : Int) == 0) = false := by rw [beq_eq_false_iff_ne]; omega
    have hc1 : ((L.length : Int) == 1) = false := by rw [beq_eq_false_iff_ne]; omega
    obtain ⟨A, cp, rfl, _, _⟩ := id hL
    have H1 := Lib.hid (And.intro hs1 (And.intro hx1 hE1))
    have HN := Lib.hid (And.intro hlp (And.intro hrp (And.intro hle (And.intro hn hb))))
    clear hs1 hx1 hE1 hL ht hsl hsr hfk hlp hrp hle hn hb
    generalize hTP : TextsPost w (sumT (Tr.fork b l r)) (2 * L.length - 1) = TP
    have HTP := Lib.hid hTP
    clear hTP
    go_enter Try.func49, Try.ntmps49
    go_wp2_with fail
    refine (HF.out _ _ H1.out.2.2).mono ?_
    rintro e w1 ⟨rfl, hw1⟩
    have s1 : w1.heap[w.heap.size]? = some (.cells ((List.replicate 32 (0 : UInt8)).map byteV).toArray 29 (0, 0)) := by rw [← hw1]; exact H1.out.1
    have x1 : Ext (fun _ => False) w w1 := by rw [← hw1]; exact H1.out.2.1
    have e1 : Ents w1 (.slice A L.length cp) L := by rw [← hw1]; exact H1.out.2.2
    have hn1 := lt_of_heap s1
    clear hw1 H1
    have H1 := Lib.hid (And.intro s1 (And.intro x1 e1))
    clear s1 x1 e1
    go_wp2_with fail
    refine (dside_walk H1.out.2.2 (by have := HN.out; omega) b false).mono ?_
    rintro e w2 ⟨v2, rfl, e2, x2⟩
    rw [HT.out.2.1] at e2
    have H2 := Lib.hid (And.intro e2 x2)
    clear e2 x2
    go_wp2_with fail
    refine (ihl HT.out.1.1 H2.out.1 (by have := HN.out; omega)).mono ?_
    rintro e w3 ⟨v3, n3, rfl, o3, p3, q3, x3⟩
    obtain ⟨A3, c3, rfl⟩ := o3.form
    have H3 := Lib.hid (And.intro (o3.less H2.out.2.size) (H2.out.2.trans x3))
    clear o3 x3 H2
    go_wp2_with (first | (refine wpList_store_row rfl 29 (.tmp 7) _ rfl w3.heap.size (sumA (sumT l)) rfl rfl 29 _ (heap_alloc_self _ _) (info_sum (sumT_len _)) (by rw [sumA_size (sumT_len _)]; rfl) (sumA_one _) ?_; rename_i ax; have HAx := Lib.hid ax; clear ax))
    refine HAx.out _ _ ?_
    clear HAx
    generalize hw4 : (w3.alloc _).setRow _ (sumA (sumT l)) = w4
    have s4 : w4.heap[w3.heap.size]? = some (.cells (sumA (sumT l)) 29 (0, 0)) := by rw [← hw4]; exact (sum_new w3).1
    have x4 : Ext (fun _ => False) w3 w4 := by rw [← hw4]; exact (sum_new w3).2
    clear hw4
    have y4 := H3.out.2.trans x4
    have H4 := Lib.hid (And.intro s4 (And.intro y4 (And.intro (H3.out.1.still x4) (And.intro (y4.heap H1.out.1 id) (H1.out.2.2.still y4)))))
    have hb7 : w3.heap.size < w4.heap.size := lt_of_heap s4
    clear s4 x4 y4 H3
    generalize w3.heap.size = b7 at *
    go_wp2_with fail
    refine (dside_walk H4.out.2.2.2.2 (by have := HN.out; omega) b true).mono ?_
    rintro e w5 ⟨v5, rfl, e5, x5⟩
    rw [HT.out.2.2] at e5
    have H5 := Lib.hid (And.intro e5 x5)
    clear e5 x5
    go_wp2_with fail
    refine (ihr HT.out.1.2.1 H5.out.1 (by have := HN.out; omega)).mono ?_
    rintro e w6 ⟨v6, n6, rfl, o6, p6, q6, x6⟩
    obtain ⟨A6, c6, rfl⟩ := o6.form
    have y6 := H5.out.2.trans x6
    have H6 := Lib.hid (And.intro o6 (And.intro (H4.out.2.2.1.still y6) (And.intro (y6.heap H4.out.1 id) (And.intro (y6.heap H4.out.2.2.2.1 id) (H4.out.2.1.trans y6)))))
    clear o6 x6 H5 y6
    go_wp2_with (first | (refine wpList_store_row rfl 29 (.tmp 9) _ rfl w6.heap.size (sumA (sumT r)) rfl rfl 29 _ (heap_alloc_self _ _) (info_sum (sumT_len _)) (by rw [sumA_size (sumT_len _)]; rfl) (sumA_one _) ?_; rename_i ax; have HAx := Lib.hid ax; clear ax))
    refine HAx.out _ _ ?_
    clear HAx
    generalize hw7 : (w6.alloc _).setRow _ (sumA (sumT r)) = w7
    have s7 : w7.heap[w6.heap.size]? = some (.cells (sumA (sumT r)) 29 (0, 0)) := by rw [← hw7]; exact (sum_new w6).1
    have x7 : Ext (fun _ => False) w6 w7 := by rw [← hw7]; exact (sum_new w6).2
    clear hw7
    have hrow6 := H6.out.1.from
    have H7 := Lib.hid (And.intro s7 (And.intro (x7.heap H6.out.2.2.1 id) (And.intro (H6.out.1.still x7) (And.intro (H6.out.2.1.still x7) (And.intro (x7.heap H6.out.2.2.2.1 id) (H6.out.2.2.2.2.trans x7))))))
    clear s7 x7 H6 hrow6
    generalize w6.heap.size = b9 at *
    go_wp2_with (first | refine wpList_load_row rfl 29 (.tmp 7) rfl b7 rfl 29 (sumA (sumT l)) (0, 0) _ H7.out.2.1 Try.underlying29 rfl (info_sum (sumT_len _)) ?_ | refine wpList_load_row rfl 29 (.tmp 9) rfl b9 rfl 29 (sumA (sumT r)) (0, 0) _ H7.out.1 Try.underlying29 rfl (info_sum (sumT_len _)) ?_)
    refine (forktext_walk (b := b) (l := l) (r := r)).mono ?_
    rintro e w8 ⟨v8, rfl, f8⟩
    obtain ⟨A8, c8, rfl⟩ := f8.own.formv
    have H8 := Lib.hid (And.intro f8.own (And.intro (H7.out.2.2.1.still f8.ext) (And.intro (H7.out.2.2.2.1.still f8.ext) (And.intro (f8.ext.heap H7.out.2.2.2.2.1 id) (H7.out.2.2.2.2.2.trans f8.ext)))))
    clear f8 H7
    go_wp2_with fail
    refine (raw4_walk (nm := [102, 111, 114, 107]) (ls := [beB (b : Int) 8, sumT l, sumT r]) H8.out.1.byt (text_fork b l r)).mono ?_
    rintro e w9 ⟨rfl, x9⟩
    rw [show (ofR [102, 111, 114, 107] [beB (b : Int) 8, sumT l, sumT r]).1 = sumT (.fork b l r) from by rw [of_fork]]
    have H9 := Lib.hid (And.intro (H8.out.2.1.still x9) (And.intro (H8.out.2.2.1.still x9) (And.intro (x9.heap H8.out.2.2.2.1 id) (H8.out.2.2.2.2.trans x9))))
    have hN9 : w1.heap.size ≤ w9.heap.size := H9.out.2.2.2.size
    have hnn : n3 + n6 + 1 ≤ 2 * L.length - 1 ∧ L.length ≤ 64 := by have := HN.out; omega
    clear x9 H8
    go_wp2_with (first
      | (refine wpList_append_ownv rfl (.tmp 59) (.tmp 60) rfl rfl rfl H9.out.2.1 H9.out.1 p6 (by omega) hN9 ?_; intro g1 cc1 W1' q1 z1; have HP := Lib.hid (And.intro q1 z1); clear q1 z1)
      | (refine wpList_append_ownv rfl (.tmp 61) (.tmp 63) rfl rfl rfl (HP.out.1.still ((Ext.refl (fun _ => False) W1').alloc _)) (OwnV.one (heap_alloc_self _ _) (Nat.zero_le _)) (by decide) (by omega) (Nat.le_trans hN9 (Nat.le_trans HP.out.2.size ((Ext.refl (fun _ => False) W1').alloc _).size)) ?_
         intro g2 cc2 W2' q2 z2
         have hz2 := ((Ext.refl (fun _ => False) W1').alloc (.cells #[.slice A8 (textR [102, 111, 114, 107] [beB (b : Int) 8, sumT l, sumT r]).1.length c8] 22 (0, 0))).heap (HP.out.2.heap H9.out.2.2.1 fun e => by have := (H9.out.2.1.from _ e).1; omega) id
         have hz3 := z2.heap hz2 fun e => by have := (HP.out.1.from _ e).1; omega
         have hxf : Ext (fun _ => False) w W2' := (((H1.out.2.1.trans H9.out.2.2.2).trans' HP.out.2 fun k' hk' => .inr (by have := (H9.out.2.1.from _ hk').1; omega)).trans ((Ext.refl (fun _ => False) W1').alloc _)).trans' z2 fun k' hk' => .inr (by have := (HP.out.1.from _ hk').1; omega)
         have HQ := Lib.hid (And.intro q2 (And.intro hz3 hxf))
         clear q2 z2 hz2 hz3 hxf
         refine wpList_store_row rfl 29 (.tmp 2) _ rfl w.heap.size (sumA (sumT (.fork b l r))) rfl rfl 29 _ HQ.out.2.1 (info_sum (sumT_len _)) (by rw [sumA_size (sumT_len _)]; rfl) (sumA_one _) ?_))
    refine bodyPost_ret (results_cell_tmp rfl _ _ w.heap.size 29 (sumA (sumT (.fork b l r))) (0, 0) _ rfl (setRow_heap _ _ _ _ _ _ HQ.out.2.1) Try.underlying29 rfl (info_sum (sumT_len _))) rfl ?_
    rw [← HTP.out]
    have hys : Ext (· = w.heap.size) W2' (W2'.setRow w.heap.size (sumA (sumT (.fork b l r)))) := (Ext.refl (· = w.heap.size) W2').setRow (.inl rfl) _
    obtain ⟨xs, k1, k2⟩ := HQ.out.1
    refine ⟨_, _, rfl, ⟨xs, own_less (own_ext k1 hys fun k' hk' e => ?_) (by omega), k2⟩, by omega, hnn.1, HQ.out.2.2.setRow (.inr (Nat.le_refl _)) _⟩
    have := own_base k1 k' hk'
    omega
end Go.Proofs.Ytoflfhjeabpcjaa
/- A tree of acts: vestrylaw04.made; no condition. -/
namespace Go.Proofs.Ytoflfhjeabpcjaa
set_option linter.unusedVariables false
set_option linter.unusedSimpArgs false
open Go.RowKit

theorem PutO.len {k v : Bs} {o o' : Option Tr} (h : PutO k v o o') : (Tr.entsO o').length ≤ (Tr.entsO o).length + 1 := by
  unfold PutO at h
  split at h
  · obtain ⟨t', rfl, _, _, h⟩ := h
    exact h
  · rw [h]; omega
set_option maxRecDepth 100000 in
set_option maxHeartbeats 2000000 in
theorem made_walk {w0 w : World} {av : Value} {acts : List Act4} (hA : Row (Act4Is (· < w0.heap.size)) 3 (· < w0.heap.size) w0 av acts) (hl : acts.length ≤ 9223372036854775807) (hx : Ext (fun _ => False) w0 w) :
    Calls Try.prog 21 #[av] w fun e w' => ∃ c o, e = .returned (ptrV c) ∧ TM w0 w' c o ∧ (Tr.entsO o).length ≤ 30 := by
  obtain ⟨A, cp, hav, hcap, hrow⟩ := id hA
  subst hav
  go_enter Try.func21, Try.ntmps21
  go_wp2_with fail
  refine (tm_new hx).mono ?_
  rintro e w1 ⟨rfl, h1⟩
  generalize w.heap.size = c at *
  clear hrow
  have H1 := Lib.hid h1
  clear h1
  go_wp2_with fail
  go_loopw [4] (fun i W => ∃ (k : Nat) (o : Option Tr), k ≤ acts.length ∧ k ≤ 30 ∧ i = .int .i64 k ∧ TM w0 W c o ∧ (Tr.entsO o).length ≤ k) (fun i _ => 30 - (intOf i).toNat)
  case atStart => exact ⟨0, none, by omega, by omega, rfl, H1.out, Nat.le_refl _⟩
  case round =>
    obtain ⟨k, o, hk, hk1, rfl, hT, hn⟩ := hrel
    by_cases hlt : k < acts.length
    · by_cases h30 : k < 30
      · obtain ⟨g, off, c', hav, hdb, ⟨⟨a, b, c0, c1, c2, ha, hb⟩, la, lb⟩⟩ := hA.at hlt
        simp only [Value.slice.injEq, true_and] at hav
        obtain ⟨rfl, rfl⟩ := hav
        have hkl : decide ((k : Int) < (acts.length : Int)) = true := by simp; omega
        have hk30 : decide ((k : Int) < 30) = true := by simp; omega
        have d0 := cell_same c0 hT.2.2
        have d1 := cell_same c1 hT.2.2
        have d2 := cell_same c2 hT.2.2
        have hgl : g < wr.heap.size := World.block_lt_of_cell? _ _ d0
        have HT := Lib.hid (And.intro hT hn)
        have HB := Lib.hid (And.intro ha (And.intro hb (And.intro la lb)))
        clear hT hn ha hb la lb
        generalize acts[k] = x at *
        by_cases h0 : x.d = 0
        · rw [h0] at d0
          rw [h0] at c0
          have HC0 := Lib.hid c0
          clear h0 hA c0 c1 c2
          go_wp2_with fail
          refine wp_region_bar (Cls [g] _) [] [0, 1, 2, 3, 4, 5, 6, 7, 8, 9, 10] 11 [] [] (by kernel_rfl) (by kernel_rfl) (Cls.refl _ _) ?_
          try dsimp only [wpMix, wpSegs, pick, List.getElem?_cons_zero, List.getElem?_cons_succ]
          generalize hz : Act.mk _ _ = z
          repeat (first | (refine wpQuiet_step (fun K hK => ?_); replace hK := Lib.hid hK; subst hz; go_simp; generalize hz : Act.mk _ _ = z; refine hK.out z ?_; clear hK K) | (refine wpQuiet_step (fun K hK => ?_); replace hK := Lib.hid hK; subst hz; refine iteSkip (by kernel_rfl) ?_; go_simp; generalize hz : Act.mk _ _ = z; refine hK.out z ?_; clear hK K))
          try refine wpQuiet_nil ?_
          subst hz
          try dsimp only [NoPan]
          go_wp2_with fail
          refine (tm_put (k := x.k) (v := x.v) (HT.out.1.still (Ext.refl _ _).drew) (HB.out.1.same HT.out.1.2.2.drew) (HB.out.2.1.same HT.out.1.2.2.drew) (by have := HT.out.2; omega)).mono ?_
          rintro e w2 ⟨o2, rfl, p2, h2, x2⟩
          have e0 := cell_same HC0.out h2.2.2
          have H2 := Lib.hid (And.intro h2 p2)
          clear h2 p2 x2 d0 d1 d2
          go_wp2_with fail
          try dsimp only [wpMix, wpSegs, pick, List.getElem?_cons_zero, List.getElem?_cons_succ]
          generalize hz : Act.mk _ _ = z
          repeat (first | (refine wpQuiet_step (fun K hK => ?_); replace hK := Lib.hid hK; subst hz; go_simp; generalize hz : Act.mk _ _ = z; refine hK.out z ?_; clear hK K) | (refine wpQuiet_step (fun K hK => ?_); replace hK := Lib.hid hK; subst hz; refine iteSkip (by kernel_rfl) ?_; go_simp; generalize hz : Act.mk _ _ = z; refine hK.out z ?_; clear hK K))
          try refine wpQuiet_nil ?_
          subst hz
          try dsimp only [NoPan]
          go_wp2_with fail
          refine ⟨⟨k + 1, o2, by omega, by omega, by go_num, H2.out.1, by have := H2.out.2.len; have := HT.out.2; omega⟩, by simp [intOf]; omega⟩
        · by_cases h1 : x.d = 1
          · rw [h1] at d0
            clear h0 h1 hA c0 c1 c2
            go_wp2_with fail
            refine (tm_delete (k := x.k) HT.out.1 (HB.out.1.same HT.out.1.2.2) (by have := HB.out.2.2.1; omega) (by have := HT.out.2; omega)).mono ?_
            rintro e w2 ⟨o2, rfl, p2, h2, x2⟩
            have H2 := Lib.hid (And.intro h2 p2)
            clear h2 p2 x2 d0 d1 d2
            go_wp2_with fail
            refine ⟨⟨k + 1, o2, by omega, by omega, by go_num, H2.out.1, by have := H2.out.2.2.2; have := HT.out.2; omega⟩, by simp [intOf]; omega⟩
          · have h0' : (x.d == 0) = false := by simpa using h0
            have h1' : (x.d == 1) = false := by simpa using h1
            clear h0 h1 hA c0 c1 c2
            go_wp2_with fail
            refine ⟨⟨k + 1, o, by omega, by omega, by go_num, HT.out.1, by have := HT.out.2; omega⟩, by simp [intOf]; omega⟩
      · have hkl : decide ((k : Int) < (acts.length : Int)) = true := by simp; omega
        have hk30 : decide ((k : Int) < 30) = false := by simp; omega
        have HT := Lib.hid (And.intro hT hn)
        clear hT hn hA
        go_wp2_with fail
        go_ret
        exact ⟨c, o, rfl, HT.out.1, by have := HT.out.2; omega⟩
    · have hkl : decide ((k : Int) < (acts.length : Int)) = false := by simp; omega
      have HT := Lib.hid (And.intro hT hn)
      clear hT hn hA
      go_wp2_with fail
      go_ret
      exact ⟨c, o, rfl, HT.out.1, by have := HT.out.2; omega⟩
end Go.Proofs.Ytoflfhjeabpcjaa
/- bytes.Compare; no condition. -/
namespace Go.Proofs.Ytoflfhjeabpcjaa
set_option linter.unusedVariables false
set_option linter.unusedSimpArgs false
open Go.RowKit

theorem bytesOf_nums : ∀ l : Bs, Lib.bytesOf (l.map fun b => (b.toNat : Int)) = l
  | [] => rfl
  | c :: l => by
    have := bytesOf_nums l
    simp only [Lib.bytesOf, List.map_cons, List.map_map] at this ⊢
    rw [this]
    simp
theorem run_bytesOf {P : Program} {D : Nat → Prop} {w : World} {v : Value} {l : Bs} (h : Byt D w v l) : (Extern.Bytes.bytesOf v).run P w = .ok ⟨l.toArray⟩ w := by
  obtain ⟨A, c, rfl, hc, hat⟩ := h
  cases A with
  | none =>
    have hnil : l = [] := Classical.byContradiction fun hne => by
      obtain ⟨ad, h1, _⟩ := hat hne
      cases h1
    subst hnil
    rfl
  | some ad =>
    have hcell : ∀ (j : Nat) (x : Int), (l.map fun b => (b.toNat : Int))[j]? = some x → w.cell? (ad.add j) = some (.int .u8 x) := by
      intro j x hx
      rw [List.getElem?_map] at hx
      obtain ⟨u, hu, rfl⟩ := Option.map_eq_some_iff.1 hx
      have hne : l ≠ [] := by rintro rfl; simp at hu
      obtain ⟨ad', h1, _, h2⟩ := hat hne
      simp only [Option.some.injEq] at h1
      subst h1
      exact h2 j u hu
    have := Lib.run_loadBytesX (P := P) w _ ad .empty hcell
    rw [bytesOf_nums, List.length_map] at this
    simp only [Extern.Bytes.bytesOf, this]
    congr 1
    apply ByteArray.ext
    simp
theorem run_compareSlices {P : Program} {D D' : Nat → Prop} {w : World} {v v' : Value} {l l' : Bs} (h : Byt D w v l) (h' : Byt D' w v' l') :
    (Extern.BytealgCompare.compare #[v, v']).run P w = .ok (.int .i64 (Lib.compareBytes l l')) w := by
  change Sem.run P (do pure (goInt (Extern.BytealgCompare.cmp (← Extern.Bytes.bytesOf v) (← Extern.Bytes.bytesOf v')))) w = _
  simp only [Sem.run_bind, run_bytesOf h, run_bytesOf h', Sem.run_pure, Result.andThen]
  rw [Lib.cmp_eq]
  rfl
set_option maxRecDepth 100000 in
theorem compare_walk {w : World} {D D' : Nat → Prop} {v v' : Value} {l l' : Bs} (h : Byt D w v l) (h' : Byt D' w v' l') :
    Calls Try.prog 68 #[v, v'] w fun e w' => e = .returned (.int .i64 (Lib.compareBytes l l')) ∧ w = w' := by
  have H := Lib.hid (And.intro h h')
  clear h h'
  go_enter Try.func68, Try.ntmps68
  go_wp2_with fail
  rw [run_callFunc_extern Try.func105 (by kernel_rfl) (by kernel_rfl) (by kernel_rfl) (e := Extern.BytealgCompare.compare) (by kernel_rfl), run_compareSlices H.out.1 H.out.2]
  simp only [Result.andThen]
  rw [Oper.upon_value]
  go_wp2_with fail
  go_ret
  exact ⟨rfl, rfl⟩
theorem compare_pos : ∀ a b : Bs, 0 < Lib.compareBytes a b ↔ b < a
  | [], [] => by simp [Lib.compareBytes]
  | [], _ :: _ => by simp [Lib.compareBytes]
  | _ :: _, [] => by simp [Lib.compareBytes]
  | a :: x, b :: y => by
    have ih := compare_pos x y
    rw [Lib.compareBytes, List.cons_lt_cons_iff]
    by_cases h : a < b
    · rw [if_pos h]
      constructor
      · intro h'; omega
      · rintro (h' | ⟨rfl, _⟩)
        · exact absurd h' (UInt8.not_lt.2 (UInt8.le_of_lt h))
        · exact absurd h (UInt8.lt_irrefl _)
    · rw [if_neg h]
      by_cases h2 : b < a
      · rw [if_pos h2]
        exact ⟨fun _ => .inl h2, fun _ => by decide⟩
      · rw [if_neg h2, ih]
        have : a = b := UInt8.le_antisymm (UInt8.not_lt.1 h2) (UInt8.not_lt.1 h)
        subst this
        constructor
        · exact fun h => .inr ⟨rfl, h⟩
        · rintro (h' | ⟨_, h'⟩)
          · exact absurd h' h
          · exact h'
end Go.Proofs.Ytoflfhjeabpcjaa
/- RootOf of a row of entries; no condition. -/
namespace Go.Proofs.Ytoflfhjeabpcjaa
set_option linter.unusedVariables false
set_option linter.unusedSimpArgs false
open Go.RowKit

def FitE (e : Bs × Bs) : Prop := e.1.length ≤ 120 ∧ e.2.length ≤ 1200
structure PutInv (l : List (Bs × Bs)) (k : Nat) (o : Option Tr) : Prop where
  fits : ∀ e ∈ l.take k, FitE e
  sub : ∀ e ∈ Tr.entsO o, e ∈ l.take k
  sup : (l.take k).Pairwise (fun e f => e.1 ≠ f.1) → ∀ e ∈ l.take k, e ∈ Tr.entsO o
  len : (Tr.entsO o).length ≤ k
theorem PutInv.zero (l : List (Bs × Bs)) : PutInv l 0 none := ⟨by simp, by simp [Tr.entsO], by simp, Nat.le_refl _⟩
theorem PutInv.next {l : List (Bs × Bs)} {k : Nat} {o o' : Option Tr} (h : PutInv l k o) {x : Bs × Bs} (hx : l[k]? = some x) (hf : FitE x) (hp : PutO x.1 x.2 o o') : PutInv l (k + 1) o' := by
  have ht : l.take (k + 1) = l.take k ++ [x] := by rw [List.take_add_one, hx]; rfl
  have hlen := hp.len
  unfold PutO at hp
  rw [if_pos (show x.1.length ≤ 120 ∧ x.2.length ≤ 1200 from hf)] at hp
  obtain ⟨t', rfl, _, h2, _⟩ := hp
  refine ⟨?_, ?_, ?_, by have := h.len; omega⟩
  · rw [ht]
    intro e he
    rcases List.mem_append.1 he with he | he
    · exact h.fits e he
    · rw [List.mem_singleton.1 he]; exact hf
  · intro e he
    rw [ht]
    rcases (h2 e).1 he with rfl | ⟨he, _⟩
    · exact List.mem_append.2 (.inr (List.mem_singleton.2 rfl))
    · exact List.mem_append.2 (.inl (h.sub e he))
  · rw [ht]
    intro hd e he
    obtain ⟨d1, _, d3⟩ := List.pairwise_append.1 hd
    refine (h2 e).2 ?_
    rcases List.mem_append.1 he with he | he
    · exact .inr ⟨h.sup d1 e he, d3 e he x (List.mem_singleton.2 rfl)⟩
    · exact .inl (List.mem_singleton.1 he)
/-- Each key is above the one before. -/
def Rising (l : List (Bs × Bs)) : Prop := ∀ i (h : i + 1 < l.length), l[i].1 < l[i + 1].1
theorem Rising.pair {l : List (Bs × Bs)} (h : Rising l) : l.Pairwise (fun e f => e.1 < f.1) := by
  induction l with
  | nil => exact List.Pairwise.nil
  | cons x r ih =>
    have hr : Rising r := fun i hi => h (i + 1) (by rw [List.length_cons]; omega)
    have ih := ih hr
    refine List.pairwise_cons.2 ⟨?_, ih⟩
    intro e he
    cases r with
    | nil => cases he
    | cons y s =>
      have h0 : x.1 < y.1 := h 0 (by simp)
      rcases List.mem_cons.1 he with rfl | he
      · exact h0
      · exact List.lt_trans h0 ((List.pairwise_cons.1 ih).1 e he)
/-- What RootOf answers. -/
def RootOfR (l : List (Bs × Bs)) (s : Bs) (err : Int) : Prop :=
  ((¬ ∀ e ∈ l, FitE e) ∧ s = List.replicate 32 0 ∧ err = 2) ∨ ((∀ e ∈ l, FitE e) ∧ ¬ Rising l ∧ s = List.replicate 32 0 ∧ err = 1) ∨
  ((∀ e ∈ l, FitE e) ∧ Rising l ∧ err = 0 ∧ ∃ o, Tr.okO o ∧ (∀ e, e ∈ Tr.entsO o ↔ e ∈ l) ∧ s = rootS o)
set_option maxRecDepth 100000 in
set_option maxHeartbeats 4000000 in
theorem rootof_walk {w : World} {D : Nat → Prop} {lv : Value} {l : List (Bs × Bs)} (hL : Row (EntryIs D) 2 D w lv l) (hl : l.length ≤ 1099511627776) :
    Calls Try.prog 24 #[lv] w fun e w' => ∃ s err, e = .returned (.tuple #[sumV s, .int .i64 err]) ∧ RootOfR l s err ∧ s.length = 32 ∧ Ext (fun _ => False) w w' := by
  have hx1 := fun o : Obj => (Ext.refl (fun _ => False) w).alloc o
  have hs1 := heap_alloc_self w (.cells ((List.replicate 32 (0 : UInt8)).map byteV).toArray 29 (0, 0))
  obtain ⟨A, cp, hav, hcap, _⟩ := id hL
  subst hav
  have HL := Lib.hid hL
  clear hL
  go_enter Try.func24, Try.ntmps24
  go_wp2_with fail
  have x1 : Ext (fun _ => False) w (w.alloc (.cells ((List.replicate 32 (0 : UInt8)).map byteV).toArray 29 (0, 0))) := hx1 _
  have hlt1 := lt_of_heap hs1
  refine (tm_new (w0 := w.alloc (.cells ((List.replicate 32 (0 : UInt8)).map byteV).toArray 29 (0, 0))) (Ext.refl _ _)).mono ?_
  generalize (w.alloc (.cells ((List.replicate 32 (0 : UInt8)).map byteV).toArray 29 (0, 0))) = W1 at *
  rintro e w2 ⟨rfl, h2⟩
  generalize W1.heap.size = c at *
  have H1 := Lib.hid (And.intro x1 hs1)
  have H2 := Lib.hid h2
  clear x1 hs1 h2 hx1
  go_wp2_with fail
  go_loopw [13] (fun i W => ∃ (k : Nat) (o : Option Tr), k ≤ l.length ∧ i = .int .i64 k ∧ TM W1 W c o ∧ PutInv l k o) (fun i _ => l.length - (intOf i).toNat)
  case atStart => exact ⟨0, none, Nat.zero_le _, rfl, H2.out, PutInv.zero l⟩
  case round =>
    obtain ⟨k, o, hk, rfl, hT, hP⟩ := hrel
    by_cases hlt : k < l.length
    · obtain ⟨g, off, c', hav, hdb, ⟨⟨a, b, c0, c1, ha, hb⟩, la, lb⟩⟩ := HL.out.at hlt
      simp only [Value.slice.injEq, true_and] at hav
      obtain ⟨rfl, rfl⟩ := hav
      have hkl : decide ((k : Int) < (l.length : Int)) = true := by simp; omega
      have yx := H1.out.1.trans hT.2.2
      have d0 := cell_same c0 yx
      have d1 := cell_same c1 yx
      have hx : l[k]? = some l[k] := List.getElem?_eq_getElem hlt
      generalize l[k] = x at *
      have hgr := fun ob : Obj => (Ext.refl (fun _ => False) wr).alloc ob
      obtain ⟨A1, cc1, rfl, _, _⟩ := id ha
      obtain ⟨A2, cc2, rfl, _, _⟩ := id hb
      have HT := Lib.hid (And.intro hT (And.intro hP (And.intro yx (And.intro hx hgr))))
      have HB := Lib.hid (And.intro ha hb)
      clear hT hP yx hx ha hb c0 c1 hgr
      go_wp2_with fail
      refine (tm_put (k := x.1) (v := x.2) (HT.out.1.still (HT.out.2.2.2.2 _)) ((HB.out.1.same HT.out.2.2.1).same (HT.out.2.2.2.2 _)) ((HB.out.2.same HT.out.2.2.1).same (HT.out.2.2.2.2 _)) (by have := HT.out.2.1.len; omega)).mono ?_
      rintro e w3 ⟨o2, rfl, p2, h3, _⟩
      by_cases hf : FitE x
      · rw [show putE x.1 x.2 = 0 by rw [putE, if_pos (show x.1.length ≤ 120 ∧ x.2.length ≤ 1200 from hf)]]
        have HP := Lib.hid (And.intro h3 (HT.out.2.1.next HT.out.2.2.2.1 hf p2))
        clear h3 p2 hf d0 d1
        go_wp2_with fail
        exact ⟨⟨k + 1, o2, by omega, by go_num, HP.out.1, HP.out.2⟩, by simp [intOf]; omega⟩
      · rw [show putE x.1 x.2 = 2 by rw [putE, if_neg (show ¬ (x.1.length ≤ 120 ∧ x.2.length ≤ 1200) from hf)]]
        have hb3 := h3.2.2.heap H1.out.2 id
        have HP := Lib.hid (And.intro h3.2.2 (And.intro hb3 hf))
        clear h3 p2 hf d0 d1 hb3
        have hz := zeros_cells
        have HZ := Lib.hid hz
        clear hz
        go_wp2_with (refine wpList_store_row rfl 29 _ _ rfl w.heap.size _ rfl rfl 29 _ HP.out.2.1 (by kernel_rfl) (by kernel_rfl) (by kernel_rfl) ?_)
        refine bodyPost_ret (results_cell_tmp rfl _ _ w.heap.size 29 _ (0, 0) _ rfl (setRow_heap _ _ _ _ _ _ HP.out.2.1) Try.underlying29 rfl (by kernel_rfl)) rfl ?_
        refine ⟨List.replicate 32 0, 2, ?_, .inl ⟨fun h => HP.out.2.2 (h _ (List.mem_of_getElem? HT.out.2.2.2.1)), rfl, rfl⟩, by simp, ?_⟩
        · rw [sumV_cells, HZ.out]
          rfl
        · exact (H1.out.1.trans HP.out.1).setRow (.inr (Nat.le_refl _)) _
    · have hkl : decide ((k : Int) < (l.length : Int)) = false := by simp; omega
      have hkk : k = l.length := by omega
      subst hkk
      have HT := Lib.hid (And.intro hT hP)
      clear hT hP
      generalize wr = w3 at *
      go_wp2_with fail
      go_loopw [30] (fun i W => ∃ k : Nat, k ≤ l.length ∧ i = .int .i64 k ∧ Ext (fun _ => False) w3 W ∧ ∀ i (h : i + 1 < l.length), i + 1 < k → l[i].1 < l[i + 1].1) (fun i _ => l.length - (intOf i).toNat)
      case atStart => exact ⟨0, Nat.zero_le _, rfl, Ext.refl _ _, fun i h hi => by omega⟩
      case round =>
        obtain ⟨k, hk, rfl, hx, hr⟩ := hrel
        by_cases hlt : k < l.length
        · obtain ⟨g, off, c', hav, hdb, ⟨⟨a, b, c0, c1, ha, hb⟩, la, lb⟩⟩ := HL.out.at hlt
          simp only [Value.slice.injEq, true_and] at hav
          obtain ⟨rfl, rfl⟩ := hav
          have hkl : decide ((k : Int) < (l.length : Int)) = true := by simp; omega
          have hy := (H1.out.1.trans HT.out.1.2.2).trans hx
          have d0' := cell_same c0 hy
          have d1' := cell_same c1 hy
          obtain ⟨A1, cc1, rfl, _, _⟩ := id ha
          obtain ⟨A2, cc2, rfl, _, _⟩ := id hb
          have hgl : g < wr.heap.size := World.block_lt_of_cell? _ _ d0'
          by_cases hk0 : k = 0
          · subst hk0
            have HX := Lib.hid (And.intro hx (And.intro hy hr))
            have z0 : wr.cell? ⟨g, off, none⟩ = some (.slice A1 (l[0].1).length cc1) := by simpa using d0'
            have z1 : wr.cell? ⟨g, off + 1, none⟩ = some (.slice A2 (l[0].2).length cc2) := by simpa using d1'
            clear hx hy hr c0 c1 ha hb d0' d1'
            go_wp2_with fail
            refine wp_region_bar (Cls [wr.heap.size, g] _) [] [0, 1, 2, 3, 4, 5, 6, 7, 8, 9, 10] 11 [] [12, 13] (by kernel_rfl) (by kernel_rfl) (Cls.refl _ _) ?_
            try dsimp only [wpMix, wpSegs, pick, List.getElem?_cons_zero, List.getElem?_cons_succ]
            generalize hz : Act.mk _ _ = z
            repeat (first | (refine wpQuiet_step (fun K hK => ?_); replace hK := Lib.hid hK; subst hz; go_simp; generalize hz : Act.mk _ _ = z; refine hK.out z ?_; clear hK K) | (refine wpQuiet_step (fun K hK => ?_); replace hK := Lib.hid hK; subst hz; refine iteSkip (by kernel_rfl) ?_; go_simp; generalize hz : Act.mk _ _ = z; refine hK.out z ?_; clear hK K))
            try refine wpQuiet_nil ?_
            subst hz
            try dsimp only [NoPan]
            go_wp2_with fail
            try dsimp only [wpMix, wpSegs, pick, List.getElem?_cons_zero, List.getElem?_cons_succ]
            generalize hz : Act.mk _ _ = z
            repeat (first | (refine wpQuiet_step (fun K hK => ?_); replace hK := Lib.hid hK; subst hz; go_simp; generalize hz : Act.mk _ _ = z; refine hK.out z ?_; clear hK K) | (refine wpQuiet_step (fun K hK => ?_); replace hK := Lib.hid hK; subst hz; refine iteSkip (by kernel_rfl) ?_; go_simp; generalize hz : Act.mk _ _ = z; refine hK.out z ?_; clear hK K))
            try refine wpQuiet_nil ?_
            subst hz
            try dsimp only [NoPan]
            go_wp2_with fail
            exact ⟨⟨1, by omega, by go_num, (HX.out.1.alloc _).drew, fun i h hi => by omega⟩, by simp [intOf]; omega⟩
          · have hk0p : decide (0 < (k : Int)) = true := by simp; omega
            have hk0q : decide (0 < k) = true := by simp; omega
            have hk0r : 0 < k := by omega
            obtain ⟨m, hm⟩ : ∃ m, m + 1 = k := ⟨k - 1, by omega⟩
            have hml : m < l.length := by omega
            obtain ⟨g', off', c'', hav', _, ⟨⟨a', b', e0, e1, ha', hb'⟩, la', lb'⟩⟩ := HL.out.at hml
            simp only [Value.slice.injEq, Option.some.injEq, Addr.mk.injEq, true_and, and_true] at hav'
            obtain ⟨⟨rfl, rfl⟩, rfl⟩ := hav'
            have f0' := cell_same e0 hy
            obtain ⟨A3, cc3, rfl, _, _⟩ := id ha'
            have hw1 : IntKind.i64.wrap ((k : Int) - 1) = (m : Int) := by rw [IntWalk.i64_in _ (by omega)]; omega
            have hgr : ∀ ob : Obj, Ext (fun _ => False) wr (wr.alloc ob).drew := fun ob => ((Ext.refl (fun _ => False) wr).alloc ob).drew
            have hrise : ∀ (hm1 : m + 1 < l.length), (l[m].1 < l[m + 1].1) ↔ l[m].1 < l[k].1 := fun hm1 => by subst hm; rfl
            have HX := Lib.hid (And.intro hx (And.intro hy (And.intro hr (And.intro hm hgr))))
            have HB := Lib.hid (And.intro ha ha')
            have HR := Lib.hid hrise
            clear hx hy hr c0 c1 ha hb e0 e1 ha' hb' hgr hm hrise
            generalize hKK : l[k] = xk at *
            generalize hMM : l[m] = xm at *
            have HKM := Lib.hid (And.intro hKK hMM)
            clear hKK hMM
            go_wp2_with fail
            refine wp_region_bar (Cls [wr.heap.size, g] _) [] [0, 1, 2, 3, 4, 5, 6, 7, 8, 9, 10] 11 [] [12, 13] (by kernel_rfl) (by kernel_rfl) (Cls.refl _ _) ?_
            try dsimp only [wpMix, wpSegs, pick, List.getElem?_cons_zero, List.getElem?_cons_succ]
            generalize hz : Act.mk _ _ = z
            repeat (first | (refine wpQuiet_step (fun K hK => ?_); replace hK := Lib.hid hK; subst hz; go_simp; generalize hz : Act.mk _ _ = z; refine hK.out z ?_; clear hK K) | (refine wpQuiet_step (fun K hK => ?_); replace hK := Lib.hid hK; subst hz; refine iteSkip (by kernel_rfl) ?_; go_simp; generalize hz : Act.mk _ _ = z; refine hK.out z ?_; clear hK K))
            try refine wpQuiet_nil ?_
            subst hz
            try dsimp only [NoPan]
            go_wp2_with fail
            refine (compare_walk ((HB.out.1.same HX.out.2.1).same (HX.out.2.2.2.2 _)) ((HB.out.2.same HX.out.2.1).same (HX.out.2.2.2.2 _))).mono ?_
            rintro e w5 ⟨rfl, hw5⟩
            have hb5 : Ext (fun _ => False) wr w5 := by rw [← hw5]; exact HX.out.2.2.2.2 _
            have H5 := Lib.hid hb5
            clear hw5 hb5
            by_cases hc : 0 < Lib.compareBytes xk.1 xm.1
            · have hcd : decide (Lib.compareBytes xk.1 xm.1 ≤ 0) = false := by simp; omega
              have HC := Lib.hid ((compare_pos _ _).1 hc)
              clear hc
              go_wp2_with fail
              try dsimp only [wpMix, wpSegs, pick, List.getElem?_cons_zero, List.getElem?_cons_succ]
              generalize hz : Act.mk _ _ = z
              repeat (first | (refine wpQuiet_step (fun K hK => ?_); replace hK := Lib.hid hK; subst hz; go_simp; generalize hz : Act.mk _ _ = z; refine hK.out z ?_; clear hK K) | (refine wpQuiet_step (fun K hK => ?_); replace hK := Lib.hid hK; subst hz; refine iteSkip (by kernel_rfl) ?_; go_simp; generalize hz : Act.mk _ _ = z; refine hK.out z ?_; clear hK K))
              try refine wpQuiet_nil ?_
              subst hz
              try dsimp only [NoPan]
              go_wp2_with fail
              refine ⟨⟨k + 1, by omega, by go_num, HX.out.1.trans H5.out, fun i h hi => ?_⟩, by simp [intOf]; omega⟩
              by_cases hik : i + 1 < k
              · exact HX.out.2.2.1 i h hik
              · have him : i = m := by have := HX.out.2.2.2.1; omega
                subst him
                rw [HKM.out.2]
                exact (HR.out h).2 HC.out
            · have hcd : decide (Lib.compareBytes xk.1 xm.1 ≤ 0) = true := by simp; omega
              have HC := Lib.hid (fun h => hc ((compare_pos xk.1 xm.1).2 h))
              have hbz := H5.out.heap ((HT.out.1.2.2.trans HX.out.1).heap H1.out.2 id) id
              have HZ := Lib.hid (And.intro hbz zeros_cells)
              clear hc hbz
              go_wp2_with fail
              try dsimp only [wpMix, wpSegs, pick, List.getElem?_cons_zero, List.getElem?_cons_succ]
              generalize hz : Act.mk _ _ = z
              repeat (first | (refine wpQuiet_step (fun K hK => ?_); replace hK := Lib.hid hK; subst hz; go_simp; generalize hz : Act.mk _ _ = z; refine hK.out z ?_; clear hK K) | (refine wpQuiet_step (fun K hK => ?_); replace hK := Lib.hid hK; subst hz; refine iteSkip (by kernel_rfl) ?_; go_simp; generalize hz : Act.mk _ _ = z; refine hK.out z ?_; clear hK K))
              try refine wpQuiet_nil ?_
              subst hz
              try dsimp only [NoPan]
              go_wp2_with (refine wpList_store_row rfl 29 _ _ rfl w.heap.size _ rfl rfl 29 _ HZ.out.1 (by kernel_rfl) (by kernel_rfl) (by kernel_rfl) ?_)
              refine bodyPost_ret (results_cell_tmp rfl _ _ w.heap.size 29 _ (0, 0) _ rfl (setRow_heap _ _ _ _ _ _ HZ.out.1) Try.underlying29 rfl (by kernel_rfl)) rfl ?_
              refine ⟨List.replicate 32 0, 1, ?_, .inr (.inl ⟨fun e he => ?_, fun hri => ?_, rfl, rfl⟩), by simp, ?_⟩
              · rw [sumV_cells, HZ.out.2]
                rfl
              · have := HT.out.2.fits e
                rw [List.take_length] at this
                exact this he
              · have hmk := HX.out.2.2.2.1
                have := hri m (by omega)
                rw [HKM.out.2] at this
                exact HC.out ((HR.out (by omega)).1 this)
              · exact (HX.out.2.1.trans H5.out).setRow (.inr (Nat.le_refl _)) _
        · have hkl : decide ((k : Int) < (l.length : Int)) = false := by simp; omega
          have hkk : k = l.length := by omega
          subst hkk
          have hTk := HT.out.1.still hx
          have HX := Lib.hid (And.intro hx (And.intro hr hTk))
          clear hx hr hTk
          go_wp2_with fail
          refine (tm_root HX.out.2.2).mono ?_
          rintro e w6 ⟨rfl, h6, x6⟩
          rw [sumV_A]
          have hb6 := x6.heap ((HT.out.1.2.2.trans HX.out.1).heap H1.out.2 id) id
          have H6 := Lib.hid (And.intro h6 hb6)
          clear h6 x6 hb6
          go_wp2_with (refine wpList_store_row rfl 29 _ _ rfl w.heap.size (sumA (rootS o)) rfl rfl 29 _ H6.out.2 (info_sum (rootS_len _)) (by rw [sumA_size (rootS_len _)]; rfl) (sumA_one _) ?_)
          refine bodyPost_ret (results_cell_tmp rfl _ _ w.heap.size 29 (sumA (rootS o)) (0, 0) _ rfl (setRow_heap _ _ _ _ _ _ H6.out.2) Try.underlying29 rfl (info_sum (rootS_len _))) rfl ?_
          have hfit : ∀ e ∈ l, FitE e := fun e he => by
            have := HT.out.2.fits e
            rw [List.take_length] at this
            exact this he
          have hri : Rising l := fun i h => HX.out.2.1 i h h
          refine ⟨rootS o, 0, by rw [sumV_A]; rfl, .inr (.inr ⟨hfit, hri, rfl, o, ?_, fun e => ?_, rfl⟩), rootS_len _, (H1.out.1.trans H6.out.1.2.2).setRow (.inr (Nat.le_refl _)) _⟩
          · obtain ⟨⟨D', hT, _⟩, _⟩ := HT.out.1
            exact hT.ok
          · have h1 := HT.out.2.sub e
            have h2 := HT.out.2.sup
            rw [List.take_length] at h1 h2
            exact ⟨h1, h2 (hri.pair.imp fun h => fun e => by rw [e] at h; exact List.lt_irrefl _ h) e⟩
end Go.Proofs.Ytoflfhjeabpcjaa
