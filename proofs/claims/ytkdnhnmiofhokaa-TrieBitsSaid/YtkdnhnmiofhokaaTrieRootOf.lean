/- RootOf of a row of entries; no condition. -/
import Derived.Test.YtkdnhnmiofhokaaTrieActs
import Derived.Test.YtkdnhnmiofhokaaTrieSum
import Derived.Test.YtkdnhnmiofhokaaTrieCmp
namespace Go.Proofs.Ytkdnhnmiofhokaa
set_option linter.unusedVariables false
set_option linter.unusedSimpArgs false
open Go.RowKit

def FitE (e : Bs × Bs) : Prop := e.1.length ≤ 120 ∧ e.2.length ≤ 1200
structure PutInv (l : List (Bs × Bs)) (k : Nat) (o : Option Tr) : Prop where
  fits : ∀ e ∈ l.take k, FitE e
  sub : ∀ e ∈ Tr.entsO o, e ∈ l.take k
  sup : (l.take k).Pairwise (fun e f => e.1 ≠ f.1) → ∀ e ∈ l.take k, e ∈ Tr.entsO o
  len : (Tr.entsO o).length ≤ k
theorem PutInv.zero (l : List (Bs × Bs)) : PutInv l 0 none := ⟨by simp, by simp [Tr.entsO], by simp, Nat.le_refl _⟩
theorem PutInv.next {l : List (Bs × Bs)} {k : Nat} {o o' : Option Tr} (h : PutInv l k o) {x : Bs × Bs} (hx : l[k]? = some x) (hf : FitE x) (hp : PutO x.1 x.2 o o') : PutInv l (k + 1) o' := by
  have ht : l.take (k + 1) = l.take k ++ [x] := by rw [List.take_add_one, hx]; rfl
  have hlen := hp.len
  unfold PutO at hp
  rw [if_pos (show x.1.length ≤ 120 ∧ x.2.length ≤ 1200 from hf)] at hp
  obtain ⟨t', rfl, _, h2, _⟩ := hp
  refine ⟨?_, ?_, ?_, by have := h.len; omega⟩
  · rw [ht]
    intro e he
    rcases List.mem_append.1 he with he | he
    · exact h.fits e he
    · rw [List.mem_singleton.1 he]; exact hf
  · intro e he
    rw [ht]
    rcases (h2 e).1 he with rfl | ⟨he, _⟩
    · exact List.mem_append.2 (.inr (List.mem_singleton.2 rfl))
    · exact List.mem_append.2 (.inl (h.sub e he))
  · rw [ht]
    intro hd e he
    obtain ⟨d1, _, d3⟩ := List.pairwise_append.1 hd
    refine (h2 e).2 ?_
    rcases List.mem_append.1 he with he | he
    · exact .inr ⟨h.sup d1 e he, d3 e he x (List.mem_singleton.2 rfl)⟩
    · exact .inl (List.mem_singleton.1 he)
/-- Each key is above the one before. -/
def Rising (l : List (Bs × Bs)) : Prop := ∀ i (h : i + 1 < l.length), l[i].1 < l[i + 1].1
theorem Rising.pair {l : List (Bs × Bs)} (h : Rising l) : l.Pairwise (fun e f => e.1 < f.1) := by
  induction l with
  | nil => exact List.Pairwise.nil
  | cons x r ih =>
    have hr : Rising r := fun i hi => h (i + 1) (by rw [List.length_cons]; omega)
    have ih := ih hr
    refine List.pairwise_cons.2 ⟨?_, ih⟩
    intro e he
    cases r with
    | nil => cases he
    | cons y s =>
      have h0 : x.1 < y.1 := h 0 (by simp)
      rcases List.mem_cons.1 he with rfl | he
      · exact h0
      · exact List.lt_trans h0 ((List.pairwise_cons.1 ih).1 e he)
/-- What RootOf answers. -/
def RootOfR (l : List (Bs × Bs)) (s : Bs) (err : Int) : Prop :=
  ((¬ ∀ e ∈ l, FitE e) ∧ s = List.replicate 32 0 ∧ err = 2) ∨ ((∀ e ∈ l, FitE e) ∧ ¬ Rising l ∧ s = List.replicate 32 0 ∧ err = 1) ∨
  ((∀ e ∈ l, FitE e) ∧ Rising l ∧ err = 0 ∧ ∃ o, Tr.okO o ∧ (∀ e, e ∈ Tr.entsO o ↔ e ∈ l) ∧ s = rootS o)
set_option maxRecDepth 100000 in
set_option maxHeartbeats 4000000 in
theorem rootof_walk {w : World} {D : Nat → Prop} {lv : Value} {l : List (Bs × Bs)} (hL : Row (EntryIs D) 2 D w lv l) (hl : l.length ≤ 1099511627776) :
    Calls Try.prog 19 #[lv] w fun e w' => ∃ s err, e = .returned (.tuple #[sumV s, .int .i64 err]) ∧ RootOfR l s err ∧ s.length = 32 ∧ Ext (fun _ => False) w w' := by
  have hx1 := fun o : Obj => (Ext.refl (fun _ => False) w).alloc o
  have hs1 := heap_alloc_self w (.cells ((List.replicate 32 (0 : UInt8)).map byteV).toArray 29 (0, 0))
  obtain ⟨A, cp, hav, hcap, _⟩ := id hL
  subst hav
  have HL := Lib.hid hL
  clear hL
  go_enter Try.func19, Try.ntmps19
  go_wp2_with fail
  have x1 : Ext (fun _ => False) w (w.alloc (.cells ((List.replicate 32 (0 : UInt8)).map byteV).toArray 29 (0, 0))) := hx1 _
  have hlt1 := lt_of_heap hs1
  refine (tm_new (w0 := w.alloc (.cells ((List.replicate 32 (0 : UInt8)).map byteV).toArray 29 (0, 0))) (Ext.refl _ _)).mono ?_
  generalize (w.alloc (.cells ((List.replicate 32 (0 : UInt8)).map byteV).toArray 29 (0, 0))) = W1 at *
  rintro e w2 ⟨rfl, h2⟩
  generalize W1.heap.size = c at *
  have H1 := Lib.hid (And.intro x1 hs1)
  have H2 := Lib.hid h2
  clear x1 hs1 h2 hx1
  go_wp2_with fail
  go_loopw [13] (fun i W => ∃ (k : Nat) (o : Option Tr), k ≤ l.length ∧ i = .int .i64 k ∧ TM W1 W c o ∧ PutInv l k o) (fun i _ => l.length - (intOf i).toNat)
  case atStart => exact ⟨0, none, Nat.zero_le _, rfl, H2.out, PutInv.zero l⟩
  case round =>
    obtain ⟨k, o, hk, rfl, hT, hP⟩ := hrel
    by_cases hlt : k < l.length
    · obtain ⟨g, off, c', hav, hdb, ⟨⟨a, b, c0, c1, ha, hb⟩, la, lb⟩⟩ := HL.out.at hlt
      simp only [Value.slice.injEq, true_and] at hav
      obtain ⟨rfl, rfl⟩ := hav
      have hkl : decide ((k : Int) < (l.length : Int)) = true := by simp; omega
      have yx := H1.out.1.trans hT.2.2
      have d0 := cell_same c0 yx
      have d1 := cell_same c1 yx
      have hx : l[k]? = some l[k] := List.getElem?_eq_getElem hlt
      generalize l[k] = x at *
      have hgr := fun ob : Obj => (Ext.refl (fun _ => False) wr).alloc ob
      obtain ⟨A1, cc1, rfl, _, _⟩ := id ha
      obtain ⟨A2, cc2, rfl, _, _⟩ := id hb
      have HT := Lib.hid (And.intro hT (And.intro hP (And.intro yx (And.intro hx hgr))))
      have HB := Lib.hid (And.intro ha hb)
      clear hT hP yx hx ha hb c0 c1 hgr
      go_wp2_with fail
      refine (tm_put (k := x.1) (v := x.2) (HT.out.1.still (HT.out.2.2.2.2 _)) ((HB.out.1.same HT.out.2.2.1).same (HT.out.2.2.2.2 _)) ((HB.out.2.same HT.out.2.2.1).same (HT.out.2.2.2.2 _)) (by have := HT.out.2.1.len; omega)).mono ?_
      rintro e w3 ⟨o2, rfl, p2, h3, _⟩
      by_cases hf : FitE x
      · rw [show putE x.1 x.2 = 0 by rw [putE, if_pos (show x.1.length ≤ 120 ∧ x.2.length ≤ 1200 from hf)]]
        have HP := Lib.hid (And.intro h3 (HT.out.2.1.next HT.out.2.2.2.1 hf p2))
        clear h3 p2 hf d0 d1
        go_wp2_with fail
        exact ⟨⟨k + 1, o2, by omega, by go_num, HP.out.1, HP.out.2⟩, by simp [intOf]; omega⟩
      · rw [show putE x.1 x.2 = 2 by rw [putE, if_neg (show ¬ (x.1.length ≤ 120 ∧ x.2.length ≤ 1200) from hf)]]
        have hb3 := h3.2.2.heap H1.out.2 id
        have HP := Lib.hid (And.intro h3.2.2 (And.intro hb3 hf))
        clear h3 p2 hf d0 d1 hb3
        have hz := zeros_cells
        have HZ := Lib.hid hz
        clear hz
        go_wp2_with (refine wpList_store_row rfl 29 _ _ rfl w.heap.size _ rfl rfl 29 _ HP.out.2.1 (by kernel_rfl) (by kernel_rfl) (by kernel_rfl) ?_)
        refine bodyPost_ret (results_cell_tmp rfl _ _ w.heap.size 29 _ (0, 0) _ rfl (setRow_heap _ _ _ _ _ _ HP.out.2.1) Try.underlying29 rfl (by kernel_rfl)) rfl ?_
        refine ⟨List.replicate 32 0, 2, ?_, .inl ⟨fun h => HP.out.2.2 (h _ (List.mem_of_getElem? HT.out.2.2.2.1)), rfl, rfl⟩, by simp, ?_⟩
        · rw [sumV_cells, HZ.out]
          rfl
        · exact (H1.out.1.trans HP.out.1).setRow (.inr (Nat.le_refl _)) _
    · have hkl : decide ((k : Int) < (l.length : Int)) = false := by simp; omega
      have hkk : k = l.length := by omega
      subst hkk
      have HT := Lib.hid (And.intro hT hP)
      clear hT hP
      generalize wr = w3 at *
      go_wp2_with fail
      go_loopw [30] (fun i W => ∃ k : Nat, k ≤ l.length ∧ i = .int .i64 k ∧ Ext (fun _ => False) w3 W ∧ ∀ i (h : i + 1 < l.length), i + 1 < k → l[i].1 < l[i + 1].1) (fun i _ => l.length - (intOf i).toNat)
      case atStart => exact ⟨0, Nat.zero_le _, rfl, Ext.refl _ _, fun i h hi => by omega⟩
      case round =>
        obtain ⟨k, hk, rfl, hx, hr⟩ := hrel
        by_cases hlt : k < l.length
        · obtain ⟨g, off, c', hav, hdb, ⟨⟨a, b, c0, c1, ha, hb⟩, la, lb⟩⟩ := HL.out.at hlt
          simp only [Value.slice.injEq, true_and] at hav
          obtain ⟨rfl, rfl⟩ := hav
          have hkl : decide ((k : Int) < (l.length : Int)) = true := by simp; omega
          have hy := (H1.out.1.trans HT.out.1.2.2).trans hx
          have d0' := cell_same c0 hy
          have d1' := cell_same c1 hy
          obtain ⟨A1, cc1, rfl, _, _⟩ := id ha
          obtain ⟨A2, cc2, rfl, _, _⟩ := id hb
          have hgl : g < wr.heap.size := World.block_lt_of_cell? _ _ d0'
          by_cases hk0 : k = 0
          · subst hk0
            have HX := Lib.hid (And.intro hx (And.intro hy hr))
            have z0 : wr.cell? ⟨g, off, none⟩ = some (.slice A1 (l[0].1).length cc1) := by simpa using d0'
            have z1 : wr.cell? ⟨g, off + 1, none⟩ = some (.slice A2 (l[0].2).length cc2) := by simpa using d1'
            clear hx hy hr c0 c1 ha hb d0' d1'
            go_wp2_with fail
            refine wp_region_bar (Cls [wr.heap.size, g] _) [] [0, 1, 2, 3, 4, 5, 6, 7, 8, 9, 10] 11 [] [12, 13] (by kernel_rfl) (by kernel_rfl) (Cls.refl _ _) ?_
            try dsimp only [wpMix, wpSegs, pick, List.getElem?_cons_zero, List.getElem?_cons_succ]
            generalize hz : Act.mk _ _ = z
            repeat (first | (refine wpQuiet_step (fun K hK => ?_); replace hK := Lib.hid hK; subst hz; go_simp; generalize hz : Act.mk _ _ = z; refine hK.out z ?_; clear hK K) | (refine wpQuiet_step (fun K hK => ?_); replace hK := Lib.hid hK; subst hz; refine iteSkip (by kernel_rfl) ?_; go_simp; generalize hz : Act.mk _ _ = z; refine hK.out z ?_; clear hK K))
            try refine wpQuiet_nil ?_
            subst hz
            try dsimp only [NoPan]
            go_wp2_with fail
            try dsimp only [wpMix, wpSegs, pick, List.getElem?_cons_zero, List.getElem?_cons_succ]
            generalize hz : Act.mk _ _ = z
            repeat (first | (refine wpQuiet_step (fun K hK => ?_); replace hK := Lib.hid hK; subst hz; go_simp; generalize hz : Act.mk _ _ = z; refine hK.out z ?_; clear hK K) | (refine wpQuiet_step (fun K hK => ?_); replace hK := Lib.hid hK; subst hz; refine iteSkip (by kernel_rfl) ?_; go_simp; generalize hz : Act.mk _ _ = z; refine hK.out z ?_; clear hK K))
            try refine wpQuiet_nil ?_
            subst hz
            try dsimp only [NoPan]
            go_wp2_with fail
            exact ⟨⟨1, by omega, by go_num, (HX.out.1.alloc _).drew, fun i h hi => by omega⟩, by simp [intOf]; omega⟩
          · have hk0p : decide (0 < (k : Int)) = true := by simp; omega
            have hk0q : decide (0 < k) = true := by simp; omega
            have hk0r : 0 < k := by omega
            obtain ⟨m, hm⟩ : ∃ m, m + 1 = k := ⟨k - 1, by omega⟩
            have hml : m < l.length := by omega
            obtain ⟨g', off', c'', hav', _, ⟨⟨a', b', e0, e1, ha', hb'⟩, la', lb'⟩⟩ := HL.out.at hml
            simp only [Value.slice.injEq, Option.some.injEq, Addr.mk.injEq, true_and, and_true] at hav'
            obtain ⟨⟨rfl, rfl⟩, rfl⟩ := hav'
            have f0' := cell_same e0 hy
            obtain ⟨A3, cc3, rfl, _, _⟩ := id ha'
            have hw1 : IntKind.i64.wrap ((k : Int) - 1) = (m : Int) := by rw [IntWalk.i64_in _ (by omega)]; omega
            have hgr : ∀ ob : Obj, Ext (fun _ => False) wr (wr.alloc ob).drew := fun ob => ((Ext.refl (fun _ => False) wr).alloc ob).drew
            have hrise : ∀ (hm1 : m + 1 < l.length), (l[m].1 < l[m + 1].1) ↔ l[m].1 < l[k].1 := fun hm1 => by subst hm; rfl
            have HX := Lib.hid (And.intro hx (And.intro hy (And.intro hr (And.intro hm hgr))))
            have HB := Lib.hid (And.intro ha ha')
            have HR := Lib.hid hrise
            clear hx hy hr c0 c1 ha hb e0 e1 ha' hb' hgr hm hrise
            generalize hKK : l[k] = xk at *
            generalize hMM : l[m] = xm at *
            have HKM := Lib.hid (And.intro hKK hMM)
            clear hKK hMM
            go_wp2_with fail
            refine wp_region_bar (Cls [wr.heap.size, g] _) [] [0, 1, 2, 3, 4, 5, 6, 7, 8, 9, 10] 11 [] [12, 13] (by kernel_rfl) (by kernel_rfl) (Cls.refl _ _) ?_
            try dsimp only [wpMix, wpSegs, pick, List.getElem?_cons_zero, List.getElem?_cons_succ]
            generalize hz : Act.mk _ _ = z
            repeat (first | (refine wpQuiet_step (fun K hK => ?_); replace hK := Lib.hid hK; subst hz; go_simp; generalize hz : Act.mk _ _ = z; refine hK.out z ?_; clear hK K) | (refine wpQuiet_step (fun K hK => ?_); replace hK := Lib.hid hK; subst hz; refine iteSkip (by kernel_rfl) ?_; go_simp; generalize hz : Act.mk _ _ = z; refine hK.out z ?_; clear hK K))
            try refine wpQuiet_nil ?_
            subst hz
            try dsimp only [NoPan]
            go_wp2_with fail
            refine (compare_walk ((HB.out.1.same HX.out.2.1).same (HX.out.2.2.2.2 _)) ((HB.out.2.same HX.out.2.1).same (HX.out.2.2.2.2 _))).mono ?_
            rintro e w5 ⟨rfl, hw5⟩
            have hb5 : Ext (fun _ => False) wr w5 := by rw [← hw5]; exact HX.out.2.2.2.2 _
            have H5 := Lib.hid hb5
            clear hw5 hb5
            by_cases hc : 0 < Lib.compareBytes xk.1 xm.1
            · have hcd : decide (Lib.compareBytes xk.1 xm.1 ≤ 0) = false := by simp; omega
              have HC := Lib.hid ((compare_pos _ _).1 hc)
              clear hc
              go_wp2_with fail
              try dsimp only [wpMix, wpSegs, pick, List.getElem?_cons_zero, List.getElem?_cons_succ]
              generalize hz : Act.mk _ _ = z
              repeat (first | (refine wpQuiet_step (fun K hK => ?_); replace hK := Lib.hid hK; subst hz; go_simp; generalize hz : Act.mk _ _ = z; refine hK.out z ?_; clear hK K) | (refine wpQuiet_step (fun K hK => ?_); replace hK := Lib.hid hK; subst hz; refine iteSkip (by kernel_rfl) ?_; go_simp; generalize hz : Act.mk _ _ = z; refine hK.out z ?_; clear hK K))
              try refine wpQuiet_nil ?_
              subst hz
              try dsimp only [NoPan]
              go_wp2_with fail
              refine ⟨⟨k + 1, by omega, by go_num, HX.out.1.trans H5.out, fun i h hi => ?_⟩, by simp [intOf]; omega⟩
              by_cases hik : i + 1 < k
              · exact HX.out.2.2.1 i h hik
              · have him : i = m := by have := HX.out.2.2.2.1; omega
                subst him
                rw [HKM.out.2]
                exact (HR.out h).2 HC.out
            · have hcd : decide (Lib.compareBytes xk.1 xm.1 ≤ 0) = true := by simp; omega
              have HC := Lib.hid (fun h => hc ((compare_pos xk.1 xm.1).2 h))
              have hbz := H5.out.heap ((HT.out.1.2.2.trans HX.out.1).heap H1.out.2 id) id
              have HZ := Lib.hid (And.intro hbz zeros_cells)
              clear hc hbz
              go_wp2_with fail
              try dsimp only [wpMix, wpSegs, pick, List.getElem?_cons_zero, List.getElem?_cons_succ]
              generalize hz : Act.mk _ _ = z
              repeat (first | (refine wpQuiet_step (fun K hK => ?_); replace hK := Lib.hid hK; subst hz; go_simp; generalize hz : Act.mk _ _ = z; refine hK.out z ?_; clear hK K) | (refine wpQuiet_step (fun K hK => ?_); replace hK := Lib.hid hK; subst hz; refine iteSkip (by kernel_rfl) ?_; go_simp; generalize hz : Act.mk _ _ = z; refine hK.out z ?_; clear hK K))
              try refine wpQuiet_nil ?_
              subst hz
              try dsimp only [NoPan]
              go_wp2_with (refine wpList_store_row rfl 29 _ _ rfl w.heap.size _ rfl rfl 29 _ HZ.out.1 (by kernel_rfl) (by kernel_rfl) (by kernel_rfl) ?_)
              refine bodyPost_ret (results_cell_tmp rfl _ _ w.heap.size 29 _ (0, 0) _ rfl (setRow_heap _ _ _ _ _ _ HZ.out.1) Try.underlying29 rfl (by kernel_rfl)) rfl ?_
              refine ⟨List.replicate 32 0, 1, ?_, .inr (.inl ⟨fun e he => ?_, fun hri => ?_, rfl, rfl⟩), by simp, ?_⟩
              · rw [sumV_cells, HZ.out.2]
                rfl
              · have := HT.out.2.fits e
                rw [List.take_length] at this
                exact this he
              · have hmk := HX.out.2.2.2.1
                have := hri m (by omega)
                rw [HKM.out.2] at this
                exact HC.out ((HR.out (by omega)).1 this)
              · exact (HX.out.2.1.trans H5.out).setRow (.inr (Nat.le_refl _)) _
        · have hkl : decide ((k : Int) < (l.length : Int)) = false := by simp; omega
          have hkk : k = l.length := by omega
          subst hkk
          have hTk := HT.out.1.still hx
          have HX := Lib.hid (And.intro hx (And.intro hr hTk))
          clear hx hr hTk
          go_wp2_with fail
          refine (tm_root HX.out.2.2).mono ?_
          rintro e w6 ⟨rfl, h6, x6⟩
          rw [sumV_A]
          have hb6 := x6.heap ((HT.out.1.2.2.trans HX.out.1).heap H1.out.2 id) id
          have H6 := Lib.hid (And.intro h6 hb6)
          clear h6 x6 hb6
          go_wp2_with (refine wpList_store_row rfl 29 _ _ rfl w.heap.size (sumA (rootS o)) rfl rfl 29 _ H6.out.2 (info_sum (rootS_len _)) (by rw [sumA_size (rootS_len _)]; rfl) (sumA_one _) ?_)
          refine bodyPost_ret (results_cell_tmp rfl _ _ w.heap.size 29 (sumA (rootS o)) (0, 0) _ rfl (setRow_heap _ _ _ _ _ _ H6.out.2) Try.underlying29 rfl (info_sum (rootS_len _))) rfl ?_
          have hfit : ∀ e ∈ l, FitE e := fun e he => by
            have := HT.out.2.fits e
            rw [List.take_length] at this
            exact this he
          have hri : Rising l := fun i h => HX.out.2.1 i h h
          refine ⟨rootS o, 0, by rw [sumV_A]; rfl, .inr (.inr ⟨hfit, hri, rfl, o, ?_, fun e => ?_, rfl⟩), rootS_len _, (H1.out.1.trans H6.out.1.2.2).setRow (.inr (Nat.le_refl _)) _⟩
          · obtain ⟨⟨D', hT, _⟩, _⟩ := HT.out.1
            exact hT.ok
          · have h1 := HT.out.2.sub e
            have h2 := HT.out.2.sup
            rw [List.take_length] at h1 h2
            exact ⟨h1, h2 (hri.pair.imp fun h => fun e => by rw [e] at h; exact List.lt_irrefl _ h) e⟩
end Go.Proofs.Ytkdnhnmiofhokaa
