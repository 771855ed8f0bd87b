/- Parts of the proof, put together: TrieRootOf, TrieRoot4, TrieAll2, ProofLaw, ProofAgr; no condition. -/
import Derived.Test.YtoflfhjeabpcjaaLawProofOwnA
import Derived.Test.YtoflfhjeabpcjaaTrieAll
/- RootOf of a row of entries; no condition. -/
namespace Go.Proofs.Ytoflfhjeabpcjaa
set_option linter.unusedVariables false
set_option linter.unusedSimpArgs false
open Go.RowKit

def FitE (e : Bs × Bs) : Prop := e.1.length ≤ 120 ∧ e.2.length ≤ 1200
structure PutInv (l : List (Bs × Bs)) (k : Nat) (o : Option Tr) : Prop where
  fits : ∀ e ∈ l.take k, FitE e
  sub : ∀ e ∈ Tr.entsO o, e ∈ l.take k
  sup : (l.take k).Pairwise (fun e f => e.1 ≠ f.1) → ∀ e ∈ l.take k, e ∈ Tr.entsO o
  len : (Tr.entsO o).length ≤ k
theorem PutInv.zero (l : List (Bs × Bs)) : PutInv l 0 none := ⟨by simp, by simp [Tr.entsO], by simp, Nat.le_refl _⟩
theorem PutInv.next {l : List (Bs × Bs)} {k : Nat} {o o' : Option Tr} (h : PutInv l k o) {x : Bs × Bs} (hx : l[k]? = some x) (hf : FitE x) (hp : PutO x.1 x.2 o o') : PutInv l (k + 1) o' := by
  have ht : l.take (k + 1) = l.take k ++ [x] := by rw [List.take_add_one, hx]; rfl
  have hlen := hp.len
  unfold PutO at hp
  rw [if_pos (show x.1.length ≤ 120 ∧ x.2.length ≤ 1200 from hf)] at hp
  obtain ⟨t', rfl, _, h2, _⟩ := hp
  refine ⟨?_, ?_, ?_, by have := h.len; omega⟩
  · rw [ht]
    intro e he
    rcases List.mem_append.1 he with he | he
    · exact h.fits e he
    · rw [List.mem_singleton.1 he]; exact hf
  · intro e he
    rw [ht]
    rcases (h2 e).1 he with rfl | ⟨he, _⟩
    · exact List.mem_append.2 (.inr (List.mem_singleton.2 rfl))
    · exact List.mem_append.2 (.inl (h.sub e he))
  · rw [ht]
    intro hd e he
    obtain ⟨d1, _, d3⟩ := List.pairwise_append.1 hd
    refine (h2 e).2 ?_
    rcases List.mem_append.1 he with he | he
    · exact .inr ⟨h.sup d1 e he, d3 e he x (List.mem_singleton.2 rfl)⟩
    · exact .inl (List.mem_singleton.1 he)
/-- Each key is above the one before. -/
def Rising (l : List (Bs × Bs)) : Prop := ∀ i (h : i + 1 < l.length), l[i].1 < l[i + 1].1
theorem Rising.pair {l : List (Bs × Bs)} (h : Rising l) : l.Pairwise (fun e f => e.1 < f.1) := by
  induction l with
  | nil => exact List.Pairwise.nil
  | cons x r ih =>
    have hr : Rising r := fun i hi => h (i + 1) (by rw [List.length_cons]; omega)
    have ih := ih hr
    refine List.pairwise_cons.2 ⟨?_, ih⟩
    intro e he
    cases r with
    | nil => cases he
    | cons y s =>
      have h0 : x.1 < y.1 := h 0 (by simp)
      rcases List.mem_cons.1 he with rfl | he
      · exact h0
      · exact List.lt_trans h0 ((List.pairwise_cons.1 ih).1 e he)
/-- What RootOf answers. -/
def RootOfR (l : List (Bs × Bs)) (s : Bs) (err : Int) : Prop :=
  ((¬ ∀ e ∈ l, FitE e) ∧ s = List.replicate 32 0 ∧ err = 2) ∨ ((∀ e ∈ l, FitE e) ∧ ¬ Rising l ∧ s = List.replicate 32 0 ∧ err = 1) ∨
  ((∀ e ∈ l, FitE e) ∧ Rising l ∧ err = 0 ∧ ∃ o, Tr.okO o ∧ (∀ e, e ∈ Tr.entsO o ↔ e ∈ l) ∧ s = rootS o)
set_option maxRecDepth 100000 in
set_option maxHeartbeats 4000000 in
theorem rootof_walk {w : World} {D : Nat → Prop} {lv : Value} {l : List (Bs × Bs)} (hL : Row (EntryIs D) 2 D w lv l) (hl : l.length ≤ 1099511627776) :
    Calls Try.prog 24 #[lv] w fun e w' => ∃ s err, e = .returned (.tuple #[sumV s, .int .i64 err]) ∧ RootOfR l s err ∧ s.length = 32 ∧ Ext (fun _ => False) w w' := by
  have hx1 := fun o : Obj => (Ext.refl (fun _ => False) w).alloc o
  have hs1 := heap_alloc_self w (.cells ((List.replicate 32 (0 : UInt8)).map byteV).toArray 29 (0, 0))
  obtain ⟨A, cp, hav, hcap, _⟩ := id hL
  subst hav
  have HL := Lib.hid hL
  clear hL
  go_enter Try.func24, Try.ntmps24
  go_wp2_with fail
  have x1 : Ext (fun _ => False) w (w.alloc (.cells ((List.replicate 32 (0 : UInt8)).map byteV).toArray 29 (0, 0))) := hx1 _
  have hlt1 := lt_of_heap hs1
  refine (tm_new (w0 := w.alloc (.cells ((List.replicate 32 (0 : UInt8)).map byteV).toArray 29 (0, 0))) (Ext.refl _ _)).mono ?_
  generalize (w.alloc (.cells ((List.replicate 32 (0 : UInt8)).map byteV).toArray 29 (0, 0))) = W1 at *
  rintro e w2 ⟨rfl, h2⟩
  generalize W1.heap.size = c at *
  have H1 := Lib.hid (And.intro x1 hs1)
  have H2 := Lib.hid h2
  clear x1 hs1 h2 hx1
  go_wp2_with fail
  go_loopw [13] (fun i W => ∃ (k : Nat) (o : Option Tr), k ≤ l.length ∧ i = .int .i64 k ∧ TM W1 W c o ∧ PutInv l k o) (fun i _ => l.length - (intOf i).toNat)
  case atStart => exact ⟨0, none, Nat.zero_le _, rfl, H2.out, PutInv.zero l⟩
  case round =>
    obtain ⟨k, o, hk, rfl, hT, hP⟩ := hrel
    by_cases hlt : k < l.length
    · obtain ⟨g, off, c', hav, hdb, ⟨⟨a, b, c0, c1, ha, hb⟩, la, lb⟩⟩ := HL.out.at hlt
      simp only [Value.slice.injEq, true_and] at hav
      obtain ⟨rfl, rfl⟩ := hav
      have hkl : decide ((k : Int) < (l.length : Int)) = true := by simp; omega
      have yx := H1.out.1.trans hT.2.2
      have d0 := cell_same c0 yx
      have d1 := cell_same c1 yx
      have hx : l[k]? = some l[k] := List.getElem?_eq_getElem hlt
      generalize l[k] = x at *
      have hgr := fun ob : Obj => (Ext.refl (fun _ => False) wr).alloc ob
      obtain ⟨A1, cc1, rfl, _, _⟩ := id ha
      obtain ⟨A2, cc2, rfl, _, _⟩ := id hb
      have HT := Lib.hid (And.intro hT (And.intro hP (And.intro yx (And.intro hx hgr))))
      have HB := Lib.hid (And.intro ha hb)
      clear hT hP yx hx ha hb c0 c1 hgr
      go_wp2_with fail
      refine (tm_put (k := x.1) (v := x.2) (HT.out.1.still (HT.out.2.2.2.2 _)) ((HB.out.1.same HT.out.2.2.1).same (HT.out.2.2.2.2 _)) ((HB.out.2.same HT.out.2.2.1).same (HT.out.2.2.2.2 _)) (by have := HT.out.2.1.len; omega)).mono ?_
      rintro e w3 ⟨o2, rfl, p2, h3, _⟩
      by_cases hf : FitE x
      · rw [show putE x.1 x.2 = 0 by rw [putE, if_pos (show x.1.length ≤ 120 ∧ x.2.length ≤ 1200 from hf)]]
        have HP := Lib.hid (And.intro h3 (HT.out.2.1.next HT.out.2.2.2.1 hf p2))
        clear h3 p2 hf d0 d1
        go_wp2_with fail
        exact ⟨⟨k + 1, o2, by omega, by go_num, HP.out.1, HP.out.2⟩, by simp [intOf]; omega⟩
      · rw [show putE x.1 x.2 = 2 by rw [putE, if_neg (show ¬ (x.1.length ≤ 120 ∧ x.2.length ≤ 1200) from hf)]]
        have hb3 := h3.2.2.heap H1.out.2 id
        have HP := Lib.hid (And.intro h3.2.2 (And.intro hb3 hf))
        clear h3 p2 hf d0 d1 hb3
        have hz := zeros_cells
        have HZ := Lib.hid hz
        clear hz
        go_wp2_with (refine wpList_store_row rfl 29 _ _ rfl w.heap.size _ rfl rfl 29 _ HP.out.2.1 (by kernel_rfl) (by kernel_rfl) (by kernel_rfl) ?_)
        refine bodyPost_ret (results_cell_tmp rfl _ _ w.heap.size 29 _ (0, 0) _ rfl (setRow_heap _ _ _ _ _ _ HP.out.2.1) Try.underlying29 rfl (by kernel_rfl)) rfl ?_
        refine ⟨List.replicate 32 0, 2, ?_, .inl ⟨fun h => HP.out.2.2 (h _ (List.mem_of_getElem? HT.out.2.2.2.1)), rfl, rfl⟩, by simp, ?_⟩
        · rw [sumV_cells, HZ.out]
          rfl
        · exact (H1.out.1.trans HP.out.1).setRow (.inr (Nat.le_refl _)) _
    · have hkl : decide ((k : Int) < (l.length : Int)) = false := by simp; omega
      have hkk : k = l.length := by omega
      subst hkk
      have HT := Lib.hid (And.intro hT hP)
      clear hT hP
      generalize wr = w3 at *
      go_wp2_with fail
      go_loopw [30] (fun i W => ∃ k : Nat, k ≤ l.length ∧ i = .int .i64 k ∧ Ext (fun _ => False) w3 W ∧ ∀ i (h : i + 1 < l.length), i + 1 < k → l[i].1 < l[i + 1].1) (fun i _ => l.length - (intOf i).toNat)
      case atStart => exact ⟨0, Nat.zero_le _, rfl, Ext.refl _ _, fun i h hi => by omega⟩
      case round =>
        obtain ⟨k, hk, rfl, hx, hr⟩ := hrel
        by_cases hlt : k < l.length
        · obtain ⟨g, off, c', hav, hdb, ⟨⟨a, b, c0, c1, ha, hb⟩, la, lb⟩⟩ := HL.out.at hlt
          simp only [Value.slice.injEq, true_and] at hav
          obtain ⟨rfl, rfl⟩ := hav
          have hkl : decide ((k : Int) < (l.length : Int)) = true := by simp; omega
          have hy := (H1.out.1.trans HT.out.1.2.2).trans hx
          have d0' := cell_same c0 hy
          have d1' := cell_same c1 hy
          obtain ⟨A1, cc1, rfl, _, _⟩ := id ha
          obtain ⟨A2, cc2, rfl, _, _⟩ := id hb
          have hgl : g < wr.heap.size := World.block_lt_of_cell? _ _ d0'
          by_cases hk0 : k = 0
          · subst hk0
            have HX := Lib.hid (And.intro hx (And.intro hy hr))
            have z0 : wr.cell? ⟨g, off, none⟩ = some (.slice A1 (l[0].1).length cc1) := by simpa using d0'
            have z1 : wr.cell? ⟨g, off + 1, none⟩ = some (.slice A2 (l[0].2).length cc2) := by simpa using d1'
            clear hx hy hr c0 c1 ha hb d0' d1'
            go_wp2_with fail
            refine wp_region_bar (Cls [wr.heap.size, g] _) [] [0, 1, 2, 3, 4, 5, 6, 7, 8, 9, 10] 11 [] [12, 13] (by kernel_rfl) (by kernel_rfl) (Cls.refl _ _) ?_
            try dsimp only [wpMix, wpSegs, pick, List.getElem?_cons_zero, List.getElem?_cons_succ]
            generalize hz : Act.mk _ _ = z
            repeat (first | (refine wpQuiet_step (fun K hK => ?_); replace hK := Lib.hid hK; subst hz; go_simp; generalize hz : Act.mk _ _ = z; refine hK.out z ?_; clear hK K) | (refine wpQuiet_step (fun K hK => ?_); replace hK := Lib.hid hK; subst hz; refine iteSkip (by kernel_rfl) ?_; go_simp; generalize hz : Act.mk _ _ = z; refine hK.out z ?_; clear hK K))
            try refine wpQuiet_nil ?_
            subst hz
            try dsimp only [NoPan]
            go_wp2_with fail
            try dsimp only [wpMix, wpSegs, pick, List.getElem?_cons_zero, List.getElem?_cons_succ]
            generalize hz : Act.mk _ _ = z
            repeat (first | (refine wpQuiet_step (fun K hK => ?_); replace hK := Lib.hid hK; subst hz; go_simp; generalize hz : Act.mk _ _ = z; refine hK.out z ?_; clear hK K) | (refine wpQuiet_step (fun K hK => ?_); replace hK := Lib.hid hK; subst hz; refine iteSkip (by kernel_rfl) ?_; go_simp; generalize hz : Act.mk _ _ = z; refine hK.out z ?_; clear hK K))
            try refine wpQuiet_nil ?_
            subst hz
            try dsimp only [NoPan]
            go_wp2_with fail
            exact ⟨⟨1, by omega, by go_num, (HX.out.1.alloc _).drew, fun i h hi => by omega⟩, by simp [intOf]; omega⟩
          · have hk0p : decide (0 < (k : Int)) = true := by simp; omega
            have hk0q : decide (0 < k) = true := by simp; omega
            have hk0r : 0 < k := by omega
            obtain ⟨m, hm⟩ : ∃ m, m + 1 = k := ⟨k - 1, by omega⟩
            have hml : m < l.length := by omega
            obtain ⟨g', off', c'', hav', _, ⟨⟨a', b', e0, e1, ha', hb'⟩, la', lb'⟩⟩ := HL.out.at hml
            simp only [Value.slice.injEq, Option.some.injEq, Addr.mk.injEq, true_and, and_true] at hav'
            obtain ⟨⟨rfl, rfl⟩, rfl⟩ := hav'
            have f0' := cell_same e0 hy
            obtain ⟨A3, cc3, rfl, _, _⟩ := id ha'
            have hw1 : IntKind.i64.wrap ((k : Int) - 1) = (m : Int) := by rw [IntWalk.i64_in _ (by omega)]; omega
            have hgr : ∀ ob : Obj, Ext (fun _ => False) wr (wr.alloc ob).drew := fun ob => ((Ext.refl (fun _ => False) wr).alloc ob).drew
            have hrise : ∀ (hm1 : m + 1 < l.length), (l[m].1 < l[m + 1].1) ↔ l[m].1 < l[k].1 := fun hm1 => by subst hm; rfl
            have HX := Lib.hid (And.intro hx (And.intro hy (And.intro hr (And.intro hm hgr))))
            have HB := Lib.hid (And.intro ha ha')
            have HR := Lib.hid hrise
            clear hx hy hr c0 c1 ha hb e0 e1 ha' hb' hgr hm hrise
            generalize hKK : l[k] = xk at *
            generalize hMM : l[m] = xm at *
            have HKM := Lib.hid (And.intro hKK hMM)
            clear hKK hMM
            go_wp2_with fail
            refine wp_region_bar (Cls [wr.heap.size, g] _) [] [0, 1, 2, 3, 4, 5, 6, 7, 8, 9, 10] 11 [] [12, 13] (by kernel_rfl) (by kernel_rfl) (Cls.refl _ _) ?_
            try dsimp only [wpMix, wpSegs, pick, List.getElem?_cons_zero, List.getElem?_cons_succ]
            generalize hz : Act.mk _ _ = z
            repeat (first | (refine wpQuiet_step (fun K hK => ?_); replace hK := Lib.hid hK; subst hz; go_simp; generalize hz : Act.mk _ _ = z; refine hK.out z ?_; clear hK K) | (refine wpQuiet_step (fun K hK => ?_); replace hK := Lib.hid hK; subst hz; refine iteSkip (by kernel_rfl) ?_; go_simp; generalize hz : Act.mk _ _ = z; refine hK.out z ?_; clear hK K))
            try refine wpQuiet_nil ?_
            subst hz
            try dsimp only [NoPan]
            go_wp2_with fail
            refine (compare_walk ((HB.out.1.same HX.out.2.1).same (HX.out.2.2.2.2 _)) ((HB.out.2.same HX.out.2.1).same (HX.out.2.2.2.2 _))).mono ?_
            rintro e w5 ⟨rfl, hw5⟩
            have hb5 : Ext (fun _ => False) wr w5 := by rw [← hw5]; exact HX.out.2.2.2.2 _
            have H5 := Lib.hid hb5
            clear hw5 hb5
            by_cases hc : 0 < Lib.compareBytes xk.1 xm.1
            · have hcd : decide (Lib.compareBytes xk.1 xm.1 ≤ 0) = false := by simp; omega
              have HC := Lib.hid ((compare_pos _ _).1 hc)
              clear hc
              go_wp2_with fail
              try dsimp only [wpMix, wpSegs, pick, List.getElem?_cons_zero, List.getElem?_cons_succ]
              generalize hz : Act.mk _ _ = z
              repeat (first | (refine wpQuiet_step (fun K hK => ?_); replace hK := Lib.hid hK; subst hz; go_simp; generalize hz : Act.mk _ _ = z; refine hK.out z ?_; clear hK K) | (refine wpQuiet_step (fun K hK => ?_); replace hK := Lib.hid hK; subst hz; refine iteSkip (by kernel_rfl) ?_; go_simp; generalize hz : Act.mk _ _ = z; refine hK.out z ?_; clear hK K))
              try refine wpQuiet_nil ?_
              subst hz
              try dsimp only [NoPan]
              go_wp2_with fail
              refine ⟨⟨k + 1, by omega, by go_num, HX.out.1.trans H5.out, fun i h hi => ?_⟩, by simp [intOf]; omega⟩
              by_cases hik : i + 1 < k
              · exact HX.out.2.2.1 i h hik
              · have him : i = m := by have := HX.out.2.2.2.1; omega
                subst him
                rw [HKM.out.2]
                exact (HR.out h).2 HC.out
            · have hcd : decide (Lib.compareBytes xk.1 xm.1 ≤ 0) = true := by simp; omega
              have HC := Lib.hid (fun h => hc ((compare_pos xk.1 xm.1).2 h))
              have hbz := H5.out.heap ((HT.out.1.2.2.trans HX.out.1).heap H1.out.2 id) id
              have HZ := Lib.hid (And.intro hbz zeros_cells)
              clear hc hbz
              go_wp2_with fail
              try dsimp only [wpMix, wpSegs, pick, List.getElem?_cons_zero, List.getElem?_cons_succ]
              generalize hz : Act.mk _ _ = z
              repeat (first | (refine wpQuiet_step (fun K hK => ?_); replace hK := Lib.hid hK; subst hz; go_simp; generalize hz : Act.mk _ _ = z; refine hK.out z ?_; clear hK K) | (refine wpQuiet_step (fun K hK => ?_); replace hK := Lib.hid hK; subst hz; refine iteSkip (by kernel_rfl) ?_; go_simp; generalize hz : Act.mk _ _ = z; refine hK.out z ?_; clear hK K))
              try refine wpQuiet_nil ?_
              subst hz
              try dsimp only [NoPan]
              go_wp2_with (refine wpList_store_row rfl 29 _ _ rfl w.heap.size _ rfl rfl 29 _ HZ.out.1 (by kernel_rfl) (by kernel_rfl) (by kernel_rfl) ?_)
              refine bodyPost_ret (results_cell_tmp rfl _ _ w.heap.size 29 _ (0, 0) _ rfl (setRow_heap _ _ _ _ _ _ HZ.out.1) Try.underlying29 rfl (by kernel_rfl)) rfl ?_
              refine ⟨List.replicate 32 0, 1, ?_, .inr (.inl ⟨fun e he => ?_, fun hri => ?_, rfl, rfl⟩), by simp, ?_⟩
              · rw [sumV_cells, HZ.out.2]
                rfl
              · have := HT.out.2.fits e
                rw [List.take_length] at this
                exact this he
              · have hmk := HX.out.2.2.2.1
                have := hri m (by omega)
                rw [HKM.out.2] at this
                exact HC.out ((HR.out (by omega)).1 this)
              · exact (HX.out.2.1.trans H5.out).setRow (.inr (Nat.le_refl _)) _
        · have hkl : decide ((k : Int) < (l.length : Int)) = false := by simp; omega
          have hkk : k = l.length := by omega
          subst hkk
          have hTk := HT.out.1.still hx
          have HX := Lib.hid (And.intro hx (And.intro hr hTk))
          clear hx hr hTk
          go_wp2_with fail
          refine (tm_root HX.out.2.2).mono ?_
          rintro e w6 ⟨rfl, h6, x6⟩
          rw [sumV_A]
          have hb6 := x6.heap ((HT.out.1.2.2.trans HX.out.1).heap H1.out.2 id) id
          have H6 := Lib.hid (And.intro h6 hb6)
          clear h6 x6 hb6
          go_wp2_with (refine wpList_store_row rfl 29 _ _ rfl w.heap.size (sumA (rootS o)) rfl rfl 29 _ H6.out.2 (info_sum (rootS_len _)) (by rw [sumA_size (rootS_len _)]; rfl) (sumA_one _) ?_)
          refine bodyPost_ret (results_cell_tmp rfl _ _ w.heap.size 29 (sumA (rootS o)) (0, 0) _ rfl (setRow_heap _ _ _ _ _ _ H6.out.2) Try.underlying29 rfl (info_sum (rootS_len _))) rfl ?_
          have hfit : ∀ e ∈ l, FitE e := fun e he => by
            have := HT.out.2.fits e
            rw [List.take_length] at this
            exact this he
          have hri : Rising l := fun i h => HX.out.2.1 i h h
          refine ⟨rootS o, 0, by rw [sumV_A]; rfl, .inr (.inr ⟨hfit, hri, rfl, o, ?_, fun e => ?_, rfl⟩), rootS_len _, (H1.out.1.trans H6.out.1.2.2).setRow (.inr (Nat.le_refl _)) _⟩
          · obtain ⟨⟨D', hT, _⟩, _⟩ := HT.out.1
            exact hT.ok
          · have h1 := HT.out.2.sub e
            have h2 := HT.out.2.sup
            rw [List.take_length] at h1 h2
            exact ⟨h1, h2 (hri.pair.imp fun h => fun e => by rw [e] at h; exact List.lt_irrefl _ h) e⟩
end Go.Proofs.Ytoflfhjeabpcjaa
/- The document's Root, RootOf; no condition. -/
namespace Go.Proofs.Ytoflfhjeabpcjaa
set_option linter.unusedVariables false
set_option linter.unusedSimpArgs false
open Go.RowKit

theorem eq_of_sorted : ∀ {l m : List (Bs × Bs)}, l.Pairwise (fun e f => e.1 < f.1) → m.Pairwise (fun e f => e.1 < f.1) → (∀ e, e ∈ l ↔ e ∈ m) → l = m
  | [], [], _, _, _ => rfl
  | [], y :: m, _, _, h => absurd ((h y).2 (List.mem_cons_self ..)) (by simp)
  | x :: l, [], _, _, h => absurd ((h x).1 (List.mem_cons_self ..)) (by simp)
  | x :: l, y :: m, hl, hm, h => by
    obtain ⟨l1, l2⟩ := List.pairwise_cons.1 hl
    obtain ⟨m1, m2⟩ := List.pairwise_cons.1 hm
    have hxy : x = y := by
      rcases List.mem_cons.1 ((h x).1 (List.mem_cons_self ..)) with e | hx
      · exact e
      · rcases List.mem_cons.1 ((h y).2 (List.mem_cons_self ..)) with e | hy
        · exact e.symm
        · exact absurd (List.lt_trans (m1 x hx) (l1 y hy)) (List.lt_irrefl _)
    subst hxy
    rw [eq_of_sorted l2 m2 fun e => ?_]
    have he := h e
    simp only [List.mem_cons] at he
    constructor
    · intro hel
      rcases he.1 (.inr hel) with rfl | h'
      · exact absurd (l1 _ hel) (List.lt_irrefl _)
      · exact h'
    · intro hem
      rcases he.2 (.inr hem) with rfl | h'
      · exact absurd (m1 _ hem) (List.lt_irrefl _)
      · exact h'
theorem put_exists {o : Option Tr} (ho : Tr.okO o) {k v : Bs} (hk : k.length ≤ 120) (hv : v.length ≤ 1200) : ∃ t', PutOf k v o t' := by
  cases o with
  | none => exact ⟨.leaf k v, ⟨hk, hv⟩, fun e => by simp [Tr.ents, Tr.entsO], by simp [Tr.ents, Tr.entsO]⟩
  | some t =>
    by_cases hak : (t.last k).1 = k
    · obtain ⟨h1, h2⟩ := Tr.ins_none hk hv ho hak
      exact ⟨_, h1, h2, ins_len k v none t⟩
    · obtain ⟨i, h1, h2, _⟩ := first_apart hak
      obtain ⟨p1, p2⟩ := Tr.ins_some hk hv ho h2 h1
      refine ⟨_, p1, fun e => ?_, ins_len k v (some i) t⟩
      rw [p2 e]
      constructor
      · rintro (h | h)
        · exact .inl h
        · refine .inr ⟨h, fun he => hak ?_⟩
          have := Tr.last_of ho e h
          rw [he] at this
          rw [this]
          exact he
      · rintro (h | h)
        · exact .inl h
        · exact .inr h.1
theorem inv_exists {l : List (Bs × Bs)} (hf : ∀ e ∈ l, FitE e) : ∀ k, k ≤ l.length → ∃ o, Tr.okO o ∧ PutInv l k o
  | 0, _ => ⟨none, trivial, PutInv.zero l⟩
  | k + 1, hk => by
    obtain ⟨o, ho, hi⟩ := inv_exists hf k (by omega)
    have hx : l[k]? = some l[k] := List.getElem?_eq_getElem (by omega)
    have hfit := hf l[k] (List.getElem_mem _)
    obtain ⟨t', ht⟩ := put_exists ho hfit.1 hfit.2
    refine ⟨some t', ht.1, hi.next hx hfit ?_⟩
    unfold PutO
    rw [if_pos (show l[k].1.length ≤ 120 ∧ l[k].2.length ≤ 1200 from hfit)]
    exact ⟨t', rfl, ht⟩
theorem entsO_sorted {o : Option Tr} (ho : Tr.okO o) : (Tr.entsO o).Pairwise (fun e f => e.1 < f.1) := by
  cases o with
  | none => exact List.Pairwise.nil
  | some t => exact Tr.sorted ho
/-- A rising row of entries is a tree's. -/
theorem exists_tree {l : List (Bs × Bs)} (hf : ∀ e ∈ l, FitE e) (hr : Rising l) : ∃ o, Tr.okO o ∧ Tr.entsO o = l := by
  obtain ⟨o, ho, hi⟩ := inv_exists hf l.length (Nat.le_refl _)
  have h1 := hi.sub
  have h2 := hi.sup
  rw [List.take_length] at h1 h2
  refine ⟨o, ho, eq_of_sorted (entsO_sorted ho) hr.pair fun e => ⟨h1 e, h2 (hr.pair.imp fun h => fun e => by rw [e] at h; exact List.lt_irrefl _ h) e⟩⟩
theorem RootOfR.one {l : List (Bs × Bs)} {s s' : Bs} {e e' : Int} (h : RootOfR l s e) (h' : RootOfR l s' e') : s = s' ∧ e = e' := by
  rcases h with ⟨a1, a2, a3⟩ | ⟨a0, a1, a2, a3⟩ | ⟨a0, a1, a2, o, a3, a4, a5⟩ <;> rcases h' with ⟨b1, b2, b3⟩ | ⟨b0, b1, b2, b3⟩ | ⟨b0, b1, b2, o', b3, b4, b5⟩
  · exact ⟨by rw [a2, b2], by rw [a3, b3]⟩
  · exact absurd b0 a1
  · exact absurd b0 a1
  · exact absurd a0 b1
  · exact ⟨by rw [a2, b2], by rw [a3, b3]⟩
  · exact absurd b1 a1
  · exact absurd a0 b1
  · exact absurd a1 b1
  · refine ⟨?_, by rw [a2, b2]⟩
    rw [a5, b5, Tr.canonO a3 b3 fun e => by rw [a4, b4]]
theorem texts_any {o : Option Tr} (ho : Tr.okO o) {w : World} {lv : Value} (hL : Ents w lv (Tr.entsO o)) (hn : (Tr.entsO o).length ≤ 64) : Calls Try.prog 49 #[lv] w (TextsPost w (rootS o) 128) := by
  cases o with
  | none =>
    refine (dtexts_none hL).mono ?_
    rintro e w' ⟨v3, n, a1, a2, a3, a4, a5⟩
    exact ⟨v3, n, a1, a2, a3, by omega, a5⟩
  | some t =>
    refine (dtexts_walk t ho hL hn).mono ?_
    rintro e w' ⟨v3, n, a1, a2, a3, a4, a5⟩
    have hn' : t.ents.length ≤ 64 := hn
    exact ⟨v3, n, a1, a2, a3, by omega, a5⟩
set_option maxRecDepth 100000 in
set_option maxHeartbeats 2000000 in
theorem droot_walk {o : Option Tr} (ho : Tr.okO o) {w : World} {lv : Value} (hL : Ents w lv (Tr.entsO o)) (hn : (Tr.entsO o).length ≤ 64) : Calls Try.prog 29 #[lv] w fun e w' => e = .returned (.agg (sumA (rootS o))) ∧ Ext (fun _ => False) w w' := by
  have hs1 := heap_alloc_self w (.cells ((List.replicate 32 (0 : UInt8)).map byteV).toArray 29 (0, 0))
  have hx1 : Ext (fun _ => False) w (w.alloc (.cells ((List.replicate 32 (0 : UInt8)).map byteV).toArray 29 (0, 0))) := (Ext.refl _ _).alloc _
  have hE := hL.still hx1
  obtain ⟨A, cp, rfl, _, _⟩ := id hL
  have H1 := Lib.hid (And.intro hs1 (And.intro hx1 hE))
  clear hs1 hx1 hE hL
  go_enter Try.func29, Try.ntmps29
  go_wp2_with fail
  refine (texts_any ho H1.out.2.2 hn).mono ?_
  rintro e w3 ⟨v3, n3, rfl, o3, p3, q3, x3⟩
  obtain ⟨A3, c3, rfl⟩ := o3.form
  have s3 := x3.heap H1.out.1 id
  have y3 := H1.out.2.1.trans x3
  have hn3 := lt_of_heap s3
  have H3 := Lib.hid (And.intro s3 y3)
  clear s3 y3 x3 o3 H1
  have hW4 : ((w3.alloc (.cells ((List.replicate 32 (0 : UInt8)).map byteV).toArray 29 (0, 0))).setRow w3.heap.size (sumA (rootS o))).heap[w3.heap.size]? = some (.cells (sumA (rootS o)) 29 (0, 0)) := setRow_heap _ _ _ _ _ _ (heap_alloc_self _ _)
  have hR4 : ((w3.alloc (.cells ((List.replicate 32 (0 : UInt8)).map byteV).toArray 29 (0, 0))).setRow w3.heap.size (sumA (rootS o))).heap[w.heap.size]? = some (.cells ((List.replicate 32 (0 : UInt8)).map byteV).toArray 29 (0, 0)) := by
    rw [setRow_other _ _ _ _ (by omega)]
    exact ((Ext.refl (fun _ => False) w3).alloc _).heap H3.out.1 id
  have hx4 : Ext (fun _ => False) w ((w3.alloc (.cells ((List.replicate 32 (0 : UInt8)).map byteV).toArray 29 (0, 0))).setRow w3.heap.size (sumA (rootS o))) := (H3.out.2.alloc _).setRow (.inr (by omega)) _
  have H4 := Lib.hid (And.intro hW4 (And.intro hR4 hx4))
  clear hW4 hR4 hx4
  go_wp2_with (first
    | refine wpList_load_row rfl 29 (.tmp 3) rfl w3.heap.size rfl 29 (sumA (rootS o)) (0, 0) _ H4.out.1 Try.underlying29 rfl (info_sum (rootS_len _)) ?_
    | refine wpList_store_row rfl 29 (.tmp 2) _ rfl w.heap.size (sumA (rootS o)) rfl rfl 29 _ H4.out.2.1 (info_sum (rootS_len _)) (by rw [sumA_size (rootS_len _)]; rfl) (sumA_one _) ?_
    | refine wpList_store_row rfl 29 (.tmp 3) _ rfl w3.heap.size (sumA (rootS o)) rfl rfl 29 _ (heap_alloc_self _ _) (info_sum (rootS_len _)) (by rw [sumA_size (rootS_len _)]; rfl) (sumA_one _) ?_)
  refine bodyPost_ret (results_cell_row rfl _ _ w.heap.size 29 (sumA (rootS o)) (0, 0) _ rfl (setRow_heap _ _ _ _ _ _ H4.out.2.1) Try.underlying29 rfl (info_sum (rootS_len _))) rfl ?_
  exact ⟨rfl, H4.out.2.2.setRow (.inr (Nat.le_refl _)) _⟩
end Go.Proofs.Ytoflfhjeabpcjaa
/- What All hands back, read as a row of entries; the root of it; no condition. -/
namespace Go.Proofs.Ytoflfhjeabpcjaa
set_option linter.unusedVariables false
set_option linter.unusedSimpArgs false
open Go.RowKit

theorem OwnF.ents {N : Nat} {D : Nat → Prop} {w : World} {ov : Value} {vs : List (Value × Value)} {l : List (Bs × Bs)} (h : OwnF N D w ov vs l) (hl : ∀ e ∈ l, e.1.length ≤ 120 ∧ e.2.length ≤ 1200) : Ents w ov l := by
  rcases h.row.2 with ⟨rfl, h0⟩ | ⟨g, cap, cur, rfl, hg, hh, h1, _, hsz, htk⟩
  · have : l = [] := List.eq_nil_of_length_eq_zero h0
    subst this
    exact ⟨none, 0, rfl, Nat.le_refl _, fun h => absurd rfl h⟩
  · refine ⟨_, cap, rfl, h1, fun _ => ⟨g, 0, rfl, lt_of_heap hh, fun i e hi => ?_⟩⟩
    have hlt := (List.getElem?_eq_some_iff.1 hi).1
    have hvl := h.len
    have hvi : vs[i]? = some vs[i] := List.getElem?_eq_getElem (by omega)
    obtain ⟨b1, b2⟩ := h.ent i _ e hvi hi
    obtain ⟨l1, l2⟩ := hl e (List.mem_of_getElem? hi)
    have hat : ∀ j, j < 2 → w.cell? ⟨g, 2 * i + j, none⟩ = [vs[i].1, vs[i].2][j]? := by
      intro j hj
      rw [cells_at hh, ← flatMap_at (f := fun p : Value × Value => [p.1, p.2]) (m := 2) (fun _ => rfl) vs i j _ hj hvi, ← htk, List.getElem?_take_of_lt (by omega)]
      simp
    refine ⟨⟨_, _, ?_, ?_, b1.byt.mono fun k hk => b1.lt k hk, b2.byt.mono fun k hk => b2.lt k hk⟩, by omega, by omega⟩
    · have := hat 0 (by decide)
      rw [Nat.zero_add, Nat.mul_comm]
      exact this
    · have := hat 1 (by decide)
      rw [Nat.zero_add, Nat.mul_comm]
      exact this
theorem TM.fit {w0 w : World} {c : Nat} {o : Option Tr} (h : TM w0 w c o) : ∀ e ∈ Tr.entsO o, e.1.length ≤ 120 ∧ e.2.length ≤ 1200 := by
  obtain ⟨⟨D, h1, _⟩, _⟩ := h
  exact h1.ents
theorem TM.okO {w0 w : World} {c : Nat} {o : Option Tr} (h : TM w0 w c o) : Tr.okO o := by
  obtain ⟨⟨D, h1, _⟩, _⟩ := h
  exact h1.ok
theorem tm_all {w0 w : World} {c : Nat} {o : Option Tr} (h : TM w0 w c o) (hn : (Tr.entsO o).length ≤ 1048576) :
    Calls Try.prog 30 #[ptrV c] w fun e w' => ∃ ov vs D', e = .returned ov ∧ OwnF w.heap.size D' w' ov vs (Tr.entsO o) ∧ (∀ b, D' b → w.heap.size ≤ b) ∧ TM w0 w' c o ∧ Ext (fun _ => False) w w' := by
  obtain ⟨⟨D, h1, h2⟩, h3, h4⟩ := id h
  refine (all_walk h1 hn).mono ?_
  rintro e w' ⟨ov, vs, D', rfl, a1, a2, a3⟩
  exact ⟨ov, vs, D', rfl, a1, a2, h.still a3, a3⟩
theorem rising_of_pair : ∀ {l : List (Bs × Bs)}, l.Pairwise (fun e f => e.1 < f.1) → Rising l := by
  intro l h i hi
  exact List.pairwise_iff_getElem.1 h i (i + 1) (by omega) hi (by omega)
theorem rootOfR_of {o : Option Tr} {s : Bs} {err : Int} (ho : Tr.okO o) (hf : ∀ e ∈ Tr.entsO o, FitE e) (h : RootOfR (Tr.entsO o) s err) : err = 0 ∧ s = rootS o := by
  rcases h with ⟨h, _⟩ | ⟨_, h, _⟩ | ⟨_, _, h1, o', h2, h3, h4⟩
  · exact absurd hf h
  · exact absurd (rising_of_pair (entsO_sorted ho)) h
  · refine ⟨h1, ?_⟩
    rw [h4, Tr.canonO h2 ho h3]
/-- All put, in whatever order. -/
theorem PutInv.all {l m : List (Bs × Bs)} {o o' : Option Tr} (h : PutInv m m.length o') (hm : ∀ e, e ∈ m ↔ e ∈ l) (hd : m.Pairwise (fun e f => e.1 ≠ f.1)) (ho : Tr.okO o) (ho' : Tr.okO o') (hl : l = Tr.entsO o) : o' = o := by
  refine Tr.canonO ho' ho fun e => ?_
  rw [← hl, ← hm]
  refine ⟨fun he => ?_, fun he => h.sup (by rw [List.take_length]; exact hd) e (by rw [List.take_length]; exact he)⟩
  have := h.sub e he
  rwa [List.take_length] at this
theorem wpList_load_rowg {P : Program} {ops : Array Oper} {rest : List Oper} {o : Oper} {a : Act} {w : World} {Q : Exit → Act → World → Prop} (ty : TypeId) (x : Operand) (ho : o.op = .load ty x) (hw : Region.wanted o (yielded ops a.tmps) = true)
    (g : Nat) (hx : a.eval x = .pointer (some ⟨g, 0, none⟩)) (t : TypeId) (cs : Array Value) (fr : Nat × Nat) (d : TypeDesc) (hg : w.heap[g]? = some (.cells cs t fr))
    (hu : P.underlying ty = some d) (hd : (match d with | .struct _ | .array _ _ => true | _ => false) = true) (hi : (P.info? ty).map (·.size) = some cs.size)
    (h : wpList P ops Q rest (a.put o.dst (.agg cs)) w) : wpList P ops Q (o :: rest) a w := by
  simp only [wpList, hw, if_true]
  exact .inl (wp_load_row ty x ho g hx t cs fr d hg hu hd hi h)
theorem wpQuiet_load_rowq {P : Program} {ops : Array Oper} {rest : List Oper} {o : Oper} {a : Act} {C : World → Prop} {Q : Act → Prop} (ty : TypeId) (x : Operand) (ho : o.op = .load ty x) (hw : Region.wanted o (yielded ops a.tmps) = true) (g : Nat) (hx : a.eval x = .pointer (some ⟨g, 0, none⟩)) (t : TypeId) (cs : Array Value) (fr : Nat × Nat) (d : TypeDesc)
    (hC : ∀ w, C w → w.heap[g]? = some (.cells cs t fr)) (hu : P.underlying ty = some d) (hd : (match d with | .struct _ | .array _ _ => true | _ => false) = true) (hi : (P.info? ty).map (·.size) = some cs.size)
    (h : wpQuiet P ops C Q rest (a.put o.dst (.agg cs))) : wpQuiet P ops C Q (o :: rest) a := by
  simp only [wpQuiet, hw, if_true]
  refine ⟨.agg cs, fun w hw => ?_, h⟩
  unfold Oper.quietAt execOp
  simp only [ho, hx, Instr.loadAt, Instr.sureAddr, Sem.run_bind, Sem.run_pure, Result.andThen_ok, run_loadVar_row w g t ty cs fr d (hC w hw) hu hd hi]
  exact ⟨rfl, rfl⟩
theorem cls_heapq {D : List Nat} {w0 : World} {b : Nat} {ob : Obj} (hb : b ∈ D) (h : w0.heap[b]? = some ob) : ∀ w, Cls D w0 w → w.heap[b]? = some ob := by
  rintro w ⟨u, rfl⟩
  rw [u.obj b hb]
  exact h
end Go.Proofs.Ytoflfhjeabpcjaa
/- What a proof is in plain words: steps, texts, what it tells; no condition. -/
namespace Go.Proofs.Ytoflfhjeabpcjaa
set_option linter.unusedVariables false
set_option linter.unusedSimpArgs false
open Go.RowKit

structure PS where
  bit : Int
  right : Bool
  other : Bs
def stepV (s : PS) : List Value := .int .i64 s.bit :: .bool s.right :: s.other.map byteV
theorem stepV_len {s : PS} (h : s.other.length = 32) : (stepV s).length = 34 := by simp [stepV, h]
def agreesP (k : Bs) (L : List PS) : Bool := L.all fun s => bitI k s.bit == s.right
def risesP (n : Nat) : Int → List PS → Bool
  | _, [] => true
  | last, s :: r => decide (last < s.bit) && decide (s.bit ≤ 9 * n) && risesP n s.bit r
def mayP (nn : Bool) (k v : Bs) (L : List PS) : Bool :=
  if nn then k.length + L.length == 0 && v.length == 0 else risesP k.length (-1) L && (decide (k.length ≤ 120) && decide (v.length ≤ 1200) && agreesP k L)
def noneT : Bs := (textR [110, 111, 110, 101] []).1
def leafT (k v : Bs) : Bs := (textR [108, 101, 97, 102] [k, v]).1
def forkT (b : Int) (x y : Bs) : Bs := (textR [102, 111, 114, 107] [beB b 8, x, y]).1
def nextT (t : Bs) (s : PS) : Bs := if s.right then forkT s.bit s.other (rawB t) else forkT s.bit (rawB t) s.other
def scanT : Bs → List PS → List Bs
  | t, [] => [t]
  | t, s :: r => t :: scanT (nextT t s) r
def lastT (t : Bs) (L : List PS) : Bs := L.foldl nextT t
theorem scanT_last : ∀ (L : List PS) (t : Bs), (scanT t L).getLast? = some (lastT t L)
  | [], t => rfl
  | s :: r, t => by
    have h := scanT_last r (nextT t s)
    rw [scanT, lastT, List.foldl_cons, List.getLast?_cons, h]
    rfl
theorem scanT_len : ∀ (L : List PS) (t : Bs), (scanT t L).length = L.length + 1
  | [], t => rfl
  | s :: r, t => by rw [scanT, List.length_cons, scanT_len r, List.length_cons]
theorem scanT_snoc : ∀ (L : List PS) (t : Bs) (s : PS), scanT t (L ++ [s]) = scanT t L ++ [nextT (lastT t L) s]
  | [], t, s => rfl
  | a :: r, t, s => by
    rw [List.cons_append, scanT, scanT_snoc r, scanT]
    rfl
theorem lastT_snoc (L : List PS) (t : Bs) (s : PS) : lastT t (L ++ [s]) = nextT (lastT t L) s := by simp [lastT]
def textsP (nn : Bool) (k v : Bs) (L : List PS) : List Bs :=
  if mayP nn k v L then (if nn then [noneT] else scanT (leafT k v) L.reverse) else []
/-- What Check answers: the value, whether there is one, the error. -/
def checkP (root key : Bs) (nn : Bool) (k v : Bs) (L : List PS) : Bs × Bool × Int :=
  match (textsP nn k v L).getLast? with
  | none => ([], false, 5)
  | some t => if rawB t ≠ root ∨ agreesP key L = false then ([], false, 5) else if nn = true ∨ k ≠ key then ([], false, 0) else (v, true, 0)

/-! ### StepsR in memory -/
def StepAt (w : World) (g n : Nat) (s : PS) : Prop := s.other.length = 32 ∧ w.rangeAt g n (stepV s)
theorem StepAt.same {w w' : World} {g n : Nat} {s : PS} (h : StepAt w g n s) (he : w'.heap[g]? = w.heap[g]?) : StepAt w' g n s :=
  ⟨h.1, fun j v hv => (cell_of_heap (a := ⟨g, n + j, none⟩) he).trans (h.2 j v hv)⟩
def StepsR (D : Nat → Prop) (w : World) (v : Value) (L : List PS) : Prop := Row StepAt 34 D w v L
theorem StepsR.same {D : Nat → Prop} {w w' : World} {v : Value} {L : List PS} (h : StepsR D w v L) (hD : ∀ b, D b → w'.heap[b]? = w.heap[b]?) : StepsR D w' v L := by
  obtain ⟨A, c, rfl, hc, h⟩ := h
  refine ⟨A, c, rfl, hc, fun hl => ?_⟩
  obtain ⟨g, o, rfl, hd, hx⟩ := h hl
  exact ⟨g, o, rfl, hd, fun i x hi => (hx i x hi).same (hD g hd)⟩
end Go.Proofs.Ytoflfhjeabpcjaa
/- Whether a key leads where steps go: proof.agrees; no condition. -/
namespace Go.Proofs.Ytoflfhjeabpcjaa
set_option linter.unusedVariables false
set_option linter.unusedSimpArgs false
open Go.RowKit

theorem step_info : (Try.prog.info? 48).map (·.size) = some 34 := by kernel_rfl
theorem stepV_one (s : PS) : (stepV s).all (·.oneCell') = true := by
  simp only [stepV, List.all_cons, List.all_eq_true, Bool.and_eq_true, List.mem_map]
  refine ⟨rfl, rfl, ?_⟩
  rintro _ ⟨c, _, rfl⟩
  rfl
theorem wpList_load_midq {P : Program} {ops : Array Oper} {rest : List Oper} {o : Oper} {a : Act} {w : World} {Q : Exit → Act → World → Prop} (ty : TypeId) (x : Operand) (hgd : o.guard = none) (ho : o.op = .load ty x) (b k : Nat) (hx : a.eval x = .pointer (some ⟨b, k, none⟩)) (cs : List Value) (d : TypeDesc)
    (hC : w.rangeAt b k cs) (hu : P.underlying ty = some d) (hd : d.isRow = true) (hi : (P.info? ty).map (·.size) = some cs.length)
    (h : wpList P ops Q rest (a.put o.dst (.agg cs.toArray)) w) : wpList P ops Q (o :: rest) a w := by
  refine wpList_val hgd (w' := w) (v := .agg cs.toArray) ?_ h
  unfold execOp
  simp only [ho, hx, Instr.loadAt, Instr.sureAddr, Sem.run_bind, Sem.run_pure, Result.andThen_ok, run_loadVar_mid w b k ty cs d hC hu hd hi]
set_option maxRecDepth 100000 in
set_option maxHeartbeats 400000 in
theorem agr1_walk {w : World} {s : PS} {b : Nat} {kv : Value} {k : Bs} (hs : s.other.length = 32) (hb : w.heap[b]? = some (.cells #[kv] 22 (0, 0))) (hk : Byt (fun _ => True) w kv k) (hkl : k.length ≤ 140737488351232) :
    Calls Try.prog 111 #[.agg (stepV s).toArray, .pointer (some ⟨b, 0, none⟩)] w fun e w' => e = .returned (.bool (bitI k s.bit != s.right)) ∧ Ext (fun _ => False) w w' := by
  have H := Lib.hid hk
  obtain ⟨A, c, rfl, _, _⟩ := hk
  have c0 : w.cell? ⟨b, 0, none⟩ = some (.slice A k.length c) := cells_at hb 0
  have hbl := lt_of_heap hb
  clear hb
  go_enter Try.func111, Try.ntmps111
  go_wp2_with fail
  have hn := heap_alloc_self w (.cells (stepV s).toArray 48 (0, 0))
  have hx := (Ext.refl (fun _ => False) w).alloc (.cells (stepV s).toArray 48 (0, 0))
  generalize (w.alloc (.cells (stepV s).toArray 48 (0, 0))) = W at *
  have d0 : W.cell? ⟨w.heap.size, 0, none⟩ = some (.int .i64 s.bit) := cells_at hn 0
  have d1 : W.cell? ⟨w.heap.size, 1, none⟩ = some (.bool s.right) := cells_at hn 1
  have e0 := cell_same c0 hx
  have hnl := lt_of_heap hn
  have hbl' := Nat.lt_of_lt_of_le hbl hx.size
  have HX := Lib.hid (And.intro hn hx)
  clear hn hx
  refine wp_region_mix (Cls [b, w.heap.size] _) [([0, 1, 2, 4, 5], 3)] [6, 7] (by kernel_rfl) (by kernel_rfl) (Cls.refl _ _) ?_
  try dsimp only [wpMix, wpSegs, pick, List.getElem?_cons_zero, List.getElem?_cons_succ]
  generalize hz : Act.mk _ _ = z
  repeat (first | (refine wpQuiet_step (fun K hK => ?_); replace hK := Lib.hid hK; subst hz; go_simp; generalize hz : Act.mk _ _ = z; refine hK.out z ?_; clear hK K) | (refine wpQuiet_step (fun K hK => ?_); replace hK := Lib.hid hK; subst hz; refine iteSkip (by kernel_rfl) ?_; go_simp; generalize hz : Act.mk _ _ = z; refine hK.out z ?_; clear hK K))
  try refine wpQuiet_nil ?_
  subst hz
  try dsimp only [NoPan]
  go_wp2_with fail
  refine (bit_walk (H.out.same HX.out.2.drew) (by omega) s.bit).mono ?_
  rintro e _ ⟨rfl, rfl⟩
  go_wp2_with fail
  refine ⟨Cls.refl _ _, ?_⟩
  try dsimp only [wpMix, wpSegs, pick, List.getElem?_cons_zero, List.getElem?_cons_succ]
  generalize hz : Act.mk _ _ = z
  repeat (first | (refine wpQuiet_step (fun K hK => ?_); replace hK := Lib.hid hK; subst hz; go_simp; generalize hz : Act.mk _ _ = z; refine hK.out z ?_; clear hK K) | (refine wpQuiet_step (fun K hK => ?_); replace hK := Lib.hid hK; subst hz; refine iteSkip (by kernel_rfl) ?_; go_simp; generalize hz : Act.mk _ _ = z; refine hK.out z ?_; clear hK K))
  try refine wpQuiet_nil ?_
  subst hz
  try dsimp only [NoPan]
  go_wp2_with fail
  go_ret
  exact ⟨rfl, HX.out.2.drew⟩
set_option maxRecDepth 100000 in
set_option maxHeartbeats 1000000 in
theorem index_walk {w : World} {D : Nat → Prop} {sv : Value} {L : List PS} {b : Nat} {kv : Value} {k : Bs} (hL : StepsR D w sv L) (hl : L.length ≤ 1099511627776) (hb : w.heap[b]? = some (.cells #[kv] 22 (0, 0))) (hk : Byt (fun _ => True) w kv k) (hkl : k.length ≤ 140737488351232) :
    Calls Try.prog 124 #[sv, .func (.func 111) #[] #[.pointer (some ⟨b, 0, none⟩)]] w fun e w' => ∃ r : Int, e = .returned (.int .i64 r) ∧ decide (0 ≤ r) = !agreesP k L ∧ Ext (fun _ => False) w w' := by
  have H := Lib.hid (And.intro hL (And.intro hb hk))
  obtain ⟨A, c, rfl, hc, _⟩ := hL
  clear hb hk
  go_enter Try.func124, Try.ntmps124
  go_wp2_with fail
  go_loopw [8] (fun i W => ∃ q : Nat, q ≤ L.length ∧ i = .int .i64 q ∧ agreesP k (L.take q) = true ∧ Ext (fun _ => False) w W) (fun i _ => L.length - (intOf i).toNat)
  case atStart => exact ⟨0, Nat.zero_le _, rfl, rfl, Ext.refl _ _⟩
  case round =>
    obtain ⟨q, hq, rfl, ha, hx⟩ := hrel
    by_cases hlt : q < L.length
    · have hql : decide ((q : Int) < (L.length : Int)) = true := by simp; omega
      obtain ⟨g, o, c', hav, hdb, hst⟩ := H.out.1.at hlt
      simp only [Value.slice.injEq, true_and] at hav
      obtain ⟨rfl, rfl⟩ := hav
      have HA := Lib.hid (And.intro ha (And.intro hx hst))
      have hx0 : L[q]? = some L[q] := List.getElem?_eq_getElem hlt
      have HX := Lib.hid hx0
      clear ha hx hst hx0
      generalize L[q] = x at *
      have hso := HA.out.2.2.1
      have hrg : wr.rangeAt g (o + q * 34) (stepV x) := fun j v hv => cell_same (HA.out.2.2.2 j v hv) HA.out.2.1
      go_wp2_with (first | refine wpList_load_midq 48 (.tmp 14) rfl rfl g (o + q * 34) rfl (stepV x) _ hrg Try.underlying48 rfl (by rw [stepV_len hso]; exact step_info) ?_)
      refine (agr1_walk (k := k) hso (HA.out.2.1.heap H.out.2.1 id) (H.out.2.2.same HA.out.2.1) hkl).mono ?_
      rintro e w2 ⟨rfl, x2⟩
      have H2 := Lib.hid (HA.out.2.1.trans x2)
      have hbm : (x.bit, x.right) = (x.bit, x.right) := rfl
      obtain ⟨bb, hbb⟩ : ∃ bb, bb = (bitI k x.bit != x.right) := ⟨_, rfl⟩
      rw [← hbb]
      have HB := Lib.hid hbb
      clear x2 hbb hbm hrg
      cases bb with
      | true =>
        go_wp2_with fail
        go_ret
        refine ⟨q, rfl, ?_, H2.out⟩
        have hf : agreesP k L = false := by
          unfold agreesP
          rw [List.all_eq_false]
          refine ⟨x, List.mem_of_getElem? HX.out, ?_⟩
          have := HB.out
          simpa [bne] using this
        rw [hf]
        simp
      | false =>
        go_wp2_with fail
        refine ⟨⟨q + 1, by omega, by go_num, ?_, H2.out⟩, by simp [intOf]; omega⟩
        have ha := HA.out.1
        unfold agreesP at ha ⊢
        rw [List.take_add_one, HX.out, List.all_append, ha]
        have := HB.out
        simpa [bne] using this
    · have hql : decide ((q : Int) < (L.length : Int)) = false := by simp; omega
      have hqe : L.take q = L := List.take_of_length_le (by omega)
      rw [hqe] at ha
      have HA := Lib.hid (And.intro ha hx)
      clear ha hx hqe
      go_wp2_with fail
      go_ret
      exact ⟨-1, rfl, by rw [HA.out.1]; rfl, HA.out.2⟩
set_option maxRecDepth 100000 in
theorem contains_walk {w : World} {D : Nat → Prop} {sv : Value} {L : List PS} {b : Nat} {kv : Value} {k : Bs} (hL : StepsR D w sv L) (hl : L.length ≤ 1099511627776) (hb : w.heap[b]? = some (.cells #[kv] 22 (0, 0))) (hk : Byt (fun _ => True) w kv k) (hkl : k.length ≤ 140737488351232) :
    Calls Try.prog 110 #[sv, .func (.func 111) #[] #[.pointer (some ⟨b, 0, none⟩)]] w fun e w' => e = .returned (.bool (!agreesP k L)) ∧ Ext (fun _ => False) w w' := by
  have H := Lib.hid (index_walk hL hl hb hk hkl)
  obtain ⟨A, c, rfl, hc, _⟩ := hL
  clear hb hk hc
  go_enter Try.func110, Try.ntmps110
  go_wp2_with fail
  refine H.out.mono ?_
  rintro e w2 ⟨r, rfl, hr, x2⟩
  have H2 := Lib.hid (And.intro hr x2)
  clear hr x2
  go_wp2_with fail
  go_ret
  exact ⟨by rw [← H2.out.1]; rfl, H2.out.2⟩
set_option maxRecDepth 100000 in
theorem agrees_walk {w : World} {D D' : Nat → Prop} {sv : Value} {L : List PS} {kv : Value} {k : Bs} (hL : StepsR D w sv L) (hl : L.length ≤ 1099511627776) (hk : Byt D' w kv k) (hkl : k.length ≤ 140737488351232) :
    Calls Try.prog 88 #[kv, sv] w fun e w' => e = .returned (.bool (agreesP k L)) ∧ Ext (fun _ => False) w w' := by
  obtain ⟨A', c', rfl, hc', _⟩ := id hk
  obtain ⟨A, c, rfl, hc, _⟩ := id hL
  have hx := (Ext.refl (fun _ => False) w).alloc (.cells #[.slice A' k.length c'] 22 (0, 0))
  have hst : StepsR (fun b => b < w.heap.size) w (.slice A L.length c) L := by
    obtain ⟨A1, c1, e1, h1, h2⟩ := hL
    refine ⟨A1, c1, e1, h1, fun hl => ?_⟩
    obtain ⟨g, o, rfl, hd, h3⟩ := h2 hl
    refine ⟨g, o, rfl, ?_, h3⟩
    obtain ⟨x, hx⟩ := List.exists_mem_of_ne_nil _ hl
    obtain ⟨i, hi⟩ := List.mem_iff_getElem?.1 hx
    exact World.block_lt_of_cell? _ _ ((h3 i x hi).2 0 _ rfl)
  have HW := Lib.hid (contains_walk (k := k) (hst.same fun b hb => hx.heap_eq hb id) hl (heap_alloc_self _ _) ((hk.mono fun _ _ => trivial).same hx) hkl)
  have HX := Lib.hid hx
  clear hx hst hL hk hc hc'
  go_enter Try.func88, Try.ntmps88
  go_wp2_with fail
  refine HW.out.mono ?_
  rintro e w2 ⟨rfl, x2⟩
  have H2 := Lib.hid (HX.out.trans x2)
  clear x2
  go_wp2_with fail
  go_ret
  exact ⟨by simp, H2.out⟩
end Go.Proofs.Ytoflfhjeabpcjaa
