/- Parts of the proof, put together: TrieActs, TrieCmp, TrieRootOf, TrieRoot4, TrieAll2; no condition. -/
import Derived.Test.YtoflfhjeabpcjaaLawTrieRootsB
import Derived.Test.YtoflfhjeabpcjaaOpenEntry
import Derived.Test.YtoflfhjeabpcjaaCloneEq
import Derived.Lib.BytesEntry
import Derived.Test.YtoflfhjeabpcjaaLawTrieRootsA
/- A tree of acts: vestrylaw04.made; no condition. -/
namespace Go.Proofs.Ytoflfhjeabpcjaa
set_option linter.unusedVariables false
set_option linter.unusedSimpArgs false
open Go.RowKit

theorem PutO.len {k v : Bs} {o o' : Option Tr} (h : PutO k v o o') : (Tr.entsO o').length ≤ (Tr.entsO o).length + 1 := by
  unfold PutO at h
  split at h
  · obtain ⟨t', rfl, _, _, h⟩ := h
    exact h
  · rw [h]; omega
set_option maxRecDepth 100000 in
set_option maxHeartbeats 2000000 in
theorem made_walk {w0 w : World} {av : Value} {acts : List Act4} (hA : Row (Act4Is (· < w0.heap.size)) 3 (· < w0.heap.size) w0 av acts) (hl : acts.length ≤ 9223372036854775807) (hx : Ext (fun _ => False) w0 w) :
    Calls Try.prog 21 #[av] w fun e w' => ∃ c o, e = .returned (ptrV c) ∧ TM w0 w' c o ∧ (Tr.entsO o).length ≤ 30 := by
  obtain ⟨A, cp, hav, hcap, hrow⟩ := id hA
  subst hav
  go_enter Try.func21, Try.ntmps21
  go_wp2_with fail
  refine (tm_new hx).mono ?_
  rintro e w1 ⟨rfl, h1⟩
  generalize w.heap.size = c at *
  clear hrow
  have H1 := Lib.hid h1
  clear h1
  go_wp2_with fail
  go_loopw [4] (fun i W => ∃ (k : Nat) (o : Option Tr), k ≤ acts.length ∧ k ≤ 30 ∧ i = .int .i64 k ∧ TM w0 W c o ∧ (Tr.entsO o).length ≤ k) (fun i _ => 30 - (intOf i).toNat)
  case atStart => exact ⟨0, none, by omega, by omega, rfl, H1.out, Nat.le_refl _⟩
  case round =>
    obtain ⟨k, o, hk, hk1, rfl, hT, hn⟩ := hrel
    by_cases hlt : k < acts.length
    · by_cases h30 : k < 30
      · obtain ⟨g, off, c', hav, hdb, ⟨⟨a, b, c0, c1, c2, ha, hb⟩, la, lb⟩⟩ := hA.at hlt
        simp only [Value.slice.injEq, true_and] at hav
        obtain ⟨rfl, rfl⟩ := hav
        have hkl : decide ((k : Int) < (acts.length : Int)) = true := by simp; omega
        have hk30 : decide ((k : Int) < 30) = true := by simp; omega
        have d0 := cell_same c0 hT.2.2
        have d1 := cell_same c1 hT.2.2
        have d2 := cell_same c2 hT.2.2
        have hgl : g < wr.heap.size := World.block_lt_of_cell? _ _ d0
        have HT := Lib.hid (And.intro hT hn)
        have HB := Lib.hid (And.intro ha (And.intro hb (And.intro la lb)))
        clear hT hn ha hb la lb
        generalize acts[k] = x at *
        by_cases h0 : x.d = 0
        · rw [h0] at d0
          rw [h0] at c0
          have HC0 := Lib.hid c0
          clear h0 hA c0 c1 c2
          go_wp2_with fail
          refine wp_region_bar (Cls [g] _) [] [0, 1, 2, 3, 4, 5, 6, 7, 8, 9, 10] 11 [] [] (by kernel_rfl) (by kernel_rfl) (Cls.refl _ _) ?_
          try dsimp only [wpMix, wpSegs, pick, List.getElem?_cons_zero, List.getElem?_cons_succ]
          generalize hz : Act.mk _ _ = z
          repeat (first | (refine wpQuiet_step (fun K hK => ?_); replace hK := Lib.hid hK; subst hz; go_simp; generalize hz : Act.mk _ _ = z; refine hK.out z ?_; clear hK K) | (refine wpQuiet_step (fun K hK => ?_); replace hK := Lib.hid hK; subst hz; refine iteSkip (by kernel_rfl) ?_; go_simp; generalize hz : Act.mk _ _ = z; refine hK.out z ?_; clear hK K))
          try refine wpQuiet_nil ?_
          subst hz
          try dsimp only [NoPan]
          go_wp2_with fail
          refine (tm_put (k := x.k) (v := x.v) (HT.out.1.still (Ext.refl _ _).drew) (HB.out.1.same HT.out.1.2.2.drew) (HB.out.2.1.same HT.out.1.2.2.drew) (by have := HT.out.2; omega)).mono ?_
          rintro e w2 ⟨o2, rfl, p2, h2, x2⟩
          have e0 := cell_same HC0.out h2.2.2
          have H2 := Lib.hid (And.intro h2 p2)
          clear h2 p2 x2 d0 d1 d2
          go_wp2_with fail
          try dsimp only [wpMix, wpSegs, pick, List.getElem?_cons_zero, List.getElem?_cons_succ]
          generalize hz : Act.mk _ _ = z
          repeat (first | (refine wpQuiet_step (fun K hK => ?_); replace hK := Lib.hid hK; subst hz; go_simp; generalize hz : Act.mk _ _ = z; refine hK.out z ?_; clear hK K) | (refine wpQuiet_step (fun K hK => ?_); replace hK := Lib.hid hK; subst hz; refine iteSkip (by kernel_rfl) ?_; go_simp; generalize hz : Act.mk _ _ = z; refine hK.out z ?_; clear hK K))
          try refine wpQuiet_nil ?_
          subst hz
          try dsimp only [NoPan]
          go_wp2_with fail
          refine ⟨⟨k + 1, o2, by omega, by omega, by go_num, H2.out.1, by have := H2.out.2.len; have := HT.out.2; omega⟩, by simp [intOf]; omega⟩
        · by_cases h1 : x.d = 1
          · rw [h1] at d0
            clear h0 h1 hA c0 c1 c2
            go_wp2_with fail
            refine (tm_delete (k := x.k) HT.out.1 (HB.out.1.same HT.out.1.2.2) (by have := HB.out.2.2.1; omega) (by have := HT.out.2; omega)).mono ?_
            rintro e w2 ⟨o2, rfl, p2, h2, x2⟩
            have H2 := Lib.hid (And.intro h2 p2)
            clear h2 p2 x2 d0 d1 d2
            go_wp2_with fail
            refine ⟨⟨k + 1, o2, by omega, by omega, by go_num, H2.out.1, by have := H2.out.2.2.2; have := HT.out.2; omega⟩, by simp [intOf]; omega⟩
          · have h0' : (x.d == 0) = false := by simpa using h0
            have h1' : (x.d == 1) = false := by simpa using h1
            clear h0 h1 hA c0 c1 c2
            go_wp2_with fail
            refine ⟨⟨k + 1, o, by omega, by omega, by go_num, HT.out.1, by have := HT.out.2; omega⟩, by simp [intOf]; omega⟩
      · have hkl : decide ((k : Int) < (acts.length : Int)) = true := by simp; omega
        have hk30 : decide ((k : Int) < 30) = false := by simp; omega
        have HT := Lib.hid (And.intro hT hn)
        clear hT hn hA
        go_wp2_with fail
        go_ret
        exact ⟨c, o, rfl, HT.out.1, by have := HT.out.2; omega⟩
    · have hkl : decide ((k : Int) < (acts.length : Int)) = false := by simp; omega
      have HT := Lib.hid (And.intro hT hn)
      clear hT hn hA
      go_wp2_with fail
      go_ret
      exact ⟨c, o, rfl, HT.out.1, by have := HT.out.2; omega⟩
end Go.Proofs.Ytoflfhjeabpcjaa
/- bytes.Compare; no condition. -/
namespace Go.Proofs.Ytoflfhjeabpcjaa
set_option linter.unusedVariables false
set_option linter.unusedSimpArgs false
open Go.RowKit

theorem bytesOf_nums : ∀ l : Bs, Lib.bytesOf (l.map fun b => (b.toNat : Int)) = l
  | [] => rfl
  | c :: l => by
    have := bytesOf_nums l
    simp only [Lib.bytesOf, List.map_cons, List.map_map] at this ⊢
    rw [this]
    simp
theorem run_bytesOf {P : Program} {D : Nat → Prop} {w : World} {v : Value} {l : Bs} (h : Byt D w v l) : (Extern.Bytes.bytesOf v).run P w = .ok ⟨l.toArray⟩ w := by
  obtain ⟨A, c, rfl, hc, hat⟩ := h
  cases A with
  | none =>
    have hnil : l = [] := Classical.byContradiction fun hne => by
      obtain ⟨ad, h1, _⟩ := hat hne
      cases h1
    subst hnil
    rfl
  | some ad =>
    have hcell : ∀ (j : Nat) (x : Int), (l.map fun b => (b.toNat : Int))[j]? = some x → w.cell? (ad.add j) = some (.int .u8 x) := by
      intro j x hx
      rw [List.getElem?_map] at hx
      obtain ⟨u, hu, rfl⟩ := Option.map_eq_some_iff.1 hx
      have hne : l ≠ [] := by rintro rfl; simp at hu
      obtain ⟨ad', h1, _, h2⟩ := hat hne
      simp only [Option.some.injEq] at h1
      subst h1
      exact h2 j u hu
    have := Lib.run_loadBytesX (P := P) w _ ad .empty hcell
    rw [bytesOf_nums, List.length_map] at this
    simp only [Extern.Bytes.bytesOf, this]
    congr 1
    apply ByteArray.ext
    simp
theorem run_compareSlices {P : Program} {D D' : Nat → Prop} {w : World} {v v' : Value} {l l' : Bs} (h : Byt D w v l) (h' : Byt D' w v' l') :
    (Extern.BytealgCompare.compare #[v, v']).run P w = .ok (.int .i64 (Lib.compareBytes l l')) w := by
  change Sem.run P (do pure (goInt (Extern.BytealgCompare.cmp (← Extern.Bytes.bytesOf v) (← Extern.Bytes.bytesOf v')))) w = _
  simp only [Sem.run_bind, run_bytesOf h, run_bytesOf h', Sem.run_pure, Result.andThen]
  rw [Lib.cmp_eq]
  rfl
set_option maxRecDepth 100000 in
theorem compare_walk {w : World} {D D' : Nat → Prop} {v v' : Value} {l l' : Bs} (h : Byt D w v l) (h' : Byt D' w v' l') :
    Calls Try.prog 68 #[v, v'] w fun e w' => e = .returned (.int .i64 (Lib.compareBytes l l')) ∧ w = w' := by
  have H := Lib.hid (And.intro h h')
  clear h h'
  go_enter Try.func68, Try.ntmps68
  go_wp2_with fail
  rw [run_callFunc_extern Try.func105 (by kernel_rfl) (by kernel_rfl) (by kernel_rfl) (e := Extern.BytealgCompare.compare) (by kernel_rfl), run_compareSlices H.out.1 H.out.2]
  simp only [Result.andThen]
  rw [Oper.upon_value]
  go_wp2_with fail
  go_ret
  exact ⟨rfl, rfl⟩
theorem compare_pos : ∀ a b : Bs, 0 < Lib.compareBytes a b ↔ b < a
  | [], [] => by simp [Lib.compareBytes]
  | [], _ :: _ => by simp [Lib.compareBytes]
  | _ :: _, [] => by simp [Lib.compareBytes]
  | a :: x, b :: y => by
    have ih := compare_pos x y
    rw [Lib.compareBytes, List.cons_lt_cons_iff]
    by_cases h : a < b
    · rw [if_pos h]
      constructor
      · intro h'; omega
      · rintro (h' | ⟨rfl, _⟩)
        · exact absurd h' (UInt8.not_lt.2 (UInt8.le_of_lt h))
        · exact absurd h (UInt8.lt_irrefl _)
    · rw [if_neg h]
      by_cases h2 : b < a
      · rw [if_pos h2]
        exact ⟨fun _ => .inl h2, fun _ => by decide⟩
      · rw [if_neg h2, ih]
        have : a = b := UInt8.le_antisymm (UInt8.not_lt.1 h2) (UInt8.not_lt.1 h)
        subst this
        constructor
        · exact fun h => .inr ⟨rfl, h⟩
        · rintro (h' | ⟨_, h'⟩)
          · exact absurd h' h
          · exact h'
end Go.Proofs.Ytoflfhjeabpcjaa
/- RootOf of a row of entries; no condition. -/
namespace Go.Proofs.Ytoflfhjeabpcjaa
set_option linter.unusedVariables false
set_option linter.unusedSimpArgs false
open Go.RowKit

def FitE (e : Bs × Bs) : Prop := e.1.length ≤ 120 ∧ e.2.length ≤ 1200
structure PutInv (l : List (Bs × Bs)) (k : Nat) (o : Option Tr) : Prop where
  fits : ∀ e ∈ l.take k, FitE e
  sub : ∀ e ∈ Tr.entsO o, e ∈ l.take k
  sup : (l.take k).Pairwise (fun e f => e.1 ≠ f.1) → ∀ e ∈ l.take k, e ∈ Tr.entsO o
  len : (Tr.entsO o).length ≤ k
theorem PutInv.zero (l : List (Bs × Bs)) : PutInv l 0 none := ⟨by simp, by simp [Tr.entsO], by simp, Nat.le_refl _⟩
theorem PutInv.next {l : List (Bs × Bs)} {k : Nat} {o o' : Option Tr} (h : PutInv l k o) {x : Bs × Bs} (hx : l[k]? = some x) (hf : FitE x) (hp : PutO x.1 x.2 o o') : PutInv l (k + 1) o' := by
  have ht : l.take (k + 1) = l.take k ++ [x] := by rw [List.take_add_one, hx]; rfl
  have hlen := hp.len
  unfold PutO at hp
  rw [if_pos (show x.1.length ≤ 120 ∧ x.2.length ≤ 1200 from hf)] at hp
  obtain ⟨t', rfl, _, h2, _⟩ := hp
  refine ⟨?_, ?_, ?_, by have := h.len; omega⟩
  · rw [ht]
    intro e he
    rcases List.mem_append.1 he with he | he
    · exact h.fits e he
    · rw [List.mem_singleton.1 he]; exact hf
  · intro e he
    rw [ht]
    rcases (h2 e).1 he with rfl | ⟨he, _⟩
    · exact List.mem_append.2 (.inr (List.mem_singleton.2 rfl))
    · exact List.mem_append.2 (.inl (h.sub e he))
  · rw [ht]
    intro hd e he
    obtain ⟨d1, _, d3⟩ := List.pairwise_append.1 hd
    refine (h2 e).2 ?_
    rcases List.mem_append.1 he with he | he
    · exact .inr ⟨h.sup d1 e he, d3 e he x (List.mem_singleton.2 rfl)⟩
    · exact .inl (List.mem_singleton.1 he)
/-- Each key is above the one before. -/
def Rising (l : List (Bs × Bs)) : Prop := ∀ i (h : i + 1 < l.length), l[i].1 < l[i + 1].1
theorem Rising.pair {l : List (Bs × Bs)} (h : Rising l) : l.Pairwise (fun e f => e.1 < f.1) := by
  induction l with
  | nil => exact List.Pairwise.nil
  | cons x r ih =>
    have hr : Rising r := fun i hi => h (i + 1) (by rw [List.length_cons]; omega)
    have ih := ih hr
    refine List.pairwise_cons.2 ⟨?_, ih⟩
    intro e he
    cases r with
    | nil => cases he
    | cons y s =>
      have h0 : x.1 < y.1 := h 0 (by simp)
      rcases List.mem_cons.1 he with rfl | he
      · exact h0
      · exact List.lt_trans h0 ((List.pairwise_cons.1 ih).1 e he)
/-- What RootOf answers. -/
def RootOfR (l : List (Bs × Bs)) (s : Bs) (err : Int) : Prop :=
  ((¬ ∀ e ∈ l, FitE e) ∧ s = List.replicate 32 0 ∧ err = 2) ∨ ((∀ e ∈ l, FitE e) ∧ ¬ Rising l ∧ s = List.replicate 32 0 ∧ err = 1) ∨
  ((∀ e ∈ l, FitE e) ∧ Rising l ∧ err = 0 ∧ ∃ o, Tr.okO o ∧ (∀ e, e ∈ Tr.entsO o ↔ e ∈ l) ∧ s = rootS o)
set_option maxRecDepth 100000 in
set_option maxHeartbeats 4000000 in
theorem rootof_walk {w : World} {D : Nat → Prop} {lv : Value} {l : List (Bs × Bs)} (hL : Row (EntryIs D) 2 D w lv l) (hl : l.length ≤ 1099511627776) :
    Calls Try.prog 24 #[lv] w fun e w' => ∃ s err, e = .returned (.tuple #[sumV s, .int .i64 err]) ∧ RootOfR l s err ∧ s.length = 32 ∧ Ext (fun _ => False) w w' := by
  have hx1 := fun o : Obj => (Ext.refl (fun _ => False) w).alloc o
  have hs1 := heap_alloc_self w (.cells ((List.replicate 32 (0 : UInt8)).map byteV).toArray 29 (0, 0))
  obtain ⟨A, cp, hav, hcap, _⟩ := id hL
  subst hav
  have HL := Lib.hid hL
  clear hL
  go_enter Try.func24, Try.ntmps24
  go_wp2_with fail
  have x1 : Ext (fun _ => False) w (w.alloc (.cells ((List.replicate 32 (0 : UInt8)).map byteV).toArray 29 (0, 0))) := hx1 _
  have hlt1 := lt_of_heap hs1
  refine (tm_new (w0 := w.alloc (.cells ((List.replicate 32 (0 : UInt8)).map byteV).toArray 29 (0, 0))) (Ext.refl _ _)).mono ?_
  generalize (w.alloc (.cells ((List.replicate 32 (0 : UInt8)).map byteV).toArray 29 (0, 0))) = W1 at *
  rintro e w2 ⟨rfl, h2⟩
  generalize W1.heap.size = c at *
  have H1 := Lib.hid (And.intro x1 hs1)
  have H2 := Lib.hid h2
  clear x1 hs1 h2 hx1
  go_wp2_with fail
  go_loopw [13] (fun i W => ∃ (k : Nat) (o : Option Tr), k ≤ l.length ∧ i = .int .i64 k ∧ TM W1 W c o ∧ PutInv l k o) (fun i _ => l.length - (intOf i).toNat)
  case atStart => exact ⟨0, none, Nat.zero_le _, rfl, H2.out, PutInv.zero l⟩
  case round =>
    obtain ⟨k, o, hk, rfl, hT, hP⟩ := hrel
    by_cases hlt : k < l.length
    · obtain ⟨g, off, c', hav, hdb, ⟨⟨a, b, c0, c1, ha, hb⟩, la, lb⟩⟩ := HL.out.at hlt
      simp only [Value.slice.injEq, true_and] at hav
      obtain ⟨rfl, rfl⟩ := hav
      have hkl : decide ((k : Int) < (l.length : Int)) = true := by simp; omega
      have yx := H1.out.1.trans hT.2.2
      have d0 := cell_same c0 yx
      have d1 := cell_same c1 yx
      have hx : l[k]? = some l[k] := List.getElem?_eq_getElem hlt
      generalize l[k] = x at *
      have hgr := fun ob : Obj => (Ext.refl (fun _ => False) wr).alloc ob
      obtain ⟨A1, cc1, rfl, _, _⟩ := id ha
      obtain ⟨A2, cc2, rfl, _, _⟩ := id hb
      have HT := Lib.hid (And.intro hT (And.intro hP (And.intro yx (And.intro hx hgr))))
      have HB := Lib.hid (And.intro ha hb)
      clear hT hP yx hx ha hb c0 c1 hgr
      go_wp2_with fail
      refine (tm_put (k := x.1) (v := x.2) (HT.out.1.still (HT.out.2.2.2.2 _)) ((HB.out.1.same HT.out.2.2.1).same (HT.out.2.2.2.2 _)) ((HB.out.2.same HT.out.2.2.1).same (HT.out.2.2.2.2 _)) (by have := HT.out.2.1.len; omega)).mono ?_
      rintro e w3 ⟨o2, rfl, p2, h3, _⟩
      by_cases hf : FitE x
      · rw [show putE x.1 x.2 = 0 by rw [putE, if_pos (show x.1.length ≤ 120 ∧ x.2.length ≤ 1200 from hf)]]
        have HP := Lib.hid (And.intro h3 (HT.out.2.1.next HT.out.2.2.2.1 hf p2))
        clear h3 p2 hf d0 d1
        go_wp2_with fail
        exact ⟨⟨k + 1, o2, by omega, by go_num, HP.out.1, HP.out.2⟩, by simp [intOf]; omega⟩
      · rw [show putE x.1 x.2 = 2 by rw [putE, if_neg (show ¬ (x.1.length ≤ 120 ∧ x.2.length ≤ 1200) from hf)]]
        have hb3 := h3.2.2.heap H1.out.2 id
        have HP := Lib.hid (And.intro h3.2.2 (And.intro hb3 hf))
        clear h3 p2 hf d0 d1 hb3
        have hz := zeros_cells
        have HZ := Lib.hid hz
        clear hz
        go_wp2_with (refine wpList_store_row rfl 29 _ _ rfl w.heap.size _ rfl rfl 29 _ HP.out.2.1 (by kernel_rfl) (by kernel_rfl) (by kernel_rfl) ?_)
        refine bodyPost_ret (results_cell_tmp rfl _ _ w.heap.size 29 _ (0, 0) _ rfl (setRow_heap _ _ _ _ _ _ HP.out.2.1) Try.underlying29 rfl (by kernel_rfl)) rfl ?_
        refine ⟨List.replicate 32 0, 2, ?_, .inl ⟨fun h => HP.out.2.2 (h _ (List.mem_of_getElem? HT.out.2.2.2.1)), rfl, rfl⟩, by simp, ?_⟩
        · rw [sumV_cells, HZ.out]
          rfl
        · exact (H1.out.1.trans HP.out.1).setRow (.inr (Nat.le_refl _)) _
    · have hkl : decide ((k : Int) < (l.length : Int)) = false := by simp; omega
      have hkk : k = l.length := by omega
      subst hkk
      have HT := Lib.hid (And.intro hT hP)
      clear hT hP
      generalize wr = w3 at *
      go_wp2_with fail
      go_loopw [30] (fun i W => ∃ k : Nat, k ≤ l.length ∧ i = .int .i64 k ∧ Ext (fun _ => False) w3 W ∧ ∀ i (h : i + 1 < l.length), i + 1 < k → l[i].1 < l[i + 1].1) (fun i _ => l.length - (intOf i).toNat)
      case atStart => exact ⟨0, Nat.zero_le _, rfl, Ext.refl _ _, fun i h hi => by omega⟩
      case round =>
        obtain ⟨k, hk, rfl, hx, hr⟩ := hrel
        by_cases hlt : k < l.length
        · obtain ⟨g, off, c', hav, hdb, ⟨⟨a, b, c0, c1, ha, hb⟩, la, lb⟩⟩ := HL.out.at hlt
          simp only [Value.slice.injEq, true_and] at hav
          obtain ⟨rfl, rfl⟩ := hav
          have hkl : decide ((k : Int) < (l.length : Int)) = true := by simp; omega
          have hy := (H1.out.1.trans HT.out.1.2.2).trans hx
          have d0' := cell_same c0 hy
          have d1' := cell_same c1 hy
          obtain ⟨A1, cc1, rfl, _, _⟩ := id ha
          obtain ⟨A2, cc2, rfl, _, _⟩ := id hb
          have hgl : g < wr.heap.size := World.block_lt_of_cell? _ _ d0'
          by_cases hk0 : k = 0
          · subst hk0
            have HX := Lib.hid (And.intro hx (And.intro hy hr))
            have z0 : wr.cell? ⟨g, off, none⟩ = some (.slice A1 (l[0].1).length cc1) := by simpa using d0'
            have z1 : wr.cell? ⟨g, off + 1, none⟩ = some (.slice A2 (l[0].2).length cc2) := by simpa using d1'
            clear hx hy hr c0 c1 ha hb d0' d1'
            go_wp2_with fail
            refine wp_region_bar (Cls [wr.heap.size, g] _) [] [0, 1, 2, 3, 4, 5, 6, 7, 8, 9, 10] 11 [] [12, 13] (by kernel_rfl) (by kernel_rfl) (Cls.refl _ _) ?_
            try dsimp only [wpMix, wpSegs, pick, List.getElem?_cons_zero, List.getElem?_cons_succ]
            generalize hz : Act.mk _ _ = z
            repeat (first | (refine wpQuiet_step (fun K hK => ?_); replace hK := Lib.hid hK; subst hz; go_simp; generalize hz : Act.mk _ _ = z; refine hK.out z ?_; clear hK K) | (refine wpQuiet_step (fun K hK => ?_); replace hK := Lib.hid hK; subst hz; refine iteSkip (by kernel_rfl) ?_; go_simp; generalize hz : Act.mk _ _ = z; refine hK.out z ?_; clear hK K))
            try refine wpQuiet_nil ?_
            subst hz
            try dsimp only [NoPan]
            go_wp2_with fail
            try dsimp only [wpMix, wpSegs, pick, List.getElem?_cons_zero, List.getElem?_cons_succ]
            generalize hz : Act.mk _ _ = z
            repeat (first | (refine wpQuiet_step (fun K hK => ?_); replace hK := Lib.hid hK; subst hz; go_simp; generalize hz : Act.mk _ _ = z; refine hK.out z ?_; clear hK K) | (refine wpQuiet_step (fun K hK => ?_); replace hK := Lib.hid hK; subst hz; refine iteSkip (by kernel_rfl) ?_; go_simp; generalize hz : Act.mk _ _ = z; refine hK.out z ?_; clear hK K))
            try refine wpQuiet_nil ?_
            subst hz
            try dsimp only [NoPan]
            go_wp2_with fail
            exact ⟨⟨1, by omega, by go_num, (HX.out.1.alloc _).drew, fun i h hi => by omega⟩, by simp [intOf]; omega⟩
          · have hk0p : decide (0 < (k : Int)) = true := by simp; omega
            have hk0q : decide (0 < k) = true := by simp; omega
            have hk0r : 0 < k := by omega
            obtain ⟨m, hm⟩ : ∃ m, m + 1 = k := ⟨k - 1, by omega⟩
            have hml : m < l.length := by omega
            obtain ⟨g', off', c'', hav', _, ⟨⟨a', b', e0, e1, ha', hb'⟩, la', lb'⟩⟩ := HL.out.at hml
            simp only [Value.slice.injEq, Option.some.injEq, Addr.mk.injEq, true_and, and_true] at hav'
            obtain ⟨⟨rfl, rfl⟩, rfl⟩ := hav'
            have f0' := cell_same e0 hy
            obtain ⟨A3, cc3, rfl, _, _⟩ := id ha'
            have hw1 : IntKind.i64.wrap ((k : Int) - 1) = (m : Int) := by rw [IntWalk.i64_in _ (by omega)]; omega
            have hgr : ∀ ob : Obj, Ext (fun _ => False) wr (wr.alloc ob).drew := fun ob => ((Ext.refl (fun _ => False) wr).alloc ob).drew
            have hrise : ∀ (hm1 : m + 1 < l.length), (l[m].1 < l[m + 1].1) ↔ l[m].1 < l[k].1 := fun hm1 => by subst hm; rfl
            have HX := Lib.hid (And.intro hx (And.intro hy (And.intro hr (And.intro hm hgr))))
            have HB := Lib.hid (And.intro ha ha')
            have HR := Lib.hid hrise
            clear hx hy hr c0 c1 ha hb e0 e1 ha' hb' hgr hm hrise
            generalize hKK : l[k] = xk at *
            generalize hMM : l[m] = xm at *
            have HKM := Lib.hid (And.intro hKK hMM)
            clear hKK hMM
            go_wp2_with fail
            refine wp_region_bar (Cls [wr.heap.size, g] _) [] [0, 1, 2, 3, 4, 5, 6, 7, 8, 9, 10] 11 [] [12, 13] (by kernel_rfl) (by kernel_rfl) (Cls.refl _ _) ?_
            try dsimp only [wpMix, wpSegs, pick, List.getElem?_cons_zero, List.getElem?_cons_succ]
            generalize hz : Act.mk _ _ = z
            repeat (first | (refine wpQuiet_step (fun K hK => ?_); replace hK := Lib.hid hK; subst hz; go_simp; generalize hz : Act.mk _ _ = z; refine hK.out z ?_; clear hK K) | (refine wpQuiet_step (fun K hK => ?_); replace hK := Lib.hid hK; subst hz; refine iteSkip (by kernel_rfl) ?_; go_simp; generalize hz : Act.mk _ _ = z; refine hK.out z ?_; clear hK K))
            try refine wpQuiet_nil ?_
            subst hz
            try dsimp only [NoPan]
            go_wp2_with fail
            refine (compare_walk ((HB.out.1.same HX.out.2.1).same (HX.out.2.2.2.2 _)) ((HB.out.2.same HX.out.2.1).same (HX.out.2.2.2.2 _))).mono ?_
            rintro e w5 ⟨rfl, hw5⟩
            have hb5 : Ext (fun _ => False) wr w5 := by rw [← hw5]; exact HX.out.2.2.2.2 _
            have H5 := Lib.hid hb5
            clear hw5 hb5
            by_cases hc : 0 < Lib.compareBytes xk.1 xm.1
            · have hcd : decide (Lib.compareBytes xk.1 xm.1 ≤ 0) = false := by simp; omega
              have HC := Lib.hid ((compare_pos _ _).1 hc)
              clear hc
              go_wp2_with fail
              try dsimp only [wpMix, wpSegs, pick, List.getElem?_cons_zero, List.getElem?_cons_succ]
              generalize hz : Act.mk _ _ = z
              repeat (first | (refine wpQuiet_step (fun K hK => ?_); replace hK := Lib.hid hK; subst hz; go_simp; generalize hz : Act.mk _ _ = z; refine hK.out z ?_; clear hK K) | (refine wpQuiet_step (fun K hK => ?_); replace hK := Lib.hid hK; subst hz; refine iteSkip (by kernel_rfl) ?_; go_simp; generalize hz : Act.mk _ _ = z; refine hK.out z ?_; clear hK K))
              try refine wpQuiet_nil ?_
              subst hz
              try dsimp only [NoPan]
              go_wp2_with fail
              refine ⟨⟨k + 1, by omega, by go_num, HX.out.1.trans H5.out, fun i h hi => ?_⟩, by simp [intOf]; omega⟩
              by_cases hik : i + 1 < k
              · exact HX.out.2.2.1 i h hik
              · have him : i = m := by have := HX.out.2.2.2.1; omega
                subst him
                rw [HKM.out.2]
                exact (HR.out h).2 HC.out
            · have hcd : decide (Lib.compareBytes xk.1 xm.1 ≤ 0) = true := by simp; omega
              have HC := Lib.hid (fun h => hc ((compare_pos xk.1 xm.1).2 h))
              have hbz := H5.out.heap ((HT.out.1.2.2.trans HX.out.1).heap H1.out.2 id) id
              have HZ := Lib.hid (And.intro hbz zeros_cells)
              clear hc hbz
              go_wp2_with fail
              try dsimp only [wpMix, wpSegs, pick, List.getElem?_cons_zero, List.getElem?_cons_succ]
              generalize hz : Act.mk _ _ = z
              repeat (first | (refine wpQuiet_step (fun K hK => ?_); replace hK := Lib.hid hK; subst hz; go_simp; generalize hz : Act.mk _ _ = z; refine hK.out z ?_; clear hK K) | (refine wpQuiet_step (fun K hK => ?_); replace hK := Lib.hid hK; subst hz; refine iteSkip (by kernel_rfl) ?_; go_simp; generalize hz : Act.mk _ _ = z; refine hK.out z ?_; clear hK K))
              try refine wpQuiet_nil ?_
              subst hz
              try dsimp only [NoPan]
              go_wp2_with (refine wpList_store_row rfl 29 _ _ rfl w.heap.size _ rfl rfl 29 _ HZ.out.1 (by kernel_rfl) (by kernel_rfl) (by kernel_rfl) ?_)
              refine bodyPost_ret (results_cell_tmp rfl _ _ w.heap.size 29 _ (0, 0) _ rfl (setRow_heap _ _ _ _ _ _ HZ.out.1) Try.underlying29 rfl (by kernel_rfl)) rfl ?_
              refine ⟨List.replicate 32 0, 1, ?_, .inr (.inl ⟨fun e he => ?_, fun hri => ?_, rfl, rfl⟩), by simp, ?_⟩
              · rw [sumV_cells, HZ.out.2]
                rfl
              · have := HT.out.2.fits e
                rw [List.take_length] at this
                exact this he
              · have hmk := HX.out.2.2.2.1
                have := hri m (by omega)
                rw [HKM.out.2] at this
                exact HC.out ((HR.out (by omega)).1 this)
              · exact (HX.out.2.1.trans H5.out).setRow (.inr (Nat.le_refl _)) _
        · have hkl : decide ((k : Int) < (l.length : Int)) = false := by simp; omega
          have hkk : k = l.length := by omega
          subst hkk
          have hTk := HT.out.1.still hx
          have HX := Lib.hid (And.intro hx (And.intro hr hTk))
          clear hx hr hTk
          go_wp2_with fail
          refine (tm_root HX.out.2.2).mono ?_
          rintro e w6 ⟨rfl, h6, x6⟩
          rw [sumV_A]
          have hb6 := x6.heap ((HT.out.1.2.2.trans HX.out.1).heap H1.out.2 id) id
          have H6 := Lib.hid (And.intro h6 hb6)
          clear h6 x6 hb6
          go_wp2_with (refine wpList_store_row rfl 29 _ _ rfl w.heap.size (sumA (rootS o)) rfl rfl 29 _ H6.out.2 (info_sum (rootS_len _)) (by rw [sumA_size (rootS_len _)]; rfl) (sumA_one _) ?_)
          refine bodyPost_ret (results_cell_tmp rfl _ _ w.heap.size 29 (sumA (rootS o)) (0, 0) _ rfl (setRow_heap _ _ _ _ _ _ H6.out.2) Try.underlying29 rfl (info_sum (rootS_len _))) rfl ?_
          have hfit : ∀ e ∈ l, FitE e := fun e he => by
            have := HT.out.2.fits e
            rw [List.take_length] at this
            exact this he
          have hri : Rising l := fun i h => HX.out.2.1 i h h
          refine ⟨rootS o, 0, by rw [sumV_A]; rfl, .inr (.inr ⟨hfit, hri, rfl, o, ?_, fun e => ?_, rfl⟩), rootS_len _, (H1.out.1.trans H6.out.1.2.2).setRow (.inr (Nat.le_refl _)) _⟩
          · obtain ⟨⟨D', hT, _⟩, _⟩ := HT.out.1
            exact hT.ok
          · have h1 := HT.out.2.sub e
            have h2 := HT.out.2.sup
            rw [List.take_length] at h1 h2
            exact ⟨h1, h2 (hri.pair.imp fun h => fun e => by rw [e] at h; exact List.lt_irrefl _ h) e⟩
end Go.Proofs.Ytoflfhjeabpcjaa
/- The document's Root, RootOf; no condition. -/
namespace Go.Proofs.Ytoflfhjeabpcjaa
set_option linter.unusedVariables false
set_option linter.unusedSimpArgs false
open Go.RowKit

theorem eq_of_sorted : ∀ {l m : List (Bs × Bs)}, l.Pairwise (fun e f => e.1 < f.1) → m.Pairwise (fun e f => e.1 < f.1) → (∀ e, e ∈ l ↔ e ∈ m) → l = m
  | [], [], _, _, _ => rfl
  | [], y :: m, _, _, h => absurd ((h y).2 (List.mem_cons_self ..)) (by simp)
  | x :: l, [], _, _, h => absurd ((h x).1 (List.mem_cons_self ..)) (by simp)
  | x :: l, y :: m, hl, hm, h => by
    obtain ⟨l1, l2⟩ := List.pairwise_cons.1 hl
    obtain ⟨m1, m2⟩ := List.pairwise_cons.1 hm
    have hxy : x = y := by
      rcases List.mem_cons.1 ((h x).1 (List.mem_cons_self ..)) with e | hx
      · exact e
      · rcases List.mem_cons.1 ((h y).2 (List.mem_cons_self ..)) with e | hy
        · exact e.symm
        · exact absurd (List.lt_trans (m1 x hx) (l1 y hy)) (List.lt_irrefl _)
    subst hxy
    rw [eq_of_sorted l2 m2 fun e => ?_]
    have he := h e
    simp only [List.mem_cons] at he
    constructor
    · intro hel
      rcases he.1 (.inr hel) with rfl | h'
      · exact absurd (l1 _ hel) (List.lt_irrefl _)
      · exact h'
    · intro hem
      rcases he.2 (.inr hem) with rfl | h'
      · exact absurd (m1 _ hem) (List.lt_irrefl _)
      · exact h'
theorem put_exists {o : Option Tr} (ho : Tr.okO o) {k v : Bs} (hk : k.length ≤ 120) (hv : v.length ≤ 1200) : ∃ t', PutOf k v o t' := by
  cases o with
  | none => exact ⟨.leaf k v, ⟨hk, hv⟩, fun e => by simp [Tr.ents, Tr.entsO], by simp [Tr.ents, Tr.entsO]⟩
  | some t =>
    by_cases hak : (t.last k).1 = k
    · obtain ⟨h1, h2⟩ := Tr.ins_none hk hv ho hak
      exact ⟨_, h1, h2, ins_len k v none t⟩
    · obtain ⟨i, h1, h2, _⟩ := first_apart hak
      obtain ⟨p1, p2⟩ := Tr.ins_some hk hv ho h2 h1
      refine ⟨_, p1, fun e => ?_, ins_len k v (some i) t⟩
      rw [p2 e]
      constructor
      · rintro (h | h)
        · exact .inl h
        · refine .inr ⟨h, fun he => hak ?_⟩
          have := Tr.last_of ho e h
          rw [he] at this
          rw [this]
          exact he
      · rintro (h | h)
        · exact .inl h
        · exact .inr h.1
theorem inv_exists {l : List (Bs × Bs)} (hf : ∀ e ∈ l, FitE e) : ∀ k, k ≤ l.length → ∃ o, Tr.okO o ∧ PutInv l k o
  | 0, _ => ⟨none, trivial, PutInv.zero l⟩
  | k + 1, hk => by
    obtain ⟨o, ho, hi⟩ := inv_exists hf k (by omega)
    have hx : l[k]? = some l[k] := List.getElem?_eq_getElem (by omega)
    have hfit := hf l[k] (List.getElem_mem _)
    obtain ⟨t', ht⟩ := put_exists ho hfit.1 hfit.2
    refine ⟨some t', ht.1, hi.next hx hfit ?_⟩
    unfold PutO
    rw [if_pos (show l[k].1.length ≤ 120 ∧ l[k].2.length ≤ 1200 from hfit)]
    exact ⟨t', rfl, ht⟩
theorem entsO_sorted {o : Option Tr} (ho : Tr.okO o) : (Tr.entsO o).Pairwise (fun e f => e.1 < f.1) := by
  cases o with
  | none => exact List.Pairwise.nil
  | some t => exact Tr.sorted ho
/-- A rising row of entries is a tree's. -/
theorem exists_tree {l : List (Bs × Bs)} (hf : ∀ e ∈ l, FitE e) (hr : Rising l) : ∃ o, Tr.okO o ∧ Tr.entsO o = l := by
  obtain ⟨o, ho, hi⟩ := inv_exists hf l.length (Nat.le_refl _)
  have h1 := hi.sub
  have h2 := hi.sup
  rw [List.take_length] at h1 h2
  refine ⟨o, ho, eq_of_sorted (entsO_sorted ho) hr.pair fun e => ⟨h1 e, h2 (hr.pair.imp fun h => fun e => by rw [e] at h; exact List.lt_irrefl _ h) e⟩⟩
theorem RootOfR.one {l : List (Bs × Bs)} {s s' : Bs} {e e' : Int} (h : RootOfR l s e) (h' : RootOfR l s' e') : s = s' ∧ e = e' := by
  rcases h with ⟨a1, a2, a3⟩ | ⟨a0, a1, a2, a3⟩ | ⟨a0, a1, a2, o, a3, a4, a5⟩ <;> rcases h' with ⟨b1, b2, b3⟩ | ⟨b0, b1, b2, b3⟩ | ⟨b0, b1, b2, o', b3, b4, b5⟩
  · exact ⟨by rw [a2, b2], by rw [a3, b3]⟩
  · exact absurd b0 a1
  · exact absurd b0 a1
  · exact absurd a0 b1
  · exact ⟨by rw [a2, b2], by rw [a3, b3]⟩
  · exact absurd b1 a1
  · exact absurd a0 b1
  · exact absurd a1 b1
  · refine ⟨?_, by rw [a2, b2]⟩
    rw [a5, b5, Tr.canonO a3 b3 fun e => by rw [a4, b4]]
theorem texts_any {o : Option Tr} (ho : Tr.okO o) {w : World} {lv : Value} (hL : Ents w lv (Tr.entsO o)) (hn : (Tr.entsO o).length ≤ 64) : Calls Try.prog 49 #[lv] w (TextsPost w (rootS o) 128) := by
  cases o with
  | none =>
    refine (dtexts_none hL).mono ?_
    rintro e w' ⟨v3, n, a1, a2, a3, a4, a5⟩
    exact ⟨v3, n, a1, a2, a3, by omega, a5⟩
  | some t =>
    refine (dtexts_walk t ho hL hn).mono ?_
    rintro e w' ⟨v3, n, a1, a2, a3, a4, a5⟩
    have hn' : t.ents.length ≤ 64 := hn
    exact ⟨v3, n, a1, a2, a3, by omega, a5⟩
set_option maxRecDepth 100000 in
set_option maxHeartbeats 2000000 in
theorem droot_walk {o : Option Tr} (ho : Tr.okO o) {w : World} {lv : Value} (hL : Ents w lv (Tr.entsO o)) (hn : (Tr.entsO o).length ≤ 64) : Calls Try.prog 29 #[lv] w fun e w' => e = .returned (.agg (sumA (rootS o))) ∧ Ext (fun _ => False) w w' := by
  have hs1 := heap_alloc_self w (.cells ((List.replicate 32 (0 : UInt8)).map byteV).toArray 29 (0, 0))
  have hx1 : Ext (fun _ => False) w (w.alloc (.cells ((List.replicate 32 (0 : UInt8)).map byteV).toArray 29 (0, 0))) := (Ext.refl _ _).alloc _
  have hE := hL.still hx1
  obtain ⟨A, cp, rfl, _, _⟩ := id hL
  have H1 := Lib.hid (And.intro hs1 (And.intro hx1 hE))
  clear hs1 hx1 hE hL
  go_enter Try.func29, Try.ntmps29
  go_wp2_with fail
  refine (texts_any ho H1.out.2.2 hn).mono ?_
  rintro e w3 ⟨v3, n3, rfl, o3, p3, q3, x3⟩
  obtain ⟨A3, c3, rfl⟩ := o3.form
  have s3 := x3.heap H1.out.1 id
  have y3 := H1.out.2.1.trans x3
  have hn3 := lt_of_heap s3
  have H3 := Lib.hid (And.intro s3 y3)
  clear s3 y3 x3 o3 H1
  have hW4 : ((w3.alloc (.cells ((List.replicate 32 (0 : UInt8)).map byteV).toArray 29 (0, 0))).setRow w3.heap.size (sumA (rootS o))).heap[w3.heap.size]? = some (.cells (sumA (rootS o)) 29 (0, 0)) := setRow_heap _ _ _ _ _ _ (heap_alloc_self _ _)
  have hR4 : ((w3.alloc (.cells ((List.replicate 32 (0 : UInt8)).map byteV).toArray 29 (0, 0))).setRow w3.heap.size (sumA (rootS o))).heap[w.heap.size]? = some (.cells ((List.replicate 32 (0 : UInt8)).map byteV).toArray 29 (0, 0)) := by
    rw [setRow_other _ _ _ _ (by omega)]
    exact ((Ext.refl (fun _ => False) w3).alloc _).heap H3.out.1 id
  have hx4 : Ext (fun _ => False) w ((w3.alloc (.cells ((List.replicate 32 (0 : UInt8)).map byteV).toArray 29 (0, 0))).setRow w3.heap.size (sumA (rootS o))) := (H3.out.2.alloc _).setRow (.inr (by omega)) _
  have H4 := Lib.hid (And.intro hW4 (And.intro hR4 hx4))
  clear hW4 hR4 hx4
  go_wp2_with (first
    | refine wpList_load_row rfl 29 (.tmp 3) rfl w3.heap.size rfl 29 (sumA (rootS o)) (0, 0) _ H4.out.1 Try.underlying29 rfl (info_sum (rootS_len _)) ?_
    | refine wpList_store_row rfl 29 (.tmp 2) _ rfl w.heap.size (sumA (rootS o)) rfl rfl 29 _ H4.out.2.1 (info_sum (rootS_len _)) (by rw [sumA_size (rootS_len _)]; rfl) (sumA_one _) ?_
    | refine wpList_store_row rfl 29 (.tmp 3) _ rfl w3.heap.size (sumA (rootS o)) rfl rfl 29 _ (heap_alloc_self _ _) (info_sum (rootS_len _)) (by rw [sumA_size (rootS_len _)]; rfl) (sumA_one _) ?_)
  refine bodyPost_ret (results_cell_row rfl _ _ w.heap.size 29 (sumA (rootS o)) (0, 0) _ rfl (setRow_heap _ _ _ _ _ _ H4.out.2.1) Try.underlying29 rfl (info_sum (rootS_len _))) rfl ?_
  exact ⟨rfl, H4.out.2.2.setRow (.inr (Nat.le_refl _)) _⟩
end Go.Proofs.Ytoflfhjeabpcjaa
/- What All hands back, read as a row of entries; the root of it; no condition. -/
namespace Go.Proofs.Ytoflfhjeabpcjaa
set_option linter.unusedVariables false
set_option linter.unusedSimpArgs false
open Go.RowKit

theorem OwnF.ents {N : Nat} {D : Nat → Prop} {w : World} {ov : Value} {vs : List (Value × Value)} {l : List (Bs × Bs)} (h : OwnF N D w ov vs l) (hl : ∀ e ∈ l, e.1.length ≤ 120 ∧ e.2.length ≤ 1200) : Ents w ov l := by
  rcases h.row.2 with ⟨rfl, h0⟩ | ⟨g, cap, cur, rfl, hg, hh, h1, _, hsz, htk⟩
  · have : l = [] := List.eq_nil_of_length_eq_zero h0
    subst this
    exact ⟨none, 0, rfl, Nat.le_refl _, fun h => absurd rfl h⟩
  · refine ⟨_, cap, rfl, h1, fun _ => ⟨g, 0, rfl, lt_of_heap hh, fun i e hi => ?_⟩⟩
    have hlt := (List.getElem?_eq_some_iff.1 hi).1
    have hvl := h.len
    have hvi : vs[i]? = some vs[i] := List.getElem?_eq_getElem (by omega)
    obtain ⟨b1, b2⟩ := h.ent i _ e hvi hi
    obtain ⟨l1, l2⟩ := hl e (List.mem_of_getElem? hi)
    have hat : ∀ j, j < 2 → w.cell? ⟨g, 2 * i + j, none⟩ = [vs[i].1, vs[i].2][j]? := by
      intro j hj
      rw [cells_at hh, ← flatMap_at (f := fun p : Value × Value => [p.1, p.2]) (m := 2) (fun _ => rfl) vs i j _ hj hvi, ← htk, List.getElem?_take_of_lt (by omega)]
      simp
    refine ⟨⟨_, _, ?_, ?_, b1.byt.mono fun k hk => b1.lt k hk, b2.byt.mono fun k hk => b2.lt k hk⟩, by omega, by omega⟩
    · have := hat 0 (by decide)
      rw [Nat.zero_add, Nat.mul_comm]
      exact this
    · have := hat 1 (by decide)
      rw [Nat.zero_add, Nat.mul_comm]
      exact this
theorem TM.fit {w0 w : World} {c : Nat} {o : Option Tr} (h : TM w0 w c o) : ∀ e ∈ Tr.entsO o, e.1.length ≤ 120 ∧ e.2.length ≤ 1200 := by
  obtain ⟨⟨D, h1, _⟩, _⟩ := h
  exact h1.ents
theorem TM.okO {w0 w : World} {c : Nat} {o : Option Tr} (h : TM w0 w c o) : Tr.okO o := by
  obtain ⟨⟨D, h1, _⟩, _⟩ := h
  exact h1.ok
theorem tm_all {w0 w : World} {c : Nat} {o : Option Tr} (h : TM w0 w c o) (hn : (Tr.entsO o).length ≤ 1048576) :
    Calls Try.prog 30 #[ptrV c] w fun e w' => ∃ ov vs D', e = .returned ov ∧ OwnF w.heap.size D' w' ov vs (Tr.entsO o) ∧ (∀ b, D' b → w.heap.size ≤ b) ∧ TM w0 w' c o ∧ Ext (fun _ => False) w w' := by
  obtain ⟨⟨D, h1, h2⟩, h3, h4⟩ := id h
  refine (all_walk h1 hn).mono ?_
  rintro e w' ⟨ov, vs, D', rfl, a1, a2, a3⟩
  exact ⟨ov, vs, D', rfl, a1, a2, h.still a3, a3⟩
theorem rising_of_pair : ∀ {l : List (Bs × Bs)}, l.Pairwise (fun e f => e.1 < f.1) → Rising l := by
  intro l h i hi
  exact List.pairwise_iff_getElem.1 h i (i + 1) (by omega) hi (by omega)
theorem rootOfR_of {o : Option Tr} {s : Bs} {err : Int} (ho : Tr.okO o) (hf : ∀ e ∈ Tr.entsO o, FitE e) (h : RootOfR (Tr.entsO o) s err) : err = 0 ∧ s = rootS o := by
  rcases h with ⟨h, _⟩ | ⟨_, h, _⟩ | ⟨_, _, h1, o', h2, h3, h4⟩
  · exact absurd hf h
  · exact absurd (rising_of_pair (entsO_sorted ho)) h
  · refine ⟨h1, ?_⟩
    rw [h4, Tr.canonO h2 ho h3]
/-- All put, in whatever order. -/
theorem PutInv.all {l m : List (Bs × Bs)} {o o' : Option Tr} (h : PutInv m m.length o') (hm : ∀ e, e ∈ m ↔ e ∈ l) (hd : m.Pairwise (fun e f => e.1 ≠ f.1)) (ho : Tr.okO o) (ho' : Tr.okO o') (hl : l = Tr.entsO o) : o' = o := by
  refine Tr.canonO ho' ho fun e => ?_
  rw [← hl, ← hm]
  refine ⟨fun he => ?_, fun he => h.sup (by rw [List.take_length]; exact hd) e (by rw [List.take_length]; exact he)⟩
  have := h.sub e he
  rwa [List.take_length] at this
theorem wpList_load_rowg {P : Program} {ops : Array Oper} {rest : List Oper} {o : Oper} {a : Act} {w : World} {Q : Exit → Act → World → Prop} (ty : TypeId) (x : Operand) (ho : o.op = .load ty x) (hw : Region.wanted o (yielded ops a.tmps) = true)
    (g : Nat) (hx : a.eval x = .pointer (some ⟨g, 0, none⟩)) (t : TypeId) (cs : Array Value) (fr : Nat × Nat) (d : TypeDesc) (hg : w.heap[g]? = some (.cells cs t fr))
    (hu : P.underlying ty = some d) (hd : (match d with | .struct _ | .array _ _ => true | _ => false) = true) (hi : (P.info? ty).map (·.size) = some cs.size)
    (h : wpList P ops Q rest (a.put o.dst (.agg cs)) w) : wpList P ops Q (o :: rest) a w := by
  simp only [wpList, hw, if_true]
  exact .inl (wp_load_row ty x ho g hx t cs fr d hg hu hd hi h)
theorem wpQuiet_load_rowq {P : Program} {ops : Array Oper} {rest : List Oper} {o : Oper} {a : Act} {C : World → Prop} {Q : Act → Prop} (ty : TypeId) (x : Operand) (ho : o.op = .load ty x) (hw : Region.wanted o (yielded ops a.tmps) = true) (g : Nat) (hx : a.eval x = .pointer (some ⟨g, 0, none⟩)) (t : TypeId) (cs : Array Value) (fr : Nat × Nat) (d : TypeDesc)
    (hC : ∀ w, C w → w.heap[g]? = some (.cells cs t fr)) (hu : P.underlying ty = some d) (hd : (match d with | .struct _ | .array _ _ => true | _ => false) = true) (hi : (P.info? ty).map (·.size) = some cs.size)
    (h : wpQuiet P ops C Q rest (a.put o.dst (.agg cs))) : wpQuiet P ops C Q (o :: rest) a := by
  simp only [wpQuiet, hw, if_true]
  refine ⟨.agg cs, fun w hw => ?_, h⟩
  unfold Oper.quietAt execOp
  simp only [ho, hx, Instr.loadAt, Instr.sureAddr, Sem.run_bind, Sem.run_pure, Result.andThen_ok, run_loadVar_row w g t ty cs fr d (hC w hw) hu hd hi]
  exact ⟨rfl, rfl⟩
theorem cls_heapq {D : List Nat} {w0 : World} {b : Nat} {ob : Obj} (hb : b ∈ D) (h : w0.heap[b]? = some ob) : ∀ w, Cls D w0 w → w.heap[b]? = some ob := by
  rintro w ⟨u, rfl⟩
  rw [u.obj b hb]
  exact h
end Go.Proofs.Ytoflfhjeabpcjaa
