/- DigestParts answers true; no condition. -/
import Derived.Test.YthjmbpgakpnnoaaRowsLaw
import Derived.Test.YthjmbpgakpnnoaaDigRaws
namespace Go.Proofs.Ythjmbpgakpnnoaa
set_option linter.unusedVariables false
set_option linter.unusedSimpArgs false
open Go.RowKit

set_option maxRecDepth 100000 in
set_option maxHeartbeats 2000000 in
theorem parts_walk {w : World} {D : Nat → Prop} {v : Value} {nm : Bs} {ls : List Bs} (hnm : nm.length ≤ 9223372036854775807) (hv : Byts D w v ls) (hl : ls.length ≤ 5864062014634) :
    Calls Try.prog 6 #[str nm, v] w fun e w' => e = .returned (.bool true) ∧ Ext (fun _ => False) w w' := by
  obtain ⟨A, c, rfl, _⟩ := id hv
  have Hv := Lib.hid hv
  clear hv
  by_cases hbig : 20 < ls.length
  · have hcm : decide ((20 : Int) < (ls.length : Int)) = true := by simp; omega
    have hcm' : (20 : Int) < (ls.length : Int) := by omega
    go_enter Try.func6, Try.ntmps6
    go_wp2_with fail
    refine (small_walk _).mono ?_
    rintro e w1 ⟨rfl, hx1⟩
    have H1 := Lib.hid hx1
    clear hx1
    go_wp2_with fail
    go_ret
    exact ⟨rfl, H1.out⟩
  · have hcm : decide ((20 : Int) < (ls.length : Int)) = false := by simp; omega
    have hcm' : ¬ (20 : Int) < (ls.length : Int) := by omega
    go_enter Try.func6, Try.ntmps6
    go_wp2_with fail
    refine (small_walk _).mono ?_
    rintro e w1 ⟨rfl, hx1⟩
    have H1 := Lib.hid hx1
    clear hx1
    go_wp2_with fail
    go_loopw [6] (fun i W => ∃ k : Nat, k ≤ ls.length ∧ i = .int .i64 k ∧ Ext (fun _ => False) w W ∧ ∀ l ∈ ls.take k, l.length ≤ 4096) (fun i _ => ls.length - (intOf i).toNat)
    case atStart => exact ⟨0, by omega, rfl, H1.out, fun l h => by simp at h⟩
    case round =>
      obtain ⟨k, hk, rfl, hx, hall⟩ := hrel
      by_cases hlt : k < ls.length
      · have hlt' : (k : Int) < (ls.length : Int) := by omega
        obtain ⟨g1, o1, c1, hA1, _, u1, hcell1, hu1⟩ := Hv.out.at hlt
        obtain ⟨rfl, rfl⟩ : A = some ⟨g1, o1, none⟩ ∧ c = c1 := by simpa using hA1
        rw [Nat.mul_one] at hcell1
        replace hcell1 := cell_same hcell1 hx
        obtain ⟨B, d, rfl, _⟩ := id hu1
        have ht1 : ls.take (k + 1) = ls.take k ++ [ls[k]] := List.take_succ_eq_append_getElem hlt
        generalize ls[k] = x at *
        have Hx := Lib.hid (And.intro hx (And.intro hall ht1))
        clear hx hall ht1 hu1 hA1
        by_cases h4 : 4096 < x.length
        · have n4 : (4096 : Int) < (x.length : Int) := by omega
          have n4' : decide ((4096 : Int) < (x.length : Int)) = true := by simp; omega
          go_wp2_with fail
          go_ret
          exact ⟨rfl, Hx.out.1⟩
        · have n4 : ¬ (4096 : Int) < (x.length : Int) := by omega
          have n4' : decide ((4096 : Int) < (x.length : Int)) = false := by simp; omega
          go_wp2_with fail
          refine ⟨⟨k + 1, by omega, by go_num, Hx.out.1, fun l hl => ?_⟩, by simp [intOf]; omega⟩
          rw [Hx.out.2.2] at hl
          rcases List.mem_append.1 hl with hl | hl
          · exact Hx.out.2.1 l hl
          · simp at hl; subst hl; omega
      · have hke : k = ls.length := by omega
        subst hke
        have hlt' : ¬ (ls.length : Int) < (ls.length : Int) := by omega
        rw [List.take_of_length_le (Nat.le_refl _)] at hall
        have hT := text_walk (nm := nm) (Hv.out.same hx) hl hnm
        have hO := fun W (hx2 : Ext (fun _ => False) w W) => of_walk (nm := nm) (Hv.out.same hx2) hl hnm
        unfold TextPost at hT
        have hlen := textR_len nm ls
        by_cases hn : 16 < nm.length
        · have hr : textR nm ls = ([], 2) := if_pos hn
          have ho : ofR nm ls = (List.replicate 32 0, 2) := by rw [ofR, hr]; rfl
          rw [hr] at hT
          rw [ho] at hO
          have n6 : (16 : Int) < (nm.length : Int) := by omega
          have n6' : decide ((16 : Int) < (nm.length : Int)) = true := by simp; omega
          have Hx := Lib.hid (And.intro hx (And.intro hT hO))
          clear hx hall hT hO hr ho hn
          go_wp2_with fail
          refine Hx.out.2.1.mono ?_
          rintro e w2 ⟨v2, rfl, h2⟩
          have H2 := Lib.hid (Hx.out.1.trans h2.ext)
          clear h2
          dsimp only
          go_wp2_with fail
          refine (Hx.out.2.2 _ H2.out).mono ?_
          rintro e w3 ⟨rfl, hx3⟩
          have H3 := Lib.hid (H2.out.trans hx3)
          have hself := heap_alloc_self w3
          have Hs := Lib.hid hself
          clear hx3 hself
          dsimp only
          rw [sumV_cells, zeros_cells]
          go_wp2_with (refine wpList_store_row rfl 26 _ _ rfl w3.heap.size _ rfl rfl 26 _ (Hs.out _) (by kernel_rfl) (by kernel_rfl) (by kernel_rfl) ?_)
          go_ret
          exact ⟨rfl, (H3.out.alloc _).setRow (.inr H3.out.size) _⟩
        · have h0 : (textR nm ls).2 = 0 := textR_short (by omega) (by omega) hall
          have ho : ofR nm ls = (rawB (textR nm ls).1, 0) := by rw [ofR, if_pos h0]
          rw [ho] at hO
          rw [h0] at hT
          have Hx := Lib.hid (And.intro hx (And.intro hT (And.intro hO hlen)))
          clear hx hall hT hO ho hn h0 hlen
          generalize (textR nm ls).1 = x at *
          go_wp2_with fail
          refine Hx.out.2.1.mono ?_
          rintro e w2 ⟨v2, rfl, h2⟩
          have H2 := Lib.hid (And.intro h2 (Hx.out.1.trans h2.ext))
          clear h2
          go_wp2_with fail
          refine (Hx.out.2.2.1 _ H2.out.2).mono ?_
          rintro e w3 ⟨rfl, hx3⟩
          have H3 := Lib.hid (And.intro (H2.out.1.step hx3) (H2.out.2.trans hx3))
          have hself := heap_alloc_self w3
          have Hs := Lib.hid hself
          clear hx3 hself
          dsimp only
          have heq := run_eql_sum (rawB x) (rawB x) (rawB_len _) (rawB_len _)
          have hR := fun W (hx : Ext (fun _ => False) w3 W) => raw_walk (H3.out.1.byt.same hx) (by have := Hx.out.2.2.2; omega)
          simp only [sumV_cells, decide_true] at heq hR ⊢
          have hcz := sum_size (rawB x) (rawB_len _)
          have hco := sum_one (rawB x)
          generalize ((rawB x).map byteV).toArray = cs at *
          have Hc := Lib.hid (And.intro hcz (And.intro hco hR))
          clear hcz hco hR
          go_wp2_with (refine wpList_store_row rfl 26 _ _ rfl w3.heap.size cs rfl rfl 26 _ (Hs.out _) (by rw [Hc.out.1]; kernel_rfl) (by rw [Hc.out.1]; rfl) Hc.out.2.1 ?_)
          generalize hw4 : (w3.alloc _).setRow _ cs = w4
          have h4 : w4.heap[w3.heap.size]? = some (.cells cs 26 (0, 0)) := by rw [← hw4]; exact setRow_heap _ _ _ _ _ _ (Hs.out _)
          have hx4 : Ext (fun _ => False) w3 w4 := by rw [← hw4]; exact ((Ext.refl _ _).alloc _).setRow (.inr (Nat.le_refl _)) _
          have H4 := Lib.hid (And.intro h4 hx4)
          have hl4 := lt_of_heap h4
          have hrow : ∀ W, Cls [w3.heap.size] w4.drew W → W.heap[w3.heap.size]? = some (.cells cs 26 (0, 0)) := cls_heap (by simp) h4
          have Hrow := Lib.hid hrow
          clear h4 hx4 hw4 Hs hrow
          refine wp_region_mix (Cls [w3.heap.size] _) [([0, 1, 2, 3, 4, 5, 6, 7], 8)] [9, 10, 11] (by kernel_rfl) (by kernel_rfl) (Cls.refl _ _) ?_
          try dsimp only [wpMix, wpSegs, pick, List.getElem?_cons_zero, List.getElem?_cons_succ]
          generalize hz : Act.mk _ _ = z
          repeat (first | (subst hz; (refine wpQuiet_load_row 26 _ rfl (by kernel_rfl) w3.heap.size rfl 26 cs (0, 0) _ Hrow.out Try.underlying26 rfl (by rw [Hc.out.1]; kernel_rfl) ?_); generalize hz : Act.put _ _ _ = z) | (refine wpQuiet_step (fun K hK => ?_); replace hK := Lib.hid hK; subst hz; go_simp; generalize hz : Act.mk _ _ = z; refine hK.out z ?_; clear hK K) | (refine wpQuiet_step (fun K hK => ?_); replace hK := Lib.hid hK; subst hz; refine iteSkip (by kernel_rfl) ?_; go_simp; generalize hz : Act.mk _ _ = z; refine hK.out z ?_; clear hK K))
          refine wpQuiet_nil ?_
          subst hz
          try dsimp only [NoPan]
          go_wp2_with fail
          refine (Hc.out.2.2 _ (H4.out.2.drew)).mono ?_
          rintro e w5 ⟨rfl, hx5⟩
          have H5 := Lib.hid hx5
          clear hx5
          go_wp2_with fail
          refine ⟨Cls.of_ext H5.out fun b hb => ⟨by simp only [List.mem_singleton] at hb; subst hb; exact hl4, id⟩, ?_⟩
          try dsimp only [wpMix, wpSegs, pick, List.getElem?_cons_zero, List.getElem?_cons_succ]
          generalize hz : Act.mk _ _ = z
          repeat (first | (refine wpQuiet_step (fun K hK => ?_); replace hK := Lib.hid hK; subst hz; go_simp; generalize hz : Act.mk _ _ = z; refine hK.out z ?_; clear hK K) | (refine wpQuiet_step (fun K hK => ?_); replace hK := Lib.hid hK; subst hz; refine iteSkip (by kernel_rfl) ?_; go_simp; generalize hz : Act.mk _ _ = z; refine hK.out z ?_; clear hK K))
          refine wpQuiet_nil ?_
          subst hz
          try dsimp only [NoPan]
          go_wp2_with fail
          go_ret
          exact ⟨rfl, (H3.out.2.trans H4.out.2.drew).trans H5.out⟩
end Go.Proofs.Ythjmbpgakpnnoaa
