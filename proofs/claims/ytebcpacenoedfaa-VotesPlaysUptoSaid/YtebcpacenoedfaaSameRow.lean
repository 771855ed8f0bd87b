/- Are two rows of bytes the same; no condition. -/
import Derived.Test.YtebcpacenoedfaaPlain2
namespace Go.Proofs.Ytebcpacenoedfaa
set_option linter.unusedVariables false
set_option linter.unusedSimpArgs false
open Go.RowKit

theorem str_beq (a b : Bs) : ((⟨a.toArray⟩ : ByteArray).toList == (⟨b.toArray⟩ : ByteArray).toList) = decide (a = b) := by
  rw [ByteArray.toList_eq, ByteArray.toList_eq, Bool.eq_iff_iff]
  simp
theorem str_bne (a b : Bs) : ((⟨a.toArray⟩ : ByteArray).toList != (⟨b.toArray⟩ : ByteArray).toList) = !decide (a = b) := by
  rw [bne, str_beq]
/-- Where a conversion of bytes looks. -/
theorem conv_at {P : Program} {D : Nat → Prop} {w : World} {v : Value} {l : Bs} (h : Byt D w v l) {a : Nat} (ha : a < w.heap.size) (src e dst : TypeId) (hs : P.underlying src = some (.slice e)) (he : P.underlying e = some (.int .u8))
    (hd : P.underlying dst = some .string) : ∃ bb, bb < w.heap.size ∧ (bb = a ∨ D bb) ∧ ∀ W : World, W.heap[bb]? = w.heap[bb]? → (convert src dst v).run P W = .ok (str l) W := by
  by_cases hl : l = []
  · subst hl
    refine ⟨a, ha, .inl rfl, fun W _ => ?_⟩
    obtain ⟨A, c, rfl, hc, h⟩ := h
    exact run_convert_byt (D := D) (w := W) ⟨A, c, rfl, hc, fun hne => absurd rfl hne⟩ src e dst hs he hd
  · have hcv := h.conv src e dst hs he hd
    obtain ⟨A, c, rfl, hc, h⟩ := h
    obtain ⟨ad, rfl, hd, hcell⟩ := h hl
    refine ⟨ad.block, ?_, .inr hd, hcv⟩
    have := World.block_lt_of_cell? _ _ (hcell 0 _ (List.getElem?_eq_getElem (List.length_pos_iff.2 hl)))
    rwa [block_add] at this
/-- Are two rows of bytes the same? -/
theorem same_walk {w : World} {D : Nat → Prop} {v v' : Value} {ls ms : List Bs} (h : Byts D w v ls) (h' : Byts D w v' ms) (hl : ls.length ≤ 9223372036854775807) (hm : ms.length ≤ 9223372036854775807) :
    Calls Try.prog 17 #[v, v'] w fun e w' => e = .returned (.bool (decide (ls = ms))) ∧ Ext (fun _ => False) w w' := by
  obtain ⟨A, c, rfl, _⟩ := id h
  obtain ⟨A', c', rfl, _⟩ := id h'
  by_cases hlen : ls.length = ms.length
  · have hn : (((ls.length : Int)) != (ms.length : Int)) = false := by simp; omega
    have hn2 : (ls.length != ms.length) = false := by simp [hlen]
    have Hlen := Lib.hid hlen
    rw [← hlen]
    clear hn hn2 hlen
    go_enter Try.func17, Try.ntmps17
    go_wp2_with fail
    go_loopw [5] (fun i W => ∃ k : Nat, k ≤ ls.length ∧ i = .int .i64 k ∧ Ext (fun _ => False) w W ∧ ls.take k = ms.take k) (fun i _ => ls.length - (intOf i).toNat)
    case atStart => exact ⟨0, by omega, rfl, Ext.refl _ _, rfl⟩
    case round =>
      obtain ⟨k, hk, rfl, hx, htk⟩ := hrel
      by_cases hlt : k < ls.length
      · have hlt' : (k : Int) < (ls.length : Int) := by omega
        obtain ⟨g1, o1, c1, hA1, _, u1, hcell1, hu1⟩ := h.at hlt
        obtain ⟨g2, o2, c2, hA2, _, u2, hcell2, hu2⟩ := h'.at (show k < ms.length by rw [← Hlen.out]; exact hlt)
        obtain ⟨rfl, rfl⟩ : A = some ⟨g1, o1, none⟩ ∧ c = c1 := by simpa using hA1
        obtain ⟨rfl, rfl⟩ : A' = some ⟨g2, o2, none⟩ ∧ c' = c2 := by simpa using hA2
        clear hA1 hA2
        rw [Nat.mul_one] at hcell1 hcell2
        replace hcell1 := cell_same hcell1 hx
        replace hcell2 := cell_same hcell2 hx
        replace hu1 := hu1.same hx
        replace hu2 := hu2.same hx
        have hg1 := World.block_lt_of_cell? _ _ hcell1
        have ht1 : ls.take (k + 1) = ls.take k ++ [ls[k]] := List.take_succ_eq_append_getElem hlt
        have hm2 : k < ms.length := by rw [← Hlen.out]; exact hlt
        have ht2 : ms.take (k + 1) = ms.take k ++ [ms[k]] := List.take_succ_eq_append_getElem hm2
        have hne : ls[k] ≠ ms[k] → ls ≠ ms := fun hd e => hd (by subst e; rfl)
        generalize ls[k] = x1 at *
        generalize ms[k] = x2 at *
        obtain ⟨b1, _, _, hcv1⟩ := conv_at hu1 hg1 36 5 9 Try.underlying36 Try.underlying5 Try.underlying9
        obtain ⟨b2, _, _, hcv2⟩ := conv_at hu2 hg1 36 5 9 Try.underlying36 Try.underlying5 Try.underlying9
        have Hx := Lib.hid (And.intro hx (And.intro htk (And.intro ht1 (And.intro ht2 hne))))
        clear hx htk ht1 ht2 hne hu1 hu2 h h'
        by_cases hxx : x1 = x2
        · have hs : (x1 == x2) = true := by simpa using hxx
          have hs2 : (!x1 == x2) = false := by rw [hs]; rfl
          have Hxx := Lib.hid hxx
          clear hxx
          go_wp2_with fail
          refine wp_region_mix (Cls [g1, g2, b1, b2] _) [] [0, 1, 2, 3, 4, 5, 6, 7, 8, 9, 10] (by kernel_rfl) (by kernel_rfl) (Cls.refl _ _) ?_
          try dsimp only [wpMix, wpSegs, pick, List.getElem?_cons_zero, List.getElem?_cons_succ]
          generalize hz : Act.mk _ _ = z
          repeat (first | (refine wpQuiet_step (fun K hK => ?_); replace hK := Lib.hid hK; subst hz; go_simp; generalize hz : Act.mk _ _ = z; refine hK.out z ?_; clear hK K) | (refine wpQuiet_step (fun K hK => ?_); replace hK := Lib.hid hK; subst hz; refine iteSkip (by kernel_rfl) ?_; go_simp; generalize hz : Act.mk _ _ = z; refine hK.out z ?_; clear hK K))
          refine wpQuiet_nil ?_
          subst hz
          try dsimp only [NoPan]
          go_wp2_with fail
          refine ⟨⟨k + 1, by omega, by go_num, Hx.out.1.drew, ?_⟩, by simp [intOf]; omega⟩
          rw [Hx.out.2.2.1, Hx.out.2.2.2.1, Hx.out.2.1, Hxx.out]
        · have hs : (x1 == x2) = false := by simpa using hxx
          have hs2 : (!x1 == x2) = true := by rw [hs]; rfl
          have Hxx := Lib.hid hxx
          clear hxx
          go_wp2_with fail
          refine wp_region_mix (Cls [g1, g2, b1, b2] _) [] [0, 1, 2, 3, 4, 5, 6, 7, 8, 9, 10] (by kernel_rfl) (by kernel_rfl) (Cls.refl _ _) ?_
          try dsimp only [wpMix, wpSegs, pick, List.getElem?_cons_zero, List.getElem?_cons_succ]
          generalize hz : Act.mk _ _ = z
          repeat (first | (refine wpQuiet_step (fun K hK => ?_); replace hK := Lib.hid hK; subst hz; go_simp; generalize hz : Act.mk _ _ = z; refine hK.out z ?_; clear hK K) | (refine wpQuiet_step (fun K hK => ?_); replace hK := Lib.hid hK; subst hz; refine iteSkip (by kernel_rfl) ?_; go_simp; generalize hz : Act.mk _ _ = z; refine hK.out z ?_; clear hK K))
          refine wpQuiet_nil ?_
          subst hz
          try dsimp only [NoPan]
          go_wp2_with fail
          go_ret
          refine ⟨?_, Hx.out.1.drew⟩
          rw [decide_eq_false (Hx.out.2.2.2.2 Hxx.out)]
          rfl
      · have hke : k = ls.length := by omega
        subst hke
        have hlt' : ¬ (ls.length : Int) < (ls.length : Int) := by omega
        have he : ls = ms := by
          rw [List.take_of_length_le (Nat.le_refl _), Hlen.out, List.take_of_length_le (Nat.le_refl _)] at htk
          exact htk
        have Hx := Lib.hid (And.intro hx he)
        clear hx he htk h h'
        go_wp2_with fail
        go_ret
        exact ⟨by rw [decide_eq_true Hx.out.2]; rfl, Hx.out.1⟩
  · have hn : (((ls.length : Int)) != (ms.length : Int)) = true := by simp; omega
    have hn2 : (ls.length != ms.length) = true := by simp [hlen]
    have hn3 : (ls.length == ms.length) = false := by simp [hlen]
    have hd : decide (ls = ms) = false := decide_eq_false fun e => hlen (by rw [e])
    rw [hd]
    clear hd h h'
    go_enter Try.func17, Try.ntmps17
    go_wp2_with fail
    go_ret
    exact ⟨rfl, Ext.refl _ _⟩
end Go.Proofs.Ytebcpacenoedfaa
