/- Words for the statements on a registry that was filled by acts; no condition. -/
import Derived.Test.YtlnfcliojefbfaaReg4
import Derived.Test.YtlnfcliojefbfaaRegArgs
import Derived.Deep.DeepCutAuto
import Derived.Deep.CutBlock
namespace Go.Proofs.Ytlnfcliojefbfaa
set_option linter.unusedVariables false
set_option linter.unusedSimpArgs false
open Go.RowKit

/-- What signing leaves: signers 1 to 64, texts not too long, each pair once. -/
def Good (L : List (Int × Bs)) : Prop := L.Nodup ∧ ∀ p ∈ L, 1 ≤ p.1 ∧ p.1 ≤ 64 ∧ p.2.length ≤ 65536
theorem Good.nil : Good [] := ⟨List.nodup_nil, by simp⟩
theorem Good.sign {L : List (Int × Bs)} (h : Good L) (who : Int) (t : Bs) : Good (signL who t L) := by
  unfold signL
  split
  · rename_i hs
    unfold addL
    split
    · exact h
    · rename_i hn
      refine ⟨List.nodup_append.2 ⟨h.1, by simp, fun x hx y hy e => hn (by simp at hy; rw [← hy, ← e]; exact hx)⟩, fun p hp => ?_⟩
      rcases List.mem_append.1 hp with hp | hp
      · exact h.2 p hp
      · simp at hp
        subst hp
        unfold signE at hs
        split at hs
        · cases hs
        · split at hs
          · cases hs
          · show 1 ≤ who ∧ who ≤ 64 ∧ t.length ≤ 65536
            omega
  · exact h
theorem Good.by_len {L : List (Int × Bs)} (h : Good L) (who : Int) : ∀ s ∈ byL who L, s.length < 9223372036854775808 := by
  intro s hs
  simp only [byL, List.mem_map, List.mem_filter] at hs
  obtain ⟨p, ⟨hp, _⟩, rfl⟩ := hs
  have := h.2 p hp
  omega
theorem mem_byL (who : Int) (s : Bs) (L : List (Int × Bs)) : s ∈ byL who L ↔ (who, s) ∈ L := by
  simp only [byL, List.mem_map, List.mem_filter, beq_iff_eq]
  constructor
  · rintro ⟨p, ⟨hp, rfl⟩, rfl⟩
    exact hp
  · intro h
    exact ⟨_, ⟨h, rfl⟩, rfl⟩
theorem byL_nodup {L : List (Int × Bs)} (h : L.Nodup) (who : Int) : (byL who L).Nodup := by
  unfold byL
  refine (List.pairwise_map.2 ?_)
  refine List.Pairwise.imp_of_mem (R := (· ≠ ·)) ?_ (h.filter _)
  intro p q hp hq hne e
  simp only [List.mem_filter, beq_iff_eq] at hp hq
  exact hne (Prod.ext (hp.2.trans hq.2.symm) e)
theorem byL_le (who : Int) (L : List (Int × Bs)) : (byL who L).length ≤ L.length := by simp [byL]; exact List.length_filter_le _ _

/-- How many pairs of signers below k there are. -/
def below (k : Nat) (L : List (Int × Bs)) : Nat := (L.filter fun p => decide (p.1 < (k : Int))).length
theorem below_zero {L : List (Int × Bs)} (h : Good L) : below 0 L = 0 := by
  unfold below
  rw [List.filter_eq_nil_iff.2]
  · rfl
  · intro p hp
    have := h.2 p hp
    simp
    omega
theorem below_succ (k : Nat) (L : List (Int × Bs)) : below (k + 1) L = below k L + (byL (k : Int) L).length := by
  unfold below byL
  rw [List.length_map]
  induction L with
  | nil => rfl
  | cons p L ih =>
    simp only [List.filter_cons]
    by_cases h1 : p.1 < (k : Int)
    · have h2 : p.1 < ((k + 1 : Nat) : Int) := by omega
      have h3 : (p.1 == (k : Int)) = false := by simp; omega
      have e1 : decide (p.1 < (k : Int)) = true := by simpa using h1
      have e2 : decide (p.1 < ((k + 1 : Nat) : Int)) = true := by rw [decide_eq_true_iff]; exact h2
      rw [e1, e2, h3]
      simp only [List.length_cons, ih, Bool.false_eq_true, if_false, if_true]
      omega
    · by_cases h2 : p.1 = (k : Int)
      · have h3 : p.1 < ((k + 1 : Nat) : Int) := by omega
        have h4 : (p.1 == (k : Int)) = true := by simp [h2]
        have e1 : decide (p.1 < (k : Int)) = false := by simpa using h1
        have e2 : decide (p.1 < ((k + 1 : Nat) : Int)) = true := by rw [decide_eq_true_iff]; exact h3
        rw [e1, e2, h4]
        simp only [List.length_cons, ih, if_true, Bool.false_eq_true, if_false]
        omega
      · have h3 : ¬ p.1 < ((k + 1 : Nat) : Int) := by omega
        have h4 : (p.1 == (k : Int)) = false := by simp [h2]
        have e1 : decide (p.1 < (k : Int)) = false := by simpa using h1
        have e2 : decide (p.1 < ((k + 1 : Nat) : Int)) = false := by rw [decide_eq_false_iff_not]; exact h3
        rw [e1, e2, h4]
        simp only [ih, Bool.false_eq_true, if_false]
theorem below_all {L : List (Int × Bs)} (h : Good L) : below 66 L = L.length := by
  unfold below
  rw [List.filter_eq_self.2]
  intro p hp
  have := h.2 p hp
  simp
  omega

theorem OwnRows.at {N : Nat} {w : World} {v : Value} {vs : List Value} {ls : List Bs} (h : OwnRows N w v vs ls) {i : Nat} (hi : i < ls.length) :
    ∃ g c u, v = .slice (some ⟨g, 0, none⟩) ls.length c ∧ N ≤ g ∧ w.cell? ⟨g, i, none⟩ = some u ∧ OwnB w u ls[i] ∧ vs[i]? = some u := by
  have hv : i < vs.length := by rw [h.len]; exact hi
  rcases h.row.2 with ⟨_, h2⟩ | ⟨g, cap, cur, h1, hg, h3, h4, _, _, h6⟩
  · omega
  · refine ⟨g, cap, vs[i], h1, hg, ?_, h.each i _ _ (List.getElem?_eq_getElem hv) (List.getElem?_eq_getElem hi), List.getElem?_eq_getElem hv⟩
    rw [cells_at h3]
    have h7 := congrArg (fun l => l[i]?) h6
    simp only [List.getElem?_eq_getElem hv] at h7
    rw [List.getElem?_take_of_lt (by omega)] at h7
    simpa using h7
theorem OwnRows.form {N : Nat} {w : World} {v : Value} {vs : List Value} {ls : List Bs} (h : OwnRows N w v vs ls) : ∃ A c, v = .slice A ls.length c := own_slice_form h.row
theorem OwnRows.same {N : Nat} {w w' : World} {v : Value} {vs : List Value} {ls : List Bs} (h : OwnRows N w v vs ls) (hx : Ext (fun _ => False) w w') : OwnRows N w' v vs ls := h.ext hx (fun _ _ => id) (own_from h.row)

set_option maxRecDepth 100000 in
theorem counts_walk {w : World} {av : Value} {acts : List Act3} (hA : Acts3 (· < w.heap.size) w av acts) (hl : acts.length ≤ 9223372036854775807) :
    Calls Try.prog 4 #[av] w fun e w' => e = .returned (.bool true) ∧ Ext (fun _ => False) w w' := by
  obtain ⟨A, c, hav, hcap, hrow⟩ := id hA
  subst hav
  go_enter Try.func4, Try.ntmps4
  go_wp2_with fail
  refine (reg_small _).mono ?_
  rintro e w1 ⟨rfl, hx1⟩
  go_wp2_with fail
  refine (reg_new _).mono ?_
  rintro e w2 ⟨a, F2, rfl, hR2, hx2, hf2⟩
  go_upto_block 0 with (fail)
  have g1 := hx1.size
  go_cut [5] (fun _ W => ∃ (L : List (Int × Bs)) (F : Nat → Prop), RegRep F W a L ∧ Good L ∧ L.length ≤ 60 ∧ (∀ b, F b → w.heap.size ≤ b) ∧ Ext (fun _ => False) w W)
  case first =>
    go_wp2_with fail
    go_loopw [5] (fun i W => ∃ (k : Nat) (L : List (Int × Bs)) (F : Nat → Prop), k ≤ acts.length ∧ k ≤ 60 ∧ i = .int .i64 k ∧ RegRep F W a L ∧ Good L ∧ L.length ≤ k ∧ (∀ b, F b → w.heap.size ≤ b) ∧ Ext (fun _ => False) w W)
      (fun i _ => 60 - (intOf i).toNat)
    case atStart => exact ⟨0, [], F2, by omega, by omega, rfl, hR2, Good.nil, by simp, fun b hb => Nat.le_trans g1 (hf2 b hb), hx1.trans hx2⟩
    case round =>
      obtain ⟨k, L, F, hk, hk1, rfl, hR, hG, hL, hF, hx⟩ := hrel
      by_cases hlt : k < acts.length
      · by_cases h60 : k < 60
        · obtain ⟨g, off, c', hav, hdb, bv, c0, c1, c2, c3, hb⟩ := (hA.same fun ad i x h => h.same hx).at hlt
          obtain ⟨rfl, rfl⟩ : A = some ⟨g, off, none⟩ ∧ c = c' := by simpa using hav
          clear hav
          have hgl := hx.size
          have hgl' : g < wr.heap.size := by omega
          obtain ⟨bA, bc, rfl, _, _⟩ := id hb
          have hlt' : (k : Int) < (acts.length : Int) := by omega
          have h60' : decide ((k : Int) < 60) = true := by simp; omega
          by_cases hdo : acts[k].Do = 0
          · have hdo' : (acts[k].Do == 0) = true := by simpa using hdo
            go_wp2_with fail
            refine wp_region_bar (Cls [g] _) [] [0, 1, 2, 3, 4, 5, 6, 7, 8, 9, 10] 11 [] [] (by kernel_rfl) (by kernel_rfl) (Cls.refl _ _) ?_
            try dsimp only [wpMix, wpSegs, pick, List.getElem?_cons_zero, List.getElem?_cons_succ]
            generalize hz : Act.mk _ _ = z
            repeat (first | (refine wpQuiet_step (fun K hK => ?_); replace hK := Lib.hid hK; subst hz; go_simp; generalize hz : Act.mk _ _ = z; refine hK.out z ?_; clear hK K) | (refine wpQuiet_step (fun K hK => ?_); replace hK := Lib.hid hK; subst hz; refine iteSkip (by kernel_rfl) ?_; go_simp; generalize hz : Act.mk _ _ = z; refine hK.out z ?_; clear hK K))
            refine wpQuiet_nil ?_
            subst hz
            try dsimp only [NoPan]
            go_wp2_with fail
            refine (reg_sign (hR.keep ((Ext.refl (fun _ => False) _).drew) fun _ _ => id) acts[k].Who (hb.same ((Ext.refl (fun _ => False) _).drew)) (by omega)).mono ?_
            rintro e w3 ⟨rfl, F3, hR3, hx3, hf3⟩
            have hl3 := signL_le acts[k].Who acts[k].B L
            go_wp2_with fail
            have hx3' : Ext (fun _ => False) w w3 := hx.drew.trans' hx3 fun b hb => .inr (hF b hb)
            have hF3 : ∀ b, F3 b → w.heap.size ≤ b := fun b hb => (hf3 b hb).elim (hF b) fun h => by simp at h; omega
            try dsimp only [wpMix, wpSegs, pick, List.getElem?_cons_zero, List.getElem?_cons_succ]
            generalize hz : Act.mk _ _ = z
            repeat (first | (refine wpQuiet_step (fun K hK => ?_); replace hK := Lib.hid hK; subst hz; go_simp; generalize hz : Act.mk _ _ = z; refine hK.out z ?_; clear hK K) | (refine wpQuiet_step (fun K hK => ?_); replace hK := Lib.hid hK; subst hz; refine iteSkip (by kernel_rfl) ?_; go_simp; generalize hz : Act.mk _ _ = z; refine hK.out z ?_; clear hK K))
            refine wpQuiet_nil ?_
            subst hz
            try dsimp only [NoPan]
            go_wp2_with fail
            go_roundw
            case rel => exact ⟨k + 1, _, F3, by omega, by omega, by go_num, hR3, hG.sign _ _, by omega, hF3, hx3'⟩
            case measure => simp [intOf]; omega
          · have hdo' : (acts[k].Do == 0) = false := by simpa using hdo
            go_wp2_with fail
            go_roundw
            case rel => exact ⟨k + 1, _, F, by omega, by omega, by go_num, hR, hG, by omega, hF, hx⟩
            case measure => simp [intOf]; omega
        · have hlt' : (k : Int) < (acts.length : Int) := by omega
          have h60' : decide ((k : Int) < 60) = false := by simp; omega
          go_wp2_with fail
          go_meet
          case rel => exact ⟨L, F, hR, hG, by omega, hF, hx⟩
      · have hlt' : decide ((k : Int) < (acts.length : Int)) = false := by simp; omega
        go_wp2_with fail
        go_meet
        case rel => exact ⟨L, F, hR, hG, by omega, hF, hx⟩
  case rest =>
    obtain ⟨L, F, hR, hG, hL, hF, hx⟩ := hcut
    go_wp2_with fail
    go_loopw [6, 7] (fun n i W => ∃ k : Nat, k ≤ 66 ∧ i = .int .i64 k ∧ n = .int .i64 (below k L) ∧ RegRep F W a L ∧ Ext (fun _ => False) w W) (fun _ i _ => 66 - (intOf i).toNat)
    case atStart => exact ⟨0, by omega, rfl, by rw [below_zero hG]; rfl, hR, hx⟩
    case round =>
      obtain ⟨k, hk, rfl, rfl, hR, hx⟩ := hrel
      have hble : below k L ≤ L.length := List.length_filter_le _ _
      by_cases hlt : k < 66
      · have hlt' : decide ((k : Int) ≤ 65) = true := by simp; omega
        go_wp2_with fail
        refine (reg_by hR (k : Int) (hG.by_len _) (by omega)).mono ?_
        rintro e w3 ⟨v, vs, rfl, hO, hx3⟩
        have hbl := byL_le (k : Int) L
        have hmem := fun s => mem_byL (k : Int) s L
        have hnd := byL_nodup hG.1 (k : Int)
        have hsucc := below_succ k L
        generalize hls : byL (k : Int) L = ls at hO hbl hmem hnd hsucc
        have Hls := Lib.hid hls
        have Hsucc := Lib.hid hsucc
        obtain ⟨A3, c3, rfl⟩ := hO.form
        clear hls hsucc
        go_wp2_with fail
        go_loopw [9] (fun i W => ∃ j : Nat, j ≤ ls.length ∧ i = .int .i64 j ∧ Ext (fun _ => False) w3 W) (fun i _ => ls.length - (intOf i).toNat)
        case atStart => exact ⟨0, by omega, rfl, Ext.refl _ _⟩
        case round =>
          obtain ⟨j, hj, rfl, hxj⟩ := hrel
          by_cases hjl : j < ls.length
          · obtain ⟨g, c', u, hAe, hgN, hcell, hu, _⟩ := (hO.same hxj).at hjl
            obtain ⟨rfl, rfl⟩ : A3 = some ⟨g, 0, none⟩ ∧ c3 = c' := by simpa using hAe
            clear hAe
            have hbu := hu.byt
            obtain ⟨uA, uc, rfl, _, _⟩ := id hbu
            have hRj := (hR.keep hx3 fun _ _ => id).keep hxj fun _ _ => id
            have hjl' : (j : Int) < (ls.length : Int) := by omega
            go_wp2_with fail
            refine (reg_knows hRj (k : Int) hbu).mono ?_
            rintro e w4 ⟨he, hx4⟩
            rw [decide_eq_true ((hmem _).1 (List.getElem_mem hjl))] at he
            subst he
            go_wp2_with fail
            go_loopw [10] (fun i W => ∃ m : Nat, m ≤ j ∧ i = .int .i64 m ∧ Ext (fun _ => False) w3 W) (fun i _ => j - (intOf i).toNat)
            case atStart => exact ⟨0, by omega, rfl, hxj.trans hx4⟩
            case round =>
              obtain ⟨m, hm, rfl, hxm⟩ := hrel
              by_cases hmj : m < j
              · have hmj' : (m : Int) < (j : Int) := by omega
                obtain ⟨g1, c1, u1, hA1, _, hcell1, hu1, _⟩ := (hO.same hxm).at (show m < ls.length by omega)
                obtain ⟨g2, c2, u2, hA2, _, hcell2, hu2, _⟩ := (hO.same hxm).at hjl
                obtain ⟨rfl, rfl⟩ : g = g1 ∧ c3 = c1 := by simpa using hA1
                obtain ⟨rfl, rfl⟩ : g = g2 ∧ c3 = c2 := by simpa using hA2
                clear hA1 hA2
                obtain ⟨uA1, uc1, rfl, _, _⟩ := id hu1.byt
                obtain ⟨uA2, uc2, rfl, _, _⟩ := id hu2.byt
                have hcv1 := hu1.byt.conv 23 5 9 Try.underlying23 Try.underlying5 Try.underlying9
                have hcv2 := hu2.byt.conv 23 5 9 Try.underlying23 Try.underlying5 Try.underlying9
                have hne : ls[j] ≠ ls[m] := fun e => by
                  have := (List.getElem_inj hnd).1 e
                  omega
                have hne' : (ls[j] == ls[m]) = false := by simpa using hne
                clear hne
                go_wp2_with fail
                have hml' : (m : Int) < (ls.length : Int) := by omega
                refine wp_region_mix (Cls [g, blk (.slice uA1 ls[m].length uc1), blk (.slice uA2 ls[j].length uc2)] _) [] [0, 1, 2, 3, 4, 5, 6, 7, 8, 9, 10] (by kernel_rfl) (by kernel_rfl) (Cls.refl _ _) ?_
                try dsimp only [wpMix, wpSegs, pick, List.getElem?_cons_zero, List.getElem?_cons_succ]
                generalize hz : Act.mk _ _ = z
                repeat (first | (refine wpQuiet_step (fun K hK => ?_); replace hK := Lib.hid hK; subst hz; go_simp; generalize hz : Act.mk _ _ = z; refine hK.out z ?_; clear hK K) | (refine wpQuiet_step (fun K hK => ?_); replace hK := Lib.hid hK; subst hz; refine iteSkip (by kernel_rfl) ?_; go_simp; generalize hz : Act.mk _ _ = z; refine hK.out z ?_; clear hK K))
                refine wpQuiet_nil ?_
                subst hz
                try dsimp only [NoPan]
                go_wp2_with fail
                refine ⟨⟨m + 1, by omega, by go_num, hxm.drew⟩, by simp [intOf]; omega⟩
              · have : m = j := by omega
                subst this
                have hmj' : decide ((m : Int) < (m : Int)) = false := by simp
                go_wp2_with fail
                refine ⟨⟨m + 1, by omega, by go_num, hxm⟩, by simp [intOf]; omega⟩
          · have hj' : decide ((j : Int) < (ls.length : Int)) = false := by simp; omega
            go_wp2_with fail
            refine ⟨⟨k + 1, by omega, by go_num, ?_, (hR.keep hx3 fun _ _ => id).keep hxj fun _ _ => id, hx.trans (hx3.trans hxj)⟩, by simp [intOf]; omega⟩
            rw [Hsucc.out]
            simp
      · have hlt' : decide ((k : Int) ≤ 65) = false := by simp; omega
        have hk66 : k = 66 := by omega
        subst hk66
        go_wp2_with fail
        refine (reg_count hR).mono ?_
        rintro e w3 ⟨rfl, rfl⟩
        rw [below_all hG]
        go_wp2_with fail
        go_ret
        exact ⟨by simp, hx⟩
end Go.Proofs.Ytlnfcliojefbfaa
