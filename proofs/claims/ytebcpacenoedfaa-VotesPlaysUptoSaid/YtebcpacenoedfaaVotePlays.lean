/- VotesPlays: what the statement's function computes; no condition but the bound on the rows. -/
import Derived.Test.YtebcpacenoedfaaVoteAct
import Derived.Test.YtebcpacenoedfaaVoteSmall
namespace Go.Proofs.Ytebcpacenoedfaa
set_option linter.unusedVariables false
set_option linter.unusedSimpArgs false
open Go.RowKit

theorem SD.of_two {w0 W0 w : World} {B : Nat → Prop} {a a' : Nat} {x y : Dk} (h : Two w0 B W0 w a a' x y) : SD w0 (fun _ => False) w a a' x y := by
  obtain ⟨F, F', h⟩ := h
  exact ⟨F, F', h.dsk, h.doc, h.apart, h.old, h.newF, h.newF', fun k hk => hk.elim⟩

set_option maxRecDepth 100000 in
set_option maxHeartbeats 4000000 in
theorem vplays_walk {w : World} {av : Value} {acts : List Act22} (hA : Acts22 (· < w.heap.size) w av acts) (hl : acts.length ≤ 9223372036854775807) :
    Calls Try.prog 3 #[av] w fun e w' => e = .returned (.bool true) ∧ Ext (fun _ => False) w w' := by
  obtain ⟨A, c, hav, hcap, hrow⟩ := id hA
  subst hav
  have HS := Lib.hid (votes_small w)
  go_enter Try.func3, Try.ntmps3
  go_wp2_with fail
  refine HS.out.mono ?_
  rintro e w1 ⟨rfl, hx1⟩
  have HI := Lib.hid (inv_new w hx1)
  clear hx1
  go_wp2_with fail
  refine HI.out.mono ?_
  rintro e w2 ⟨a, rfl, h2⟩
  have HT := Lib.hid (two_new w h2)
  clear h2 HI HS
  go_wp2_with fail
  refine HT.out.mono ?_
  rintro e w3 ⟨a', rfl, h3⟩
  have hsd := SD.of_two h3
  have hx3 := (Ext.refl (fun _ => False) w3).alloc (sideO a a' (.pointer none) (.pointer none))
  have HO := Lib.hid (sopen_walk (K := fun k => k = w3.heap.size) (hsd.more hx3 (fun _ => False.elim) fun k hk => .inr (by simp; omega)) ⟨rfl, hsd.old.size⟩ (heap_alloc_self _ _))
  clear h3 hsd hx3 HT
  go_wp2_with fail
  refine HO.out.mono ?_
  rintro e w4 ⟨rfl, K0, _, h4, _⟩
  have H4 := Lib.hid h4
  clear h4 HO
  generalize w3.heap.size = bs at *
  go_wp2_with fail
  go_loopw [6, 7] (fun ok i W => ∃ (k : Nat) (K : Nat → Prop) (x : Dk), k ≤ acts.length ∧ k ≤ 40 ∧ ok = .bool true ∧ i = .int .i64 k ∧ SS w K W a a' bs x)
    (fun _ i _ => 40 - (intOf i).toNat)
  case atStart => exact ⟨0, K0, _, by omega, by omega, rfl, rfl, H4.out⟩
  case round =>
    obtain ⟨k, K, x, hk, hk1, rfl, rfl, hI⟩ := hrel
    have hx := hI.sd.old
    by_cases hlt : k < acts.length
    · by_cases h40 : k < 40
      · obtain ⟨g, off, c', hav, hdb, lv, c0, c1, c2, c3, hb, hNm, hLm⟩ := hA.at hlt
        replace c0 := cell_same c0 hx
        replace c1 := cell_same c1 hx
        replace c2 := cell_same c2 hx
        replace c3 := cell_same c3 hx
        obtain ⟨rfl, rfl⟩ : A = some ⟨g, off, none⟩ ∧ c = c' := by simpa using hav
        clear hav
        have hgl := hx.size
        have hgl' : g < wr.heap.size := by omega
        obtain ⟨lA, lc, rfl, _, _⟩ := id hb
        have hlt' : (k : Int) < (acts.length : Int) := by omega
        have h40' : decide ((k : Int) < 40) = true := by simp; omega
        generalize acts[k] = act at *
        have HB := Lib.hid (And.intro hI hb)
        have hbw := hb.ext hx fun _ _ => id
        have HBw := Lib.hid hbw
        clear hI hb hbw hx hA hrow hdb H4
        go_wp2_with fail
        go_loopw [8] (fun i W => ∃ m : Nat, m ≤ act.L.length ∧ i = .int .i64 m ∧ W = wr ∧ ∀ l ∈ act.L.take m, l.length ≤ 131072) (fun i _ => act.L.length - (intOf i).toNat)
        case atStart => exact ⟨0, by omega, rfl, rfl, fun l hl => by simp at hl⟩
        case round =>
          obtain ⟨m, hm, rfl, rfl, hall⟩ := hrel
          by_cases hm2 : m < act.L.length
          · have hm3 : decide ((m : Int) < (act.L.length : Int)) = true := by simp; omega
            have hm4 : decide (m < act.L.length) = true := by simpa using hm2
            obtain ⟨g1, o1, cc, hA1, hg1, u1, hcell1, hu1⟩ := HBw.out.at hm2
            obtain ⟨rfl, rfl⟩ : lA = some ⟨g1, o1, none⟩ ∧ lc = cc := by simpa using hA1
            rw [Nat.mul_one] at hcell1
            have htk : act.L.take (m + 1) = act.L.take m ++ [act.L[m]] := List.take_succ_eq_append_getElem hm2
            generalize act.L[m] = l at *
            obtain ⟨A1, c1', rfl, _, _⟩ := hu1
            by_cases hll : 131072 < l.length
            · have h1 : decide ((131072 : Int) < (l.length : Int)) = true := by simp; omega
              have h2 : decide (131072 < l.length) = true := by simpa using hll
              clear hall htk
              go_wp2_with fail
              go_ret
              exact ⟨rfl, HB.out.1.sd.old⟩
            · have h1 : decide ((131072 : Int) < (l.length : Int)) = false := by simp; omega
              have h2 : decide (131072 < l.length) = false := by simpa using hll
              have HA := Lib.hid (And.intro hall htk)
              clear hall htk
              go_wp2_with fail
              refine ⟨⟨m + 1, by omega, by go_num, trivial, fun l' hl' => ?_⟩, by simp [intOf]; omega⟩
              rw [HA.out.2] at hl'
              rcases List.mem_append.1 hl' with hl' | hl'
              · exact HA.out.1 l' hl'
              · simp at hl'; subst hl'; omega
          · have hme : m = act.L.length := by omega
            subst hme
            have hm3 : decide ((act.L.length : Int) < (act.L.length : Int)) = false := by simp
            have hm4 : decide (act.L.length < act.L.length) = false := by simp
            rw [List.take_of_length_le (Nat.le_refl _)] at hall
            have HAct := Lib.hid (sact_walk (Do := act.Do) (M := act.M) HB.out.1 HB.out.2 hNm hLm hall)
            clear hall
            go_wp2_with fail
            refine HAct.out.mono ?_
            rintro e w6 ⟨rfl, K6, x6, _, h6⟩
            obtain ⟨vp, yp, hs6, _⟩ := h6.side
            obtain ⟨s0, s1, _, _⟩ := side_cell hs6
            have hbs := lt_of_heap hs6
            have H6 := Lib.hid (h6.ext ((Ext.refl _ _).drew))
            clear h6 hs6 HAct
            go_wp2_with fail
            refine wp_region_bar (Cls [bs] _) [] [0, 1, 2, 3, 4, 5, 6, 7] 8 [] [9] (by kernel_rfl) (by kernel_rfl) (Cls.refl _ _) ?_
            try dsimp only [wpMix, wpSegs, pick, List.getElem?_cons_zero, List.getElem?_cons_succ]
            generalize hz : Act.mk _ _ = z
            repeat (first | (refine wpQuiet_step (fun K hK => ?_); replace hK := Lib.hid hK; subst hz; go_simp; generalize hz : Act.mk _ _ = z; refine hK.out z ?_; clear hK K) | (refine wpQuiet_step (fun K hK => ?_); replace hK := Lib.hid hK; subst hz; refine iteSkip (by kernel_rfl) ?_; go_simp; generalize hz : Act.mk _ _ = z; refine hK.out z ?_; clear hK K))
            refine wpQuiet_nil ?_
            subst hz
            try dsimp only [NoPan]
            go_wp2_with fail
            refine (sd_tells H6.out.sd rfl).mono ?_
            rintro e w7 ⟨rfl, hx7⟩
            have H7 := Lib.hid (H6.out.ext hx7)
            clear hx7
            go_wp2_with fail
            try dsimp only [wpMix, wpSegs, pick, List.getElem?_cons_zero, List.getElem?_cons_succ]
            generalize hz : Act.mk _ _ = z
            repeat (first | (refine wpQuiet_step (fun K hK => ?_); replace hK := Lib.hid hK; subst hz; go_simp; generalize hz : Act.mk _ _ = z; refine hK.out z ?_; clear hK K) | (refine wpQuiet_step (fun K hK => ?_); replace hK := Lib.hid hK; subst hz; refine iteSkip (by kernel_rfl) ?_; go_simp; generalize hz : Act.mk _ _ = z; refine hK.out z ?_; clear hK K))
            refine wpQuiet_nil ?_
            subst hz
            try dsimp only [NoPan]
            go_wp2_with fail
            exact ⟨⟨k + 1, K6, x6, by omega, by omega, rfl, by go_num, H7.out⟩, by simp [intOf]; omega⟩
      · have h40' : decide ((k : Int) < 40) = false := by simp; omega
        have hlt' : (k : Int) < (acts.length : Int) := by omega
        have Hx := Lib.hid hx
        clear hI
        go_wp2_with fail
        go_ret
        exact ⟨rfl, Hx.out⟩
    · have hlt' : decide ((k : Int) < (acts.length : Int)) = false := by simp; omega
      have Hx := Lib.hid hx
      clear hI
      go_wp2_with fail
      go_ret
      exact ⟨rfl, Hx.out⟩
end Go.Proofs.Ytebcpacenoedfaa
