/- A tree of acts: vestrylaw04.made; no condition. -/
import Derived.Test.YtkdnhnmiofhokaaTrieSmall
import Derived.Test.YtkdnhnmiofhokaaOpenEntry
namespace Go.Proofs.Ytkdnhnmiofhokaa
set_option linter.unusedVariables false
set_option linter.unusedSimpArgs false
open Go.RowKit

theorem PutO.len {k v : Bs} {o o' : Option Tr} (h : PutO k v o o') : (Tr.entsO o').length ≤ (Tr.entsO o).length + 1 := by
  unfold PutO at h
  split at h
  · obtain ⟨t', rfl, _, _, h⟩ := h
    exact h
  · rw [h]; omega
set_option maxRecDepth 100000 in
set_option maxHeartbeats 2000000 in
theorem made_walk {w0 w : World} {av : Value} {acts : List Act4} (hA : Row (Act4Is (· < w0.heap.size)) 3 (· < w0.heap.size) w0 av acts) (hl : acts.length ≤ 9223372036854775807) (hx : Ext (fun _ => False) w0 w) :
    Calls Try.prog 16 #[av] w fun e w' => ∃ c o, e = .returned (ptrV c) ∧ TM w0 w' c o ∧ (Tr.entsO o).length ≤ 30 := by
  obtain ⟨A, cp, hav, hcap, hrow⟩ := id hA
  subst hav
  go_enter Try.func16, Try.ntmps16
  go_wp2_with fail
  refine (tm_new hx).mono ?_
  rintro e w1 ⟨rfl, h1⟩
  generalize w.heap.size = c at *
  clear hrow
  have H1 := Lib.hid h1
  clear h1
  go_wp2_with fail
  go_loopw [4] (fun i W => ∃ (k : Nat) (o : Option Tr), k ≤ acts.length ∧ k ≤ 30 ∧ i = .int .i64 k ∧ TM w0 W c o ∧ (Tr.entsO o).length ≤ k) (fun i _ => 30 - (intOf i).toNat)
  case atStart => exact ⟨0, none, by omega, by omega, rfl, H1.out, Nat.le_refl _⟩
  case round =>
    obtain ⟨k, o, hk, hk1, rfl, hT, hn⟩ := hrel
    by_cases hlt : k < acts.length
    · by_cases h30 : k < 30
      · obtain ⟨g, off, c', hav, hdb, ⟨⟨a, b, c0, c1, c2, ha, hb⟩, la, lb⟩⟩ := hA.at hlt
        simp only [Value.slice.injEq, true_and] at hav
        obtain ⟨rfl, rfl⟩ := hav
        have hkl : decide ((k : Int) < (acts.length : Int)) = true := by simp; omega
        have hk30 : decide ((k : Int) < 30) = true := by simp; omega
        have d0 := cell_same c0 hT.2.2
        have d1 := cell_same c1 hT.2.2
        have d2 := cell_same c2 hT.2.2
        have hgl : g < wr.heap.size := World.block_lt_of_cell? _ _ d0
        have HT := Lib.hid (And.intro hT hn)
        have HB := Lib.hid (And.intro ha (And.intro hb (And.intro la lb)))
        clear hT hn ha hb la lb
        generalize acts[k] = x at *
        by_cases h0 : x.d = 0
        · rw [h0] at d0
          rw [h0] at c0
          have HC0 := Lib.hid c0
          clear h0 hA c0 c1 c2
          go_wp2_with fail
          refine wp_region_bar (Cls [g] _) [] [0, 1, 2, 3, 4, 5, 6, 7, 8, 9, 10] 11 [] [] (by kernel_rfl) (by kernel_rfl) (Cls.refl _ _) ?_
          try dsimp only [wpMix, wpSegs, pick, List.getElem?_cons_zero, List.getElem?_cons_succ]
          generalize hz : Act.mk _ _ = z
          repeat (first | (refine wpQuiet_step (fun K hK => ?_); replace hK := Lib.hid hK; subst hz; go_simp; generalize hz : Act.mk _ _ = z; refine hK.out z ?_; clear hK K) | (refine wpQuiet_step (fun K hK => ?_); replace hK := Lib.hid hK; subst hz; refine iteSkip (by kernel_rfl) ?_; go_simp; generalize hz : Act.mk _ _ = z; refine hK.out z ?_; clear hK K))
          try refine wpQuiet_nil ?_
          subst hz
          try dsimp only [NoPan]
          go_wp2_with fail
          refine (tm_put (k := x.k) (v := x.v) (HT.out.1.still (Ext.refl _ _).drew) (HB.out.1.same HT.out.1.2.2.drew) (HB.out.2.1.same HT.out.1.2.2.drew) (by have := HT.out.2; omega)).mono ?_
          rintro e w2 ⟨o2, rfl, p2, h2, x2⟩
          have e0 := cell_same HC0.out h2.2.2
          have H2 := Lib.hid (And.intro h2 p2)
          clear h2 p2 x2 d0 d1 d2
          go_wp2_with fail
          try dsimp only [wpMix, wpSegs, pick, List.getElem?_cons_zero, List.getElem?_cons_succ]
          generalize hz : Act.mk _ _ = z
          repeat (first | (refine wpQuiet_step (fun K hK => ?_); replace hK := Lib.hid hK; subst hz; go_simp; generalize hz : Act.mk _ _ = z; refine hK.out z ?_; clear hK K) | (refine wpQuiet_step (fun K hK => ?_); replace hK := Lib.hid hK; subst hz; refine iteSkip (by kernel_rfl) ?_; go_simp; generalize hz : Act.mk _ _ = z; refine hK.out z ?_; clear hK K))
          try refine wpQuiet_nil ?_
          subst hz
          try dsimp only [NoPan]
          go_wp2_with fail
          refine ⟨⟨k + 1, o2, by omega, by omega, by go_num, H2.out.1, by have := H2.out.2.len; have := HT.out.2; omega⟩, by simp [intOf]; omega⟩
        · by_cases h1 : x.d = 1
          · rw [h1] at d0
            clear h0 h1 hA c0 c1 c2
            go_wp2_with fail
            refine (tm_delete (k := x.k) HT.out.1 (HB.out.1.same HT.out.1.2.2) (by have := HB.out.2.2.1; omega) (by have := HT.out.2; omega)).mono ?_
            rintro e w2 ⟨o2, rfl, p2, h2, x2⟩
            have H2 := Lib.hid (And.intro h2 p2)
            clear h2 p2 x2 d0 d1 d2
            go_wp2_with fail
            refine ⟨⟨k + 1, o2, by omega, by omega, by go_num, H2.out.1, by have := H2.out.2.2.2; have := HT.out.2; omega⟩, by simp [intOf]; omega⟩
          · have h0' : (x.d == 0) = false := by simpa using h0
            have h1' : (x.d == 1) = false := by simpa using h1
            clear h0 h1 hA c0 c1 c2
            go_wp2_with fail
            refine ⟨⟨k + 1, o, by omega, by omega, by go_num, HT.out.1, by have := HT.out.2; omega⟩, by simp [intOf]; omega⟩
      · have hkl : decide ((k : Int) < (acts.length : Int)) = true := by simp; omega
        have hk30 : decide ((k : Int) < 30) = false := by simp; omega
        have HT := Lib.hid (And.intro hT hn)
        clear hT hn hA
        go_wp2_with fail
        go_ret
        exact ⟨c, o, rfl, HT.out.1, by have := HT.out.2; omega⟩
    · have hkl : decide ((k : Int) < (acts.length : Int)) = false := by simp; omega
      have HT := Lib.hid (And.intro hT hn)
      clear hT hn hA
      go_wp2_with fail
      go_ret
      exact ⟨c, o, rfl, HT.out.1, by have := HT.out.2; omega⟩
end Go.Proofs.Ytkdnhnmiofhokaa
