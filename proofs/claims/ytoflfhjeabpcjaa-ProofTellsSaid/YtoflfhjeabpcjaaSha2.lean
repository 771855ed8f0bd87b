/- A word of the window; no condition. -/
import Derived.Test.YtoflfhjeabpcjaaSha
namespace Go.Proofs.Ytoflfhjeabpcjaa
set_option linter.unusedVariables false
set_option linter.unusedSimpArgs false
open Go.RowKit

set_option maxRecDepth 100000 in
theorem at_early {w : World} {b t : Nat} {ws : List Nat} (h : Words w b 153 ws) (hl : ws.length = 16) (ht : t < 16) :
    Calls Try.prog 115 #[.pointer (some ⟨b, 0, none⟩), .int .i64 (t : Int)] w fun e w' => e = .returned (u32 (ws.getD (t % 16) 0)) ∧ w = w' := by
  have e15 := and15 t (by omega)
  have hc := h.cell (i := t % 16) (by omega)
  rw [show ws.getD (t % 16) 0 = ws[t % 16]'(by omega) by rw [List.getD_eq_getElem?_getD, List.getElem?_eq_getElem (by omega)]; rfl]
  have hm : ((t % 16 : Nat) : Int) < 16 := by omega
  have hd : decide (16 ≤ (t : Int)) = false := by simp; omega
  have hd2 : decide (16 ≤ t) = false := by simp; omega
  generalize ws[t % 16]'(by omega) = x at *
  generalize t % 16 = i at *
  clear h
  go_enter Try.func115, Try.ntmps115
  go_wp2_with fail
  go_ret
  exact ⟨rfl, rfl⟩

set_option maxRecDepth 100000 in
set_option maxHeartbeats 1000000 in
theorem at_core {w : World} {b : Nat} {ws : List Nat} (t i0 i2 i7 i15 x0 x2 x7 x15 s1 s0 d1 d0 ra rb rc rd y1 y2 y3 : Nat) (h : Words w b 153 ws) (hl : ws.length = 16) (ht : 16 ≤ t) (ht2 : t < 64)
    (e0 : bits .and .i64 (t : Int) 15 = (i0 : Int)) (e2 : bits .and .i64 ((t : Int) - 2) 15 = (i2 : Int)) (e7 : bits .and .i64 ((t : Int) - 7) 15 = (i7 : Int)) (e15 : bits .and .i64 ((t : Int) - 15) 15 = (i15 : Int))
    (h0 : i0 < 16) (h2 : i2 < 16) (h7 : i7 < 16) (h15 : i15 < 16) (hne : i7 ≠ i0)
    (c0 : w.cell? ⟨b, i0, none⟩ = some (u32 x0)) (c2 : w.cell? ⟨b, i2, none⟩ = some (u32 x2)) (c7 : w.cell? ⟨b, i7, none⟩ = some (u32 x7)) (c15 : w.cell? ⟨b, i15, none⟩ = some (u32 x15))
    (t17 : ∀ w, Calls Try.prog 125 #[u32 x2, .int .i64 17] w fun e w' => e = .returned (u32 ra) ∧ w = w') (t19 : ∀ w, Calls Try.prog 125 #[u32 x2, .int .i64 19] w fun e w' => e = .returned (u32 rb) ∧ w = w')
    (t7 : ∀ w, Calls Try.prog 125 #[u32 x15, .int .i64 7] w fun e w' => e = .returned (u32 rc) ∧ w = w') (t18 : ∀ w, Calls Try.prog 125 #[u32 x15, .int .i64 18] w fun e w' => e = .returned (u32 rd) ∧ w = w')
    (q1 : bits .xor .u32 (ra : Int) (rb : Int) = (d1 : Int)) (q2' : bits .xor .u32 (d1 : Int) ((x2 : Int) / 1024) = (s1 : Int)) (q3 : bits .xor .u32 (rc : Int) (rd : Int) = (d0 : Int)) (q4' : bits .xor .u32 (d0 : Int) ((x15 : Int) / 8) = (s0 : Int))
    (v1 : IntKind.u32.wrap ((x0 : Int) + (s1 : Int)) = (y1 : Int)) (v2 : IntKind.u32.wrap ((x7 : Int) + (s0 : Int)) = (y2 : Int)) (v3 : IntKind.u32.wrap ((y1 : Int) + (y2 : Int)) = (y3 : Int)) (lv1 : y1 < 4294967296) (lv3 : y3 < 4294967296) :
    Calls Try.prog 115 #[.pointer (some ⟨b, 0, none⟩), .int .i64 (t : Int)] w fun e w' => e = .returned (u32 y3) ∧ Words w' b 153 (ws.set i0 y3) ∧ Ext (· = b) w w' := by
  have f0 := h.melt i0
  have hal := lt_of_heap h.obj
  have hd : decide (16 ≤ (t : Int)) = true := by simp; omega
  have hd2 : decide (16 ≤ t) = true := by simp; omega
  have m0 : ((i0 : Nat) : Int) < 16 := by omega
  have m2 : ((i2 : Nat) : Int) < 16 := by omega
  have m7 : ((i7 : Nat) : Int) < 16 := by omega
  have m15 : ((i15 : Nat) : Int) < 16 := by omega
  have w2 : IntKind.i64.wrap ((t : Int) - 2) = (t : Int) - 2 := by rw [IntKind.wrap_i64]; omega
  have w7 : IntKind.i64.wrap ((t : Int) - 7) = (t : Int) - 7 := by rw [IntKind.wrap_i64]; omega
  have w15 : IntKind.i64.wrap ((t : Int) - 15) = (t : Int) - 15 := by rw [IntKind.wrap_i64]; omega
  have H := Lib.hid (And.intro (And.intro t17 t19) (And.intro (And.intro t7 t18) h))
  clear t17 t19 t7 t18 h
  go_enter Try.func115, Try.ntmps115
  go_wp2_with fail
  refine wp_region_mix (Cls [b] _) [] [0, 1, 2, 3, 4, 5, 6, 7, 8, 9, 10, 11, 12, 13, 14, 15] (by kernel_rfl) (by kernel_rfl) (Cls.refl _ _) ?_
  try dsimp only [wpMix, wpSegs, pick, List.getElem?_cons_zero, List.getElem?_cons_succ]
  generalize hz : Act.mk _ _ = z
  repeat (first | (refine wpQuiet_step (fun K hK => ?_); replace hK := Lib.hid hK; subst hz; go_simp; generalize hz : Act.mk _ _ = z; refine hK.out z ?_; clear hK K) | (refine wpQuiet_step (fun K hK => ?_); replace hK := Lib.hid hK; subst hz; refine iteSkip (by kernel_rfl) ?_; go_simp; generalize hz : Act.mk _ _ = z; refine hK.out z ?_; clear hK K))
  try refine wpQuiet_nil ?_
  subst hz
  try dsimp only [NoPan]
  go_wp2_with fail
  refine wp_region_bar (Cls [b] _) [([0, 1, 2, 3, 4, 5, 6, 8, 11, 12, 15], 7), ([], 9)] [10, 13, 14, 16] 17 [] [] (by kernel_rfl) (by kernel_rfl) (Cls.refl _ _) ?_
  try dsimp only [wpMix, wpSegs, pick, List.getElem?_cons_zero, List.getElem?_cons_succ]
  generalize hz : Act.mk _ _ = z
  repeat (first | (refine wpQuiet_step (fun K hK => ?_); replace hK := Lib.hid hK; subst hz; go_simp; generalize hz : Act.mk _ _ = z; refine hK.out z ?_; clear hK K) | (refine wpQuiet_step (fun K hK => ?_); replace hK := Lib.hid hK; subst hz; refine iteSkip (by kernel_rfl) ?_; go_simp; generalize hz : Act.mk _ _ = z; refine hK.out z ?_; clear hK K))
  try refine wpQuiet_nil ?_
  subst hz
  try dsimp only [NoPan]
  go_wp2_with fail
  refine (H.out.1.1 _).mono ?_
  rintro e _ ⟨rfl, rfl⟩
  go_wp2_with fail
  refine ⟨Cls.refl _ _, ?_⟩
  try dsimp only [wpMix, wpSegs, pick, List.getElem?_cons_zero, List.getElem?_cons_succ]
  generalize hz : Act.mk _ _ = z
  repeat (first | (refine wpQuiet_step (fun K hK => ?_); replace hK := Lib.hid hK; subst hz; go_simp; generalize hz : Act.mk _ _ = z; refine hK.out z ?_; clear hK K) | (refine wpQuiet_step (fun K hK => ?_); replace hK := Lib.hid hK; subst hz; refine iteSkip (by kernel_rfl) ?_; go_simp; generalize hz : Act.mk _ _ = z; refine hK.out z ?_; clear hK K))
  try refine wpQuiet_nil ?_
  subst hz
  try dsimp only [NoPan]
  go_wp2_with fail
  refine (H.out.1.2 _).mono ?_
  rintro e _ ⟨rfl, rfl⟩
  go_wp2_with fail
  refine ⟨Cls.refl _ _, ?_⟩
  try dsimp only [wpMix, wpSegs, pick, List.getElem?_cons_zero, List.getElem?_cons_succ]
  generalize hz : Act.mk _ _ = z
  repeat (first | (refine wpQuiet_step (fun K hK => ?_); replace hK := Lib.hid hK; subst hz; go_simp; generalize hz : Act.mk _ _ = z; refine hK.out z ?_; clear hK K) | (refine wpQuiet_step (fun K hK => ?_); replace hK := Lib.hid hK; subst hz; refine iteSkip (by kernel_rfl) ?_; go_simp; generalize hz : Act.mk _ _ = z; refine hK.out z ?_; clear hK K))
  try refine wpQuiet_nil ?_
  subst hz
  try dsimp only [NoPan]
  go_wp2_with fail
  try dsimp only [wpMix, wpSegs, pick, List.getElem?_cons_zero, List.getElem?_cons_succ]
  generalize hz : Act.mk _ _ = z
  repeat (first | (refine wpQuiet_step (fun K hK => ?_); replace hK := Lib.hid hK; subst hz; go_simp; generalize hz : Act.mk _ _ = z; refine hK.out z ?_; clear hK K) | (refine wpQuiet_step (fun K hK => ?_); replace hK := Lib.hid hK; subst hz; refine iteSkip (by kernel_rfl) ?_; go_simp; generalize hz : Act.mk _ _ = z; refine hK.out z ?_; clear hK K))
  try refine wpQuiet_nil ?_
  subst hz
  try dsimp only [NoPan]
  go_wp2_with fail
  have hP := H.out.2.2.put i0 y1 lv1
  have d0 : (w.setCell ⟨b, i0, none⟩ (u32 y1)).cell? ⟨b, i0, none⟩ = some (u32 y1) := by rw [hP.cell (i := i0) (by simp; omega)]; simp
  have d7 : (w.setCell ⟨b, i0, none⟩ (u32 y1)).cell? ⟨b, i7, none⟩ = some (u32 x7) := by
    rw [cells_at hP.obj]
    have := c7
    rw [cells_at H.out.2.2.obj] at this
    simpa [List.getElem?_set, Ne.symm hne] using this
  have fm := hP.melt i0
  have hal1 := lt_of_heap hP.obj
  have hx1 : Ext (· = b) w (w.setCell ⟨b, i0, none⟩ (u32 y1)) := (Ext.refl (· = b) w).setCell (a := ⟨b, i0, none⟩) (.inl rfl) _
  generalize w.setCell ⟨b, i0, none⟩ (u32 y1) = W1 at *
  have H1 := Lib.hid (And.intro hP hx1)
  clear hP hx1 c0 c2 c7 c15 f0 hal
  refine wp_region_bar (Cls [b] _) [([0, 1, 2, 3, 4, 5, 6, 7, 8, 9, 10, 11, 12, 13, 15, 18, 19, 23], 14), ([], 16)] [17, 20, 21, 22, 24] 25 [] [] (by kernel_rfl) (by kernel_rfl) (Cls.refl _ _) ?_
  try dsimp only [wpMix, wpSegs, pick, List.getElem?_cons_zero, List.getElem?_cons_succ]
  generalize hz : Act.mk _ _ = z
  repeat (first | (refine wpQuiet_step (fun K hK => ?_); replace hK := Lib.hid hK; subst hz; go_simp; generalize hz : Act.mk _ _ = z; refine hK.out z ?_; clear hK K) | (refine wpQuiet_step (fun K hK => ?_); replace hK := Lib.hid hK; subst hz; refine iteSkip (by kernel_rfl) ?_; go_simp; generalize hz : Act.mk _ _ = z; refine hK.out z ?_; clear hK K))
  try refine wpQuiet_nil ?_
  subst hz
  try dsimp only [NoPan]
  go_wp2_with fail
  refine (H.out.2.1.1 _).mono ?_
  rintro e _ ⟨rfl, rfl⟩
  go_wp2_with fail
  refine ⟨Cls.refl _ _, ?_⟩
  try dsimp only [wpMix, wpSegs, pick, List.getElem?_cons_zero, List.getElem?_cons_succ]
  generalize hz : Act.mk _ _ = z
  repeat (first | (refine wpQuiet_step (fun K hK => ?_); replace hK := Lib.hid hK; subst hz; go_simp; generalize hz : Act.mk _ _ = z; refine hK.out z ?_; clear hK K) | (refine wpQuiet_step (fun K hK => ?_); replace hK := Lib.hid hK; subst hz; refine iteSkip (by kernel_rfl) ?_; go_simp; generalize hz : Act.mk _ _ = z; refine hK.out z ?_; clear hK K))
  try refine wpQuiet_nil ?_
  subst hz
  try dsimp only [NoPan]
  go_wp2_with fail
  refine (H.out.2.1.2 _).mono ?_
  rintro e _ ⟨rfl, rfl⟩
  go_wp2_with fail
  refine ⟨Cls.refl _ _, ?_⟩
  try dsimp only [wpMix, wpSegs, pick, List.getElem?_cons_zero, List.getElem?_cons_succ]
  generalize hz : Act.mk _ _ = z
  repeat (first | (refine wpQuiet_step (fun K hK => ?_); replace hK := Lib.hid hK; subst hz; go_simp; generalize hz : Act.mk _ _ = z; refine hK.out z ?_; clear hK K) | (refine wpQuiet_step (fun K hK => ?_); replace hK := Lib.hid hK; subst hz; refine iteSkip (by kernel_rfl) ?_; go_simp; generalize hz : Act.mk _ _ = z; refine hK.out z ?_; clear hK K))
  try refine wpQuiet_nil ?_
  subst hz
  try dsimp only [NoPan]
  go_wp2_with fail
  try dsimp only [wpMix, wpSegs, pick, List.getElem?_cons_zero, List.getElem?_cons_succ]
  generalize hz : Act.mk _ _ = z
  repeat (first | (refine wpQuiet_step (fun K hK => ?_); replace hK := Lib.hid hK; subst hz; go_simp; generalize hz : Act.mk _ _ = z; refine hK.out z ?_; clear hK K) | (refine wpQuiet_step (fun K hK => ?_); replace hK := Lib.hid hK; subst hz; refine iteSkip (by kernel_rfl) ?_; go_simp; generalize hz : Act.mk _ _ = z; refine hK.out z ?_; clear hK K))
  try refine wpQuiet_nil ?_
  subst hz
  try dsimp only [NoPan]
  have hP2 := H1.out.1.put i0 y3 lv3
  have g0 : (W1.setCell ⟨b, i0, none⟩ (u32 y3)).cell? ⟨b, i0, none⟩ = some (u32 y3) := by rw [hP2.cell (i := i0) (by simp; omega)]; simp
  have hx2 : Ext (· = b) w (W1.setCell ⟨b, i0, none⟩ (u32 y3)) := H1.out.2.setCell (a := ⟨b, i0, none⟩) (.inl rfl) _
  generalize W1.setCell ⟨b, i0, none⟩ (u32 y3) = W2 at *
  have H2 := Lib.hid (And.intro hP2 hx2)
  clear hP2 hx2
  go_wp2_with fail
  go_ret
  refine ⟨rfl, ⟨?_, ?_⟩, H2.out.2.drewN 3⟩
  · have := H2.out.1.obj
    rw [List.set_set] at this
    exact this
  · have := H2.out.1.lt
    rw [List.set_set] at this
    exact this

theorem sum_u32 (x y : Nat) : IntKind.u32.wrap ((x : Int) + (y : Int)) = (((x + y) % 4294967296 : Nat) : Int) := by rw [IntKind.wrap_u32]; omega
theorem sig1_facts (x : Nat) (hx : x < 4294967296) : ∃ d : Nat, bits .xor .u32 (rot x 17 : Int) (rot x 19 : Int) = (d : Int) ∧ bits .xor .u32 (d : Int) ((x : Int) / 1024) = (sig1 x : Int) := by
  obtain ⟨d, q1, q2⟩ := xor3 (rot_lt 17 hx) (rot_lt 19 hx) (Nat.lt_of_le_of_lt (Nat.div_le_self x 1024) hx)
  exact ⟨d, q1, by rw [show ((x : Int) / 1024) = ((x / 1024 : Nat) : Int) by omega]; exact q2⟩
theorem sig0_facts (x : Nat) (hx : x < 4294967296) : ∃ d : Nat, bits .xor .u32 (rot x 7 : Int) (rot x 18 : Int) = (d : Int) ∧ bits .xor .u32 (d : Int) ((x : Int) / 8) = (sig0 x : Int) := by
  obtain ⟨d, q1, q2⟩ := xor3 (rot_lt 7 hx) (rot_lt 18 hx) (Nat.lt_of_le_of_lt (Nat.div_le_self x 8) hx)
  exact ⟨d, q1, by rw [show ((x : Int) / 8) = ((x / 8 : Nat) : Int) by omega]; exact q2⟩
theorem and15' (t k : Nat) (hk : k ≤ t) (ht : t < 100) : bits .and .i64 ((t : Int) - (k : Int)) 15 = (((t - k) % 16 : Nat) : Int) := by
  have := and15 (t - k) (by omega)
  rwa [show ((t - k : Nat) : Int) = (t : Int) - (k : Int) by omega] at this
theorem getD_set (ws : List Nat) (i v : Nat) (h : i < ws.length) : (ws.set i v).getD i 0 = v := by
  rw [List.getD_eq_getElem?_getD, List.getElem?_set_self h, Option.getD_some]
theorem winNext_eq (ws : List Nat) (t : Nat) {x0 x2 x7 x15 : Nat} (g0 : ws.getD (t % 16) 0 = x0) (g2 : ws.getD ((t - 2) % 16) 0 = x2) (g7 : ws.getD ((t - 7) % 16) 0 = x7) (g15 : ws.getD ((t - 15) % 16) 0 = x15) :
    winNext ws t = ws.set (t % 16) (((x0 + sig1 x2) % 4294967296 + (x7 + sig0 x15) % 4294967296) % 4294967296) := by
  unfold winNext
  rw [g0, g2, g7, g15]
theorem mod_u32 (x : Nat) : x % 4294967296 < 4294967296 := Nat.mod_lt _ (by decide)
theorem mod_16 (x : Nat) : x % 16 < 16 := Nat.mod_lt _ (by decide)
theorem at_late {w : World} {b : Nat} {ws : List Nat} (t : Nat) (h : Words w b 153 ws) (hl : ws.length = 16) (ht : 16 ≤ t) (ht2 : t < 64) :
    Calls Try.prog 115 #[.pointer (some ⟨b, 0, none⟩), .int .i64 (t : Int)] w fun e w' => e = .returned (u32 ((winNext ws t).getD (t % 16) 0)) ∧ Words w' b 153 (winNext ws t) ∧ Ext (· = b) w w' := by
  have gd : ∀ i, i < 16 → ∃ x, ws.getD i 0 = x ∧ x < 4294967296 ∧ w.cell? ⟨b, i, none⟩ = some (u32 x) := fun i hi =>
    ⟨ws[i]'(by omega), by rw [List.getD_eq_getElem?_getD, List.getElem?_eq_getElem (by omega)]; rfl, h.lt _ (List.getElem_mem _), h.cell (by omega)⟩
  obtain ⟨x0, g0, l0, c0⟩ := gd (t % 16) (Nat.mod_lt _ (by decide))
  obtain ⟨x2, g2, l2, c2⟩ := gd ((t - 2) % 16) (Nat.mod_lt _ (by decide))
  obtain ⟨x7, g7, l7, c7⟩ := gd ((t - 7) % 16) (Nat.mod_lt _ (by decide))
  obtain ⟨x15, g15, l15, c15⟩ := gd ((t - 15) % 16) (Nat.mod_lt _ (by decide))
  obtain ⟨d1, q1, q2⟩ := sig1_facts x2 l2
  obtain ⟨d0, q3, q4⟩ := sig0_facts x15 l15
  have hw := winNext_eq ws t g0 g2 g7 g15
  have hn := getD_set ws (t % 16) (((x0 + sig1 x2) % 4294967296 + (x7 + sig0 x15) % 4294967296) % 4294967296) (by omega)
  rw [← hw] at hn
  rw [hn, hw]
  clear hn hw
  exact at_core t _ _ _ _ x0 x2 x7 x15 _ _ d1 d0 _ _ _ _ _ _ _ h hl ht ht2 (and15 t (by omega)) (and15' t 2 (by omega) (by omega)) (and15' t 7 (by omega) (by omega)) (and15' t 15 (by omega) (by omega))
    (mod_16 _) (mod_16 _) (mod_16 _) (mod_16 _) (by omega) c0 c2 c7 c15 (turn_walk17 x2 l2) (turn_walk19 x2 l2) (turn_walk7 x15 l15) (turn_walk18 x15 l15)
    q1 q2 q3 q4 (sum_u32 _ _) (sum_u32 _ _) (sum_u32 _ _) (mod_u32 _) (mod_u32 _)
/-- The word of a time. -/
theorem at_walk {w : World} {b : Nat} {ws : List Nat} (t : Nat) (h : Words w b 153 ws) (hl : ws.length = 16) (ht2 : t < 64) :
    Calls Try.prog 115 #[.pointer (some ⟨b, 0, none⟩), .int .i64 (t : Int)] w fun e w' => e = .returned (u32 ((winAt ws t).getD (t % 16) 0)) ∧ Words w' b 153 (winAt ws t) ∧ Ext (· = b) w w' := by
  by_cases ht : t < 16
  · unfold winAt
    rw [if_pos ht]
    exact (at_early h hl ht).mono fun e w' ⟨he, hw⟩ => ⟨he, hw ▸ h, hw ▸ Ext.refl _ _⟩
  · unfold winAt
    rw [if_neg ht]
    exact at_late t h hl (by omega) ht2
end Go.Proofs.Ytoflfhjeabpcjaa
