/- The document's sixty-four words of a block; no condition. -/
import Derived.Test.YtoflfhjeabpcjaaRefSha
namespace Go.Proofs.Ytoflfhjeabpcjaa
set_option linter.unusedVariables false
set_option linter.unusedSimpArgs false
open Go.RowKit

/-- Numbers at the head of block g. -/
def IntsB (w : World) (g : Nat) (xs : List Nat) : Prop :=
  ∃ cells : Array Value, w.heap[g]? = some (.cells cells 3 (0, 0)) ∧ xs.length ≤ cells.size ∧ ∀ (j x : Nat), xs[j]? = some x → cells[j]? = some (.int .i64 (x : Int))
theorem IntsB.cell {w : World} {g : Nat} {xs : List Nat} (h : IntsB w g xs) {i x : Nat} (hx : xs[i]? = some x) : w.cell? ⟨g, i, none⟩ = some (.int .i64 (x : Int)) := by
  obtain ⟨cells, h1, h2, h3⟩ := h
  rw [cells_at h1]
  exact h3 i x hx
theorem IntsB.melt {w : World} {g : Nat} {xs : List Nat} (h : IntsB w g xs) (i : Nat) : w.frozen? ⟨g, i, none⟩ = false := by
  obtain ⟨cells, h1, _⟩ := h
  simp [World.frozen?, h1]
theorem IntsB.lt {w : World} {g : Nat} {xs : List Nat} (h : IntsB w g xs) : g < w.heap.size := by
  obtain ⟨cells, h1, _⟩ := h
  exact lt_of_heap h1
theorem IntsB.put {w : World} {g : Nat} {xs : List Nat} (h : IntsB w g xs) (i x : Nat) (hi : i < xs.length) : IntsB (w.setCell ⟨g, i, none⟩ (.int .i64 (x : Int))) g (xs.set i x) := by
  obtain ⟨cells, h1, h2, h3⟩ := h
  refine ⟨_, heap_setCell_self h1, by simpa using h2, fun j y hy => ?_⟩
  by_cases hij : i = j
  · subst hij
    rw [List.getElem?_set_self hi] at hy
    obtain rfl := Option.some.inj hy
    rw [Array.getElem?_setIfInBounds_self_of_lt (by omega)]
  · rw [List.getElem?_set_ne hij] at hy
    rw [Array.getElem?_setIfInBounds_ne hij]
    exact h3 j y hy
theorem IntsB.ext {F : Nat → Prop} {w w' : World} {g : Nat} {xs : List Nat} (h : IntsB w g xs) (hx : Ext F w w') (hF : ¬ F g) : IntsB w' g xs := by
  obtain ⟨cells, h1, h2⟩ := h
  exact ⟨cells, hx.heap h1 hF, h2⟩

/-- A word of four bytes is their joint. -/
theorem word_or (l : Bs) (k : Nat) : word l k = (((l.getD (4 * k) 0).toNat * 16777216 ||| (l.getD (4 * k + 1) 0).toNat * 65536) ||| (l.getD (4 * k + 2) 0).toNat * 256) ||| (l.getD (4 * k + 3) 0).toNat := by
  have e : word l k = wstep (wstep (wstep (wstep 0 (l.getD (4 * k + 0) 0).toNat) (l.getD (4 * k + 1) 0).toNat) (l.getD (4 * k + 2) 0).toNat) (l.getD (4 * k + 3) 0).toNat := rfl
  rw [e, Nat.add_zero]
  have b0 := UInt8.toNat_lt (l.getD (4 * k) 0)
  have b1 := UInt8.toNat_lt (l.getD (4 * k + 1) 0)
  have b2 := UInt8.toNat_lt (l.getD (4 * k + 2) 0)
  have b3 := UInt8.toNat_lt (l.getD (4 * k + 3) 0)
  generalize (l.getD (4 * k) 0).toNat = c0 at *
  generalize (l.getD (4 * k + 1) 0).toNat = c1 at *
  generalize (l.getD (4 * k + 2) 0).toNat = c2 at *
  generalize (l.getD (4 * k + 3) 0).toNat = c3 at *
  have st : ∀ a c, a < 16777216 → c < 256 → wstep a c = a * 256 + c := fun a c ha hc => by
    unfold wstep
    rw [Nat.mod_eq_of_lt (by omega), Nat.mul_comm a 256]
    exact (Nat.two_pow_add_eq_or_of_lt (i := 8) (by omega) a).symm
  rw [st 0 c0 (by omega) b0, st (0 * 256 + c0) c1 (by omega) b1, st _ c2 (by omega) b2, st _ c3 (by omega) b3]
  have h1 : c0 * 16777216 ||| c1 * 65536 = c0 * 16777216 + c1 * 65536 := by
    have := Nat.two_pow_add_eq_or_of_lt (i := 24) (b := c1 * 65536) (by omega) c0
    rw [Nat.mul_comm] at this
    exact this.symm
  rw [h1]
  have h2 : (c0 * 16777216 + c1 * 65536) ||| c2 * 256 = c0 * 16777216 + c1 * 65536 + c2 * 256 := by
    have := Nat.two_pow_add_eq_or_of_lt (i := 16) (b := c2 * 256) (by omega) (c0 * 256 + c1)
    rw [show 2 ^ 16 * (c0 * 256 + c1) = c0 * 16777216 + c1 * 65536 by omega] at this
    exact this.symm
  rw [h2]
  have h3 : (c0 * 16777216 + c1 * 65536 + c2 * 256) ||| c3 = c0 * 16777216 + c1 * 65536 + c2 * 256 + c3 := by
    have := Nat.two_pow_add_eq_or_of_lt (i := 8) (b := c3) (by omega) (c0 * 65536 + c1 * 256 + c2)
    rw [show 2 ^ 8 * (c0 * 65536 + c1 * 256 + c2) = c0 * 16777216 + c1 * 65536 + c2 * 256 by omega] at this
    exact this.symm
  rw [h3]
  omega
theorem word_facts (l : Bs) (k c0 c1 c2 c3 : Nat) (e0 : (l.getD (4 * k) 0).toNat = c0) (e1 : (l.getD (4 * k + 1) 0).toNat = c1) (e2 : (l.getD (4 * k + 2) 0).toNat = c2) (e3 : (l.getD (4 * k + 3) 0).toNat = c3) :
    ∃ a0 a1 a2 d1 d2 : Nat, (IntKind.i64.wrap ((c0 : Int) * 16777216) = (a0 : Int) ∧ (c0 : Int) * 16777216 = (a0 : Int)) ∧ (IntKind.i64.wrap ((c1 : Int) * 65536) = (a1 : Int) ∧ (c1 : Int) * 65536 = (a1 : Int)) ∧ (IntKind.i64.wrap ((c2 : Int) * 256) = (a2 : Int) ∧ (c2 : Int) * 256 = (a2 : Int)) ∧
      bits .or .i64 (a0 : Int) (a1 : Int) = (d1 : Int) ∧ bits .or .i64 (d1 : Int) (a2 : Int) = (d2 : Int) ∧ bits .or .i64 (d2 : Int) (c3 : Int) = (word l k : Int) := by
  have hw := word_or l k
  have b0 := UInt8.toNat_lt (l.getD (4 * k) 0)
  have b1 := UInt8.toNat_lt (l.getD (4 * k + 1) 0)
  have b2 := UInt8.toNat_lt (l.getD (4 * k + 2) 0)
  have b3 := UInt8.toNat_lt (l.getD (4 * k + 3) 0)
  rw [e0, e1, e2, e3] at hw
  rw [e0] at b0
  rw [e1] at b1
  rw [e2] at b2
  rw [e3] at b3
  rw [hw]
  have l1 : c0 * 16777216 ||| c1 * 65536 < 4294967296 := Nat.or_lt_two_pow (n := 32) (by omega) (by omega)
  have l2 : (c0 * 16777216 ||| c1 * 65536) ||| c2 * 256 < 4294967296 := Nat.or_lt_two_pow (n := 32) l1 (by omega)
  refine ⟨c0 * 16777216, c1 * 65536, c2 * 256, _, _, ⟨?_, by omega⟩, ⟨?_, by omega⟩, ⟨?_, by omega⟩, i64_or _ _ (by omega) (by omega), i64_or _ _ l1 (by omega), i64_or _ _ l2 (by omega)⟩
  all_goals
    rw [IntKind.wrap_i64]
    omega
theorem exp_facts (s1 x7 s0 x16 : Nat) (h1 : s1 < 4294967296) (h2 : x7 < 4294967296) (h3 : s0 < 4294967296) (h4 : x16 < 4294967296) :
    ∃ y1 y2 y3 : Nat, IntKind.i64.wrap ((s1 : Int) + (x7 : Int)) = (y1 : Int) ∧ IntKind.i64.wrap ((y1 : Int) + (s0 : Int)) = (y2 : Int) ∧ IntKind.i64.wrap ((y2 : Int) + (x16 : Int)) = (y3 : Int) ∧
      (y3 : Int).tmod 4294967296 = (((s1 + x7 + s0 + x16) % 4294967296 : Nat) : Int) ∧ (y3 : Int) % 4294967296 = (((s1 + x7 + s0 + x16) % 4294967296 : Nat) : Int) := by
  refine ⟨s1 + x7, s1 + x7 + s0, s1 + x7 + s0 + x16, ?_, ?_, ?_, ?_, ?_⟩
  · rw [IntKind.wrap_i64]; omega
  · rw [IntKind.wrap_i64]; omega
  · rw [IntKind.wrap_i64]; omega
  · rw [Int.tmod_eq_emod_of_nonneg (by omega)]; omega
  · omega
theorem dsig1 (x : Nat) (hx : x < 4294967296) : ∃ d : Nat, bits .xor .i64 (rot x 17 : Int) (rot x 19 : Int) = (d : Int) ∧ bits .xor .i64 (d : Int) ((x : Int) / 1024) = (sig1 x : Int) := by
  refine ⟨_, i64_xor _ _ (rot_lt 17 hx) (rot_lt 19 hx), ?_⟩
  rw [show ((x : Int) / 1024) = ((x / 1024 : Nat) : Int) by omega]
  exact i64_xor _ _ (xor_lt (rot_lt 17 hx) (rot_lt 19 hx)) (Nat.lt_of_le_of_lt (Nat.div_le_self _ _) hx)
theorem dsig0 (x : Nat) (hx : x < 4294967296) : ∃ d : Nat, bits .xor .i64 (rot x 7 : Int) (rot x 18 : Int) = (d : Int) ∧ bits .xor .i64 (d : Int) ((x : Int) / 8) = (sig0 x : Int) := by
  refine ⟨_, i64_xor _ _ (rot_lt 7 hx) (rot_lt 18 hx), ?_⟩
  rw [show ((x : Int) / 8) = ((x / 8 : Nat) : Int) by omega]
  exact i64_xor _ _ (xor_lt (rot_lt 7 hx) (rot_lt 18 hx)) (Nat.lt_of_le_of_lt (Nat.div_le_self _ _) hx)

theorem info64 : (Try.prog.info? 3).map (fun i => (i.zero, i.size, i.bytes)) = some (some (.int .i64 0), 1, 8) := by kernel_rfl
theorem run_make_ints (u : World) : (Instr.makeSlice 113 (.int .i64 64) (.int .i64 64)).run Try.prog u =
    .ok (.slice (some ⟨u.heap.size, 0, none⟩) 64 64) (u.alloc (.cells (madeCells #[.int .i64 0] 64) 3)) := by
  obtain ⟨i0, hi, hi2⟩ := Option.map_eq_some_iff.1 info64
  simp only [Prod.mk.injEq] at hi2
  obtain ⟨hz0, hz1, hz2⟩ := hi2
  have h := run_make (P := Try.prog) u 113 3 i0 (.int .i64 0) Try.underlying113 hi hz0 .i64 .i64 64 64 (by omega) (by omega) (by rw [hz2]; omega) (by omega)
  simpa [hz1, Value.cells] using h
/-- What stands behind t rounds. -/
def filling (l : Bs) (t : Nat) : List Nat := expL l t ++ List.replicate (64 - t) 0
theorem filling_len (l : Bs) (t : Nat) (h : t ≤ 64) : (filling l t).length = 64 := by simp [filling, expL_len]; omega
theorem filling_get (l : Bs) (t i : Nat) (h : i < t) : (filling l t)[i]? = some (wE l i) := by
  have := expL_get l t i h
  rw [filling, List.getElem?_append_left (by rw [expL_len]; exact h)]
  rw [List.getD_eq_getElem?_getD, List.getElem?_eq_getElem (by rw [expL_len]; exact h), Option.getD_some] at this
  rw [List.getElem?_eq_getElem (by rw [expL_len]; exact h), this]
theorem filling_set (l : Bs) (t : Nat) (h : t < 64) : (filling l t).set t (wE l t) = filling l (t + 1) := by
  unfold filling
  rw [List.set_append, if_neg (by rw [expL_len]; omega), expL_len, Nat.sub_self, show 64 - t = (64 - (t + 1)) + 1 by omega, List.replicate_succ, List.set_cons_zero, expL, List.append_assoc]
  rfl
theorem filling_zero (l : Bs) : filling l 0 = List.replicate 64 0 := rfl
theorem filling_end (l : Bs) : filling l 64 = expL l 64 := by simp [filling]

set_option maxRecDepth 100000 in
set_option maxHeartbeats 1000000 in
theorem expand_walk {w : World} {D : Nat → Prop} {v : Value} {l : Bs} (hb : Byt D w v l) (hl : l.length = 64) :
    Calls Try.prog 82 #[v] w fun e w' => ∃ g, e = .returned (.slice (some ⟨g, 0, none⟩) 64 64) ∧ IntsB w' g (expL l 64) ∧ Ext (fun _ => False) w w' ∧ w.heap.size ≤ g := by
  obtain ⟨g, o, c, rfl, hcap, _, hcell⟩ := hb.plain (by intro e; rw [e] at hl; simp at hl)
  rw [hl] at hcap ⊢
  have hgl : g < w.heap.size := World.block_lt_of_cell? _ _ (hcell 0 _ (List.getElem?_eq_getElem (by omega)))
  have hmk := run_make_ints
  have hI : IntsB (w.alloc (.cells (madeCells #[.int .i64 0] 64) 3)) w.heap.size (filling l 0) := by
    refine ⟨_, heap_alloc_self _ _, ?_, fun j x hx => ?_⟩
    · rw [filling_len l 0 (by omega), size_madeCells]; simp
    · rw [filling_zero] at hx
      have hj : j < 64 := by have := (List.getElem?_eq_some_iff.1 hx).1; simpa using this
      rw [List.getElem?_replicate_of_lt hj] at hx
      obtain rfl := Option.some.inj hx
      have hcs : madeCells #[Value.int .i64 0] 64 = Array.replicate 64 (Value.int .i64 0) := by kernel_rfl
      rw [hcs, Array.getElem?_replicate, if_pos hj]
      rfl
  have hx0 := (Ext.refl (fun _ => False) w).alloc (.cells (madeCells #[.int .i64 0] 64) 3)
  have H0 := Lib.hid (And.intro hI hx0)
  clear hI hx0 hb
  go_enter Try.func82, Try.ntmps82
  go_wp2_with fail
  generalize hw1 : w.alloc _ = w1
  rw [hw1] at H0
  go_loopw [4] (fun i W => ∃ t : Nat, t ≤ 64 ∧ i = .int .i64 t ∧ IntsB W w.heap.size (filling l t) ∧ Ext (fun _ => False) w W) (fun i _ => 64 - (intOf i).toNat)
  case atStart => exact ⟨0, by omega, rfl, H0.out.1, H0.out.2⟩
  case round =>
    obtain ⟨t, ht, rfl, hW, hx⟩ := hrel
    by_cases ht64 : t < 64
    · have ht' : decide ((t : Int) < 64) = true := by simp; omega
      have ht'' : (t : Int) < 64 := by omega
      obtain ⟨v0, hca⟩ : ∃ v0, wr.cell? ⟨w.heap.size, t, none⟩ = some v0 := by
        obtain ⟨y, hy⟩ : ∃ y, (filling l t)[t]? = some y := ⟨_, List.getElem?_eq_getElem (by rw [filling_len l t ht]; exact ht64)⟩
        exact ⟨_, hW.cell hy⟩
      have hfr := hW.melt t
      have hal := hW.lt
      have hP := hW.put t (wE l t) (by rw [filling_len l t ht]; exact ht64)
      rw [filling_set l t ht64] at hP
      by_cases h16 : t < 16
      · have hd : decide ((t : Int) < 16) = true := by simp; omega
        have hwe := wE_early l t h16
        obtain ⟨c0, e0⟩ : ∃ c0, (l.getD (4 * t) 0).toNat = c0 := ⟨_, rfl⟩
        obtain ⟨c1, e1⟩ : ∃ c1, (l.getD (4 * t + 1) 0).toNat = c1 := ⟨_, rfl⟩
        obtain ⟨c2, e2⟩ : ∃ c2, (l.getD (4 * t + 2) 0).toNat = c2 := ⟨_, rfl⟩
        obtain ⟨c3, e3⟩ : ∃ c3, (l.getD (4 * t + 3) 0).toNat = c3 := ⟨_, rfl⟩
        have hc : ∀ j cc, j < 64 → (l.getD j 0).toNat = cc → wr.cell? ⟨g, o + j, none⟩ = some (.int .u8 (cc : Int)) ∧ cc < 256 := fun j cc hj hcc => by
          have hlt : j < l.length := by omega
          refine ⟨?_, by rw [← hcc]; exact UInt8.toNat_lt _⟩
          rw [cell_same (hcell j _ (List.getElem?_eq_getElem hlt)) hx, ← hcc, List.getD_eq_getElem?_getD, List.getElem?_eq_getElem hlt]
          rfl
        obtain ⟨k0, b0⟩ := hc _ _ (by omega) e0
        obtain ⟨k1, b1⟩ := hc _ _ (by omega) e1
        obtain ⟨k2, b2⟩ := hc _ _ (by omega) e2
        obtain ⟨k3, b3⟩ := hc _ _ (by omega) e3
        obtain ⟨a0, a1, a2, d1, d2, ⟨f1, f1'⟩, ⟨f2, f2'⟩, ⟨f3, f3'⟩, f4, f5, f6⟩ := word_facts l t c0 c1 c2 c3 e0 e1 e2 e3
        rw [hwe] at hP
        generalize word l t = y at *
        obtain ⟨i0, hi0⟩ : ∃ i0, i0 = 4 * t := ⟨_, rfl⟩
        obtain ⟨i1, hi1⟩ : ∃ i1, i1 = 4 * t + 1 := ⟨_, rfl⟩
        obtain ⟨i2, hi2⟩ : ∃ i2, i2 = 4 * t + 2 := ⟨_, rfl⟩
        obtain ⟨i3, hi3⟩ : ∃ i3, i3 = 4 * t + 3 := ⟨_, rfl⟩
        have q4 : IntKind.i64.wrap (4 * (t : Int)) = (i0 : Int) := by rw [IntKind.wrap_i64]; omega
        have q41 : IntKind.i64.wrap ((i0 : Int) + 1) = (i1 : Int) := by rw [IntKind.wrap_i64]; omega
        have q42 : IntKind.i64.wrap ((i0 : Int) + 2) = (i2 : Int) := by rw [IntKind.wrap_i64]; omega
        have q43 : IntKind.i64.wrap ((i0 : Int) + 3) = (i3 : Int) := by rw [IntKind.wrap_i64]; omega
        have m0 : ((i0 : Nat) : Int) < 64 := by omega
        have m1 : ((i1 : Nat) : Int) < 64 := by omega
        have m2 : ((i2 : Nat) : Int) < 64 := by omega
        have m3 : ((i3 : Nat) : Int) < 64 := by omega
        rw [← hi0] at k0
        rw [← hi1] at k1
        rw [← hi2] at k2
        rw [← hi3] at k3
        clear hi0 hi1 hi2 hi3
        have HP := Lib.hid (And.intro hP hx)
        clear hP hx hW hwe e0 e1 e2 e3 hc
        go_wp2_with fail
        refine wp_region_bar (Cls [g, w.heap.size] _) [] [0, 1, 2, 3, 4, 5, 6, 7, 8, 9, 10, 11, 12, 13, 14, 15, 16, 17, 18, 19, 20, 21, 22, 23, 24, 25, 26, 27, 28, 29, 30, 31, 32, 33, 34, 35] 36 [] [] (by kernel_rfl) (by kernel_rfl) (Cls.refl _ _) ?_
        try dsimp only [wpMix, wpSegs, pick, List.getElem?_cons_zero, List.getElem?_cons_succ]
        generalize hz : Act.mk _ _ = z
        repeat (first | (refine wpQuiet_step (fun K hK => ?_); replace hK := Lib.hid hK; subst hz; go_simp; generalize hz : Act.mk _ _ = z; refine hK.out z ?_; clear hK K) | (refine wpQuiet_step (fun K hK => ?_); replace hK := Lib.hid hK; subst hz; refine iteSkip (by kernel_rfl) ?_; go_simp; generalize hz : Act.mk _ _ = z; refine hK.out z ?_; clear hK K))
        try refine wpQuiet_nil ?_
        subst hz
        try dsimp only [NoPan]
        go_wp2_with fail
        try dsimp only [wpMix, wpSegs, pick, List.getElem?_cons_zero, List.getElem?_cons_succ]
        generalize hz : Act.mk _ _ = z
        repeat (first | (refine wpQuiet_step (fun K hK => ?_); replace hK := Lib.hid hK; subst hz; go_simp; generalize hz : Act.mk _ _ = z; refine hK.out z ?_; clear hK K) | (refine wpQuiet_step (fun K hK => ?_); replace hK := Lib.hid hK; subst hz; refine iteSkip (by kernel_rfl) ?_; go_simp; generalize hz : Act.mk _ _ = z; refine hK.out z ?_; clear hK K))
        try refine wpQuiet_nil ?_
        subst hz
        try dsimp only [NoPan]
        go_wp2_with fail
        refine ⟨⟨t + 1, by omega, by go_num, HP.out.1, by first | exact HP.out.2.setCell (a := ⟨w.heap.size, t, none⟩) (.inr (Nat.le_refl _)) _ | exact (HP.out.2.setCell (a := ⟨w.heap.size, t, none⟩) (.inr (Nat.le_refl _)) _).drew | exact (HP.out.2.drew).setCell (a := ⟨w.heap.size, t, none⟩) (.inr (Nat.le_refl _)) _⟩, by simp [intOf]; omega⟩
      · have hd : decide ((t : Int) < 16) = false := by simp; omega
        have hwe := wE_late l t (by omega)
        have cc : ∀ i, i < t → ∃ x, wE l i = x ∧ x < 4294967296 ∧ wr.cell? ⟨w.heap.size, i, none⟩ = some (.int .i64 (x : Int)) := fun i hi => ⟨_, rfl, wE_lt l i, hW.cell (filling_get l t i hi)⟩
        obtain ⟨x2, g2, b2, c2⟩ := cc (t - 2) (by omega)
        obtain ⟨x7, g7, b7, c7⟩ := cc (t - 7) (by omega)
        obtain ⟨x15, g15, b15, c15⟩ := cc (t - 15) (by omega)
        obtain ⟨x16, g16, b16, c16⟩ := cc (t - 16) (by omega)
        rw [hwe, g2, g7, g15, g16] at hP
        obtain ⟨i2, hi2⟩ : ∃ i, i = t - 2 := ⟨_, rfl⟩
        obtain ⟨i7, hi7⟩ : ∃ i, i = t - 7 := ⟨_, rfl⟩
        obtain ⟨i15, hi15⟩ : ∃ i, i = t - 15 := ⟨_, rfl⟩
        obtain ⟨i16, hi16⟩ : ∃ i, i = t - 16 := ⟨_, rfl⟩
        rw [← hi2] at c2
        rw [← hi7] at c7
        rw [← hi15] at c15
        rw [← hi16] at c16
        have q2 : IntKind.i64.wrap ((t : Int) - 2) = (i2 : Int) := by rw [IntKind.wrap_i64]; omega
        have q7 : IntKind.i64.wrap ((t : Int) - 7) = (i7 : Int) := by rw [IntKind.wrap_i64]; omega
        have q15 : IntKind.i64.wrap ((t : Int) - 15) = (i15 : Int) := by rw [IntKind.wrap_i64]; omega
        have q16 : IntKind.i64.wrap ((t : Int) - 16) = (i16 : Int) := by rw [IntKind.wrap_i64]; omega
        have p2 : (t : Int) - 2 = (i2 : Int) := by omega
        have p15 : (t : Int) - 15 = (i15 : Int) := by omega
        have m2 : ((i2 : Nat) : Int) < 64 := by omega
        have m7 : ((i7 : Nat) : Int) < 64 := by omega
        have m15 : ((i15 : Nat) : Int) < 64 := by omega
        have m16 : ((i16 : Nat) : Int) < 64 := by omega
        obtain ⟨d1, f1, f2⟩ := dsig1 x2 b2
        obtain ⟨d0, f3, f4⟩ := dsig0 x15 b15
        obtain ⟨y1, y2, y3, v1, v2, v3, v4, v5⟩ := exp_facts (sig1 x2) x7 (sig0 x15) x16 (sig1_lt b2) b7 (sig0_lt b15) b16
        have t17 := dturn_walk17 x2 b2
        have t19 := dturn_walk19 x2 b2
        have t7 := dturn_walk7 x15 b15
        have t18 := dturn_walk18 x15 b15
        generalize (sig1 x2 + x7 + sig0 x15 + x16) % 4294967296 = y at *
        generalize sig1 x2 = s1 at *
        generalize sig0 x15 = s0 at *
        generalize rot x2 17 = r17 at *
        generalize rot x2 19 = r19 at *
        generalize rot x15 7 = r7 at *
        generalize rot x15 18 = r18 at *
        have HP := Lib.hid (And.intro (And.intro hP hx) (And.intro (And.intro t17 t19) (And.intro t7 t18)))
        clear hP hx hW hwe cc g2 g7 g15 g16 t17 t19 t7 t18 hi2 hi7 hi15 hi16 b2 b7 b15 b16
        go_wp2_with fail
        clear p2 p15 c2 c15
        refine wp_region_bar (Cls [w.heap.size] _) [([0, 1, 2, 4, 7, 8, 10, 11, 12, 13, 14, 16, 18, 21, 22, 25, 26, 27, 28, 29], 3), ([], 5), ([6, 9, 15], 17), ([], 19)] [20, 23, 24, 30, 31, 32] 33 [] [] (by kernel_rfl) (by kernel_rfl) (Cls.refl _ _) ?_
        try dsimp only [wpMix, wpSegs, pick, List.getElem?_cons_zero, List.getElem?_cons_succ]
        generalize hz : Act.mk _ _ = z
        repeat (first | (refine wpQuiet_step (fun K hK => ?_); replace hK := Lib.hid hK; subst hz; go_simp; generalize hz : Act.mk _ _ = z; refine hK.out z ?_; clear hK K) | (refine wpQuiet_step (fun K hK => ?_); replace hK := Lib.hid hK; subst hz; refine iteSkip (by kernel_rfl) ?_; go_simp; generalize hz : Act.mk _ _ = z; refine hK.out z ?_; clear hK K))
        try refine wpQuiet_nil ?_
        subst hz
        try dsimp only [NoPan]
        go_wp2_with fail
        refine (HP.out.2.1.1 _).mono ?_
        rintro e _ ⟨rfl, rfl⟩
        go_wp2_with fail
        refine ⟨Cls.mk fun b hb => rfl, ?_⟩
        try dsimp only [wpMix, wpSegs, pick, List.getElem?_cons_zero, List.getElem?_cons_succ]
        generalize hz : Act.mk _ _ = z
        repeat (first | (refine wpQuiet_step (fun K hK => ?_); replace hK := Lib.hid hK; subst hz; go_simp; generalize hz : Act.mk _ _ = z; refine hK.out z ?_; clear hK K) | (refine wpQuiet_step (fun K hK => ?_); replace hK := Lib.hid hK; subst hz; refine iteSkip (by kernel_rfl) ?_; go_simp; generalize hz : Act.mk _ _ = z; refine hK.out z ?_; clear hK K))
        try refine wpQuiet_nil ?_
        subst hz
        try dsimp only [NoPan]
        go_wp2_with fail
        refine (HP.out.2.1.2 _).mono ?_
        rintro e _ ⟨rfl, rfl⟩
        go_wp2_with fail
        refine ⟨Cls.mk fun b hb => rfl, ?_⟩
        try dsimp only [wpMix, wpSegs, pick, List.getElem?_cons_zero, List.getElem?_cons_succ]
        generalize hz : Act.mk _ _ = z
        repeat (first | (refine wpQuiet_step (fun K hK => ?_); replace hK := Lib.hid hK; subst hz; go_simp; generalize hz : Act.mk _ _ = z; refine hK.out z ?_; clear hK K) | (refine wpQuiet_step (fun K hK => ?_); replace hK := Lib.hid hK; subst hz; refine iteSkip (by kernel_rfl) ?_; go_simp; generalize hz : Act.mk _ _ = z; refine hK.out z ?_; clear hK K))
        try refine wpQuiet_nil ?_
        subst hz
        try dsimp only [NoPan]
        go_wp2_with fail
        refine (HP.out.2.2.1 _).mono ?_
        rintro e _ ⟨rfl, rfl⟩
        go_wp2_with fail
        refine ⟨Cls.mk fun b hb => rfl, ?_⟩
        try dsimp only [wpMix, wpSegs, pick, List.getElem?_cons_zero, List.getElem?_cons_succ]
        generalize hz : Act.mk _ _ = z
        repeat (first | (refine wpQuiet_step (fun K hK => ?_); replace hK := Lib.hid hK; subst hz; go_simp; generalize hz : Act.mk _ _ = z; refine hK.out z ?_; clear hK K) | (refine wpQuiet_step (fun K hK => ?_); replace hK := Lib.hid hK; subst hz; refine iteSkip (by kernel_rfl) ?_; go_simp; generalize hz : Act.mk _ _ = z; refine hK.out z ?_; clear hK K))
        try refine wpQuiet_nil ?_
        subst hz
        try dsimp only [NoPan]
        go_wp2_with fail
        refine (HP.out.2.2.2 _).mono ?_
        rintro e _ ⟨rfl, rfl⟩
        go_wp2_with fail
        refine ⟨Cls.mk fun b hb => rfl, ?_⟩
        try dsimp only [wpMix, wpSegs, pick, List.getElem?_cons_zero, List.getElem?_cons_succ]
        generalize hz : Act.mk _ _ = z
        repeat (first | (refine wpQuiet_step (fun K hK => ?_); replace hK := Lib.hid hK; subst hz; go_simp; generalize hz : Act.mk _ _ = z; refine hK.out z ?_; clear hK K) | (refine wpQuiet_step (fun K hK => ?_); replace hK := Lib.hid hK; subst hz; refine iteSkip (by kernel_rfl) ?_; go_simp; generalize hz : Act.mk _ _ = z; refine hK.out z ?_; clear hK K))
        try refine wpQuiet_nil ?_
        subst hz
        try dsimp only [NoPan]
        go_wp2_with fail
        try dsimp only [wpMix, wpSegs, pick, List.getElem?_cons_zero, List.getElem?_cons_succ]
        generalize hz : Act.mk _ _ = z
        repeat (first | (refine wpQuiet_step (fun K hK => ?_); replace hK := Lib.hid hK; subst hz; go_simp; generalize hz : Act.mk _ _ = z; refine hK.out z ?_; clear hK K) | (refine wpQuiet_step (fun K hK => ?_); replace hK := Lib.hid hK; subst hz; refine iteSkip (by kernel_rfl) ?_; go_simp; generalize hz : Act.mk _ _ = z; refine hK.out z ?_; clear hK K))
        try refine wpQuiet_nil ?_
        subst hz
        try dsimp only [NoPan]
        go_wp2_with fail
        refine ⟨⟨t + 1, by omega, by go_num, HP.out.1.1, ?_⟩, by simp [intOf]; omega⟩
        exact (((((HP.out.1.2.setCell (a := ⟨w.heap.size, t, none⟩) (.inr (Nat.le_refl _)) _).drew).drew).drew).drew).drew
    · have : t = 64 := by omega
      subst this
      have ht' : decide ((64 : Int) < 64) = false := by decide
      have HP := Lib.hid (And.intro hW hx)
      clear hW hx
      go_wp2_with fail
      go_ret
      have h1 := HP.out.1
      rw [filling_end] at h1
      exact ⟨_, rfl, h1, HP.out.2, Nat.le_refl _⟩
end Go.Proofs.Ytoflfhjeabpcjaa
