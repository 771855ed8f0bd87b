/- DiskLasts: what the statement's function computes; no condition. -/
import Derived.Test.YtlnfcliojefbfaaDisk5
import Derived.Deep.DeepCutAuto
import Derived.Deep.CutBlock
namespace Go.Proofs.Ytlnfcliojefbfaa
set_option linter.unusedVariables false
set_option linter.unusedSimpArgs false
open Go.RowKit

theorem run_str_to (w : World) (l m : Bs) (n : Nat) (h : n ≤ l.length) (hm : l.take n = m) : (Instr.slice 9 (str l) none (some (.int .i64 (n : Int))) none).run Try.prog w = .ok (str m) w := by
  rw [run_slice_string_h w 9 _ Try.underlying9 .i64 _ (by omega) (by show (n : Int) ≤ ((l.toArray.size : Nat) : Int); simp; omega)]
  subst hm
  congr 2
  apply ByteArray.ext
  simp [ByteArray.extract, ByteArray.copySlice]

set_option maxRecDepth 100000 in
set_option maxHeartbeats 40000000 in
theorem lasts_walk {w : World} {av : Value} {acts : List Act21} (hA : Acts21 (· < w.heap.size) w av acts) (hl : acts.length ≤ 9223372036854775807) :
    Calls Try.prog 8 #[av] w fun e w' => e = .returned (.bool true) ∧ Ext (fun _ => False) w w' := by
  obtain ⟨A, c, hav, hcap, hrow⟩ := id hA
  subst hav
  go_enter Try.func8, Try.ntmps8
  go_wp2_with fail
  refine (disk_small _).mono ?_
  rintro e w1 ⟨rfl, hx1⟩
  go_wp2_with fail
  refine (inv_new w hx1).mono ?_
  rintro e w2 ⟨a, rfl, h2⟩
  go_wp2_with fail
  go_loopw [5] (fun i W => ∃ (k : Nat) (x : Dk), k ≤ acts.length ∧ k ≤ 100 ∧ i = .int .i64 k ∧ DInv w W a x)
    (fun i _ => 100 - (intOf i).toNat)
  case atStart => exact ⟨0, _, by omega, by omega, rfl, h2⟩
  case round =>
    obtain ⟨k, x, hk, hk1, rfl, hD⟩ := hrel
    have hx := hD.old
    by_cases hlt : k < acts.length
    · by_cases h100 : k < 100
      · obtain ⟨g, off, c', hav, hdb, bv, c0, c1, c2, c3, hb, hNm, hBm⟩ := hA.at hlt
        replace c0 := cell_same c0 hx
        replace c1 := cell_same c1 hx
        replace c2 := cell_same c2 hx
        replace c3 := cell_same c3 hx
        obtain ⟨rfl, rfl⟩ : A = some ⟨g, off, none⟩ ∧ c = c' := by simpa using hav
        clear hav
        have hgl := hx.size
        have hgl' : g < wr.heap.size := by omega
        obtain ⟨bA, bc, rfl, _, _⟩ := id hb
        have hlt' : (k : Int) < (acts.length : Int) := by omega
        have h100' : decide ((k : Int) < 100) = true := by simp; omega
        generalize acts[k] = act at *
        go_wp2_with fail
        have hob := heap_alloc_self wr (Obj.cells #[.int .i64 act.Do, .int .i64 act.N, .int .i64 act.M, .slice bA act.B.length bc] 56)
        have hH := hD.hold (Obj.cells #[.int .i64 act.Do, .int .i64 act.N, .int .i64 act.M, .slice bA act.B.length bc] 56)
        generalize wr.alloc (Obj.cells #[.int .i64 act.Do, .int .i64 act.N, .int .i64 act.M, .slice bA act.B.length bc] 56) = W0 at hob hH ⊢
        generalize wr.heap.size = b6 at hob hH ⊢
        have Hhlt := Lib.hid (And.intro hlt h100)
        have Hkk := Lib.hid (And.intro hk hk1)
        clear c0 c1 c2 c3 hlt' h100' hlt hk hk1 hgl hgl'
        refine (hold_bytes hH).mono ?_
        rintro e w3 ⟨A3, c3, rfl, hown3, hH3⟩
        have hcv := hown3.byt.conv 23 5 9 Try.underlying23 Try.underlying5 Try.underlying9 w3 rfl
        go_wp2_with fail
        refine (inv_safe hH3.inv).mono ?_
        rintro e _ ⟨rfl, rfl⟩
        have hsl := hH3.inv.safe
        clear hown3 hcv
        have o3 := (hH3.at rfl).trans hob
        have k0 : w3.cell? ⟨b6, 0, none⟩ = some (.int .i64 act.Do) := cells_at o3 0
        have k1 : w3.cell? ⟨b6, 1, none⟩ = some (.int .i64 act.N) := cells_at o3 1
        have k2 : w3.cell? ⟨b6, 2, none⟩ = some (.int .i64 act.M) := cells_at o3 2
        have k3 : w3.cell? ⟨b6, 3, none⟩ = some (.slice bA act.B.length bc) := cells_at o3 3
        have hal3 := lt_of_heap o3
        go_upto_block 2 with (fail)
        go_cut [] (fun W => ∃ x', DHold w (· = b6) W0 W a x' ∧ Lasts act.Do act.N x x')
        case first =>
          have hb3 := hb.same hH3.inv.old
          have Hx3 := Lib.hid (And.intro hH3 hb3)
          clear hH3 hb3 o3 hob hH hD hA hb hx
          by_cases d0 : act.Do = 0
          · as_aux_lemma =>
              have d0' : (act.Do == 0) = true := by simpa using d0
              have D0 := Lib.hid d0
              clear d0
              go_wp2_with fail
              refine (hold_append Hx3.out.1 Hx3.out.2 (fun _ h => h)).mono ?_
              rintro e w4 ⟨rfl, h4⟩
              go_wp2_with fail
              go_meet
              case rel => exact ⟨_, h4, by rw [D0.out]; exact lasts_append _ hsl.1⟩
          have d0' : (act.Do == 0) = false := by simpa using d0
          by_cases d1 : act.Do = 1
          · as_aux_lemma =>
              have d1' : (act.Do == 1) = true := by simpa using d1
              have D1 := Lib.hid d1
              clear d1
              go_wp2_with fail
              refine (hold_sync Hx3.out.1).mono ?_
              rintro e w4 ⟨rfl, h4⟩
              go_wp2_with fail
              go_meet
              case rel => exact ⟨_, h4, by rw [D1.out]; exact lasts_sync hsl.1⟩
          have d1' : (act.Do == 1) = false := by simpa using d1
          by_cases d2 : act.Do = 2
          · as_aux_lemma =>
              have d2' : (act.Do == 2) = true := by simpa using d2
              have D2 := Lib.hid d2
              clear d2
              go_wp2_with fail
              refine (hold_cut Hx3.out.1 act.N).mono ?_
              rintro e w4 ⟨rfl, h4⟩
              go_wp2_with fail
              go_meet
              case rel => exact ⟨_, h4, by rw [D2.out]; exact lasts_cut hsl.1⟩
          have d2' : (act.Do == 2) = false := by simpa using d2
          by_cases d3 : act.Do = 3
          · as_aux_lemma =>
              have d3' : (act.Do == 3) = true := by simpa using d3
              have D3 := Lib.hid d3
              clear d3
              go_wp2_with fail
              refine wp_region_bar (Cls [b6] _) [] [0, 1, 2, 3, 4, 5, 6] 7 [] [] (by kernel_rfl) (by kernel_rfl) (Cls.refl _ _) ?_
              try dsimp only [wpMix, wpSegs, pick, List.getElem?_cons_zero, List.getElem?_cons_succ]
              generalize hz : Act.mk _ _ = z
              repeat (first | (refine wpQuiet_step (fun K hK => ?_); replace hK := Lib.hid hK; subst hz; go_simp; generalize hz : Act.mk _ _ = z; refine hK.out z ?_; clear hK K) | (refine wpQuiet_step (fun K hK => ?_); replace hK := Lib.hid hK; subst hz; refine iteSkip (by kernel_rfl) ?_; go_simp; generalize hz : Act.mk _ _ = z; refine hK.out z ?_; clear hK K))
              refine wpQuiet_nil ?_
              subst hz
              try dsimp only [NoPan]
              go_wp2_with fail
              refine (hold_arm (Hx3.out.1.ext ((Ext.refl _ _).drew)) act.N act.M hNm).mono ?_
              rintro e w4 ⟨rfl, h4⟩
              go_wp2_with fail
              try dsimp only [wpMix, wpSegs, pick, List.getElem?_cons_zero, List.getElem?_cons_succ]
              generalize hz : Act.mk _ _ = z
              repeat (first | (refine wpQuiet_step (fun K hK => ?_); replace hK := Lib.hid hK; subst hz; go_simp; generalize hz : Act.mk _ _ = z; refine hK.out z ?_; clear hK K) | (refine wpQuiet_step (fun K hK => ?_); replace hK := Lib.hid hK; subst hz; refine iteSkip (by kernel_rfl) ?_; go_simp; generalize hz : Act.mk _ _ = z; refine hK.out z ?_; clear hK K))
              refine wpQuiet_nil ?_
              subst hz
              try dsimp only [NoPan]
              go_wp2_with fail
              go_meet
              case rel => exact ⟨_, h4, by rw [D3.out]; exact lasts_arm _ _ hsl.1⟩
          have d3' : (act.Do == 3) = false := by simpa using d3
          by_cases d4 : act.Do = 4
          · as_aux_lemma =>
              have d4' : (act.Do == 4) = true := by simpa using d4
              have D4 := Lib.hid d4
              clear d4
              go_wp2_with fail
              refine (hold_boot Hx3.out.1 act.N).mono ?_
              rintro e w4 ⟨rfl, h4⟩
              go_wp2_with fail
              go_meet
              case rel => exact ⟨_, h4, by rw [D4.out]; exact lasts_boot _ hsl.1⟩
          have d4' : (act.Do == 4) = false := by simpa using d4
          go_wp2_with fail
          go_meet
          case rel => exact ⟨_, Hx3.out.1, lasts_same d4 rfl (Nat.le_refl _) hsl.1⟩
        case rest =>
          obtain ⟨x', hH4, hL⟩ := hcut
          go_wp2_with fail
          refine (hold_bytes hH4).mono ?_
          rintro e w5 ⟨A5, c5, rfl, hown5, hH5⟩
          have hcv := hown5.byt.conv 23 5 9 Try.underlying23 Try.underlying5 Try.underlying9 w5 rfl
          go_wp2_with fail
          refine (inv_safe hH5.inv).mono ?_
          rintro e _ ⟨rfl, rfl⟩
          clear hown5 hcv k0 k1 k2 k3
          have o5 := (hH5.at rfl).trans hob
          have k0 : w5.cell? ⟨b6, 0, none⟩ = some (.int .i64 act.Do) := cells_at o5 0
          have k1 : w5.cell? ⟨b6, 1, none⟩ = some (.int .i64 act.N) := cells_at o5 1
          have hal5 := lt_of_heap o5
          have hsl5 := hH5.inv.safe
          go_wp2_with fail
          have P1 : decide (x'.l.length < x'.s) = false := by simp; exact hL.in'
          have sl1 : x.s ≤ x'.s → x'.l.take x.s = x.l.take x.s → ∀ W, (Instr.slice 9 (str x'.l) none (some (.int .i64 (x.s : Int))) none).run Try.prog W = .ok (str (x.l.take x.s)) W := fun h1 h2 W => run_str_to W _ _ _ (by omega) h2
          have sl2 : ∀ W, (Instr.slice 9 (str x.l) none (some (.int .i64 (x.s : Int))) none).run Try.prog W = .ok (str (x.l.take x.s)) W := fun W => run_str_to W _ _ _ hsl.1 rfl
          have sl3 : x'.l.length ≤ x.l.length → ∀ W, (Instr.slice 9 (str x.l) none (some (.int .i64 (x'.l.length : Int))) none).run Try.prog W = .ok (str x'.l) W := fun h W => run_str_to W _ _ _ h (hL.begins h)
          have HL := Lib.hid hL
          have S1 := Lib.hid sl1
          have S3 := Lib.hid sl3
          have H5 := Lib.hid hH5
          clear hL sl1 sl3 hH5 hH4 o5 o3 hob hH hD hA hb hx hsl hsl5 hH3
          have P3 : x'.l.length ≤ x.l.length → decide (x'.l.length ≤ x.l.length) = true ∧ decide (x.l.length < x'.l.length) = false := fun h => by simp; omega
          by_cases d2 : act.Do = 2
          · have d2' : (act.Do == 2) = true := by simpa using d2
            have d2n : (act.Do != 2) = false := by simpa using d2
            have d4' : (act.Do == 4) = false := by rw [d2]; rfl
            have d0' : (act.Do == 0) = false := by rw [d2]; rfl
            have d0n : (act.Do != 0) = true := by rw [d2]; rfl
            have hle : x'.l.length ≤ x.l.length := HL.out.shorter (by omega)
            have sl3 := S3.out hle
            obtain ⟨P3, P5⟩ := P3 hle
            have hcut := HL.out.cut d2
            clear S1 S3 d2
            by_cases hsm : x'.l = x.l
            · have hsm' : (x'.l == x.l) = true := by simpa using hsm
              have hsn : (x'.l != x.l) = false := by simpa using hsm
              clear hcut hsm
              as_aux_lemma =>
                refine wp_region_mix (Cls [b6] _) [] [0, 1, 2, 3, 4, 5, 6, 7, 8, 9, 10, 11, 12, 13, 14, 15, 16, 17, 18, 19, 20, 21, 22, 23, 24, 25, 26, 27, 28, 29, 30, 31, 32, 33, 34, 35, 36, 37, 38, 39, 40, 41, 42, 43, 44, 45, 46, 47, 48, 49, 50, 51, 52, 53, 54, 55, 56, 57, 58, 59, 60] (by kernel_rfl) (by kernel_rfl) (Cls.refl _ _) ?_
                try dsimp only [wpMix, wpSegs, pick, List.getElem?_cons_zero, List.getElem?_cons_succ]
                generalize hz : Act.mk _ _ = z
                repeat (first | (refine wpQuiet_step (fun K hK => ?_); replace hK := Lib.hid hK; subst hz; go_simp; generalize hz : Act.mk _ _ = z; refine hK.out z ?_; clear hK K) | (refine wpQuiet_step (fun K hK => ?_); replace hK := Lib.hid hK; subst hz; refine iteSkip (by kernel_rfl) ?_; go_simp; generalize hz : Act.mk _ _ = z; refine hK.out z ?_; clear hK K))
                refine wpQuiet_nil ?_
                subst hz
                try dsimp only [NoPan]
                go_wp2_with fail
                have hk := Hkk.out
                have hk2 := Hhlt.out
                exact ⟨⟨k + 1, x', by omega, by omega, by go_num, (H5.out.ext ((Ext.refl _ _).drew)).inv⟩, by simp [intOf]; omega⟩
            · have hsm' : (x'.l == x.l) = false := by simpa using hsm
              have hN := hcut.resolve_left hsm
              have n1 : ((x'.l.length : Int) == act.N) = true := by simpa using hN.1
              have n2 : ((x'.s : Int) == act.N) = true := by simpa using hN.2
              have n3 : ((x'.l.length : Int) != act.N) = false := by simpa using hN.1
              have n4 : ((x'.s : Int) != act.N) = false := by simpa using hN.2
              have hsn : (x'.l != x.l) = true := by simpa using hsm
              clear hcut hsm hN
              as_aux_lemma =>
                refine wp_region_mix (Cls [b6] _) [] [0, 1, 2, 3, 4, 5, 6, 7, 8, 9, 10, 11, 12, 13, 14, 15, 16, 17, 18, 19, 20, 21, 22, 23, 24, 25, 26, 27, 28, 29, 30, 31, 32, 33, 34, 35, 36, 37, 38, 39, 40, 41, 42, 43, 44, 45, 46, 47, 48, 49, 50, 51, 52, 53, 54, 55, 56, 57, 58, 59, 60] (by kernel_rfl) (by kernel_rfl) (Cls.refl _ _) ?_
                try dsimp only [wpMix, wpSegs, pick, List.getElem?_cons_zero, List.getElem?_cons_succ]
                generalize hz : Act.mk _ _ = z
                repeat (first | (refine wpQuiet_step (fun K hK => ?_); replace hK := Lib.hid hK; subst hz; go_simp; generalize hz : Act.mk _ _ = z; refine hK.out z ?_; clear hK K) | (refine wpQuiet_step (fun K hK => ?_); replace hK := Lib.hid hK; subst hz; refine iteSkip (by kernel_rfl) ?_; go_simp; generalize hz : Act.mk _ _ = z; refine hK.out z ?_; clear hK K))
                refine wpQuiet_nil ?_
                subst hz
                try dsimp only [NoPan]
                go_wp2_with fail
                have hk := Hkk.out
                have hk2 := Hhlt.out
                exact ⟨⟨k + 1, x', by omega, by omega, by go_num, (H5.out.ext ((Ext.refl _ _).drew)).inv⟩, by simp [intOf]; omega⟩
          · have d2' : (act.Do == 2) = false := by simpa using d2
            have d2n : (act.Do != 2) = true := by simpa using d2
            obtain ⟨g1, g2⟩ := HL.out.stays d2
            have sl1 := S1.out g1 g2
            have P2 : decide (x'.s < x.s) = false := by simp; exact g1
            clear S1 g1 g2
            by_cases hle : x'.l.length ≤ x.l.length
            · have sl3 := S3.out hle
              obtain ⟨P3, P5⟩ := P3 hle
              clear S3
              by_cases d4 : act.Do = 4
              · have d4' : (act.Do == 4) = true := by simpa using d4
                have d0' : (act.Do == 0) = false := by rw [d4]; rfl
                have d0n : (act.Do != 0) = true := by rw [d4]; rfl
                obtain ⟨q0, q1, _⟩ := HL.out.boots d4
                have q2 : (x'.s == x'.l.length) = true := by simpa using q1
                have q3 : ((x'.s : Int) == (x'.l.length : Int)) = true := by rw [q1]; exact beq_self_eq_true _
                have q4 : (x'.s != x'.l.length) = false := by rw [q1]; simp
                have q5 : ((x'.s : Int) != (x'.l.length : Int)) = false := by rw [q1]; simp
                have Q0 := Lib.hid q0
                clear d4 d2 q0 q1
                as_aux_lemma =>
                  refine wp_region_mix (Cls [b6] _) [] [0, 1, 2, 3, 4, 5, 6, 7, 8, 9, 10, 11, 12, 13, 14, 15, 16, 17, 18, 19, 20, 21, 22, 23, 24, 25, 26, 27, 28, 29, 30, 31, 32, 33, 34, 35, 36, 37, 38, 39, 40, 41, 42, 43, 44, 45, 46, 47, 48, 49, 50, 51, 52, 53, 54, 55, 56, 57, 58, 59, 60] (by kernel_rfl) (by kernel_rfl) (Cls.refl _ _) ?_
                  try dsimp only [wpMix, wpSegs, pick, List.getElem?_cons_zero, List.getElem?_cons_succ]
                  generalize hz : Act.mk _ _ = z
                  repeat (first | (refine wpQuiet_step (fun K hK => ?_); replace hK := Lib.hid hK; subst hz; go_simp; generalize hz : Act.mk _ _ = z; refine hK.out z ?_; clear hK K) | (refine wpQuiet_step (fun K hK => ?_); replace hK := Lib.hid hK; subst hz; refine iteSkip (by kernel_rfl) ?_; go_simp; generalize hz : Act.mk _ _ = z; refine hK.out z ?_; clear hK K))
                  refine wpQuiet_nil ?_
                  subst hz
                  try dsimp only [NoPan]
                  go_wp2_with fail
                  refine (inv_up (H5.out.ext ((Ext.refl _ _).drew)).inv).mono ?_
                  rintro e _ ⟨rfl, rfl⟩
                  rw [Q0.out]
                  go_wp2_with fail
                  have hk := Hkk.out
                  have hk2 := Hhlt.out
                  exact ⟨⟨k + 1, x', by omega, by omega, by go_num, (H5.out.ext ((Ext.refl _ _).drew)).inv⟩, by simp [intOf]; omega⟩
              · have d4' : (act.Do == 4) = false := by simpa using d4
                clear d4 d2
                as_aux_lemma =>
                  refine wp_region_mix (Cls [b6] _) [] [0, 1, 2, 3, 4, 5, 6, 7, 8, 9, 10, 11, 12, 13, 14, 15, 16, 17, 18, 19, 20, 21, 22, 23, 24, 25, 26, 27, 28, 29, 30, 31, 32, 33, 34, 35, 36, 37, 38, 39, 40, 41, 42, 43, 44, 45, 46, 47, 48, 49, 50, 51, 52, 53, 54, 55, 56, 57, 58, 59, 60] (by kernel_rfl) (by kernel_rfl) (Cls.refl _ _) ?_
                  try dsimp only [wpMix, wpSegs, pick, List.getElem?_cons_zero, List.getElem?_cons_succ]
                  generalize hz : Act.mk _ _ = z
                  repeat (first | (refine wpQuiet_step (fun K hK => ?_); replace hK := Lib.hid hK; subst hz; go_simp; generalize hz : Act.mk _ _ = z; refine hK.out z ?_; clear hK K) | (refine wpQuiet_step (fun K hK => ?_); replace hK := Lib.hid hK; subst hz; refine iteSkip (by kernel_rfl) ?_; go_simp; generalize hz : Act.mk _ _ = z; refine hK.out z ?_; clear hK K))
                  refine wpQuiet_nil ?_
                  subst hz
                  try dsimp only [NoPan]
                  by_cases d0 : act.Do = 0
                  · have d0' : (act.Do == 0) = true := by simpa using d0
                    have d0n : (act.Do != 0) = false := by simpa using d0
                    clear d0
                    go_wp2_with fail
                    have hk := Hkk.out
                    have hk2 := Hhlt.out
                    exact ⟨⟨k + 1, x', by omega, by omega, by go_num, (H5.out.ext ((Ext.refl _ _).drew)).inv⟩, by simp [intOf]; omega⟩
                  · have d0' : (act.Do == 0) = false := by simpa using d0
                    have d0n : (act.Do != 0) = true := by simpa using d0
                    clear d0
                    go_wp2_with fail
                    have hk := Hkk.out
                    have hk2 := Hhlt.out
                    exact ⟨⟨k + 1, x', by omega, by omega, by go_num, (H5.out.ext ((Ext.refl _ _).drew)).inv⟩, by simp [intOf]; omega⟩
            · have d0 : act.Do = 0 := by
                by_cases d0 : act.Do = 0
                · exact d0
                · exact absurd (HL.out.shorter d0) hle
              have d0' : (act.Do == 0) = true := by simpa using d0
              have d0n : (act.Do != 0) = false := by simpa using d0
              have d4' : (act.Do == 4) = false := by rw [d0]; rfl
              have P6 : decide (x'.l.length ≤ x.l.length) = false := by simpa using hle
              clear d0 d2 S3
              as_aux_lemma =>
                refine wp_region_mix (Cls [b6] _) [] [0, 1, 2, 3, 4, 5, 6, 7, 8, 9, 10, 11, 12, 13, 14, 15, 16, 17, 18, 19, 20, 21, 22, 23, 24, 25, 26, 27, 28, 29, 30, 31, 32, 33, 34, 35, 36, 37, 38, 39, 40, 41, 42, 43, 44, 45, 46, 47, 48, 49, 50, 51, 52, 53, 54, 55, 56, 57, 58, 59, 60] (by kernel_rfl) (by kernel_rfl) (Cls.refl _ _) ?_
                try dsimp only [wpMix, wpSegs, pick, List.getElem?_cons_zero, List.getElem?_cons_succ]
                generalize hz : Act.mk _ _ = z
                repeat (first | (refine wpQuiet_step (fun K hK => ?_); replace hK := Lib.hid hK; subst hz; go_simp; generalize hz : Act.mk _ _ = z; refine hK.out z ?_; clear hK K) | (refine wpQuiet_step (fun K hK => ?_); replace hK := Lib.hid hK; subst hz; refine iteSkip (by kernel_rfl) ?_; go_simp; generalize hz : Act.mk _ _ = z; refine hK.out z ?_; clear hK K))
                refine wpQuiet_nil ?_
                subst hz
                try dsimp only [NoPan]
                go_wp2_with fail
                have hk := Hkk.out
                have hk2 := Hhlt.out
                exact ⟨⟨k + 1, x', by omega, by omega, by go_num, (H5.out.ext ((Ext.refl _ _).drew)).inv⟩, by simp [intOf]; omega⟩
      · have hlt' : (k : Int) < (acts.length : Int) := by omega
        have h100' : decide ((k : Int) < 100) = false := by simp; omega
        have Hx := Lib.hid hx
        go_wp2_with fail
        go_ret
        exact ⟨rfl, Hx.out⟩
    · have hlt' : decide ((k : Int) < (acts.length : Int)) = false := by simp; omega
      have Hx := Lib.hid hx
      go_wp2_with fail
      go_ret
      exact ⟨rfl, Hx.out⟩
end Go.Proofs.Ytlnfcliojefbfaa
