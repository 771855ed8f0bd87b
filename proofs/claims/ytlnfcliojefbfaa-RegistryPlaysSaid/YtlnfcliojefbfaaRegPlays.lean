/- RegistryPlays: what the statement's function computes; no condition. -/
import Derived.Test.YtlnfcliojefbfaaRegs
import Derived.Deep.DeepCutAuto
import Derived.Deep.CutBlock
namespace Go.Proofs.Ytlnfcliojefbfaa
set_option linter.unusedVariables false
set_option linter.unusedSimpArgs false
open Go.RowKit Go.ChangeShapes Go.WideShapes Go.ChangeAt

/-- Owned of one row that is the call's own. -/
theorem owned_one {w : World} {u : Value} {l : Bs} (h : OwnB w u l) : Calls Try.prog 23 #[.slice (some ⟨w.heap.size, 0, none⟩) 1 1] (w.alloc (.cells #[u] 23)) fun e w' => e = .returned (.bool true) ∧ Ext (fun b => u.ownBlock = some b) w w' := by
  have hx : Ext (fun _ => False) w (w.alloc (.cells #[u] 23)) := (Ext.refl _ _).alloc _
  have hr : Rows8 (w.alloc (.cells #[u] 23)) (.slice (some ⟨w.heap.size, 0, none⟩) 1 1) [u] := by
    refine ⟨⟨_, 1, rfl, Nat.le_refl _, fun _ => ⟨w.heap.size, 0, rfl, fun u' hu' e => ?_, fun i x hi => ?_⟩⟩, fun u' hu' => ?_, fun i j u1 u2 k h1 h2 _ _ => ?_⟩
    · simp at hu'
      subst hu'
      have := h.lt _ e
      omega
    · have : i = 0 := by have := (List.getElem?_eq_some_iff.1 hi).1; simp at this; exact this
      subst this
      simp at hi
      subst hi
      show (w.alloc (.cells #[u] 23)).cell? ⟨w.heap.size, 0 + 0 * 1, none⟩ = some u
      rw [cells_at (heap_alloc_self w _)]
      rfl
    · simp at hu'
      subst hu'
      exact h.capA.ext hx fun _ _ => id
    · have := (List.getElem?_eq_some_iff.1 h1).1
      have := (List.getElem?_eq_some_iff.1 h2).1
      simp at *
      omega
  refine (owned_walk hr (by simp)).mono fun e w' ⟨he, hx2⟩ => ⟨he, (hx.mono fun _ _ hf => hf.elim).trans' hx2 fun b ⟨u', hu', e⟩ => .inl (by simp at hu'; rw [← hu']; exact e)⟩

def Act3S (D : Nat → Prop) (w : World) (g n : Nat) (x : Act3) : Prop := Act3.Is D w g n x ∧ x.B.length ≤ 140737488351232
set_option maxRecDepth 100000 in
theorem opens_act3_s {H : Type} {enc : TypeId × Value → H} {W : World} {spare : Nat → Bool} {held : Bool} (fuel : Nat) (cs : List Value) (x : DataW H × List MemPlace) (g n : Nat)
    (h : DataW.trod enc Try.prog W 0 spare held fuel 28 cs = some x) (hs : Small Try.prog 28 x.1) (hl : cs.length = 4) (hat : ∀ j u, cs[j]? = some u → W.cell? ⟨g, n + j, none⟩ = some u) : ∃ d, Act3S (· < W.heap.size) W g n d := by
  match cs, hl with
  | [c0, c1, c2, c3], _ =>
    have ki : Try.prog.cellsOf 3 = 1 := by kernel_rfl
    have kb : Try.prog.cellsOf 23 = 1 := by kernel_rfl
    obtain ⟨_, _, h0⟩ := opens_field Try.underlying28 h 0 rfl ki
    obtain ⟨_, _, h1⟩ := opens_field Try.underlying28 h 1 rfl ki
    obtain ⟨_, _, h2, hs2⟩ := opens_field_s Try.underlying28 h hs 2 rfl kb
    obtain ⟨_, _, h3⟩ := opens_field Try.underlying28 h 3 rfl ki
    obtain ⟨q0, e0, _, _⟩ := DataW.trod_int Try.underlying3 h0
    obtain ⟨q1, e1, _, _⟩ := DataW.trod_int Try.underlying3 h1
    obtain ⟨v, l, e2, hb, hm⟩ := opens_byt_s Try.underlying23 Try.underlying5 (by kernel_rfl) (by kernel_rfl) h2 hs2
    obtain ⟨q3, e3, _, _⟩ := DataW.trod_int Try.underlying3 h3
    simp at e0 e1 e2 e3
    subst e0 e1 e2 e3
    exact ⟨⟨q0, q1, l, q3⟩, ⟨_, hat 0 _ rfl, hat 1 _ rfl, hat 2 _ rfl, hat 3 _ rfl, hb⟩, hm⟩

set_option maxRecDepth 100000 in
set_option maxHeartbeats 10000000 in
theorem regplays_walk {w : World} {av : Value} {acts : List Act3} (hA : Row (Act3S (· < w.heap.size)) 4 (· < w.heap.size) w av acts) (hl : acts.length ≤ 9223372036854775807) :
    Calls Try.prog 6 #[av] w fun e w' => e = .returned (.bool true) ∧ Ext (fun _ => False) w w' := by
  obtain ⟨A, c, hav, hcap, hrow⟩ := id hA
  subst hav
  go_enter Try.func6, Try.ntmps6
  go_wp2_with fail
  refine (reg_small _).mono ?_
  rintro e w1 ⟨rfl, hx1⟩
  go_wp2_with fail
  refine (reg_new _).mono ?_
  rintro e w2 ⟨a, F2, rfl, hR2, hx2, hF2⟩
  go_wp2_with fail
  refine (regs_new w hR2 (hx1.trans hx2) (fun k hk => Nat.le_trans hx1.size (hF2 k hk))).mono ?_
  rintro e w3 ⟨a', rfl, h3⟩
  clear hR2 hx2 hF2 hx1
  go_wp2_with fail
  go_loopw [4, 6] (fun r i W => ∃ (k a : Nat) (L : List (Int × Bs)), k ≤ acts.length ∧ k ≤ 150 ∧ i = .int .i64 k ∧ r = .pointer (some ⟨a, 0, none⟩) ∧ Regs w (fun _ => False) w3 W a a' L L ∧ Good L ∧ L.length ≤ k)
    (fun _ i _ => 150 - (intOf i).toNat)
  case atStart => exact ⟨0, a, [], by omega, by omega, rfl, rfl, h3, Good.nil, by simp⟩
  case round =>
    clear h3
    obtain ⟨k, a, L, hk, hk1, rfl, rfl, hT, hG, hLk⟩ := hrel
    have hx := hT.old
    by_cases hlt : k < acts.length
    · by_cases h150 : k < 150
      · obtain ⟨g, off, c', hav, hdb, ⟨bv, c0, c1, c2, c3, hb⟩, hBs⟩ := hA.at hlt
        replace c0 := cell_same c0 hx
        replace c1 := cell_same c1 hx
        replace c2 := cell_same c2 hx
        replace c3 := cell_same c3 hx
        obtain ⟨rfl, rfl⟩ : A = some ⟨g, off, none⟩ ∧ c = c' := by simpa using hav
        clear hav
        have hgl := hx.size
        have hgl' : g < wr.heap.size := by omega
        obtain ⟨bA, bc, rfl, _, _⟩ := id hb
        have hlt' : (k : Int) < (acts.length : Int) := by omega
        have h150' : decide ((k : Int) < 150) = true := by simp; omega
        generalize acts[k] = act at *
        go_wp2_with fail
        have hob := heap_alloc_self wr (Obj.cells #[.int .i64 act.Do, .int .i64 act.Who, .slice bA act.B.length bc, .int .i64 act.N] 28)
        have hH := hT.more (w1 := wr.alloc (Obj.cells #[.int .i64 act.Do, .int .i64 act.Who, .slice bA act.B.length bc, .int .i64 act.N] 28)) ((Ext.refl _ _).alloc _)
        have hsz : wr.heap.size < (wr.alloc (Obj.cells #[.int .i64 act.Do, .int .i64 act.Who, .slice bA act.B.length bc, .int .i64 act.N] 28)).heap.size := lt_of_heap hob
        generalize wr.alloc (Obj.cells #[.int .i64 act.Do, .int .i64 act.Who, .slice bA act.B.length bc, .int .i64 act.N] 28) = W0 at hob hH hsz ⊢
        generalize wr.heap.size = b7 at hob hH hsz ⊢
        have hb0 := hb.same hH.old
        clear c0 c1 c2 c3 hlt' h150' hgl hgl' hT
        refine (lent_walk hb0 (by omega)).mono ?_
        rintro e w4 ⟨rfl, hl4, hx4, hs4⟩
        have hH4 := hH.more hx4
        have hal4 : W0.heap.size < w4.heap.size := by omega
        have ho4 := hx4.heap hob id
        have hsz0 := hH.old.size
        have hgB : ((False ∨ b7 ≤ W0.heap.size ∧ W0.heap.size < W0.heap.size) ∨ W0.heap.size ≤ W0.heap.size ∧ W0.heap.size < w4.heap.size) := .inr ⟨Nat.le_refl _, hal4⟩
        have hbB : ((False ∨ b7 ≤ b7 ∧ b7 < W0.heap.size) ∨ W0.heap.size ≤ b7 ∧ b7 < w4.heap.size) := .inl (.inr ⟨Nat.le_refl _, hsz⟩)
        generalize W0.heap.size = b8 at *
        have Hbs := Lib.hid (And.intro hb hBs)
        have Hkk := Lib.hid (And.intro (And.intro hk hk1) (And.intro (And.intro hlt h150) (And.intro hG hLk)))
        have HA := Lib.hid hA
        have H4 := Lib.hid (And.intro hH4 (And.intro hl4 ho4))
        have HB := Lib.hid (And.intro hgB hbB)
        have k0 : w4.cell? ⟨b7, 0, none⟩ = some (.int .i64 act.Do) := cells_at ho4 0
        have k1 : w4.cell? ⟨b7, 1, none⟩ = some (.int .i64 act.Who) := cells_at ho4 1
        have k2 : w4.cell? ⟨b7, 2, none⟩ = some (.slice bA act.B.length bc) := cells_at ho4 2
        have k3 : w4.cell? ⟨b7, 3, none⟩ = some (.int .i64 act.N) := cells_at ho4 3
        have hal7 := lt_of_heap ho4
        clear hk hk1 hlt h150 hG hLk hA hb hBs hb0 hob hH hx hx4 hs4 hH4 hl4 ho4 hsz hgB hbB hal4
        go_upto_block 2 with (fail)
        go_cut [4] (fun r W => ∃ (a : Nat) (L : List (Int × Bs)), r = .pointer (some ⟨a, 0, none⟩) ∧ Regs w (fun b => (False ∨ b7 ≤ b ∧ b < b8) ∨ b8 ≤ b ∧ b < w4.heap.size) w4 W a a' L L ∧ Good L ∧ L.length ≤ k + 1)
        case first =>
          have hlo : act.B.length + 1 ≤ 9223372036854775807 := by have := Hbs.out.2; omega
          have Hlo := Lib.hid hlo
          have hd := fun (W : World) => (Ext.refl (fun _ => False) W).drew
          have hnew := fun (m : List (Int × Bs)) (hm : m.length ≤ k) => (by have := Hkk.out; omega : m.length < 1073741824)
          have Hnew := Lib.hid hnew
          clear hlo hnew
          by_cases d0 : act.Do = 0
          · have d0' : (act.Do == 0) = true := by simpa using d0
            clear d0
            go_wp2_with fail
            refine wp_region_bar (Cls [b7] _) [([0, 1, 2, 3, 5, 6, 7, 8, 9], 4)] [] 10 [] [11] (by kernel_rfl) (by kernel_rfl) (Cls.refl _ _) ?_
            try dsimp only [wpMix, wpSegs, pick, List.getElem?_cons_zero, List.getElem?_cons_succ]
            generalize hz : Act.mk _ _ = z
            repeat (first | (refine wpQuiet_step (fun K hK => ?_); replace hK := Lib.hid hK; subst hz; go_simp; generalize hz : Act.mk _ _ = z; refine hK.out z ?_; clear hK K) | (refine wpQuiet_step (fun K hK => ?_); replace hK := Lib.hid hK; subst hz; refine iteSkip (by kernel_rfl) ?_; go_simp; generalize hz : Act.mk _ _ = z; refine hK.out z ?_; clear hK K))
            refine wpQuiet_nil ?_
            subst hz
            try dsimp only [NoPan]
            go_wp2_with fail
            refine (regs_sign (H4.out.1.ext (hd _)) act.Who ((H4.out.2.1.ext (hd _) id).byt Hlo.out) (Hnew.out _ Hkk.out.2.2.2)).mono ?_
            rintro e w5 ⟨rfl, h5⟩
            have H5 := Lib.hid h5
            clear h5
            go_wp2_with fail
            refine ⟨Cls.mk fun b hb => ?_, ?_⟩
            · simp at hb
              subst hb
              exact H5.out.at HB.out.2
            try dsimp only [wpMix, wpSegs, pick, List.getElem?_cons_zero, List.getElem?_cons_succ]
            generalize hz : Act.mk _ _ = z
            repeat (first | (refine wpQuiet_step (fun K hK => ?_); replace hK := Lib.hid hK; subst hz; go_simp; generalize hz : Act.mk _ _ = z; refine hK.out z ?_; clear hK K) | (refine wpQuiet_step (fun K hK => ?_); replace hK := Lib.hid hK; subst hz; refine iteSkip (by kernel_rfl) ?_; go_simp; generalize hz : Act.mk _ _ = z; refine hK.out z ?_; clear hK K))
            refine wpQuiet_nil ?_
            subst hz
            try dsimp only [NoPan]
            go_wp2_with fail
            refine (doc_sign H5.out act.Who (Hbs.out.1.same H5.out.old) (fun _ h => h) (Hnew.out _ Hkk.out.2.2.2)).mono ?_
            rintro e w6 ⟨rfl, h6⟩
            have H6 := Lib.hid h6
            clear h6
            go_wp2_with fail
            try dsimp only [wpMix, wpSegs, pick, List.getElem?_cons_zero, List.getElem?_cons_succ]
            generalize hz : Act.mk _ _ = z
            repeat (first | (refine wpQuiet_step (fun K hK => ?_); replace hK := Lib.hid hK; subst hz; go_simp; generalize hz : Act.mk _ _ = z; refine hK.out z ?_; clear hK K) | (refine wpQuiet_step (fun K hK => ?_); replace hK := Lib.hid hK; subst hz; refine iteSkip (by kernel_rfl) ?_; go_simp; generalize hz : Act.mk _ _ = z; refine hK.out z ?_; clear hK K))
            refine wpQuiet_nil ?_
            subst hz
            try dsimp only [NoPan]
            go_wp2_with fail
            go_meet
            case rel => exact ⟨_, _, rfl, H6.out, Hkk.out.2.2.1.sign _ _, Nat.le_trans (signL_le _ _ _) (Nat.succ_le_succ Hkk.out.2.2.2)⟩
          have d0' : (act.Do == 0) = false := by simpa using d0
          by_cases d1 : act.Do = 1
          · have d1' : (act.Do == 1) = true := by simpa using d1
            clear d0 d1
            go_wp2_with fail
            refine wp_region_bar (Cls [b7] _) [([0, 1, 2, 3, 5, 6, 7, 8, 9], 4)] [] 10 [] [11] (by kernel_rfl) (by kernel_rfl) (Cls.refl _ _) ?_
            try dsimp only [wpMix, wpSegs, pick, List.getElem?_cons_zero, List.getElem?_cons_succ]
            generalize hz : Act.mk _ _ = z
            repeat (first | (refine wpQuiet_step (fun K hK => ?_); replace hK := Lib.hid hK; subst hz; go_simp; generalize hz : Act.mk _ _ = z; refine hK.out z ?_; clear hK K) | (refine wpQuiet_step (fun K hK => ?_); replace hK := Lib.hid hK; subst hz; refine iteSkip (by kernel_rfl) ?_; go_simp; generalize hz : Act.mk _ _ = z; refine hK.out z ?_; clear hK K))
            refine wpQuiet_nil ?_
            subst hz
            try dsimp only [NoPan]
            go_wp2_with fail
            refine (regs_knows (H4.out.1.ext (hd _)) act.Who ((H4.out.2.1.ext (hd _) id).byt Hlo.out)).mono ?_
            rintro e w5 ⟨rfl, hx5⟩
            have H5 := Lib.hid ((H4.out.1.ext (hd _)).ext hx5)
            have Hx5 := Lib.hid hx5
            clear hx5
            go_wp2_with fail
            refine ⟨Cls.mk fun b hb => ?_, ?_⟩
            · simp at hb
              subst hb
              exact H5.out.at HB.out.2
            try dsimp only [wpMix, wpSegs, pick, List.getElem?_cons_zero, List.getElem?_cons_succ]
            generalize hz : Act.mk _ _ = z
            repeat (first | (refine wpQuiet_step (fun K hK => ?_); replace hK := Lib.hid hK; subst hz; go_simp; generalize hz : Act.mk _ _ = z; refine hK.out z ?_; clear hK K) | (refine wpQuiet_step (fun K hK => ?_); replace hK := Lib.hid hK; subst hz; refine iteSkip (by kernel_rfl) ?_; go_simp; generalize hz : Act.mk _ _ = z; refine hK.out z ?_; clear hK K))
            refine wpQuiet_nil ?_
            subst hz
            try dsimp only [NoPan]
            go_wp2_with fail
            refine (doc_knows H5.out act.Who (Hbs.out.1.same H5.out.old) (Hnew.out _ Hkk.out.2.2.2)).mono ?_
            rintro e w6 ⟨rfl, hx6⟩
            have H6 := Lib.hid (H5.out.ext hx6)
            clear hx6
            go_wp2_with fail
            try dsimp only [wpMix, wpSegs, pick, List.getElem?_cons_zero, List.getElem?_cons_succ]
            generalize hz : Act.mk _ _ = z
            repeat (first | (refine wpQuiet_step (fun K hK => ?_); replace hK := Lib.hid hK; subst hz; go_simp; generalize hz : Act.mk _ _ = z; refine hK.out z ?_; clear hK K) | (refine wpQuiet_step (fun K hK => ?_); replace hK := Lib.hid hK; subst hz; refine iteSkip (by kernel_rfl) ?_; go_simp; generalize hz : Act.mk _ _ = z; refine hK.out z ?_; clear hK K))
            refine wpQuiet_nil ?_
            subst hz
            try dsimp only [NoPan]
            go_wp2_with fail
            go_meet
            case rel => exact ⟨_, _, rfl, H6.out, Hkk.out.2.2.1, Nat.le_succ_of_le Hkk.out.2.2.2⟩
          have d1' : (act.Do == 1) = false := by simpa using d1
          by_cases d2 : act.Do = 2
          · have d2' : (act.Do == 2) = true := by simpa using d2
            clear d0 d1 d2
            have hby := Hkk.out.2.2.1.by_len act.Who
            have hnl := Hnew.out _ Hkk.out.2.2.2
            have Hby := Lib.hid (And.intro hby hnl)
            have hll : (byL act.Who L).length ≤ 9223372036854775807 := by have := byL_le act.Who L; omega
            have Hll := Lib.hid hll
            clear hby hnl hll
            go_wp2_with fail
            refine (regs_by H4.out.1 act.Who Hby.out.1 Hby.out.2).mono ?_
            rintro e w5 ⟨v5, vs5, rfl, hO5, hx5⟩
            obtain ⟨A5, c5, rfl⟩ := hO5.form
            have m1 := cell_same k1 hx5
            have H5 := Lib.hid (And.intro (H4.out.1.ext hx5) (And.intro hO5 hx5))
            clear hO5 hx5
            go_wp2_with fail
            refine (doc_by H5.out.1 act.Who Hby.out.1 Hby.out.2).mono ?_
            rintro e w6 ⟨v6, vs6, rfl, hO6, hx6⟩
            obtain ⟨A6, c6, rfl⟩ := hO6.form
            have H6 := Lib.hid (And.intro hO6 hx6)
            clear hO6 hx6 m1
            go_wp2_with fail
            refine (same_rows (H5.out.2.1.same H6.out.2) H6.out.1 Hll.out).mono ?_
            rintro e w7 ⟨rfl, hx7⟩
            have H7 := Lib.hid hx7
            clear hx7
            go_wp2_with fail
            refine (owned_walk ((H5.out.2.1.same H6.out.2).same H7.out).rows8 (by rw [H5.out.2.1.len]; exact Hll.out)).mono ?_
            rintro e w8 ⟨rfl, hx8o⟩
            have hx8 : Ext (fun _ => False) w4 w8 := (H5.out.2.2.trans (H6.out.2.trans H7.out)).trans' hx8o fun b ⟨u, hu, e⟩ => by
              obtain ⟨i, hi, he⟩ := List.mem_iff_getElem.1 hu
              exact .inr (H5.out.2.1.from_ i u b (by rw [List.getElem?_eq_getElem hi, he]) e)
            have m8 := cell_same k1 hx8
            have h8s := hx8.size
            have hal8 : b7 < w8.heap.size := by omega
            have H8 := Lib.hid (H4.out.1.ext hx8)
            have Hx8 := Lib.hid hx8
            clear hx8 hx8o h8s
            go_wp2_with fail
            refine wp_region_bar (Cls [b7] _) [([0, 1, 2, 3, 4, 5, 6, 7, 8, 9, 11, 12, 13], 10), ([], 14)] [] 15 [] [16, 17] (by kernel_rfl) (by kernel_rfl) (Cls.refl _ _) ?_
            try dsimp only [wpMix, wpSegs, pick, List.getElem?_cons_zero, List.getElem?_cons_succ]
            generalize hz : Act.mk _ _ = z
            repeat (first | (refine wpQuiet_step (fun K hK => ?_); replace hK := Lib.hid hK; subst hz; go_simp; generalize hz : Act.mk _ _ = z; refine hK.out z ?_; clear hK K) | (refine wpQuiet_step (fun K hK => ?_); replace hK := Lib.hid hK; subst hz; refine iteSkip (by kernel_rfl) ?_; go_simp; generalize hz : Act.mk _ _ = z; refine hK.out z ?_; clear hK K))
            refine wpQuiet_nil ?_
            subst hz
            try dsimp only [NoPan]
            go_wp2_with fail
            refine (regs_by (H8.out.ext (hd _)) act.Who Hby.out.1 Hby.out.2).mono ?_
            rintro e w9 ⟨v9, vs9, rfl, hO9, hx9⟩
            obtain ⟨A9, c9, rfl⟩ := hO9.form
            have H9 := Lib.hid (And.intro ((H8.out.ext (hd _)).ext hx9) (And.intro hO9 hx9))
            have hs9 := hx9.size
            have hal9 : b7 < w9.heap.size := by simp at hs9; omega
            have hcl9 : Cls [b7] w8.drew w9 := (Cls.refl _ _).old hx9 (by simp; exact hal8)
            clear hO9 hx9 hs9
            go_wp2_with fail
            refine ⟨hcl9, ?_⟩
            try dsimp only [wpMix, wpSegs, pick, List.getElem?_cons_zero, List.getElem?_cons_succ]
            generalize hz : Act.mk _ _ = z
            repeat (first | (refine wpQuiet_step (fun K hK => ?_); replace hK := Lib.hid hK; subst hz; go_simp; generalize hz : Act.mk _ _ = z; refine hK.out z ?_; clear hK K) | (refine wpQuiet_step (fun K hK => ?_); replace hK := Lib.hid hK; subst hz; refine iteSkip (by kernel_rfl) ?_; go_simp; generalize hz : Act.mk _ _ = z; refine hK.out z ?_; clear hK K))
            refine wpQuiet_nil ?_
            subst hz
            try dsimp only [NoPan]
            go_wp2_with fail
            refine (doc_by H9.out.1 act.Who Hby.out.1 Hby.out.2).mono ?_
            rintro e w10 ⟨v10, vs10, rfl, hO10, hx10⟩
            obtain ⟨A10, c10, rfl⟩ := hO10.form
            have H10 := Lib.hid (And.intro hO10 hx10)
            have hcl10 : Cls [b7] w8.drew w10 := hcl9.old hx10 (by simp; exact hal9)
            clear hO10 hx10
            go_wp2_with fail
            refine ⟨hcl10, ?_⟩
            try dsimp only [wpMix, wpSegs, pick, List.getElem?_cons_zero, List.getElem?_cons_succ]
            generalize hz : Act.mk _ _ = z
            repeat (first | (refine wpQuiet_step (fun K hK => ?_); replace hK := Lib.hid hK; subst hz; go_simp; generalize hz : Act.mk _ _ = z; refine hK.out z ?_; clear hK K) | (refine wpQuiet_step (fun K hK => ?_); replace hK := Lib.hid hK; subst hz; refine iteSkip (by kernel_rfl) ?_; go_simp; generalize hz : Act.mk _ _ = z; refine hK.out z ?_; clear hK K))
            refine wpQuiet_nil ?_
            subst hz
            try dsimp only [NoPan]
            go_wp2_with fail
            refine (same_rows (H9.out.2.1.same H10.out.2) H10.out.1 Hll.out).mono ?_
            rintro e w11 ⟨rfl, hx11⟩
            have H11 := Lib.hid hx11
            clear hx11 hcl9 hcl10
            go_wp2_with fail
            try dsimp only [wpMix, wpSegs, pick, List.getElem?_cons_zero, List.getElem?_cons_succ]
            generalize hz : Act.mk _ _ = z
            repeat (first | (refine wpQuiet_step (fun K hK => ?_); replace hK := Lib.hid hK; subst hz; go_simp; generalize hz : Act.mk _ _ = z; refine hK.out z ?_; clear hK K) | (refine wpQuiet_step (fun K hK => ?_); replace hK := Lib.hid hK; subst hz; refine iteSkip (by kernel_rfl) ?_; go_simp; generalize hz : Act.mk _ _ = z; refine hK.out z ?_; clear hK K))
            refine wpQuiet_nil ?_
            subst hz
            try dsimp only [NoPan]
            go_wp2_with fail
            go_meet
            case rel => exact ⟨_, _, rfl, (H9.out.1.ext H10.out.2).ext H11.out, Hkk.out.2.2.1, Nat.le_succ_of_le Hkk.out.2.2.2⟩
          have d2' : (act.Do == 2) = false := by simpa using d2
          by_cases d3 : act.Do = 3
          · have d3' : (act.Do == 3) = true := by simpa using d3
            clear d0 d1 d2 d3
            go_wp2_with fail
            refine (regs_copy H4.out.1 (Hnew.out _ Hkk.out.2.2.2)).mono ?_
            rintro e w5 ⟨a2, rfl, h5⟩
            have m1 : w5.cell? ⟨b7, 1, none⟩ = some (.int .i64 act.Who) := cells_at ((h5.at HB.out.2).trans H4.out.2.2) 1
            have hl5 := H4.out.2.1.same (h5.at HB.out.1)
            have H5 := Lib.hid (And.intro h5 hl5)
            clear h5 hl5
            go_wp2_with fail
            refine (copied_sign H5.out.1 act.Who (H5.out.2.byt Hlo.out) (Hnew.out _ Hkk.out.2.2.2)).mono ?_
            rintro e w6 ⟨rfl, h6⟩
            have H6 := Lib.hid h6
            clear h6
            go_wp2_with fail
            go_meet
            case rel => exact ⟨_, _, rfl, H6.out, Hkk.out.2.2.1, Nat.le_succ_of_le Hkk.out.2.2.2⟩
          have d3' : (act.Do == 3) = false := by simpa using d3
          by_cases d4 : act.Do = 4
          · have d4' : (act.Do == 4) = true := by simpa using d4
            clear d0 d1 d2 d3 d4
            have hby := Hkk.out.2.2.1.by_len act.Who
            have hnl := Hnew.out _ Hkk.out.2.2.2
            have Hby := Lib.hid (And.intro hby hnl)
            clear hby hnl
            go_wp2_with fail
            refine (regs_text H4.out.1 act.Who act.N Hby.out.1).mono ?_
            rintro e w5 ⟨hx5, hcase5⟩
            have m1 := cell_same k1 hx5
            have m3 := cell_same k3 hx5
            have Hx5 := Lib.hid hx5
            have H5 := Lib.hid (H4.out.1.ext hx5)
            clear hx5
            rcases hcase5 with ⟨v5, l5, hn0, hl5, rfl, hown5, hnew5⟩ | ⟨hn5, rfl⟩
            · obtain ⟨A5, c5, rfl, _, _⟩ := id hown5.byt
              have Hn5 := Lib.hid hnew5
              have Hl5 := Lib.hid (And.intro hn0 hl5)
              have Ho5 := Lib.hid hown5
              clear hown5 hnew5 hn0 hl5
              go_wp2_with fail
              refine (doc_text H5.out act.Who act.N Hby.out.1 Hby.out.2).mono ?_
              rintro e w6 ⟨hx6, hcase6⟩
              rcases hcase6 with ⟨v6, l6, _, hl6, rfl, hown6, _⟩ | ⟨hn6, _⟩
              · obtain rfl : l5 = l6 := Option.some.inj (Hl5.out.2.symm.trans hl6)
                have hown5 := Ho5.out.ext hx6 fun _ _ => id
                obtain ⟨A6, c6, rfl, _, _⟩ := id hown6.byt
                have hcv5 := hown5.byt.conv 23 5 9 Try.underlying23 Try.underlying5 Try.underlying9 w6 rfl
                have hcv6 := hown6.byt.conv 23 5 9 Try.underlying23 Try.underlying5 Try.underlying9 w6 rfl
                have Hx6 := Lib.hid hx6
                have Ho6 := Lib.hid hown5
                clear hx6 hown5 hown6 hl6
                go_wp2_with fail
                refine (owned_one Ho6.out).mono ?_
                rintro e w7 ⟨rfl, hx7o⟩
                have hx7 : Ext (fun _ => False) w4 w7 := (Hx5.out.trans Hx6.out).trans' hx7o fun b e => .inr (Hn5.out b e)
                have p1 := cell_same k1 hx7
                have h7s := hx7.size
                have hal7' : b7 < w7.heap.size := by omega
                have H7 := Lib.hid (H4.out.1.ext hx7)
                clear hx7 hx7o h7s
                go_wp2_with fail
                refine wp_region_mix (Cls [b7] _) [([0, 1, 2, 3, 4, 5, 6, 7, 8, 9, 10, 12, 13, 14], 11), ([], 15)] [16, 17, 18] (by kernel_rfl) (by kernel_rfl) (Cls.refl _ _) ?_
                try dsimp only [wpMix, wpSegs, pick, List.getElem?_cons_zero, List.getElem?_cons_succ]
                generalize hz : Act.mk _ _ = z
                repeat (first | (refine wpQuiet_step (fun K hK => ?_); replace hK := Lib.hid hK; subst hz; go_simp; generalize hz : Act.mk _ _ = z; refine hK.out z ?_; clear hK K) | (refine wpQuiet_step (fun K hK => ?_); replace hK := Lib.hid hK; subst hz; refine iteSkip (by kernel_rfl) ?_; go_simp; generalize hz : Act.mk _ _ = z; refine hK.out z ?_; clear hK K))
                refine wpQuiet_nil ?_
                subst hz
                try dsimp only [NoPan]
                go_wp2_with fail
                refine (regs_many (H7.out.ext (hd _)) act.Who).mono ?_
                rintro e _ ⟨rfl, rfl⟩
                go_wp2_with fail
                refine ⟨Cls.refl _ _, ?_⟩
                try dsimp only [wpMix, wpSegs, pick, List.getElem?_cons_zero, List.getElem?_cons_succ]
                generalize hz : Act.mk _ _ = z
                repeat (first | (refine wpQuiet_step (fun K hK => ?_); replace hK := Lib.hid hK; subst hz; go_simp; generalize hz : Act.mk _ _ = z; refine hK.out z ?_; clear hK K) | (refine wpQuiet_step (fun K hK => ?_); replace hK := Lib.hid hK; subst hz; refine iteSkip (by kernel_rfl) ?_; go_simp; generalize hz : Act.mk _ _ = z; refine hK.out z ?_; clear hK K))
                refine wpQuiet_nil ?_
                subst hz
                try dsimp only [NoPan]
                go_wp2_with fail
                refine (doc_by (H7.out.ext (hd _)) act.Who Hby.out.1 Hby.out.2).mono ?_
                rintro e w9 ⟨v9, vs9, rfl, hO9, hx9⟩
                obtain ⟨A9, c9, rfl⟩ := hO9.form
                have H9 := Lib.hid ((H7.out.ext (hd _)).ext hx9)
                have hcl9 : Cls [b7] w7.drew w9 := (Cls.refl _ _).old hx9 (by simp; exact hal7')
                clear hO9 hx9
                go_wp2_with fail
                refine ⟨hcl9, ?_⟩
                try dsimp only [wpMix, wpSegs, pick, List.getElem?_cons_zero, List.getElem?_cons_succ]
                generalize hz : Act.mk _ _ = z
                repeat (first | (refine wpQuiet_step (fun K hK => ?_); replace hK := Lib.hid hK; subst hz; go_simp; generalize hz : Act.mk _ _ = z; refine hK.out z ?_; clear hK K) | (refine wpQuiet_step (fun K hK => ?_); replace hK := Lib.hid hK; subst hz; refine iteSkip (by kernel_rfl) ?_; go_simp; generalize hz : Act.mk _ _ = z; refine hK.out z ?_; clear hK K))
                refine wpQuiet_nil ?_
                subst hz
                try dsimp only [NoPan]
                go_wp2_with fail
                go_meet
                case rel => exact ⟨_, _, rfl, H9.out, Hkk.out.2.2.1, Nat.le_succ_of_le Hkk.out.2.2.2⟩
              · have := (List.getElem?_eq_some_iff.1 Hl5.out.2).1
                have := Hl5.out.1
                omega
            · have Hn5 := Lib.hid (show ∀ k, (Value.slice none 0 0).ownBlock = some k → w4.heap.size ≤ k from fun k hk => by cases hk)
              have Hl5 := Lib.hid hn5
              clear hn5
              go_wp2_with fail
              refine (doc_text H5.out act.Who act.N Hby.out.1 Hby.out.2).mono ?_
              rintro e w6 ⟨hx6, hcase6⟩
              rcases hcase6 with ⟨v6, l6, hn6, hl6, _, _, _⟩ | ⟨hn6, rfl⟩
              · have := (List.getElem?_eq_some_iff.1 hl6).1
                have := Hl5.out
                omega
              · have hown5 : OwnB w6 (.slice none 0 0) [] := .inl ⟨rfl, rfl⟩
                have hcv5 := hown5.byt.conv 23 5 9 Try.underlying23 Try.underlying5 Try.underlying9 w6 rfl
                have Hx6 := Lib.hid hx6
                have Ho6 := Lib.hid hown5
                clear hx6 hown5 hn6
                go_wp2_with fail
                refine (owned_one Ho6.out).mono ?_
                rintro e w7 ⟨rfl, hx7o⟩
                have hx7 : Ext (fun _ => False) w4 w7 := (Hx5.out.trans Hx6.out).trans' hx7o fun b e => .inr (Hn5.out b e)
                have p1 := cell_same k1 hx7
                have h7s := hx7.size
                have hal7' : b7 < w7.heap.size := by omega
                have H7 := Lib.hid (H4.out.1.ext hx7)
                clear hx7 hx7o h7s
                go_wp2_with fail
                refine wp_region_mix (Cls [b7] _) [([0, 1, 2, 3, 4, 5, 6, 7, 8, 9, 10, 12, 13, 14], 11), ([], 15)] [16, 17, 18] (by kernel_rfl) (by kernel_rfl) (Cls.refl _ _) ?_
                try dsimp only [wpMix, wpSegs, pick, List.getElem?_cons_zero, List.getElem?_cons_succ]
                generalize hz : Act.mk _ _ = z
                repeat (first | (refine wpQuiet_step (fun K hK => ?_); replace hK := Lib.hid hK; subst hz; go_simp; generalize hz : Act.mk _ _ = z; refine hK.out z ?_; clear hK K) | (refine wpQuiet_step (fun K hK => ?_); replace hK := Lib.hid hK; subst hz; refine iteSkip (by kernel_rfl) ?_; go_simp; generalize hz : Act.mk _ _ = z; refine hK.out z ?_; clear hK K))
                refine wpQuiet_nil ?_
                subst hz
                try dsimp only [NoPan]
                go_wp2_with fail
                refine (regs_many (H7.out.ext (hd _)) act.Who).mono ?_
                rintro e _ ⟨rfl, rfl⟩
                go_wp2_with fail
                refine ⟨Cls.refl _ _, ?_⟩
                try dsimp only [wpMix, wpSegs, pick, List.getElem?_cons_zero, List.getElem?_cons_succ]
                generalize hz : Act.mk _ _ = z
                repeat (first | (refine wpQuiet_step (fun K hK => ?_); replace hK := Lib.hid hK; subst hz; go_simp; generalize hz : Act.mk _ _ = z; refine hK.out z ?_; clear hK K) | (refine wpQuiet_step (fun K hK => ?_); replace hK := Lib.hid hK; subst hz; refine iteSkip (by kernel_rfl) ?_; go_simp; generalize hz : Act.mk _ _ = z; refine hK.out z ?_; clear hK K))
                refine wpQuiet_nil ?_
                subst hz
                try dsimp only [NoPan]
                go_wp2_with fail
                refine (doc_by (H7.out.ext (hd _)) act.Who Hby.out.1 Hby.out.2).mono ?_
                rintro e w9 ⟨v9, vs9, rfl, hO9, hx9⟩
                obtain ⟨A9, c9, rfl⟩ := hO9.form
                have H9 := Lib.hid ((H7.out.ext (hd _)).ext hx9)
                have hcl9 : Cls [b7] w7.drew w9 := (Cls.refl _ _).old hx9 (by simp; exact hal7')
                clear hO9 hx9
                go_wp2_with fail
                refine ⟨hcl9, ?_⟩
                try dsimp only [wpMix, wpSegs, pick, List.getElem?_cons_zero, List.getElem?_cons_succ]
                generalize hz : Act.mk _ _ = z
                repeat (first | (refine wpQuiet_step (fun K hK => ?_); replace hK := Lib.hid hK; subst hz; go_simp; generalize hz : Act.mk _ _ = z; refine hK.out z ?_; clear hK K) | (refine wpQuiet_step (fun K hK => ?_); replace hK := Lib.hid hK; subst hz; refine iteSkip (by kernel_rfl) ?_; go_simp; generalize hz : Act.mk _ _ = z; refine hK.out z ?_; clear hK K))
                refine wpQuiet_nil ?_
                subst hz
                try dsimp only [NoPan]
                go_wp2_with fail
                go_meet
                case rel => exact ⟨_, _, rfl, H9.out, Hkk.out.2.2.1, Nat.le_succ_of_le Hkk.out.2.2.2⟩
          have d4' : (act.Do == 4) = false := by simpa using d4
          clear d0 d1 d2 d3 d4
          go_wp2_with fail
          go_meet
          case rel => exact ⟨_, _, rfl, H4.out.1, Hkk.out.2.2.1, Nat.le_succ_of_le Hkk.out.2.2.2⟩
        case rest =>
          obtain ⟨a2, L2, rfl, h2, hG2, hL2⟩ := hcut
          have m2 : wc.cell? ⟨b7, 2, none⟩ = some (.slice bA act.B.length bc) := cells_at ((h2.at HB.out.2).trans H4.out.2.2) 2
          have hl2 := H4.out.2.1.same (h2.at HB.out.1)
          have hal2 := h2.lt HB.out.2
          have H2 := Lib.hid (And.intro h2 hl2)
          have HG2 := Lib.hid (And.intro hG2 hL2)
          clear h2 hl2 hG2 hL2 k0 k1 k2 k3
          go_wp2_with fail
          refine (kept_walk H2.out.2 (Hbs.out.1.same H2.out.1.old) (by have := Hbs.out.2; omega)).mono ?_
          rintro e w7 ⟨rfl, hx7⟩
          have hl7 := H2.out.2.ext hx7 id
          have H7 := Lib.hid (And.intro (H2.out.1.ext hx7) (hl7.own (by have := Hbs.out.2; omega)))
          clear hx7 hl7
          go_wp2_with fail
          refine (owned_one H7.out.2).mono ?_
          rintro e w8 ⟨rfl, hx8⟩
          have h8 : Regs w (fun _ => False) w3 w8 a2 a' L2 L2 :=
            H7.out.1.scribble (g := b8) (hx8.mono fun b _ e => by simpa [Value.ownBlock, eq_comm] using e) HB.out.1 (fun b hb => hb.elim) hsz0
          obtain ⟨FA, FB, h8'⟩ := id h8
          obtain ⟨ov, hov⟩ := id h8'.doc
          obtain ⟨rA, rc, rfl, _⟩ := hov.pairs
          have q0 : w8.cell? ⟨a', 0, none⟩ = some (.slice rA L2.length rc) := cells_at hov.obj 0
          have hala := lt_of_heap hov.obj
          have H8 := Lib.hid h8
          clear h8 h8' hx8 hov
          go_wp2_with fail
          refine wp_region_mix (Cls [a'] _) [([0, 1, 2, 3, 5, 6, 7, 8, 9], 4)] [10, 11] (by kernel_rfl) (by kernel_rfl) (Cls.refl _ _) ?_
          try dsimp only [wpMix, wpSegs, pick, List.getElem?_cons_zero, List.getElem?_cons_succ]
          generalize hz : Act.mk _ _ = z
          repeat (first | (refine wpQuiet_step (fun K hK => ?_); replace hK := Lib.hid hK; subst hz; go_simp; generalize hz : Act.mk _ _ = z; refine hK.out z ?_; clear hK K) | (refine wpQuiet_step (fun K hK => ?_); replace hK := Lib.hid hK; subst hz; refine iteSkip (by kernel_rfl) ?_; go_simp; generalize hz : Act.mk _ _ = z; refine hK.out z ?_; clear hK K))
          refine wpQuiet_nil ?_
          subst hz
          try dsimp only [NoPan]
          go_wp2_with fail
          refine (regs_count (H8.out.ext ((Ext.refl _ _).drew))).mono ?_
          rintro e _ ⟨rfl, rfl⟩
          go_wp2_with fail
          refine ⟨Cls.refl _ _, ?_⟩
          have hk := Hkk.out.1
          have hk2 := Hkk.out.2.1
          try dsimp only [wpMix, wpSegs, pick, List.getElem?_cons_zero, List.getElem?_cons_succ]
          generalize hz : Act.mk _ _ = z
          repeat (first | (refine wpQuiet_step (fun K hK => ?_); replace hK := Lib.hid hK; subst hz; go_simp; generalize hz : Act.mk _ _ = z; refine hK.out z ?_; clear hK K) | (refine wpQuiet_step (fun K hK => ?_); replace hK := Lib.hid hK; subst hz; refine iteSkip (by kernel_rfl) ?_; go_simp; generalize hz : Act.mk _ _ = z; refine hK.out z ?_; clear hK K))
          refine wpQuiet_nil ?_
          subst hz
          try dsimp only [NoPan]
          go_wp2_with fail
          have hL2 := HG2.out.2
          exact ⟨⟨k + 1, a2, L2, by omega, by omega, by go_num, rfl, H8.out.ext ((Ext.refl _ _).drew), HG2.out.1, by omega⟩, by simp [intOf]; omega⟩
      · have hlt' : (k : Int) < (acts.length : Int) := by omega
        have h150' : decide ((k : Int) < 150) = false := by simp; omega
        obtain ⟨FA, FB, h8'⟩ := id hT
        obtain ⟨ov, hov⟩ := id h8'.doc
        obtain ⟨rA, rc, rfl, _⟩ := hov.pairs
        have q0 : wr.cell? ⟨a', 0, none⟩ = some (.slice rA L.length rc) := cells_at hov.obj 0
        have hala := lt_of_heap hov.obj
        have H := Lib.hid hT
        clear hx hT h8' hov
        go_wp2_with fail
        refine wp_region_mix (Cls [a'] _) [([0, 2, 3, 4, 5, 6], 1)] [7, 8] (by kernel_rfl) (by kernel_rfl) (Cls.refl _ _) ?_
        try dsimp only [wpMix, wpSegs, pick, List.getElem?_cons_zero, List.getElem?_cons_succ]
        generalize hz : Act.mk _ _ = z
        repeat (first | (refine wpQuiet_step (fun K hK => ?_); replace hK := Lib.hid hK; subst hz; go_simp; generalize hz : Act.mk _ _ = z; refine hK.out z ?_; clear hK K) | (refine wpQuiet_step (fun K hK => ?_); replace hK := Lib.hid hK; subst hz; refine iteSkip (by kernel_rfl) ?_; go_simp; generalize hz : Act.mk _ _ = z; refine hK.out z ?_; clear hK K))
        refine wpQuiet_nil ?_
        subst hz
        try dsimp only [NoPan]
        go_wp2_with fail
        refine (regs_count (H.out.ext ((Ext.refl _ _).drew))).mono ?_
        rintro e _ ⟨rfl, rfl⟩
        go_wp2_with fail
        refine ⟨Cls.refl _ _, ?_⟩
        try dsimp only [wpMix, wpSegs, pick, List.getElem?_cons_zero, List.getElem?_cons_succ]
        generalize hz : Act.mk _ _ = z
        repeat (first | (refine wpQuiet_step (fun K hK => ?_); replace hK := Lib.hid hK; subst hz; go_simp; generalize hz : Act.mk _ _ = z; refine hK.out z ?_; clear hK K) | (refine wpQuiet_step (fun K hK => ?_); replace hK := Lib.hid hK; subst hz; refine iteSkip (by kernel_rfl) ?_; go_simp; generalize hz : Act.mk _ _ = z; refine hK.out z ?_; clear hK K))
        refine wpQuiet_nil ?_
        subst hz
        try dsimp only [NoPan]
        go_wp2_with fail
        go_ret
        exact ⟨rfl, H.out.old.drew⟩
    · have hlt' : decide ((k : Int) < (acts.length : Int)) = false := by simp; omega
      obtain ⟨FA, FB, h8'⟩ := id hT
      obtain ⟨ov, hov⟩ := id h8'.doc
      obtain ⟨rA, rc, rfl, _⟩ := hov.pairs
      have q0 : wr.cell? ⟨a', 0, none⟩ = some (.slice rA L.length rc) := cells_at hov.obj 0
      have hala := lt_of_heap hov.obj
      have H := Lib.hid hT
      clear hx hT h8' hov
      go_wp2_with fail
      refine wp_region_mix (Cls [a'] _) [([0, 2, 3, 4, 5, 6], 1)] [7, 8] (by kernel_rfl) (by kernel_rfl) (Cls.refl _ _) ?_
      try dsimp only [wpMix, wpSegs, pick, List.getElem?_cons_zero, List.getElem?_cons_succ]
      generalize hz : Act.mk _ _ = z
      repeat (first | (refine wpQuiet_step (fun K hK => ?_); replace hK := Lib.hid hK; subst hz; go_simp; generalize hz : Act.mk _ _ = z; refine hK.out z ?_; clear hK K) | (refine wpQuiet_step (fun K hK => ?_); replace hK := Lib.hid hK; subst hz; refine iteSkip (by kernel_rfl) ?_; go_simp; generalize hz : Act.mk _ _ = z; refine hK.out z ?_; clear hK K))
      refine wpQuiet_nil ?_
      subst hz
      try dsimp only [NoPan]
      go_wp2_with fail
      refine (regs_count (H.out.ext ((Ext.refl _ _).drew))).mono ?_
      rintro e _ ⟨rfl, rfl⟩
      go_wp2_with fail
      refine ⟨Cls.refl _ _, ?_⟩
      try dsimp only [wpMix, wpSegs, pick, List.getElem?_cons_zero, List.getElem?_cons_succ]
      generalize hz : Act.mk _ _ = z
      repeat (first | (refine wpQuiet_step (fun K hK => ?_); replace hK := Lib.hid hK; subst hz; go_simp; generalize hz : Act.mk _ _ = z; refine hK.out z ?_; clear hK K) | (refine wpQuiet_step (fun K hK => ?_); replace hK := Lib.hid hK; subst hz; refine iteSkip (by kernel_rfl) ?_; go_simp; generalize hz : Act.mk _ _ = z; refine hK.out z ?_; clear hK K))
      refine wpQuiet_nil ?_
      subst hz
      try dsimp only [NoPan]
      go_wp2_with fail
      go_ret
      exact ⟨rfl, H.out.old.drew⟩
end Go.Proofs.Ytlnfcliojefbfaa
