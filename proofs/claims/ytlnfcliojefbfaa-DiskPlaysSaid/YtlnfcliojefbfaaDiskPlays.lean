/- DiskPlays: what the statement's function computes; no condition. -/
import Derived.Test.YtlnfcliojefbfaaDiskTwo
import Derived.Deep.DeepCutAuto
import Derived.Deep.CutBlock
namespace Go.Proofs.Ytlnfcliojefbfaa
set_option linter.unusedVariables false
set_option linter.unusedSimpArgs false
open Go.RowKit Go.ChangeShapes Go.WideShapes Go.ChangeAt

def Act21S (D : Nat → Prop) (w : World) (g n : Nat) (x : Act21) : Prop := Act21.Is D w g n x ∧ x.B.length ≤ 140737488351232
set_option maxRecDepth 100000 in
theorem opens_act21_s {H : Type} {enc : TypeId × Value → H} {W : World} {spare : Nat → Bool} {held : Bool} (fuel : Nat) (cs : List Value) (x : DataW H × List MemPlace) (g n : Nat)
    (h : DataW.trod enc Try.prog W 0 spare held fuel 56 cs = some x) (hs : Small Try.prog 56 x.1) (hl : cs.length = 4) (hat : ∀ j u, cs[j]? = some u → W.cell? ⟨g, n + j, none⟩ = some u) : ∃ d, Act21S (· < W.heap.size) W g n d := by
  match cs, hl with
  | [c0, c1, c2, c3], _ =>
    have ki : Try.prog.cellsOf 3 = 1 := by kernel_rfl
    have kb : Try.prog.cellsOf 23 = 1 := by kernel_rfl
    obtain ⟨_, _, h0⟩ := opens_field Try.underlying56 h 0 rfl ki
    obtain ⟨_, _, h1⟩ := opens_field Try.underlying56 h 1 rfl ki
    obtain ⟨_, _, h2⟩ := opens_field Try.underlying56 h 2 rfl ki
    obtain ⟨_, _, h3, hs3⟩ := opens_field_s Try.underlying56 h hs 3 rfl kb
    obtain ⟨q0, e0, _, _⟩ := DataW.trod_int Try.underlying3 h0
    obtain ⟨q1, e1, _, hw⟩ := DataW.trod_int Try.underlying3 h1
    obtain ⟨q2, e2, _, _⟩ := DataW.trod_int Try.underlying3 h2
    obtain ⟨v, l, e3, hb, hm⟩ := opens_byt_s Try.underlying23 Try.underlying5 (by kernel_rfl) (by kernel_rfl) h3 hs3
    simp at e0 e1 e2 e3
    subst e0 e1 e2 e3
    have hq : q1 ≤ 9223372036854775807 := by
      simp [Lit.wf, IntKind.min, IntKind.max, IntKind.bits, IntKind.signed] at hw
      omega
    exact ⟨⟨q0, q1, q2, l⟩, ⟨_, hat 0 _ rfl, hat 1 _ rfl, hat 2 _ rfl, hat 3 _ rfl, hb, hq, by unfold maxLen; show l.length ≤ _; omega⟩, hm⟩

set_option maxRecDepth 100000 in
set_option maxHeartbeats 10000000 in
theorem plays_walk {w : World} {av : Value} {acts : List Act21} (hA : Row (Act21S (· < w.heap.size)) 4 (· < w.heap.size) w av acts) (hl : acts.length ≤ 9223372036854775807) :
    Calls Try.prog 7 #[av] w fun e w' => e = .returned (.bool true) ∧ Ext (fun _ => False) w w' := by
  obtain ⟨A, c, hav, hcap, hrow⟩ := id hA
  subst hav
  go_enter Try.func7, Try.ntmps7
  go_wp2_with fail
  refine (disk_small _).mono ?_
  rintro e w1 ⟨rfl, hx1⟩
  go_wp2_with fail
  refine (inv_new w hx1).mono ?_
  rintro e w2 ⟨a, rfl, h2⟩
  go_wp2_with fail
  refine (two_new w h2).mono ?_
  rintro e w3 ⟨a', rfl, h3⟩
  clear h2 hx1
  go_wp2_with fail
  go_loopw [6] (fun i W => ∃ (k : Nat) (x : Dk), k ≤ acts.length ∧ k ≤ 100 ∧ i = .int .i64 k ∧ Two w (fun _ => False) w3 W a a' x x)
    (fun i _ => 100 - (intOf i).toNat)
  case atStart => exact ⟨0, _, by omega, by omega, rfl, h3⟩
  case round =>
    obtain ⟨k, x, hk, hk1, rfl, hT⟩ := hrel
    have hx := hT.old
    by_cases hlt : k < acts.length
    · by_cases h100 : k < 100
      · obtain ⟨g, off, c', hav, hdb, ⟨bv, c0, c1, c2, c3, hb, hNm, hBm⟩, hBs⟩ := hA.at hlt
        replace c0 := cell_same c0 hx
        replace c1 := cell_same c1 hx
        replace c2 := cell_same c2 hx
        replace c3 := cell_same c3 hx
        obtain ⟨rfl, rfl⟩ : A = some ⟨g, off, none⟩ ∧ c = c' := by simpa using hav
        clear hav
        have hgl := hx.size
        have hgl' : g < wr.heap.size := by omega
        obtain ⟨bA, bc, rfl, _, _⟩ := id hb
        have hlt' : (k : Int) < (acts.length : Int) := by omega
        have h100' : decide ((k : Int) < 100) = true := by simp; omega
        generalize acts[k] = act at *
        by_cases hbig : 4096 < act.B.length ∧ act.B.length ≤ 4194304
        · have hb1 : decide (4096 < act.B.length) = true := by simpa using hbig.1
          have hb2 : decide (act.B.length ≤ 4194304) = true := by simpa using hbig.2
          have hb3 : decide ((4096 : Int) < (act.B.length : Int)) = true := by simp; omega
          have hb4 : decide ((act.B.length : Int) ≤ 4194304) = true := by simp; omega
          have Hx := Lib.hid hx
          clear hx hbig
          go_wp2_with fail
          go_ret
          exact ⟨rfl, Hx.out.alloc _⟩
        · go_upto_region 10 with (fail)
          have hob := heap_alloc_self wr (Obj.cells #[.int .i64 act.Do, .int .i64 act.N, .int .i64 act.M, .slice bA act.B.length bc] 56)
          have hH := hT.more (w1 := wr.alloc (Obj.cells #[.int .i64 act.Do, .int .i64 act.N, .int .i64 act.M, .slice bA act.B.length bc] 56)) ((Ext.refl _ _).alloc _)
          have hsz : wr.heap.size < (wr.alloc (Obj.cells #[.int .i64 act.Do, .int .i64 act.N, .int .i64 act.M, .slice bA act.B.length bc] 56)).heap.size := lt_of_heap hob
          generalize wr.alloc (Obj.cells #[.int .i64 act.Do, .int .i64 act.N, .int .i64 act.M, .slice bA act.B.length bc] 56) = W0 at hob hH hsz ⊢
          generalize wr.heap.size = b6 at hob hH hsz ⊢
          have hbB : b6 ≤ b6 ∧ b6 < W0.heap.size := ⟨Nat.le_refl _, hsz⟩
          have Hhlt := Lib.hid (And.intro hlt h100)
          have Hkk := Lib.hid (And.intro hk hk1)
          clear c0 c1 c2 c3 hlt' h100' hlt hk hk1 hgl hgl' hT
          have k0 : W0.cell? ⟨b6, 0, none⟩ = some (.int .i64 act.Do) := cells_at hob 0
          have k1 : W0.cell? ⟨b6, 1, none⟩ = some (.int .i64 act.N) := cells_at hob 1
          have k2 : W0.cell? ⟨b6, 2, none⟩ = some (.int .i64 act.M) := cells_at hob 2
          have k3 : W0.cell? ⟨b6, 3, none⟩ = some (.slice bA act.B.length bc) := cells_at hob 3
          go_cut [45] (fun v W => v = .bool false ∧ W = W0)
          case first =>
            by_cases hb1 : 4096 < act.B.length
            · have hb3 : decide ((4096 : Int) < (act.B.length : Int)) = true := by simp; omega
              have hb4 : decide ((act.B.length : Int) ≤ 4194304) = false := by simp; omega
              have hb5 : decide (4096 < act.B.length) = true := by simpa using hb1
              have hb6 : decide (act.B.length ≤ 4194304) = false := by simp; omega
              go_wp2_with fail
              go_meet
              case rel => exact ⟨rfl, rfl⟩
            · have hb3 : decide ((4096 : Int) < (act.B.length : Int)) = false := by simp; omega
              have hb5 : decide (4096 < act.B.length) = false := by simpa using hb1
              go_wp2_with fail
              go_meet
              case rel => exact ⟨rfl, rfl⟩
          case rest =>
            obtain ⟨rfl, rfl⟩ := hcut
            go_upto_block 2 with (fail)
            have hx0 := hH.old
            have hb0 := hb.same hx0
            have hbs : ∀ {W : World}, Ext (fun _ => False) w W → Byt (· < w.heap.size) W (.slice bA act.B.length bc) act.B := fun h => hb.same h
            have HR := Lib.hid (And.intro hb0 (And.intro hBs (And.intro hA @hbs)))
            have hsz0 := hx0.size
            clear hbig hb hBm hBs hA hx hx0 hb0 hbs
            go_cut [8, 9] (fun e f W => ∃ (n : Int) (x' : Dk), e = .int .i64 n ∧ f = .int .i64 n ∧ Two w (fun b => False ∨ b6 ≤ b ∧ b < wc.heap.size) wc W a a' x' x')
            case first =>
              by_cases d0 : act.Do = 0
              · have d0' : (act.Do == 0) = true := by simpa using d0
                clear d0
                go_wp2_with fail
                refine (lent_walk HR.out.1 (by have := HR.out.2.1; omega)).mono ?_
                rintro e w4 ⟨rfl, hl4, hx4, hs4⟩
                have hal4 := lt_of_heap hl4.choose_spec.1
                have hH4 := hH.more hx4
                have hg4 : (False ∨ b6 ≤ wc.heap.size ∧ wc.heap.size < wc.heap.size) ∨ wc.heap.size ≤ wc.heap.size ∧ wc.heap.size < w4.heap.size := .inr ⟨Nat.le_refl _, hal4⟩
                have ho4 := hx4.heap hob id
                replace k3 : w4.cell? ⟨b6, 3, none⟩ = some (.slice bA act.B.length bc) := cells_at ho4 3
                have hlo : act.B.length + 1 ≤ 9223372036854775807 := by have := HR.out.2.1; omega
                have HL := Lib.hid (And.intro hl4 (And.intro hlo (And.intro ho4 hx4)))
                have H4 := Lib.hid hH4
                clear hl4 hlo ho4 hH4 hob
                go_wp2_with fail
                refine (two_append H4.out (HL.out.1.byt HL.out.2.1) (fun k hk => .inr (by rw [hk]; exact hg4))).mono ?_
                rintro e w5 ⟨rfl, h5⟩
                replace k3 : w5.cell? ⟨b6, 3, none⟩ = some (.slice bA act.B.length bc) := cells_at ((h5.at (.inl (.inr hbB))).trans HL.out.2.2.1) 3
                have H5 := Lib.hid h5
                clear h5
                go_wp2_with fail
                refine (doc_append H5.out (HR.out.2.2.2 H5.out.old) (fun k hk => .inl hk)).mono ?_
                rintro e w6 ⟨rfl, h6⟩
                replace k3 : w6.cell? ⟨b6, 3, none⟩ = some (.slice bA act.B.length bc) := cells_at ((h6.at (.inl (.inr hbB))).trans HL.out.2.2.1) 3
                have hl6 := LentB.same HL.out.1 (h6.at hg4)
                have H6 := Lib.hid (And.intro h6 hl6)
                clear h6 hl6
                go_wp2_with fail
                refine (kept_walk H6.out.2 (HR.out.2.2.2 H6.out.1.old) (by have := HR.out.2.1; omega)).mono ?_
                rintro e w7 ⟨rfl, hx7⟩
                have hl7 := H6.out.2.ext hx7 id
                have H7 := Lib.hid (And.intro (H6.out.1.ext hx7) (hl7.own HL.out.2.1))
                clear hx7 hl7
                go_wp2_with fail
                refine (owned_one H7.out.2).mono ?_
                rintro e w8 ⟨rfl, hx8⟩
                have h8 : Two w (fun b => False ∨ b6 ≤ b ∧ b < wc.heap.size) wc w8 a a' (appendD act.B x).2 (appendD act.B x).2 :=
                  H7.out.1.scribble (g := wc.heap.size) (hx8.mono fun b _ e => by simpa [Value.ownBlock, eq_comm] using e) hg4 (fun b hb => by have hb' : b6 ≤ b ∧ b < wc.heap.size := hb.elim False.elim id; exact ⟨.inl hb, by omega, HL.out.2.2.2.block b hb'.2 id⟩) hsz0
                have H8 := Lib.hid h8
                clear h8 hx8
                go_wp2_with fail
                go_meet
                case rel => exact ⟨_, _, rfl, rfl, H8.out⟩
              have d0' : (act.Do == 0) = false := by simpa using d0
              by_cases d1 : act.Do = 1
              · have d1' : (act.Do == 1) = true := by simpa using d1
                have H := Lib.hid hH
                clear d0 d1 hH hob
                go_wp2_with fail
                refine (two_sync H.out).mono ?_
                rintro e w4 ⟨rfl, h4⟩
                have H4 := Lib.hid h4
                clear h4
                go_wp2_with fail
                refine (doc_sync H4.out).mono ?_
                rintro e w5 ⟨rfl, h5⟩
                have H5 := Lib.hid h5
                clear h5
                go_wp2_with fail
                go_meet
                case rel => exact ⟨_, _, rfl, rfl, H5.out⟩
              have d1' : (act.Do == 1) = false := by simpa using d1
              by_cases d2 : act.Do = 2
              · have d2' : (act.Do == 2) = true := by simpa using d2
                have H := Lib.hid hH
                have Hob := Lib.hid hob
                clear d0 d1 d2 hH hob
                go_wp2_with fail
                refine (two_cut H.out act.N).mono ?_
                rintro e w4 ⟨rfl, h4⟩
                replace k1 : w4.cell? ⟨b6, 1, none⟩ = some (.int .i64 act.N) := cells_at ((h4.at (.inr hbB)).trans Hob.out) 1
                have H4 := Lib.hid h4
                clear h4
                go_wp2_with fail
                refine (doc_cut H4.out act.N).mono ?_
                rintro e w5 ⟨rfl, h5⟩
                have H5 := Lib.hid h5
                clear h5
                go_wp2_with fail
                go_meet
                case rel => exact ⟨_, _, rfl, rfl, H5.out⟩
              have d2' : (act.Do == 2) = false := by simpa using d2
              by_cases d3 : act.Do = 3
              · have d3' : (act.Do == 3) = true := by simpa using d3
                have H := Lib.hid hH
                have Hob := Lib.hid hob
                clear d0 d1 d2 d3 hH hob
                go_wp2_with fail
                refine wp_region_bar (Cls [b6] _) [] [0, 1, 2, 3, 4, 5, 6] 7 [] [] (by kernel_rfl) (by kernel_rfl) (Cls.refl _ _) ?_
                try dsimp only [wpMix, wpSegs, pick, List.getElem?_cons_zero, List.getElem?_cons_succ]
                generalize hz : Act.mk _ _ = z
                repeat (first | (refine wpQuiet_step (fun K hK => ?_); replace hK := Lib.hid hK; subst hz; go_simp; generalize hz : Act.mk _ _ = z; refine hK.out z ?_; clear hK K) | (refine wpQuiet_step (fun K hK => ?_); replace hK := Lib.hid hK; subst hz; refine iteSkip (by kernel_rfl) ?_; go_simp; generalize hz : Act.mk _ _ = z; refine hK.out z ?_; clear hK K))
                refine wpQuiet_nil ?_
                subst hz
                try dsimp only [NoPan]
                go_wp2_with fail
                refine (two_arm (H.out.ext ((Ext.refl _ _).drew)) act.N act.M hNm).mono ?_
                rintro e w4 ⟨rfl, h4⟩
                have ho4 := (h4.at (.inr hbB)).trans Hob.out
                replace k1 : w4.cell? ⟨b6, 1, none⟩ = some (.int .i64 act.N) := cells_at ho4 1
                replace k2 : w4.cell? ⟨b6, 2, none⟩ = some (.int .i64 act.M) := cells_at ho4 2
                have H4 := Lib.hid h4
                clear h4 ho4
                go_wp2_with fail
                try dsimp only [wpMix, wpSegs, pick, List.getElem?_cons_zero, List.getElem?_cons_succ]
                generalize hz : Act.mk _ _ = z
                repeat (first | (refine wpQuiet_step (fun K hK => ?_); replace hK := Lib.hid hK; subst hz; go_simp; generalize hz : Act.mk _ _ = z; refine hK.out z ?_; clear hK K) | (refine wpQuiet_step (fun K hK => ?_); replace hK := Lib.hid hK; subst hz; refine iteSkip (by kernel_rfl) ?_; go_simp; generalize hz : Act.mk _ _ = z; refine hK.out z ?_; clear hK K))
                refine wpQuiet_nil ?_
                subst hz
                try dsimp only [NoPan]
                go_wp2_with fail
                refine (doc_arm H4.out act.N act.M hNm).mono ?_
                rintro e w5 ⟨rfl, h5⟩
                have H5 := Lib.hid h5
                clear h5
                go_wp2_with fail
                go_meet
                case rel => exact ⟨_, _, rfl, rfl, H5.out⟩
              have d3' : (act.Do == 3) = false := by simpa using d3
              by_cases d4 : act.Do = 4
              · have d4' : (act.Do == 4) = true := by simpa using d4
                have H := Lib.hid hH
                have Hob := Lib.hid hob
                clear d0 d1 d2 d3 d4 hH hob
                go_wp2_with fail
                refine (two_boot H.out act.N).mono ?_
                rintro e w4 ⟨rfl, h4⟩
                replace k1 : w4.cell? ⟨b6, 1, none⟩ = some (.int .i64 act.N) := cells_at ((h4.at (.inr hbB)).trans Hob.out) 1
                have H4 := Lib.hid h4
                clear h4
                go_wp2_with fail
                refine (doc_boot H4.out act.N).mono ?_
                rintro e w5 ⟨rfl, h5⟩
                have H5 := Lib.hid h5
                clear h5
                go_wp2_with fail
                go_meet
                case rel => exact ⟨0, _, rfl, rfl, H5.out⟩
              have d4' : (act.Do == 4) = false := by simpa using d4
              have H := Lib.hid hH
              clear d0 d1 d2 d3 d4 hH hob
              go_wp2_with fail
              go_meet
              case rel => exact ⟨0, _, rfl, rfl, H.out⟩
            case rest =>
              obtain ⟨n, x', rfl, rfl, h4⟩ := hcut
              have H4 := Lib.hid h4
              clear hH hob k0 k1 k2 k3 h4
              go_wp2_with fail
              refine (two_tells H4.out).mono ?_
              rintro e w5 ⟨rfl, hx5⟩
              go_wp2_with fail
              have hk := Hkk.out
              have hk2 := Hhlt.out
              exact ⟨⟨k + 1, x', by omega, by omega, by go_num, (H4.out.ext hx5).drop⟩, by simp [intOf]; omega⟩
      · have hlt' : (k : Int) < (acts.length : Int) := by omega
        have h100' : decide ((k : Int) < 100) = false := by simp; omega
        have H := Lib.hid hT
        clear hx hT
        go_wp2_with fail
        refine (two_tells H.out).mono ?_
        rintro e w5 ⟨rfl, hx5⟩
        go_wp2_with fail
        go_ret
        exact ⟨rfl, H.out.old.trans hx5⟩
    · have hlt' : decide ((k : Int) < (acts.length : Int)) = false := by simp; omega
      have H := Lib.hid hT
      clear hx hT
      go_wp2_with fail
      refine (two_tells H.out).mono ?_
      rintro e w5 ⟨rfl, hx5⟩
      go_wp2_with fail
      go_ret
      exact ⟨rfl, H.out.old.trans hx5⟩
end Go.Proofs.Ytlnfcliojefbfaa
