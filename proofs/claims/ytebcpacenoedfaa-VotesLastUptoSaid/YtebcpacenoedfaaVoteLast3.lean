/- VotesLast: what the statement's function computes; no condition but the bound on the rows. -/
import Derived.Test.YtebcpacenoedfaaVoteSlice
namespace Go.Proofs.Ytebcpacenoedfaa
set_option linter.unusedVariables false
set_option linter.unusedSimpArgs false
open Go.RowKit

theorem info24v : (Try.prog.info? 36).map (fun i => (i.zero, i.size, i.bytes)) = some (some (.slice none 0 0), 1, 24) := by kernel_rfl

set_option maxRecDepth 100000 in
set_option maxHeartbeats 16000000 in
theorem last_walk {w : World} {av : Value} {acts : List Act22} (hA : Acts22 (· < w.heap.size) w av acts) (hl : acts.length ≤ 9223372036854775807) :
    Calls Try.prog 4 #[av] w fun e w' => e = .returned (.bool true) ∧ Ext (fun _ => False) w w' := by
  obtain ⟨A, c, hav, hcap, hrow⟩ := id hA
  subst hav
  have HS := Lib.hid (votes_small w)
  go_enter Try.func4, Try.ntmps4
  go_wp2_with fail
  refine HS.out.mono ?_
  rintro e w1 ⟨rfl, hx1⟩
  have HI := Lib.hid (inv_new w hx1)
  clear hx1
  go_wp2_with fail
  refine HI.out.mono ?_
  rintro e w2 ⟨a, rfl, h2⟩
  have HO := Lib.hid (d_open h2 (by kernel_rfl))
  rw [show openD ⟨false, false, 0, 0, [], 0⟩ = (0, ⟨false, false, 0, 0, [], 0⟩) by kernel_rfl, show recs (Dk.l ⟨false, false, 0, 0, [], 0⟩) = ([], 0) by kernel_rfl] at HO
  clear h2 HI HS
  go_wp2_with fail
  refine HO.out.mono ?_
  rintro e w3 ⟨va, A3, c3, vs3, rfl, h3, _⟩
  have H3 := Lib.hid (show VInv w w3 a va ⟨false, false, 0, 0, [], 0⟩ 0 0 false from h3)
  clear h3 HO
  go_wp2_with fail
  go_loopw [5, 8, 9, 10] (fun v sv mv i W => ∃ (k : Nat) (x : Dk) (n sz : Nat) (bad : Bool) (vb : Nat) (S M : List Bs) (G K : Nat → Prop), k ≤ acts.length ∧ k ≤ 40 ∧ v = .pointer (some ⟨vb, 0, none⟩) ∧ i = .int .i64 k ∧ LI w W a vb x n sz bad sv mv S M G K)
    (fun _ _ _ i _ => 40 - (intOf i).toNat)
  case atStart =>
    obtain ⟨F, g1, g2, g3, g4, g5, g6⟩ := H3.out
    exact ⟨0, _, 0, 0, false, va, [], [], (· < w.heap.size), (· < w.heap.size), by omega, by omega, rfl, rfl, ⟨F, g1, g2, g3, g4, g5, g6, fun k hk => ⟨Nat.lt_of_lt_of_le hk g2.size, fun hf => by have := g3 k hf; omega, by omega⟩⟩, LastS.init, SRow.nil _ _ _, SRow.nil _ _ _, by simp, fun _ => id, fun k hk => ⟨hk, by simp [Value.ownBlock], by simp [Value.ownBlock]⟩, fun k hk => by simp [Value.ownBlock] at hk, fun k hk => by simp [Value.ownBlock] at hk⟩
  case round =>
    obtain ⟨k, x, n, sz, bad, vb, S, M, G, K, hk, hk1, rfl, rfl, hI⟩ := hrel
    obtain ⟨SA, sc, hsf⟩ := hI.rs.form
    obtain ⟨MA, mc, hmf⟩ := hI.rm.form
    subst hsf hmf
    have hx := hI.vh.old
    clear H3
    by_cases hlt : k < acts.length
    · by_cases h40 : k < 40
      · obtain ⟨g, off, c', hav, hdb, lv, c0, c1, c2, c3, hb, hNm, hLm⟩ := hA.at hlt
        replace c0 := cell_same c0 hx
        replace c1 := cell_same c1 hx
        replace c2 := cell_same c2 hx
        replace c3 := cell_same c3 hx
        obtain ⟨rfl, rfl⟩ : A = some ⟨g, off, none⟩ ∧ c = c' := by simpa using hav
        clear hav
        have hgl := hx.size
        have hgl' : g < wr.heap.size := by omega
        obtain ⟨lA, lc, rfl, _, _⟩ := id hb
        have hlt' : (k : Int) < (acts.length : Int) := by omega
        have h40' : decide ((k : Int) < 40) = true := by simp; omega
        generalize acts[k] = act at *
        have hI0 := hI.act (Obj.cells #[.int .i64 act.Do, .int .i64 act.N, .int .i64 act.M, .slice lA act.L.length lc] 35)
        have hb0 := hb.ext hI0.vh.old fun _ _ => id
        have hob := heap_alloc_self wr (Obj.cells #[.int .i64 act.Do, .int .i64 act.N, .int .i64 act.M, .slice lA act.L.length lc] 35)
        have HI := Lib.hid (And.intro hI0 (And.intro hb0 (And.intro hb (And.intro hob hdb))))
        have hszb := hI.ls.sb
        have hnb := hI.ls.nb
        have hSl := hI.ls.count
        have hMl := hI.ml
        clear hI hI0 hb0 hb hob hx hA hrow hdb
        by_cases d0 : act.Do = 0
        · as_aux_lemma =>
            have d0' : (act.Do == 0) = true := by simpa using d0
            clear d0
            go_wp2_with fail
            refine (vh_put HI.out.1.vh HI.out.2.1 hLm hszb (by omega)).mono ?_
            rintro e w4 ⟨rfl, h4, hk4⟩
            have hlp := last_put HI.out.1.ls act.L
            generalize putR x n sz bad act.L = r at *
            obtain ⟨e, y, n', sz', bad'⟩ := r
            simp only at hlp h4
            have o4 := (hk4.2 wr.heap.size (.inr rfl)).trans HI.out.2.2.2.1
            have k3 : w4.cell? ⟨wr.heap.size, 3, none⟩ = some (.slice lA act.L.length lc) := cells_at o4 3
            have hb4 := HI.out.2.2.1.ext h4.old fun _ _ => id
            have H4 := Lib.hid (And.intro h4 (And.intro hk4 hb4))
            clear h4 hk4 hb4 o4
            rcases hlp with ⟨rfl, hL⟩ | ⟨rfl, rfl, hoff, hL⟩ | ⟨rfl, hM, hL⟩ | ⟨he, hL⟩
            · have HL := Lib.hid hL
              clear hL
              go_wp2_with (at_builtin; refine Hid.out ?_)
              refine Lib.hid ?_
              have rs4 := HI.out.1.rs.kept H4.out.2.1 (fun k hg => (HI.out.1.gk k hg).1) (fun k hv => (HI.out.1.sk k hv).1)
              have rm4 := HI.out.1.rm.kept H4.out.2.1 (fun k hg => (HI.out.1.gk k hg).1) HI.out.1.hm
              refine wpList_append_rows rfl _ _ 33 rfl Try.underlying33 info24v rfl rfl rs4 H4.out.2.2 (by omega) H4.out.1.old.size (fun k hg => ⟨H4.out.1.lt k (HI.out.1.gk k hg).1, (HI.out.1.gk k hg).2.1⟩) (fun k hk => HI.out.1.low k hk) ?_
              intro v5 w5 hr5 hx5 ho5
              have hn := LI.sure H4.out.1 HL.out rs4 rm4 HI.out.1.ml HI.out.1.low HI.out.1.gk HI.out.1.sk HI.out.1.hm hr5 hx5 ho5
              have HN := Lib.hid hn
              clear hn hr5 hx5 ho5 rs4 rm4
              go_wp2_with fail
              exact ⟨⟨k + 1, y, n', sz', bad', vb, _, _, _, _, by omega, by omega, rfl, by go_num, HN.out⟩, by simp [intOf]; omega⟩
            · have HL := Lib.hid hL
              have hU := inv_up H4.out.1.disk
              rw [hoff] at hU
              have HU := Lib.hid hU
              clear hL hU hoff
              have hz : (([] : List Bs).length) = 0 := rfl
              go_wp2_with fail
              refine HU.out.mono ?_
              rintro e _ ⟨rfl, rfl⟩
              go_wp2_with (at_builtin; refine Hid.out ?_)
              refine Lib.hid ?_
              have rs4 := HI.out.1.rs.kept H4.out.2.1 (fun k hg => (HI.out.1.gk k hg).1) (fun k hv => (HI.out.1.sk k hv).1)
              have rm4 := HI.out.1.rm.kept H4.out.2.1 (fun k hg => (HI.out.1.gk k hg).1) HI.out.1.hm
              refine wpList_append_rows rfl _ _ 33 rfl Try.underlying33 info24v rfl rfl rm4 H4.out.2.2 (by simp only [List.length_nil]; omega) H4.out.1.old.size (fun k hg => ⟨H4.out.1.lt k (HI.out.1.gk k hg).1, (HI.out.1.gk k hg).2.2⟩) (fun k hk => HI.out.1.low k hk) ?_
              intro v5 w5 hr5 hx5 ho5
              rw [List.nil_append] at hr5
              have hn := LI.maybe H4.out.1 HL.out rs4 rm4 hLm HI.out.1.low HI.out.1.gk HI.out.1.sk HI.out.1.hm hr5 hx5 ho5
              have HN := Lib.hid hn
              clear hn hr5 hx5 ho5 rs4 rm4
              go_wp2_with fail
              exact ⟨⟨k + 1, y, n', sz', bad', vb, _, _, _, _, by omega, by omega, rfl, by go_num, HN.out⟩, by simp [intOf]; omega⟩
            · have hM1 : ((M.length : Int) == 0) = false := by
                rw [beq_eq_false_iff_ne]
                have := List.length_pos_iff.2 hM
                omega
              have hM2 : (M.length == 0) = false := by
                rw [beq_eq_false_iff_ne]
                have := List.length_pos_iff.2 hM
                omega
              have HN := Lib.hid (HI.out.1.step H4.out.1 H4.out.2.1 hL)
              clear hL hM
              go_wp2_with fail
              exact ⟨⟨k + 1, y, n', sz', bad', vb, _, _, _, _, by omega, by omega, rfl, by go_num, HN.out⟩, by simp [intOf]; omega⟩
            · have HN := Lib.hid (HI.out.1.step H4.out.1 H4.out.2.1 hL)
              have e0 : (e == 0) = false := by rcases he with rfl | rfl <;> rfl
              have e1 : (e == 18) = false := by rcases he with rfl | rfl <;> rfl
              clear hL he
              go_wp2_with fail
              exact ⟨⟨k + 1, y, n', sz', bad', vb, _, _, _, _, by omega, by omega, rfl, by go_num, HN.out⟩, by simp [intOf]; omega⟩
        have d0' : (act.Do == 0) = false := by simpa using d0
        by_cases d1 : act.Do = 1
        · as_aux_lemma =>
            have d1' : (act.Do == 1) = true := by simpa using d1
            clear d1 d0
            go_wp2_with fail
            generalize wr.alloc (Obj.cells #[.int .i64 act.Do, .int .i64 act.N, .int .i64 act.M, .slice lA act.L.length lc] 35) = W0 at *
            have o4 := HI.out.2.2.2.1
            have hal := lt_of_heap o4
            have k0 : W0.cell? ⟨wr.heap.size, 0, none⟩ = some (.int .i64 act.Do) := cells_at o4 0
            have k1 : W0.cell? ⟨wr.heap.size, 1, none⟩ = some (.int .i64 act.N) := cells_at o4 1
            have k2 : W0.cell? ⟨wr.heap.size, 2, none⟩ = some (.int .i64 act.M) := cells_at o4 2
            clear o4 c0 c1 c2 c3
            refine wp_region_bar (Cls [wr.heap.size] _) [] [0, 1, 2, 3, 4, 5, 6] 7 [] [] (by kernel_rfl) (by kernel_rfl) (Cls.refl _ _) ?_
            try dsimp only [wpMix, wpSegs, pick, List.getElem?_cons_zero, List.getElem?_cons_succ]
            generalize hz : Act.mk _ _ = z
            repeat (first | (refine wpQuiet_step (fun K hK => ?_); replace hK := Lib.hid hK; subst hz; go_simp; generalize hz : Act.mk _ _ = z; refine hK.out z ?_; clear hK K) | (refine wpQuiet_step (fun K hK => ?_); replace hK := Lib.hid hK; subst hz; refine iteSkip (by kernel_rfl) ?_; go_simp; generalize hz : Act.mk _ _ = z; refine hK.out z ?_; clear hK K))
            refine wpQuiet_nil ?_
            subst hz
            try dsimp only [NoPan]
            go_wp2_with fail
            refine (vh_arm (HI.out.1.vh.ext ((Ext.refl _ _).drew)) act.N act.M hNm).mono ?_
            rintro e w4 ⟨rfl, h4, hk4⟩
            have HN := Lib.hid (HI.out.1.step h4 ((HI.out.1.vh.keep ((Ext.refl _ _).drew)).trans hk4) (HI.out.1.ls.arm _ _))
            clear h4 hk4
            go_wp2_with fail
            try dsimp only [wpMix, wpSegs, pick, List.getElem?_cons_zero, List.getElem?_cons_succ]
            generalize hz : Act.mk _ _ = z
            repeat (first | (refine wpQuiet_step (fun K hK => ?_); replace hK := Lib.hid hK; subst hz; go_simp; generalize hz : Act.mk _ _ = z; refine hK.out z ?_; clear hK K) | (refine wpQuiet_step (fun K hK => ?_); replace hK := Lib.hid hK; subst hz; refine iteSkip (by kernel_rfl) ?_; go_simp; generalize hz : Act.mk _ _ = z; refine hK.out z ?_; clear hK K))
            refine wpQuiet_nil ?_
            subst hz
            try dsimp only [NoPan]
            go_wp2_with fail
            exact ⟨⟨k + 1, _, n, sz, bad, vb, _, _, _, _, by omega, by omega, rfl, by go_num, HN.out⟩, by simp [intOf]; omega⟩
        have d1' : (act.Do == 1) = false := by simpa using d1
        by_cases d2 : act.Do = 2
        · as_aux_lemma =>
            have d2' : (act.Do == 2) = true := by simpa using d2
            clear d2 d0 d1
            go_wp2_with fail
            refine (vh_boot HI.out.1.vh act.N).mono ?_
            rintro e w4 ⟨rfl, h4, hk4⟩
            obtain ⟨j, hj, hr, ho, hL⟩ := last_boot HI.out.1.ls act.N
            have H4 := Lib.hid (And.intro h4 (And.intro hk4 (And.intro ho (And.intro hL hr))))
            clear h4 hk4 ho hL hr
            go_wp2_with fail
            have hop := vh_open H4.out.1 H4.out.2.2.1
            have hL := H4.out.2.2.2.1
            rw [H4.out.2.2.2.2] at hop hL
            generalize (recs (bootD act.N x).l).2 = sz5 at *
            generalize (openD (bootD act.N x)).2 = y at *
            have hRl : (S ++ M.take j).length = S.length + j := by rw [List.length_append, List.length_take]; omega
            have hRt : (S ++ M.take j).take S.length = S := by simp
            have hRd : (S ++ M.take j).drop S.length = M.take j := by simp
            have hMt : M.take j = M.take (S.length + j - S.length) := by rw [Nat.add_sub_cancel_left]
            generalize hR : S ++ M.take j = R at *
            have r1 : S.length + j ≤ R.length := by omega
            have r2 : R.length ≤ S.length + j := by omega
            clear hRl
            refine hop.mono ?_
            rintro e w5 ⟨vc, A5, c5, G5, rfl, h5, hk5, hr5, hg5, ho5⟩
            obtain ⟨hr', ho'⟩ := last_again hL
            have hag := vh_again h5 ho'
            rw [hr'] at hag
            have H5 := Lib.hid (And.intro h5 (And.intro hk5 (And.intro hr5 (And.intro hg5 (And.intro ho5 (And.intro hL hag))))))
            clear hop hL h5 hk5 hr5 hg5 ho5 hag hr' ho' hR
            go_wp2_with fail
            refine H5.out.2.2.2.2.2.2.mono ?_
            rintro e w6 ⟨vd, A6, c6, rfl, h6, hk6, hb6⟩
            have rs6 := ((HI.out.1.rs.kept H4.out.2.1 (fun k hg => (HI.out.1.gk k hg).1) (fun k hv => (HI.out.1.sk k hv).1)).kept H5.out.2.1 (fun k hg => (HI.out.1.gk k hg).1) (fun k hv => (HI.out.1.sk k hv).1)).kept hk6 (fun k hg => .inl (HI.out.1.gk k hg).1) (fun k hv => .inl (HI.out.1.sk k hv).1)
            have rm6 := ((HI.out.1.rm.kept H4.out.2.1 (fun k hg => (HI.out.1.gk k hg).1) HI.out.1.hm).kept H5.out.2.1 (fun k hg => (HI.out.1.gk k hg).1) HI.out.1.hm).kept hk6 (fun k hg => .inl (HI.out.1.gk k hg).1) (fun k hv => .inl (HI.out.1.hm k hv))
            have rl6 := H5.out.2.2.1.kept hk6 (fun k hg => .inr (.inl hg)) (fun k hv => .inr (.inr hv))
            obtain ⟨v1, hv1, s1⟩ := slice_rows_h rl6.byts (q := S.length) (by omega)
            obtain ⟨v2, hv2, s2⟩ := slice_rows_l rl6.byts (q := S.length) (by omega)
            obtain ⟨v3, hv3, s3⟩ := slice_rows_h rm6.byts (q := j) hj
            rw [hRt] at hv1
            rw [hRd] at hv2
            have e3 : ((j : Nat) : Int) = (R.length : Int) - (S.length : Int) := by omega
            have s3' := s3
            rw [e3] at s3
            have HN := Lib.hid (HI.out.1.fresh h6 H5.out.2.2.2.2.2.1 rl6 H4.out.1.old.size H5.out.2.2.2.1 H5.out.2.2.2.2.1)
            have H6 := Lib.hid (And.intro rs6.byts (And.intro rl6.byts (And.intro hb6 (And.intro hv1 (And.intro hv2 hv3)))))
            have hal := h6.lt wr.heap.size (.inl (.inr rfl))
            have n1 : decide ((R.length : Int) < (S.length : Int)) = false := by simp; omega
            have n2 : decide (R.length < S.length) = false := by simp; omega
            have n3 : decide ((M.length : Int) < (R.length : Int) - (S.length : Int)) = false := by simp; omega
            have nw : IntKind.i64.wrap ((R.length : Int) - (S.length : Int)) = (R.length : Int) - (S.length : Int) := IntWalk.i64_in _ (by omega)
            clear rs6 rm6 rl6 hb6 hv1 hv2 hv3 h6 hk6 hRt hRd hMt c0 c1 c2 c3
            go_wp2_with fail
            refine wp_region_bar (Cls [wr.heap.size] _) [([0, 1, 2, 3, 4, 5, 6, 7, 8], 9), ([10, 11, 12, 13, 14, 15, 16, 17, 18, 19, 20, 21, 22, 23, 24, 25, 26, 27, 28, 29, 30, 31, 32, 33, 34], 35)] [36, 37, 38, 39, 40, 41, 42, 43, 44, 45, 46, 47, 48, 49] 50 [] [51, 52] (by kernel_rfl) (by kernel_rfl) (Cls.refl _ _) ?_
            try dsimp only [wpMix, wpSegs, pick, List.getElem?_cons_zero, List.getElem?_cons_succ]
            generalize hz : Act.mk _ _ = z
            repeat (first | (refine wpQuiet_step (fun K hK => ?_); replace hK := Lib.hid hK; subst hz; go_simp; generalize hz : Act.mk _ _ = z; refine hK.out z ?_; clear hK K) | (refine wpQuiet_step (fun K hK => ?_); replace hK := Lib.hid hK; subst hz; refine iteSkip (by kernel_rfl) ?_; go_simp; generalize hz : Act.mk _ _ = z; refine hK.out z ?_; clear hK K))
            refine wpQuiet_nil ?_
            subst hz
            try dsimp only [NoPan]
            go_wp2_with fail
            have hD : ∀ b ∈ [wr.heap.size], b < w6.drew.heap.size := by
              intro b hb
              simp only [List.mem_cons, List.not_mem_nil, or_false] at hb
              subst hb
              exact hal
            have HD := Lib.hid hD
            have HE := Lib.hid ((Ext.refl (fun _ => False) w6).drew)
            clear hD
            refine (same_walk (H6.out.2.1.same HE.out) (H6.out.2.2.1.same HE.out) (by omega) (by omega)).mono ?_
            rintro e w7 ⟨he, hx7⟩
            rw [decide_eq_true rfl] at he
            subst he
            have X7 := Lib.hid hx7
            clear hx7
            go_wp2_with fail
            refine ⟨Cls.of_ext X7.out fun b hb => ⟨HD.out b hb, id⟩, ?_⟩
            try dsimp only [wpMix, wpSegs, pick, List.getElem?_cons_zero, List.getElem?_cons_succ]
            generalize hz : Act.mk _ _ = z
            repeat (first | (refine wpQuiet_step (fun K hK => ?_); replace hK := Lib.hid hK; subst hz; go_simp; generalize hz : Act.mk _ _ = z; refine hK.out z ?_; clear hK K) | (refine wpQuiet_step (fun K hK => ?_); replace hK := Lib.hid hK; subst hz; refine iteSkip (by kernel_rfl) ?_; go_simp; generalize hz : Act.mk _ _ = z; refine hK.out z ?_; clear hK K))
            refine wpQuiet_nil ?_
            subst hz
            try dsimp only [NoPan]
            go_wp2_with fail
            refine (same_walk (H6.out.2.2.2.1.same (HE.out.trans X7.out)) (H6.out.1.same (HE.out.trans X7.out)) (by omega) (by omega)).mono ?_
            rintro e w8 ⟨he, hx8⟩
            rw [decide_eq_true rfl] at he
            subst he
            have X8 := Lib.hid (X7.out.trans hx8)
            clear hx8
            go_wp2_with fail
            refine ⟨Cls.of_ext X8.out fun b hb => ⟨HD.out b hb, id⟩, ?_⟩
            try dsimp only [wpMix, wpSegs, pick, List.getElem?_cons_zero, List.getElem?_cons_succ]
            generalize hz : Act.mk _ _ = z
            repeat (first | (refine wpQuiet_step (fun K hK => ?_); replace hK := Lib.hid hK; subst hz; go_simp; generalize hz : Act.mk _ _ = z; refine hK.out z ?_; clear hK K) | (refine wpQuiet_step (fun K hK => ?_); replace hK := Lib.hid hK; subst hz; refine iteSkip (by kernel_rfl) ?_; go_simp; generalize hz : Act.mk _ _ = z; refine hK.out z ?_; clear hK K))
            refine wpQuiet_nil ?_
            subst hz
            try dsimp only [NoPan]
            go_wp2_with fail
            refine (same_walk (H6.out.2.2.2.2.1.same (HE.out.trans X8.out)) (H6.out.2.2.2.2.2.same (HE.out.trans X8.out)) (by rw [List.length_take]; omega) (by rw [List.length_take]; omega)).mono ?_
            rintro e w9 ⟨he, hx9⟩
            rw [decide_eq_true rfl] at he
            subst he
            have X9 := Lib.hid (X8.out.trans hx9)
            clear hx9
            go_wp2_with fail
            try dsimp only [wpMix, wpSegs, pick, List.getElem?_cons_zero, List.getElem?_cons_succ]
            generalize hz : Act.mk _ _ = z
            repeat (first | (refine wpQuiet_step (fun K hK => ?_); replace hK := Lib.hid hK; subst hz; go_simp; generalize hz : Act.mk _ _ = z; refine hK.out z ?_; clear hK K) | (refine wpQuiet_step (fun K hK => ?_); replace hK := Lib.hid hK; subst hz; refine iteSkip (by kernel_rfl) ?_; go_simp; generalize hz : Act.mk _ _ = z; refine hK.out z ?_; clear hK K))
            refine wpQuiet_nil ?_
            subst hz
            try dsimp only [NoPan]
            go_wp2_with fail
            have HF := HN.out.step (HN.out.vh.ext (HE.out.trans X9.out)) (HN.out.vh.keep (HE.out.trans X9.out)) HN.out.ls
            exact ⟨⟨k + 1, y, R.length, sz5, false, vc, R, [], _, _, by omega, by omega, rfl, by go_num, HF⟩, by simp [intOf]; omega⟩
        have d2' : (act.Do == 2) = false := by simpa using d2
        by_cases d3 : act.Do = 3
        · as_aux_lemma =>
            have d3' : (act.Do == 3) = true := by simpa using d3
            clear d3 d0 d1
            go_wp2_with fail
            refine (vh_boot HI.out.1.vh act.N).mono ?_
            rintro e w4 ⟨rfl, h4, hk4⟩
            obtain ⟨j, hj, hr, ho, hL⟩ := last_boot HI.out.1.ls act.N
            have H4 := Lib.hid (And.intro h4 (And.intro hk4 (And.intro ho (And.intro hL hr))))
            clear h4 hk4 ho hL hr
            go_wp2_with fail
            have hop := vh_open H4.out.1 H4.out.2.2.1
            have hL := H4.out.2.2.2.1
            rw [H4.out.2.2.2.2] at hop hL
            generalize (recs (bootD act.N x).l).2 = sz5 at *
            generalize (openD (bootD act.N x)).2 = y at *
            have hRl : (S ++ M.take j).length = S.length + j := by rw [List.length_append, List.length_take]; omega
            have hRt : (S ++ M.take j).take S.length = S := by simp
            have hRd : (S ++ M.take j).drop S.length = M.take j := by simp
            have hMt : M.take j = M.take (S.length + j - S.length) := by rw [Nat.add_sub_cancel_left]
            generalize hR : S ++ M.take j = R at *
            have r1 : S.length + j ≤ R.length := by omega
            have r2 : R.length ≤ S.length + j := by omega
            clear hRl
            refine hop.mono ?_
            rintro e w5 ⟨vc, A5, c5, G5, rfl, h5, hk5, hr5, hg5, ho5⟩
            obtain ⟨hr', ho'⟩ := last_again hL
            have hag := vh_again h5 ho'
            rw [hr'] at hag
            have H5 := Lib.hid (And.intro h5 (And.intro hk5 (And.intro hr5 (And.intro hg5 (And.intro ho5 (And.intro hL hag))))))
            clear hop hL h5 hk5 hr5 hg5 ho5 hag hr' ho' hR
            go_wp2_with fail
            refine H5.out.2.2.2.2.2.2.mono ?_
            rintro e w6 ⟨vd, A6, c6, rfl, h6, hk6, hb6⟩
            have rs6 := ((HI.out.1.rs.kept H4.out.2.1 (fun k hg => (HI.out.1.gk k hg).1) (fun k hv => (HI.out.1.sk k hv).1)).kept H5.out.2.1 (fun k hg => (HI.out.1.gk k hg).1) (fun k hv => (HI.out.1.sk k hv).1)).kept hk6 (fun k hg => .inl (HI.out.1.gk k hg).1) (fun k hv => .inl (HI.out.1.sk k hv).1)
            have rm6 := ((HI.out.1.rm.kept H4.out.2.1 (fun k hg => (HI.out.1.gk k hg).1) HI.out.1.hm).kept H5.out.2.1 (fun k hg => (HI.out.1.gk k hg).1) HI.out.1.hm).kept hk6 (fun k hg => .inl (HI.out.1.gk k hg).1) (fun k hv => .inl (HI.out.1.hm k hv))
            have rl6 := H5.out.2.2.1.kept hk6 (fun k hg => .inr (.inl hg)) (fun k hv => .inr (.inr hv))
            obtain ⟨v1, hv1, s1⟩ := slice_rows_h rl6.byts (q := S.length) (by omega)
            obtain ⟨v2, hv2, s2⟩ := slice_rows_l rl6.byts (q := S.length) (by omega)
            obtain ⟨v3, hv3, s3⟩ := slice_rows_h rm6.byts (q := j) hj
            rw [hRt] at hv1
            rw [hRd] at hv2
            have e3 : ((j : Nat) : Int) = (R.length : Int) - (S.length : Int) := by omega
            have s3' := s3
            rw [e3] at s3
            have HN := Lib.hid (HI.out.1.fresh h6 H5.out.2.2.2.2.2.1 rl6 H4.out.1.old.size H5.out.2.2.2.1 H5.out.2.2.2.2.1)
            have H6 := Lib.hid (And.intro rs6.byts (And.intro rl6.byts (And.intro hb6 (And.intro hv1 (And.intro hv2 hv3)))))
            have hal := h6.lt wr.heap.size (.inl (.inr rfl))
            have n1 : decide ((R.length : Int) < (S.length : Int)) = false := by simp; omega
            have n2 : decide (R.length < S.length) = false := by simp; omega
            have n3 : decide ((M.length : Int) < (R.length : Int) - (S.length : Int)) = false := by simp; omega
            have nw : IntKind.i64.wrap ((R.length : Int) - (S.length : Int)) = (R.length : Int) - (S.length : Int) := IntWalk.i64_in _ (by omega)
            clear rs6 rm6 rl6 hb6 hv1 hv2 hv3 h6 hk6 hRt hRd hMt c0 c1 c2 c3
            go_wp2_with fail
            refine wp_region_bar (Cls [wr.heap.size] _) [([0, 1, 2, 3, 4, 5, 6, 7, 8], 9), ([10, 11, 12, 13, 14, 15, 16, 17, 18, 19, 20, 21, 22, 23, 24, 25, 26, 27, 28, 29, 30, 31, 32, 33, 34], 35)] [36, 37, 38, 39, 40, 41, 42, 43, 44, 45, 46, 47, 48, 49] 50 [] [51, 52] (by kernel_rfl) (by kernel_rfl) (Cls.refl _ _) ?_
            try dsimp only [wpMix, wpSegs, pick, List.getElem?_cons_zero, List.getElem?_cons_succ]
            generalize hz : Act.mk _ _ = z
            repeat (first | (refine wpQuiet_step (fun K hK => ?_); replace hK := Lib.hid hK; subst hz; go_simp; generalize hz : Act.mk _ _ = z; refine hK.out z ?_; clear hK K) | (refine wpQuiet_step (fun K hK => ?_); replace hK := Lib.hid hK; subst hz; refine iteSkip (by kernel_rfl) ?_; go_simp; generalize hz : Act.mk _ _ = z; refine hK.out z ?_; clear hK K))
            refine wpQuiet_nil ?_
            subst hz
            try dsimp only [NoPan]
            go_wp2_with fail
            have hD : ∀ b ∈ [wr.heap.size], b < w6.drew.heap.size := by
              intro b hb
              simp only [List.mem_cons, List.not_mem_nil, or_false] at hb
              subst hb
              exact hal
            have HD := Lib.hid hD
            have HE := Lib.hid ((Ext.refl (fun _ => False) w6).drew)
            clear hD
            refine (same_walk (H6.out.2.1.same HE.out) (H6.out.2.2.1.same HE.out) (by omega) (by omega)).mono ?_
            rintro e w7 ⟨he, hx7⟩
            rw [decide_eq_true rfl] at he
            subst he
            have X7 := Lib.hid hx7
            clear hx7
            go_wp2_with fail
            refine ⟨Cls.of_ext X7.out fun b hb => ⟨HD.out b hb, id⟩, ?_⟩
            try dsimp only [wpMix, wpSegs, pick, List.getElem?_cons_zero, List.getElem?_cons_succ]
            generalize hz : Act.mk _ _ = z
            repeat (first | (refine wpQuiet_step (fun K hK => ?_); replace hK := Lib.hid hK; subst hz; go_simp; generalize hz : Act.mk _ _ = z; refine hK.out z ?_; clear hK K) | (refine wpQuiet_step (fun K hK => ?_); replace hK := Lib.hid hK; subst hz; refine iteSkip (by kernel_rfl) ?_; go_simp; generalize hz : Act.mk _ _ = z; refine hK.out z ?_; clear hK K))
            refine wpQuiet_nil ?_
            subst hz
            try dsimp only [NoPan]
            go_wp2_with fail
            refine (same_walk (H6.out.2.2.2.1.same (HE.out.trans X7.out)) (H6.out.1.same (HE.out.trans X7.out)) (by omega) (by omega)).mono ?_
            rintro e w8 ⟨he, hx8⟩
            rw [decide_eq_true rfl] at he
            subst he
            have X8 := Lib.hid (X7.out.trans hx8)
            clear hx8
            go_wp2_with fail
            refine ⟨Cls.of_ext X8.out fun b hb => ⟨HD.out b hb, id⟩, ?_⟩
            try dsimp only [wpMix, wpSegs, pick, List.getElem?_cons_zero, List.getElem?_cons_succ]
            generalize hz : Act.mk _ _ = z
            repeat (first | (refine wpQuiet_step (fun K hK => ?_); replace hK := Lib.hid hK; subst hz; go_simp; generalize hz : Act.mk _ _ = z; refine hK.out z ?_; clear hK K) | (refine wpQuiet_step (fun K hK => ?_); replace hK := Lib.hid hK; subst hz; refine iteSkip (by kernel_rfl) ?_; go_simp; generalize hz : Act.mk _ _ = z; refine hK.out z ?_; clear hK K))
            refine wpQuiet_nil ?_
            subst hz
            try dsimp only [NoPan]
            go_wp2_with fail
            refine (same_walk (H6.out.2.2.2.2.1.same (HE.out.trans X8.out)) (H6.out.2.2.2.2.2.same (HE.out.trans X8.out)) (by rw [List.length_take]; omega) (by rw [List.length_take]; omega)).mono ?_
            rintro e w9 ⟨he, hx9⟩
            rw [decide_eq_true rfl] at he
            subst he
            have X9 := Lib.hid (X8.out.trans hx9)
            clear hx9
            go_wp2_with fail
            try dsimp only [wpMix, wpSegs, pick, List.getElem?_cons_zero, List.getElem?_cons_succ]
            generalize hz : Act.mk _ _ = z
            repeat (first | (refine wpQuiet_step (fun K hK => ?_); replace hK := Lib.hid hK; subst hz; go_simp; generalize hz : Act.mk _ _ = z; refine hK.out z ?_; clear hK K) | (refine wpQuiet_step (fun K hK => ?_); replace hK := Lib.hid hK; subst hz; refine iteSkip (by kernel_rfl) ?_; go_simp; generalize hz : Act.mk _ _ = z; refine hK.out z ?_; clear hK K))
            refine wpQuiet_nil ?_
            subst hz
            try dsimp only [NoPan]
            go_wp2_with fail
            have HF := HN.out.step (HN.out.vh.ext (HE.out.trans X9.out)) (HN.out.vh.keep (HE.out.trans X9.out)) HN.out.ls
            exact ⟨⟨k + 1, y, R.length, sz5, false, vc, R, [], _, _, by omega, by omega, rfl, by go_num, HF⟩, by simp [intOf]; omega⟩
        have d3' : (act.Do == 3) = false := by simpa using d3
        by_cases d4 : act.Do = 4
        · as_aux_lemma =>
            have d4' : (act.Do == 4) = true := by simpa using d4
            clear d4 d0 d1
            go_wp2_with fail
            refine (vh_boot HI.out.1.vh act.N).mono ?_
            rintro e w4 ⟨rfl, h4, hk4⟩
            obtain ⟨j, hj, hr, ho, hL⟩ := last_boot HI.out.1.ls act.N
            have H4 := Lib.hid (And.intro h4 (And.intro hk4 (And.intro ho (And.intro hL hr))))
            clear h4 hk4 ho hL hr
            go_wp2_with fail
            have hop := vh_open H4.out.1 H4.out.2.2.1
            have hL := H4.out.2.2.2.1
            rw [H4.out.2.2.2.2] at hop hL
            generalize (recs (bootD act.N x).l).2 = sz5 at *
            generalize (openD (bootD act.N x)).2 = y at *
            have hRl : (S ++ M.take j).length = S.length + j := by rw [List.length_append, List.length_take]; omega
            have hRt : (S ++ M.take j).take S.length = S := by simp
            have hRd : (S ++ M.take j).drop S.length = M.take j := by simp
            have hMt : M.take j = M.take (S.length + j - S.length) := by rw [Nat.add_sub_cancel_left]
            generalize hR : S ++ M.take j = R at *
            have r1 : S.length + j ≤ R.length := by omega
            have r2 : R.length ≤ S.length + j := by omega
            clear hRl
            refine hop.mono ?_
            rintro e w5 ⟨vc, A5, c5, G5, rfl, h5, hk5, hr5, hg5, ho5⟩
            obtain ⟨hr', ho'⟩ := last_again hL
            have hag := vh_again h5 ho'
            rw [hr'] at hag
            have H5 := Lib.hid (And.intro h5 (And.intro hk5 (And.intro hr5 (And.intro hg5 (And.intro ho5 (And.intro hL hag))))))
            clear hop hL h5 hk5 hr5 hg5 ho5 hag hr' ho' hR
            go_wp2_with fail
            refine H5.out.2.2.2.2.2.2.mono ?_
            rintro e w6 ⟨vd, A6, c6, rfl, h6, hk6, hb6⟩
            have rs6 := ((HI.out.1.rs.kept H4.out.2.1 (fun k hg => (HI.out.1.gk k hg).1) (fun k hv => (HI.out.1.sk k hv).1)).kept H5.out.2.1 (fun k hg => (HI.out.1.gk k hg).1) (fun k hv => (HI.out.1.sk k hv).1)).kept hk6 (fun k hg => .inl (HI.out.1.gk k hg).1) (fun k hv => .inl (HI.out.1.sk k hv).1)
            have rm6 := ((HI.out.1.rm.kept H4.out.2.1 (fun k hg => (HI.out.1.gk k hg).1) HI.out.1.hm).kept H5.out.2.1 (fun k hg => (HI.out.1.gk k hg).1) HI.out.1.hm).kept hk6 (fun k hg => .inl (HI.out.1.gk k hg).1) (fun k hv => .inl (HI.out.1.hm k hv))
            have rl6 := H5.out.2.2.1.kept hk6 (fun k hg => .inr (.inl hg)) (fun k hv => .inr (.inr hv))
            obtain ⟨v1, hv1, s1⟩ := slice_rows_h rl6.byts (q := S.length) (by omega)
            obtain ⟨v2, hv2, s2⟩ := slice_rows_l rl6.byts (q := S.length) (by omega)
            obtain ⟨v3, hv3, s3⟩ := slice_rows_h rm6.byts (q := j) hj
            rw [hRt] at hv1
            rw [hRd] at hv2
            have e3 : ((j : Nat) : Int) = (R.length : Int) - (S.length : Int) := by omega
            have s3' := s3
            rw [e3] at s3
            have HN := Lib.hid (HI.out.1.fresh h6 H5.out.2.2.2.2.2.1 rl6 H4.out.1.old.size H5.out.2.2.2.1 H5.out.2.2.2.2.1)
            have H6 := Lib.hid (And.intro rs6.byts (And.intro rl6.byts (And.intro hb6 (And.intro hv1 (And.intro hv2 hv3)))))
            have hal := h6.lt wr.heap.size (.inl (.inr rfl))
            have n1 : decide ((R.length : Int) < (S.length : Int)) = false := by simp; omega
            have n2 : decide (R.length < S.length) = false := by simp; omega
            have n3 : decide ((M.length : Int) < (R.length : Int) - (S.length : Int)) = false := by simp; omega
            have nw : IntKind.i64.wrap ((R.length : Int) - (S.length : Int)) = (R.length : Int) - (S.length : Int) := IntWalk.i64_in _ (by omega)
            clear rs6 rm6 rl6 hb6 hv1 hv2 hv3 h6 hk6 hRt hRd hMt c0 c1 c2 c3
            go_wp2_with fail
            refine wp_region_bar (Cls [wr.heap.size] _) [([0, 1, 2, 3, 4, 5, 6, 7, 8], 9), ([10, 11, 12, 13, 14, 15, 16, 17, 18, 19, 20, 21, 22, 23, 24, 25, 26, 27, 28, 29, 30, 31, 32, 33, 34], 35)] [36, 37, 38, 39, 40, 41, 42, 43, 44, 45, 46, 47, 48, 49] 50 [] [51, 52] (by kernel_rfl) (by kernel_rfl) (Cls.refl _ _) ?_
            try dsimp only [wpMix, wpSegs, pick, List.getElem?_cons_zero, List.getElem?_cons_succ]
            generalize hz : Act.mk _ _ = z
            repeat (first | (refine wpQuiet_step (fun K hK => ?_); replace hK := Lib.hid hK; subst hz; go_simp; generalize hz : Act.mk _ _ = z; refine hK.out z ?_; clear hK K) | (refine wpQuiet_step (fun K hK => ?_); replace hK := Lib.hid hK; subst hz; refine iteSkip (by kernel_rfl) ?_; go_simp; generalize hz : Act.mk _ _ = z; refine hK.out z ?_; clear hK K))
            refine wpQuiet_nil ?_
            subst hz
            try dsimp only [NoPan]
            go_wp2_with fail
            have hD : ∀ b ∈ [wr.heap.size], b < w6.drew.heap.size := by
              intro b hb
              simp only [List.mem_cons, List.not_mem_nil, or_false] at hb
              subst hb
              exact hal
            have HD := Lib.hid hD
            have HE := Lib.hid ((Ext.refl (fun _ => False) w6).drew)
            clear hD
            refine (same_walk (H6.out.2.1.same HE.out) (H6.out.2.2.1.same HE.out) (by omega) (by omega)).mono ?_
            rintro e w7 ⟨he, hx7⟩
            rw [decide_eq_true rfl] at he
            subst he
            have X7 := Lib.hid hx7
            clear hx7
            go_wp2_with fail
            refine ⟨Cls.of_ext X7.out fun b hb => ⟨HD.out b hb, id⟩, ?_⟩
            try dsimp only [wpMix, wpSegs, pick, List.getElem?_cons_zero, List.getElem?_cons_succ]
            generalize hz : Act.mk _ _ = z
            repeat (first | (refine wpQuiet_step (fun K hK => ?_); replace hK := Lib.hid hK; subst hz; go_simp; generalize hz : Act.mk _ _ = z; refine hK.out z ?_; clear hK K) | (refine wpQuiet_step (fun K hK => ?_); replace hK := Lib.hid hK; subst hz; refine iteSkip (by kernel_rfl) ?_; go_simp; generalize hz : Act.mk _ _ = z; refine hK.out z ?_; clear hK K))
            refine wpQuiet_nil ?_
            subst hz
            try dsimp only [NoPan]
            go_wp2_with fail
            refine (same_walk (H6.out.2.2.2.1.same (HE.out.trans X7.out)) (H6.out.1.same (HE.out.trans X7.out)) (by omega) (by omega)).mono ?_
            rintro e w8 ⟨he, hx8⟩
            rw [decide_eq_true rfl] at he
            subst he
            have X8 := Lib.hid (X7.out.trans hx8)
            clear hx8
            go_wp2_with fail
            refine ⟨Cls.of_ext X8.out fun b hb => ⟨HD.out b hb, id⟩, ?_⟩
            try dsimp only [wpMix, wpSegs, pick, List.getElem?_cons_zero, List.getElem?_cons_succ]
            generalize hz : Act.mk _ _ = z
            repeat (first | (refine wpQuiet_step (fun K hK => ?_); replace hK := Lib.hid hK; subst hz; go_simp; generalize hz : Act.mk _ _ = z; refine hK.out z ?_; clear hK K) | (refine wpQuiet_step (fun K hK => ?_); replace hK := Lib.hid hK; subst hz; refine iteSkip (by kernel_rfl) ?_; go_simp; generalize hz : Act.mk _ _ = z; refine hK.out z ?_; clear hK K))
            refine wpQuiet_nil ?_
            subst hz
            try dsimp only [NoPan]
            go_wp2_with fail
            refine (same_walk (H6.out.2.2.2.2.1.same (HE.out.trans X8.out)) (H6.out.2.2.2.2.2.same (HE.out.trans X8.out)) (by rw [List.length_take]; omega) (by rw [List.length_take]; omega)).mono ?_
            rintro e w9 ⟨he, hx9⟩
            rw [decide_eq_true rfl] at he
            subst he
            have X9 := Lib.hid (X8.out.trans hx9)
            clear hx9
            go_wp2_with fail
            try dsimp only [wpMix, wpSegs, pick, List.getElem?_cons_zero, List.getElem?_cons_succ]
            generalize hz : Act.mk _ _ = z
            repeat (first | (refine wpQuiet_step (fun K hK => ?_); replace hK := Lib.hid hK; subst hz; go_simp; generalize hz : Act.mk _ _ = z; refine hK.out z ?_; clear hK K) | (refine wpQuiet_step (fun K hK => ?_); replace hK := Lib.hid hK; subst hz; refine iteSkip (by kernel_rfl) ?_; go_simp; generalize hz : Act.mk _ _ = z; refine hK.out z ?_; clear hK K))
            refine wpQuiet_nil ?_
            subst hz
            try dsimp only [NoPan]
            go_wp2_with fail
            have HF := HN.out.step (HN.out.vh.ext (HE.out.trans X9.out)) (HN.out.vh.keep (HE.out.trans X9.out)) HN.out.ls
            exact ⟨⟨k + 1, y, R.length, sz5, false, vc, R, [], _, _, by omega, by omega, rfl, by go_num, HF⟩, by simp [intOf]; omega⟩
        have d4' : (act.Do == 4) = false := by simpa using d4
        clear d0 d1
        go_wp2_with fail
        exact ⟨⟨k + 1, x, n, sz, bad, vb, _, _, _, _, by omega, by omega, rfl, by go_num, HI.out.1⟩, by simp [intOf]; omega⟩
      · have h40' : decide ((k : Int) < 40) = false := by simp; omega
        have hlt' : (k : Int) < (acts.length : Int) := by omega
        have Hx := Lib.hid hx
        clear hI
        go_wp2_with fail
        go_ret
        exact ⟨rfl, Hx.out⟩
    · have hlt' : decide ((k : Int) < (acts.length : Int)) = false := by simp; omega
      have Hx := Lib.hid hx
      clear hI
      go_wp2_with fail
      go_ret
      exact ⟨rfl, Hx.out⟩
end Go.Proofs.Ytebcpacenoedfaa
