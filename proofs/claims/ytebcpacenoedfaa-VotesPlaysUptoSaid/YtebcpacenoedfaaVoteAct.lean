/- An act on both sides; no condition. -/
import Derived.Test.YtebcpacenoedfaaVoteTwin
import Derived.Test.YtebcpacenoedfaaMix2
import Derived.Deep.DeepCutAuto
import Derived.Deep.CutBlock
namespace Go.Proofs.Ytebcpacenoedfaa
set_option linter.unusedVariables false
set_option linter.unusedSimpArgs false
open Go.RowKit

def ActPost (w0 : World) (K : Nat → Prop) (a a' bs : Nat) (e : Ending) (w' : World) : Prop := e = .returned (.bool true) ∧ ∃ K' x', (∀ k, K k → K' k) ∧ SS w0 K' w' a a' bs x'
theorem act_open {w0 w1 w' : World} {K K1 : Nat → Prop} {a a' bs : Nat} {x : Dk} {e : Ending} (hK : ∀ k, K k → K1 k) (h : e = .returned (.bool true) ∧ ∃ K', (∀ k, K1 k → K' k) ∧ SS w0 K' w' a a' bs (openD x).2 ∧ Keep (fun k => K1 k ∧ k ≠ bs) w1 w') : ActPost w0 K a a' bs e w' := by
  obtain ⟨h1, K', h2, h3, _⟩ := h
  exact ⟨h1, K', _, fun k hk => h2 k (hK k hk), h3⟩

set_option maxRecDepth 100000 in
set_option maxHeartbeats 16000000 in
theorem sact_walk {w0 w : World} {K : Nat → Prop} {a a' bs : Nat} {x : Dk} {Do N M : Int} {lA : Option Addr} {lc : Nat} {L : List Bs} (h : SS w0 K w a a' bs x) (hL0 : Byts (· < w0.heap.size) w0 (.slice lA L.length lc) L) (hN : N ≤ 9223372036854775807) (hl : L.length ≤ 1048576) (hll : ∀ l ∈ L, l.length ≤ 131072) :
    Calls Try.prog 10 #[.pointer (some ⟨bs, 0, none⟩), .agg #[.int .i64 Do, .int .i64 N, .int .i64 M, .slice lA L.length lc]] w (ActPost w0 K a a' bs) := by
  have h1 := h.more (K' := fun k => K k ∨ k = w.heap.size) ((Ext.refl (fun _ => False) w).alloc (Obj.cells #[.int .i64 Do, .int .i64 N, .int .i64 M, .slice lA L.length lc] 35)) (fun k hk => .inl hk) (fun k hk => hk.elim .inl fun e => .inr (by simp; omega))
  have hob := heap_alloc_self w (Obj.cells #[.int .i64 Do, .int .i64 N, .int .i64 M, .slice lA L.length lc] 35)
  have hbl := h.sd.lt bs h.box.1
  have hol := h.sd.old.size
  obtain ⟨vp, yp, hs0, hvp0⟩ := h.side
  have hxb := (Ext.refl (fun _ => False) w).alloc (Obj.cells #[.int .i64 Do, .int .i64 N, .int .i64 M, .slice lA L.length lc] 35)
  have hs := hxb.heap hs0 id
  have hvp := hvp0.kept (h.sd.keep hxb) (K' := fun k => K k ∨ k = w.heap.size) fun k hk => .inl hk
  obtain ⟨s0, s1, s2, s3⟩ := side_cell hs0
  have H := Lib.hid (And.intro h1 (And.intro hob (And.intro hs (And.intro hvp hL0))))
  clear h h1 hob hs hvp hs0 hvp0 hxb
  by_cases d0 : Do = 0
  · as_aux_lemma =>
      subst d0
      rcases H.out.2.2.2.1 with ⟨rfl, rfl⟩ | ⟨va, ya, n, sz, bad, rfl, rfl, hv, hy, kv, ky, hns, hsz, hbad⟩
      · skip
        go_enter Try.func10, Try.ntmps10
        go_wp2_with fail
        generalize w.alloc (Obj.cells #[.int .i64 0, .int .i64 N, .int .i64 M, .slice lA L.length lc] 35) = w1 at *
        go_ret
        exact ⟨rfl, _, x, fun k hk => .inl hk, H.out.1⟩
      · have HV := Lib.hid (And.intro hv (And.intro hy (And.intro kv (And.intro ky (And.intro hns hbad)))))
        have htw := put_twin (ls := L) hns hsz hbad
        have HT := Lib.hid htw
        clear hv hy kv ky hns hbad htw
        go_enter Try.func10, Try.ntmps10
        go_wp2_with fail
        generalize w.alloc (Obj.cells #[.int .i64 0, .int .i64 N, .int .i64 M, .slice lA L.length lc] 35) = w1 at *
        have hb1 := lt_of_heap H.out.2.1
        go_loopw [5, 6] (fun u i W => ∃ (k : Nat) (vs : List Value), k ≤ L.length ∧ i = .int .i64 k ∧ OwnRows w1.heap.size W u vs (L.take k) ∧ LR w1.heap.size W vs (L.take k) ∧ Ext (fun _ => False) w1 W) (fun _ i _ => L.length - (intOf i).toNat)
        case atStart => exact ⟨0, [], by omega, rfl, OwnRows.nil _ _, fun i u l hi => by simp at hi, Ext.refl _ _⟩
        case round =>
          obtain ⟨k, vs, hk, rfl, hR, hLR, hx⟩ := hrel
          obtain ⟨RA, Rc, hform⟩ := own_slice_form hR.row
          subst hform
          have c3 : wr.cell? ⟨w.heap.size, 3, none⟩ = some (.slice lA L.length lc) := cells_at (hx.heap H.out.2.1 id) 3
          have htl : (L.take k).length = k := by rw [List.length_take]; omega
          rw [htl] at hR
          rw [htl]
          by_cases hlt : k < L.length
          · as_aux_lemma =>
              have hlt' : decide ((k : Int) < (L.length : Int)) = true := by simp; omega
              have hlt2 : decide (k < L.length) = true := by simpa using hlt
              have hLw := H.out.2.2.2.2.ext (H.out.1.sd.old.trans hx) fun _ _ => id
              obtain ⟨g1, o1, cc, hA1, hg1, u1, hcell1, hu1⟩ := hLw.at hlt
              obtain ⟨rfl, rfl⟩ : lA = some ⟨g1, o1, none⟩ ∧ lc = cc := by simpa using hA1
              rw [Nat.mul_one] at hcell1
              have htk : L.take (k + 1) = L.take k ++ [L[k]] := List.take_succ_eq_append_getElem hlt
              have hmem := hll _ (List.getElem_mem hlt)
              generalize L[k] = l at *
              have HX := Lib.hid (And.intro hR (And.intro hLR (And.intro hx htk)))
              have HU := Lib.hid hu1
              have hszx := hx.size
              clear hR hLR hx htk hLw hA1 hu1
              go_wp2_with fail
              refine (lent_walk HU.out (by omega)).mono ?_
              rintro e w2 ⟨rfl, hlb, hx2, hs2⟩
              have H2 := Lib.hid (And.intro hlb hx2)
              have hs3 : wr.heap.size < w2.heap.size := by omega
              clear hlb hx2 hs2
              go_wp2_with (at_builtin; refine Hid.out ?_)
              refine Lib.hid ?_
              have hxa := (Ext.refl (fun _ => False) w2).alloc (Obj.cells #[lentV wr.heap.size l] 36)
              have hown2 := own_ext HX.out.1.row (H2.out.2.trans hxa) fun _ _ => id
              rw [htl] at hown2
              refine wpList_append_lit rfl _ _ 33 rfl Try.underlying33 info24b rfl (by decide) (v := .slice RA k Rc) rfl hown2 (by simp; omega) rfl (heap_alloc_self _ _) rfl (by simp [Value.oneCell']) (by decide) (by omega) (by omega) ?_
              intro g3 c3 w3 ho3 hx3 hg3 hl3
              have hx23 : Ext (fun k' => (Value.slice RA k Rc).ownBlock = some k') w2 w3 := (hxa.mono fun _ _ => False.elim).trans hx3
              have hne : ∀ k', k' = wr.heap.size → (Value.slice RA k Rc).ownBlock ≠ some k' := fun k' hk' e => by
                have := own_below HX.out.1.row k' e
                omega
              have hb3 : LentB w3 wr.heap.size l := H2.out.1.ext hx23 (hne _ rfl)
              have hx13 : Ext (fun k' => (Value.slice RA k Rc).ownBlock = some k') wr w3 := (H2.out.2.mono fun _ _ => False.elim).trans hx23
              have hR3 := HX.out.1.snoc hx13 (by rw [htl]; exact ho3) (hb3.own (by omega)) (fun k' hk' => by simp [Value.ownBlock] at hk'; omega) hszx
              have hLR3 := HX.out.2.1.snoc HX.out.1 hx13 rfl hb3 hszx
              have hxx : Ext (fun _ => False) w1 w3 := HX.out.2.2.1.trans' hx13 fun b hb => .inr (own_from HX.out.1.row b hb)
              rw [← HX.out.2.2.2] at hR3 hLR3
              have H3 := Lib.hid (And.intro hR3 (And.intro hLR3 hxx))
              clear hR3 hLR3 hxx hx3 hg3 ho3 hx23 hx13 hb3 hxa
              go_wp2_with fail
              exact ⟨⟨k + 1, _, by omega, by go_num, H3.out.1, H3.out.2.1, H3.out.2.2⟩, by simp [intOf]; omega⟩
          · have hke : k = L.length := by omega
            subst hke
            have hlt' : decide ((L.length : Int) < (L.length : Int)) = false := by simp
            have hlt2 : decide (L.length < L.length) = false := by simp
            rw [List.take_of_length_le (Nat.le_refl _)] at hR hLR
            clear htl
            have hlt1 := H.out.1.sd.lt
            have hszx := hx.size
            have hrb := rblk_lt hR
            have hPA : PA w0 (fun k => K k ∨ k = w.heap.size) wr a a' bs w.heap.size va ya (Obj.cells #[.int .i64 0, .int .i64 N, .int .i64 M, .slice lA L.length lc] 35) x x n sz n bad bad :=
              PA.ext ⟨H.out.1.sd, .inr rfl, H.out.1.box, HV.out.2.2.1, HV.out.2.2.2.1, H.out.2.1, H.out.2.2.1, HV.out.1, HV.out.2.1⟩ hx
            have hpu := pa_put hPA (by simp [voteO]) (H.out.1.sd.more hx (fun _ => False.elim) fun k hk => hk.elim .inl fun hk => .inr (hrb k hk)) hR hLR hlt1 hl hsz (by have := HV.out.2.2.2.2.1; omega)
            have HPU := Lib.hid hpu
            have s2' : wr.cell? ⟨bs, 2, none⟩ = some (.pointer (some ⟨va, 0, none⟩)) := cell_same (cells_at H.out.2.2.1 2) hx
            have HX := Lib.hid (And.intro hx hR)
            clear hPA hpu hrb hx hR hLR
            go_wp2_with fail
            refine HPU.out.mono ?_
            rintro e w4 ⟨rfl, hPA4, hD4, hR4, hLR4⟩
            have H4 := Lib.hid (And.intro hPA4 (And.intro hD4 (And.intro hR4 hLR4)))
            clear hPA4 hD4 hR4 hLR4 HPU
            go_wp2_with fail
            go_loopw [8, 9] (fun kp i W => ∃ (k : Nat), k ≤ L.length ∧ kp = .bool true ∧ i = .int .i64 k ∧ Ext (fun _ => False) w4 W) (fun _ i _ => L.length - (intOf i).toNat)
            case atStart => exact ⟨0, by omega, rfl, rfl, Ext.refl _ _⟩
            case round =>
              obtain ⟨k, hk, rfl, rfl, hx⟩ := hrel
              have hPA := H4.out.1.ext hx
              by_cases hlt : k < L.length
              · as_aux_lemma =>
                  have hlt' : decide ((k : Int) < (L.length : Int)) = true := by simp; omega
                  have hlt2 : decide (k < L.length) = true := by simpa using hlt
                  have hLw := H.out.2.2.2.2.ext hPA.sd.old fun _ _ => id
                  obtain ⟨g1, o1, cc, hA1, hg1, u1, hcell1, hu1⟩ := hLw.at hlt
                  obtain ⟨rfl, rfl⟩ : lA = some ⟨g1, o1, none⟩ ∧ lc = cc := by simpa using hA1
                  rw [Nat.mul_one] at hcell1
                  have hRw := H4.out.2.2.1.ext hx (fun _ _ => id) (own_from H4.out.2.2.1.row)
                  obtain ⟨g2, c2, u2, hA2, _, hcell2, hu2, hvs2⟩ := rows_at hRw hlt
                  obtain ⟨rfl, rfl⟩ : RA = some ⟨g2, 0, none⟩ ∧ Rc = c2 := by simpa using hA2
                  obtain ⟨g3, rfl, hlb, _⟩ := H4.out.2.2.2 k u2 _ hvs2 (List.getElem?_eq_getElem hlt)
                  have hmem := hll _ (List.getElem_mem hlt)
                  have c3 : wr.cell? ⟨w.heap.size, 3, none⟩ = some (.slice (some ⟨g1, o1, none⟩) L.length lc) := cells_at hPA.ob 3
                  have hg1' : g1 < wr.heap.size := by have := hPA.sd.old.size; omega
                  have hg2' : g2 < wr.heap.size := own_below hRw.row g2 rfl
                  have hbw := hPA.sd.lt _ hPA.kb
                  generalize L[k] = l at *
                  have HK := Lib.hid (kept_walk (hlb.ext (hx.drew) id) (hu1.same ((Ext.refl (fun _ => False) wr).drew)) (by omega))
                  have HX2 := Lib.hid hx
                  clear hLw hA1 hRw hA2 hu2 hvs2 hlb hPA hx hu1
                  go_wp2_with fail
                  refine wp_region_bar (Cls [g2, w.heap.size, g1] _) [] [0, 1, 2, 3, 4, 5, 6, 7, 8] 9 [] [10] (by kernel_rfl) (by kernel_rfl) (Cls.refl _ _) ?_
                  try dsimp only [wpMix, wpSegs, pick, List.getElem?_cons_zero, List.getElem?_cons_succ]
                  generalize hz : Act.mk _ _ = z
                  repeat (first | (refine wpQuiet_step (fun K hK => ?_); replace hK := Lib.hid hK; subst hz; go_simp; generalize hz : Act.mk _ _ = z; refine hK.out z ?_; clear hK K) | (refine wpQuiet_step (fun K hK => ?_); replace hK := Lib.hid hK; subst hz; refine iteSkip (by kernel_rfl) ?_; go_simp; generalize hz : Act.mk _ _ = z; refine hK.out z ?_; clear hK K))
                  refine wpQuiet_nil ?_
                  subst hz
                  try dsimp only [NoPan]
                  go_wp2_with fail
                  refine HK.out.mono ?_
                  rintro e w5 ⟨rfl, hx5⟩
                  have HX5 := Lib.hid (HX2.out.drew.trans hx5)
                  clear hx5 HK
                  go_wp2_with fail
                  try dsimp only [wpMix, wpSegs, pick, List.getElem?_cons_zero, List.getElem?_cons_succ]
                  generalize hz : Act.mk _ _ = z
                  repeat (first | (refine wpQuiet_step (fun K hK => ?_); replace hK := Lib.hid hK; subst hz; go_simp; generalize hz : Act.mk _ _ = z; refine hK.out z ?_; clear hK K) | (refine wpQuiet_step (fun K hK => ?_); replace hK := Lib.hid hK; subst hz; refine iteSkip (by kernel_rfl) ?_; go_simp; generalize hz : Act.mk _ _ = z; refine hK.out z ?_; clear hK K))
                  refine wpQuiet_nil ?_
                  subst hz
                  try dsimp only [NoPan]
                  go_wp2_with fail
                  exact ⟨⟨k + 1, by omega, rfl, by go_num, HX5.out⟩, by simp [intOf]; omega⟩
              · have hke : k = L.length := by omega
                subst hke
                have hlt' : decide ((L.length : Int) < (L.length : Int)) = false := by simp
                have hlt2 : decide (L.length < L.length) = false := by simp
                have hR5 := H4.out.2.2.1.ext hx (fun _ _ => id) (own_from H4.out.2.2.1.row)
                have HO := Lib.hid (pa_owned hPA (H4.out.2.1.ext hx) hR5 hlt1 (by have := H.out.1.sd.old.size; omega) hl)
                clear hPA hx hR5
                go_wp2_with fail
                refine HO.out.mono ?_
                rintro e w5 ⟨rfl, hPA5⟩
                have hPd := hPA5.ext ((Ext.refl (fun _ => False) w5).drew)
                have htw := HT.out
                have hxp := pa_xput hPd (by simp [docO]) (H.out.2.2.2.2.ext hPd.sd.old fun _ _ => id) hl (by have := HV.out.2.2.2.2.1; omega)
                rw [htw.1, htw.2.1, htw.2.2.1, htw.2.2.2.1] at hxp
                have HXP := Lib.hid hxp
                obtain ⟨t0, t1, t2, t3⟩ := side_cell hPA5.os
                have b3 : w5.cell? ⟨w.heap.size, 3, none⟩ = some (.slice lA L.length lc) := cells_at hPA5.ob 3
                have hbs5 := hPA5.sd.lt _ hPA5.ks.1
                have hb5 := hPA5.sd.lt _ hPA5.kb
                have H5 := Lib.hid hPA5
                clear hPA5 hPd hxp htw HO
                generalize putR x n sz bad L = r at *
                obtain ⟨re, rx, rn, rsz, rbad⟩ := r
                go_wp2_with fail
                refine wp_region_mix2 (Cls [bs, w.heap.size] _) [([0, 1, 2, 3, 4, 5, 6, 7, 8], 9)] [([10, 11, 12, 13, 14, 15, 16, 18, 19, 20, 21, 22, 23, 24], 17)] [25, 26, 27] (by kernel_rfl) (by kernel_rfl) (Cls.refl _ _) ?_
                try dsimp only [wpMix, wpSegs, pick, List.getElem?_cons_zero, List.getElem?_cons_succ]
                generalize hz : Act.mk _ _ = z
                repeat (first | (refine wpQuiet_step (fun K hK => ?_); replace hK := Lib.hid hK; subst hz; go_simp; generalize hz : Act.mk _ _ = z; refine hK.out z ?_; clear hK K) | (refine wpQuiet_step (fun K hK => ?_); replace hK := Lib.hid hK; subst hz; refine iteSkip (by kernel_rfl) ?_; go_simp; generalize hz : Act.mk _ _ = z; refine hK.out z ?_; clear hK K))
                refine wpQuiet_nil ?_
                subst hz
                try dsimp only [NoPan]
                go_wp2_with fail
                refine HXP.out.mono ?_
                rintro e w6 ⟨rfl, hPA6⟩
                have H6 := Lib.hid hPA6
                have hc6 : Cls [bs, w.heap.size] w5.drew w6 := Cls.mk fun q hq => by
                  simp only [List.mem_cons, List.not_mem_nil, or_false] at hq
                  rcases hq with rfl | rfl
                  · exact hPA6.os.trans H5.out.os.symm
                  · exact hPA6.ob.trans H5.out.ob.symm
                have HC6 := Lib.hid hc6
                have y1 : w6.cell? ⟨ya, 1, none⟩ = some (.int .i64 (rn : Nat)) := cells_at hPA6.oy 1
                clear hPA6 hc6
                go_wp2_with fail
                have hs6 := lt_of_heap H6.out.os
                have hy6 := lt_of_heap H6.out.oy
                obtain ⟨v0, v1, v2, v3⟩ := side_cell H6.out.os
                refine ⟨HC6.out, Cls [bs, w.heap.size, ya] w6, fun w' hw' => HC6.out.sub (by simp only [List.mem_cons, List.not_mem_nil, or_false]; intro b hb; rcases hb with rfl | rfl <;> simp) hw', Cls.refl _ _, ?_⟩
                try dsimp only [wpMix, wpSegs, pick, List.getElem?_cons_zero, List.getElem?_cons_succ]
                generalize hz : Act.mk _ _ = z
                repeat (first | (refine wpQuiet_step (fun K hK => ?_); replace hK := Lib.hid hK; subst hz; go_simp; generalize hz : Act.mk _ _ = z; refine hK.out z ?_; clear hK K) | (refine wpQuiet_step (fun K hK => ?_); replace hK := Lib.hid hK; subst hz; refine iteSkip (by kernel_rfl) ?_; go_simp; generalize hz : Act.mk _ _ = z; refine hK.out z ?_; clear hK K))
                refine wpQuiet_nil ?_
                subst hz
                try dsimp only [NoPan]
                go_wp2_with fail
                refine (vote_count H6.out.ov).mono ?_
                rintro e _ ⟨rfl, rfl⟩
                go_wp2_with fail
                refine ⟨Cls.refl _ _, ?_⟩
                try dsimp only [wpMix, wpSegs, pick, List.getElem?_cons_zero, List.getElem?_cons_succ]
                generalize hz : Act.mk _ _ = z
                repeat (first | (refine wpQuiet_step (fun K hK => ?_); replace hK := Lib.hid hK; subst hz; go_simp; generalize hz : Act.mk _ _ = z; refine hK.out z ?_; clear hK K) | (refine wpQuiet_step (fun K hK => ?_); replace hK := Lib.hid hK; subst hz; refine iteSkip (by kernel_rfl) ?_; go_simp; generalize hz : Act.mk _ _ = z; refine hK.out z ?_; clear hK K))
                refine wpQuiet_nil ?_
                subst hz
                try dsimp only [NoPan]
                go_wp2_with fail
                go_ret
                exact ⟨rfl, _, rx, fun k hk => .inl hk, ⟨H6.out.sd, H6.out.ks, _, _, H6.out.os, .inr ⟨va, ya, rn, rsz, rbad, rfl, rfl, H6.out.ov, H6.out.oy, H6.out.kv, H6.out.ky, HT.out.2.2.2.2.1, HT.out.2.2.2.2.2.1, HT.out.2.2.2.2.2.2⟩⟩⟩
  have d0' : (Do == 0) = false := by simpa using d0
  by_cases d1 : Do = 1
  · as_aux_lemma =>
      subst d1
      clear d0 d0'
      go_enter Try.func10, Try.ntmps10
      go_wp2_with fail
      generalize w.alloc (Obj.cells #[.int .i64 1, .int .i64 N, .int .i64 M, .slice lA L.length lc] 35) = w1 at *
      obtain ⟨t0, t1, t2, t3⟩ := side_cell H.out.2.2.1
      have b1 : w1.cell? ⟨w.heap.size, 1, none⟩ = some (.int .i64 N) := cells_at H.out.2.1 1
      have b2 : w1.cell? ⟨w.heap.size, 2, none⟩ = some (.int .i64 M) := cells_at H.out.2.1 2
      have hb1 := lt_of_heap H.out.2.1
      have hbs1 := lt_of_heap H.out.2.2.1
      clear s0 s1 s2 s3
      refine wp_region_bar (Cls [bs, w.heap.size] _) [] [0, 1, 2, 3, 4, 5, 6, 7, 8, 9] 10 [] [] (by kernel_rfl) (by kernel_rfl) (Cls.refl _ _) ?_
      try dsimp only [wpMix, wpSegs, pick, List.getElem?_cons_zero, List.getElem?_cons_succ]
      generalize hz : Act.mk _ _ = z
      repeat (first | (refine wpQuiet_step (fun K hK => ?_); replace hK := Lib.hid hK; subst hz; go_simp; generalize hz : Act.mk _ _ = z; refine hK.out z ?_; clear hK K) | (refine wpQuiet_step (fun K hK => ?_); replace hK := Lib.hid hK; subst hz; refine iteSkip (by kernel_rfl) ?_; go_simp; generalize hz : Act.mk _ _ = z; refine hK.out z ?_; clear hK K))
      refine wpQuiet_nil ?_
      subst hz
      try dsimp only [NoPan]
      go_wp2_with fail
      refine (sd_arm (H.out.1.sd.ext ((Ext.refl _ _).drew)) N M hN).mono ?_
      rintro e w2 ⟨rfl, hD2, hk2⟩
      have hk12 : Keep (fun k => K k ∨ k = w.heap.size) w1 w2 := (H.out.1.sd.keep ((Ext.refl _ _).drew)).trans hk2
      have hs2 := (hk12.2 bs H.out.1.box.1).trans H.out.2.2.1
      have hob2 := (hk12.2 _ (.inr rfl)).trans H.out.2.1
      obtain ⟨u0, u1, u2, u3⟩ := side_cell hs2
      have p1 : w2.cell? ⟨w.heap.size, 1, none⟩ = some (.int .i64 N) := cells_at hob2 1
      have p2 : w2.cell? ⟨w.heap.size, 2, none⟩ = some (.int .i64 M) := cells_at hob2 2
      have hb2 := lt_of_heap hob2
      have hbs2 := lt_of_heap hs2
      have H2 := Lib.hid (And.intro hD2 (And.intro hk12 hs2))
      clear hD2 hk2 hk12 hs2 hob2
      go_wp2_with fail
      try dsimp only [wpMix, wpSegs, pick, List.getElem?_cons_zero, List.getElem?_cons_succ]
      generalize hz : Act.mk _ _ = z
      repeat (first | (refine wpQuiet_step (fun K hK => ?_); replace hK := Lib.hid hK; subst hz; go_simp; generalize hz : Act.mk _ _ = z; refine hK.out z ?_; clear hK K) | (refine wpQuiet_step (fun K hK => ?_); replace hK := Lib.hid hK; subst hz; refine iteSkip (by kernel_rfl) ?_; go_simp; generalize hz : Act.mk _ _ = z; refine hK.out z ?_; clear hK K))
      refine wpQuiet_nil ?_
      subst hz
      try dsimp only [NoPan]
      go_wp2_with fail
      refine wp_region_bar (Cls [bs, w.heap.size] _) [] [0, 1, 2, 3, 4, 5, 6, 7] 8 [] [] (by kernel_rfl) (by kernel_rfl) (Cls.refl _ _) ?_
      try dsimp only [wpMix, wpSegs, pick, List.getElem?_cons_zero, List.getElem?_cons_succ]
      generalize hz : Act.mk _ _ = z
      repeat (first | (refine wpQuiet_step (fun K hK => ?_); replace hK := Lib.hid hK; subst hz; go_simp; generalize hz : Act.mk _ _ = z; refine hK.out z ?_; clear hK K) | (refine wpQuiet_step (fun K hK => ?_); replace hK := Lib.hid hK; subst hz; refine iteSkip (by kernel_rfl) ?_; go_simp; generalize hz : Act.mk _ _ = z; refine hK.out z ?_; clear hK K))
      refine wpQuiet_nil ?_
      subst hz
      try dsimp only [NoPan]
      go_wp2_with fail
      refine (sd_xarm (H2.out.1.ext ((Ext.refl _ _).drew)) N M hN).mono ?_
      rintro e w3 ⟨rfl, hD3, hk3⟩
      have hk23 : Keep (fun k => K k ∨ k = w.heap.size) w2 w3 := (H2.out.1.keep ((Ext.refl _ _).drew)).trans hk3
      have H3 := Lib.hid (And.intro hD3 hk23)
      clear hD3 hk3 hk23
      go_wp2_with fail
      try dsimp only [wpMix, wpSegs, pick, List.getElem?_cons_zero, List.getElem?_cons_succ]
      generalize hz : Act.mk _ _ = z
      repeat (first | (refine wpQuiet_step (fun K hK => ?_); replace hK := Lib.hid hK; subst hz; go_simp; generalize hz : Act.mk _ _ = z; refine hK.out z ?_; clear hK K) | (refine wpQuiet_step (fun K hK => ?_); replace hK := Lib.hid hK; subst hz; refine iteSkip (by kernel_rfl) ?_; go_simp; generalize hz : Act.mk _ _ = z; refine hK.out z ?_; clear hK K))
      refine wpQuiet_nil ?_
      subst hz
      try dsimp only [NoPan]
      go_wp2_with fail
      go_ret
      refine ⟨rfl, fun k => K k ∨ k = w.heap.size, armD N M x, fun k hk => .inl hk, ⟨H3.out.1, H.out.1.box, vp, yp, (H3.out.2.2 bs H.out.1.box.1).trans H2.out.2.2, ?_⟩⟩
      exact H.out.2.2.2.1.kept (H2.out.2.1.trans H3.out.2) fun k hk => hk
  have d1' : (Do == 1) = false := by simpa using d1
  by_cases d2 : Do = 2
  · as_aux_lemma =>
      subst d2
      clear d0 d0' d1 d1'
      go_enter Try.func10, Try.ntmps10
      go_wp2_with fail
      generalize w.alloc (Obj.cells #[.int .i64 2, .int .i64 N, .int .i64 M, .slice lA L.length lc] 35) = w1 at *
      obtain ⟨t0, t1, t2, t3⟩ := side_cell H.out.2.2.1
      have b1 : w1.cell? ⟨w.heap.size, 1, none⟩ = some (.int .i64 N) := cells_at H.out.2.1 1
      have hb1 := lt_of_heap H.out.2.1
      have hbs1 := lt_of_heap H.out.2.2.1
      clear s0 s1 s2 s3
      refine wp_region_bar (Cls [bs, w.heap.size] _) [] [0, 1, 2, 3, 4, 5] 6 [] [] (by kernel_rfl) (by kernel_rfl) (Cls.refl _ _) ?_
      try dsimp only [wpMix, wpSegs, pick, List.getElem?_cons_zero, List.getElem?_cons_succ]
      generalize hz : Act.mk _ _ = z
      repeat (first | (refine wpQuiet_step (fun K hK => ?_); replace hK := Lib.hid hK; subst hz; go_simp; generalize hz : Act.mk _ _ = z; refine hK.out z ?_; clear hK K) | (refine wpQuiet_step (fun K hK => ?_); replace hK := Lib.hid hK; subst hz; refine iteSkip (by kernel_rfl) ?_; go_simp; generalize hz : Act.mk _ _ = z; refine hK.out z ?_; clear hK K))
      refine wpQuiet_nil ?_
      subst hz
      try dsimp only [NoPan]
      go_wp2_with fail
      refine (sd_boot (H.out.1.sd.ext ((Ext.refl _ _).drew)) N).mono ?_
      rintro e w2 ⟨rfl, hD2, hk2⟩
      have hk12 : Keep (fun k => K k ∨ k = w.heap.size) w1 w2 := (H.out.1.sd.keep ((Ext.refl _ _).drew)).trans hk2
      have hs2 := (hk12.2 bs H.out.1.box.1).trans H.out.2.2.1
      have hob2 := (hk12.2 _ (.inr rfl)).trans H.out.2.1
      obtain ⟨u0, u1, u2, u3⟩ := side_cell hs2
      have p1 : w2.cell? ⟨w.heap.size, 1, none⟩ = some (.int .i64 N) := cells_at hob2 1
      have hb2 := lt_of_heap hob2
      have hbs2 := lt_of_heap hs2
      have H2 := Lib.hid (And.intro hD2 (And.intro hk12 hs2))
      clear hD2 hk2 hk12 hs2 hob2
      go_wp2_with fail
      try dsimp only [wpMix, wpSegs, pick, List.getElem?_cons_zero, List.getElem?_cons_succ]
      generalize hz : Act.mk _ _ = z
      repeat (first | (refine wpQuiet_step (fun K hK => ?_); replace hK := Lib.hid hK; subst hz; go_simp; generalize hz : Act.mk _ _ = z; refine hK.out z ?_; clear hK K) | (refine wpQuiet_step (fun K hK => ?_); replace hK := Lib.hid hK; subst hz; refine iteSkip (by kernel_rfl) ?_; go_simp; generalize hz : Act.mk _ _ = z; refine hK.out z ?_; clear hK K))
      refine wpQuiet_nil ?_
      subst hz
      try dsimp only [NoPan]
      go_wp2_with fail
      refine wp_region_bar (Cls [bs, w.heap.size] _) [] [0, 1, 2, 3, 4, 5] 6 [] [] (by kernel_rfl) (by kernel_rfl) (Cls.refl _ _) ?_
      try dsimp only [wpMix, wpSegs, pick, List.getElem?_cons_zero, List.getElem?_cons_succ]
      generalize hz : Act.mk _ _ = z
      repeat (first | (refine wpQuiet_step (fun K hK => ?_); replace hK := Lib.hid hK; subst hz; go_simp; generalize hz : Act.mk _ _ = z; refine hK.out z ?_; clear hK K) | (refine wpQuiet_step (fun K hK => ?_); replace hK := Lib.hid hK; subst hz; refine iteSkip (by kernel_rfl) ?_; go_simp; generalize hz : Act.mk _ _ = z; refine hK.out z ?_; clear hK K))
      refine wpQuiet_nil ?_
      subst hz
      try dsimp only [NoPan]
      go_wp2_with fail
      refine (sd_xboot (H2.out.1.ext ((Ext.refl _ _).drew)) N).mono ?_
      rintro e w3 ⟨rfl, hD3, hk3⟩
      have hk23 : Keep (fun k => K k ∨ k = w.heap.size) w2 w3 := (H2.out.1.keep ((Ext.refl _ _).drew)).trans hk3
      have HO := Lib.hid (sopen_walk hD3 H.out.1.box ((hk23.2 bs H.out.1.box.1).trans H2.out.2.2))
      clear hD3 hk3 hk23
      go_wp2_with fail
      try dsimp only [wpMix, wpSegs, pick, List.getElem?_cons_zero, List.getElem?_cons_succ]
      generalize hz : Act.mk _ _ = z
      repeat (first | (refine wpQuiet_step (fun K hK => ?_); replace hK := Lib.hid hK; subst hz; go_simp; generalize hz : Act.mk _ _ = z; refine hK.out z ?_; clear hK K) | (refine wpQuiet_step (fun K hK => ?_); replace hK := Lib.hid hK; subst hz; refine iteSkip (by kernel_rfl) ?_; go_simp; generalize hz : Act.mk _ _ = z; refine hK.out z ?_; clear hK K))
      refine wpQuiet_nil ?_
      subst hz
      try dsimp only [NoPan]
      go_wp2_with fail
      refine HO.out.mono ?_
      intro e w4 h4
      have h5 := act_open (K := K) (fun k hk => .inl hk) h4
      obtain ⟨rfl, h6⟩ := h5
      have H6 := Lib.hid h6
      clear h4 h6
      go_wp2_with fail
      go_ret
      exact ⟨rfl, H6.out⟩
  have d2' : (Do == 2) = false := by simpa using d2
  by_cases d3 : Do = 3
  · as_aux_lemma =>
      subst d3
      clear d0 d0' d1 d1' d2 d2'
      go_enter Try.func10, Try.ntmps10
      go_wp2_with fail
      generalize w.alloc (Obj.cells #[.int .i64 3, .int .i64 N, .int .i64 M, .slice lA L.length lc] 35) = w1 at *
      have hb1 := lt_of_heap H.out.2.1
      clear s0 s1 s2 s3
      go_loopw [11] (fun i W => ∃ (k : Nat) (z : Dk), k ≤ L.length ∧ i = .int .i64 k ∧ SD w0 (fun k => K k ∨ k = w.heap.size) W a a' z z ∧ Keep (fun k => K k ∨ k = w.heap.size) w1 W) (fun i _ => L.length - (intOf i).toNat)
      case atStart => exact ⟨0, x, by omega, rfl, H.out.1.sd, Keep.refl _ _⟩
      case round =>
        obtain ⟨k, z, hk, rfl, hD, hkp⟩ := hrel
        have hs1 := (hkp.2 bs H.out.1.box.1).trans H.out.2.2.1
        have hob1 := (hkp.2 _ (.inr rfl)).trans H.out.2.1
        obtain ⟨t0, t1, t2, t3⟩ := side_cell hs1
        have b3 : wr.cell? ⟨w.heap.size, 3, none⟩ = some (.slice lA L.length lc) := cells_at hob1 3
        have hb2 := lt_of_heap hob1
        have hbs2 := lt_of_heap hs1
        by_cases hlt : k < L.length
        · as_aux_lemma =>
            have hlt' : decide ((k : Int) < (L.length : Int)) = true := by simp; omega
            have hlt2 : decide (k < L.length) = true := by simpa using hlt
            have hLw := H.out.2.2.2.2.ext hD.old fun _ _ => id
            obtain ⟨g1, o1, cc, hA1, hg1, u1, hcell1, hu1⟩ := hLw.at hlt
            obtain ⟨rfl, rfl⟩ : lA = some ⟨g1, o1, none⟩ ∧ lc = cc := by simpa using hA1
            rw [Nat.mul_one] at hcell1
            have hg1' : g1 < wr.heap.size := by have := hD.old.size; omega
            generalize L[k] = l at *
            have hap := sd_append (hD.ext ((Ext.refl _ _).drew)) (hu1.same ((Ext.refl (fun _ => False) wr).drew)) fun k hk => .inl hk
            have HX := Lib.hid (And.intro hD (And.intro hkp (And.intro hu1 hap)))
            clear hLw hA1 hu1 hap hD hkp hs1 hob1
            generalize hr : appendD l z = r at *
            obtain ⟨re, z'⟩ := r
            have Hr := Lib.hid hr
            clear hr
            go_wp2_with fail
            refine wp_region_bar (Cls [bs, w.heap.size, g1] _) [([0, 1, 2, 3, 4, 5, 6, 7, 8, 10, 11, 12, 13, 14, 15, 16, 17, 18], 9)] [] 19 [] [20] (by kernel_rfl) (by kernel_rfl) (Cls.refl _ _) ?_
            try dsimp only [wpMix, wpSegs, pick, List.getElem?_cons_zero, List.getElem?_cons_succ]
            generalize hz : Act.mk _ _ = z
            repeat (first | (refine wpQuiet_step (fun K hK => ?_); replace hK := Lib.hid hK; subst hz; go_simp; generalize hz : Act.mk _ _ = z; refine hK.out z ?_; clear hK K) | (refine wpQuiet_step (fun K hK => ?_); replace hK := Lib.hid hK; subst hz; refine iteSkip (by kernel_rfl) ?_; go_simp; generalize hz : Act.mk _ _ = z; refine hK.out z ?_; clear hK K))
            refine wpQuiet_nil ?_
            subst hz
            try dsimp only [NoPan]
            go_wp2_with fail
            refine HX.out.2.2.2.mono ?_
            rintro e w5 ⟨rfl, hD5, hk5⟩
            have hkd := hk5
            have hold := hD5.old
            have hoc : ∀ g, g < w0.heap.size → w5.heap[g]? = wr.heap[g]? := fun g hg => (hold.block g hg id).trans (HX.out.1.old.block g hg id).symm
            have hu5 := HX.out.2.2.1.kept (w' := w5) ⟨hk5.1, fun g hg => hoc g hg⟩
            have hc5 : Cls [bs, w.heap.size, g1] wr.drew w5 := Cls.mk fun q hq => by
              simp only [List.mem_cons, List.not_mem_nil, or_false] at hq
              rcases hq with rfl | rfl | rfl
              · exact hk5.2 _ H.out.1.box.1
              · exact hk5.2 _ (.inr rfl)
              · exact hoc _ hg1
            have hxa := sd_xappend hD5 hu5 fun k hk => .inl hk
            rw [Hr.out] at hxa
            have H5 := Lib.hid (And.intro hc5 (And.intro hxa (((HX.out.1.keep ((Ext.refl _ _).drew))).trans hk5)))
            clear hkd hold hoc hu5 hc5 hxa hD5 hk5
            go_wp2_with fail
            refine ⟨H5.out.1, ?_⟩
            try dsimp only [wpMix, wpSegs, pick, List.getElem?_cons_zero, List.getElem?_cons_succ]
            generalize hz : Act.mk _ _ = z
            repeat (first | (refine wpQuiet_step (fun K hK => ?_); replace hK := Lib.hid hK; subst hz; go_simp; generalize hz : Act.mk _ _ = z; refine hK.out z ?_; clear hK K) | (refine wpQuiet_step (fun K hK => ?_); replace hK := Lib.hid hK; subst hz; refine iteSkip (by kernel_rfl) ?_; go_simp; generalize hz : Act.mk _ _ = z; refine hK.out z ?_; clear hK K))
            refine wpQuiet_nil ?_
            subst hz
            try dsimp only [NoPan]
            go_wp2_with fail
            refine H5.out.2.1.mono ?_
            rintro e w6 ⟨rfl, hD6, hk6⟩
            have H6 := Lib.hid (And.intro hD6 ((HX.out.2.1.trans H5.out.2.2).trans hk6))
            clear hD6 hk6
            go_wp2_with fail
            try dsimp only [wpMix, wpSegs, pick, List.getElem?_cons_zero, List.getElem?_cons_succ]
            generalize hz : Act.mk _ _ = z
            repeat (first | (refine wpQuiet_step (fun K hK => ?_); replace hK := Lib.hid hK; subst hz; go_simp; generalize hz : Act.mk _ _ = z; refine hK.out z ?_; clear hK K) | (refine wpQuiet_step (fun K hK => ?_); replace hK := Lib.hid hK; subst hz; refine iteSkip (by kernel_rfl) ?_; go_simp; generalize hz : Act.mk _ _ = z; refine hK.out z ?_; clear hK K))
            refine wpQuiet_nil ?_
            subst hz
            try dsimp only [NoPan]
            go_wp2_with fail
            exact ⟨⟨k + 1, z', by omega, by go_num, H6.out.1, H6.out.2⟩, by simp [intOf]; omega⟩
        · have hlt' : decide ((k : Int) < (L.length : Int)) = false := by simp; omega
          have hlt2 : decide (k < L.length) = false := by simp; omega
          have HO := Lib.hid (sopen_walk hD H.out.1.box hs1)
          clear hD hkp hs1 hob1
          go_wp2_with fail
          refine HO.out.mono ?_
          intro e w4 h4
          have h5 := act_open (K := K) (fun k hk => .inl hk) h4
          obtain ⟨rfl, h6⟩ := h5
          have H6 := Lib.hid h6
          clear h4 h6
          go_wp2_with fail
          go_ret
          exact ⟨rfl, H6.out⟩
  have d3' : (Do == 3) = false := by simpa using d3
  by_cases d4 : Do = 4
  · as_aux_lemma =>
      subst d4
      clear d0 d0' d1 d1' d2 d2' d3 d3'
      have HO := Lib.hid (sopen_walk H.out.1.sd H.out.1.box H.out.2.2.1)
      go_enter Try.func10, Try.ntmps10
      go_wp2_with fail
      refine HO.out.mono ?_
      intro e w4 h4
      have h5 := act_open (K := K) (fun k hk => .inl hk) h4
      obtain ⟨rfl, h6⟩ := h5
      have H6 := Lib.hid h6
      clear h4 h6
      go_wp2_with fail
      go_ret
      exact ⟨rfl, H6.out⟩
  have d4' : (Do == 4) = false := by simpa using d4
  clear d0 d1 d2 d3 d4
  go_enter Try.func10, Try.ntmps10
  go_wp2_with fail
  go_ret
  exact ⟨rfl, _, x, fun k hk => .inl hk, H.out.1⟩
end Go.Proofs.Ytebcpacenoedfaa
