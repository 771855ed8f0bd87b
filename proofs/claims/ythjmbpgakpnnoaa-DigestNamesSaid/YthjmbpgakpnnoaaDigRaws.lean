/- DigestRaws answers true; no condition. -/
import Derived.Test.YthjmbpgakpnnoaaDigOf
namespace Go.Proofs.Ythjmbpgakpnnoaa
set_option linter.unusedVariables false
set_option linter.unusedSimpArgs false
open Go.RowKit

section
variable {P : Program} {ops : Array Oper} {rest : List Oper} {o : Oper} {a : Act} {C : World → Prop} {Q : Act → Prop}
/-- A whole array or struct is read, in any world of the class. -/
theorem wpQuiet_load_row (ty : TypeId) (x : Operand) (ho : o.op = .load ty x) (hw : Region.wanted o (yielded ops a.tmps) = true) (g : Nat) (hx : a.eval x = .pointer (some ⟨g, 0, none⟩)) (t : TypeId) (cs : Array Value) (fr : Nat × Nat) (d : TypeDesc)
    (hC : ∀ w, C w → w.heap[g]? = some (.cells cs t fr)) (hu : P.underlying ty = some d) (hd : (match d with | .struct _ | .array _ _ => true | _ => false) = true) (hi : (P.info? ty).map (·.size) = some cs.size)
    (h : wpQuiet P ops C Q rest (a.put o.dst (.agg cs))) : wpQuiet P ops C Q (o :: rest) a := by
  simp only [wpQuiet, hw, if_true]
  refine ⟨.agg cs, fun w hw => ?_, h⟩
  unfold Oper.quietAt execOp
  simp only [ho, hx, Instr.loadAt, Instr.sureAddr, Sem.run_bind, Sem.run_pure, Result.andThen_ok, run_loadVar_row w g t ty cs fr d (hC w hw) hu hd hi]
  exact ⟨rfl, rfl⟩
end
theorem cls_heap {D : List Nat} {w0 : World} {b : Nat} (hb : b ∈ D) {ob : Obj} (h : w0.heap[b]? = some ob) : ∀ w, Cls D w0 w → w.heap[b]? = some ob := by
  rintro w ⟨u, rfl⟩
  rw [u.obj b hb]
  exact h
set_option maxRecDepth 100000 in
set_option maxHeartbeats 1000000 in
theorem raws_walk {w : World} {D : Nat → Prop} {v : Value} {l : Bs} (hv : Byt D w v l) (hl : l.length ≤ 140737488351232) :
    Calls Try.prog 3 #[v] w fun e w' => e = .returned (.bool true) ∧ Ext (fun _ => False) w w' := by
  obtain ⟨A, c, rfl, hle, _⟩ := id hv
  have Hv := Lib.hid hv
  by_cases hbig : 65536 < l.length
  · have hcm : decide ((65536 : Int) < (l.length : Int)) = true := by simp; omega
    have hcm' : (65536 : Int) < (l.length : Int) := by omega
    clear hv hle
    go_enter Try.func3, Try.ntmps3
    go_wp2_with fail
    refine (small_walk _).mono ?_
    rintro e w1 ⟨rfl, hx1⟩
    have H1 := Lib.hid hx1
    clear hx1
    go_wp2_with fail
    go_ret
    exact ⟨rfl, H1.out⟩
  · have hcm : decide ((65536 : Int) < (l.length : Int)) = false := by simp; omega
    have hcm' : ¬ (65536 : Int) < (l.length : Int) := by omega
    clear hv hle
    go_enter Try.func3, Try.ntmps3
    go_wp2_with fail
    refine (small_walk _).mono ?_
    rintro e w1 ⟨rfl, hx1⟩
    have HL := Lib.hid (lent_walk (Hv.out.same hx1) (by omega))
    have H1 := Lib.hid hx1
    clear hx1
    go_wp2_with fail
    refine HL.out.mono ?_
    rintro e w2 ⟨rfl, hlb, hx2, hz2⟩
    have HR := Lib.hid (raw_walk (hlb.byt (by omega)) hl)
    have H2 := Lib.hid (And.intro hlb (H1.out.trans hx2))
    clear hlb hx2 hz2 HL
    go_wp2_with fail
    refine HR.out.mono ?_
    rintro e w3 ⟨rfl, hx3⟩
    have H3 := Lib.hid hx3
    clear hx3 HR
    rw [sumV_cells]
    have hcz := sum_size (rawB l) (rawB_len _)
    have hco := sum_one (rawB l)
    generalize hcs : ((rawB l).map byteV).toArray = cs at *
    have Hc := Lib.hid (And.intro hcz (And.intro hco hcs))
    clear hcz hco hcs
    have hself := heap_alloc_self w3
    have Hs := Lib.hid hself
    clear hself
    go_wp2_with (refine wpList_store_row rfl 26 _ _ rfl w3.heap.size cs rfl rfl 26 _ (Hs.out _) (by rw [Hc.out.1]; kernel_rfl) (by rw [Hc.out.1]; rfl) Hc.out.2.1 ?_)
    generalize hw4 : (w3.alloc _).setRow _ cs = w4
    have h4 : w4.heap[w3.heap.size]? = some (.cells cs 26 (0, 0)) := by rw [← hw4]; exact setRow_heap _ _ _ _ _ _ (Hs.out _)
    have hx4 : Ext (fun _ => False) w3 w4 := by rw [← hw4]; exact ((Ext.refl _ _).alloc _).setRow (.inr (Nat.le_refl _)) _
    have hlb4 := (H2.out.1.ext H3.out id).ext hx4 id
    have hx04 := (H2.out.2.trans H3.out).trans hx4
    have HK := Lib.hid (kept_walk hlb4 (Hv.out.same hx04) (by omega))
    have H4 := Lib.hid (And.intro h4 hx04)
    clear h4 hx4 hlb4 hx04 hw4 Hs
    generalize w3.heap.size = b3 at *
    refine HK.out.mono ?_
    rintro e w5 ⟨rfl, hx5⟩
    have h5 := hx5.heap H4.out.1 id
    have hlt5 := lt_of_heap h5
    have hx05 := H4.out.2.trans hx5
    have hrow : ∀ w, Cls [b3] w5.drew w → w.heap[b3]? = some (.cells cs 26 (0, 0)) := cls_heap (by simp) h5
    have Hrow := Lib.hid hrow
    clear hrow
    have heq := run_eql_sum (rawB l) (rawB l) (rawB_len _) (rawB_len _)
    rw [sumV_cells, Hc.out.2.2] at heq
    have HD := Lib.hid (fun W (hx : Ext (fun _ => False) w5 W) => draw_walk ((Hv.out.same hx05).same hx) hl)
    have H5 := Lib.hid hx05
    clear hx5 hx05 HK
    go_wp2_with fail
    refine wp_region_mix (Cls [b3] _) [([0, 1, 2, 3, 4, 5, 6], 7)] [8, 9, 10] (by kernel_rfl) (by kernel_rfl) (Cls.refl _ _) ?_
    try dsimp only [wpMix, wpSegs, pick, List.getElem?_cons_zero, List.getElem?_cons_succ]
    generalize hz : Act.mk _ _ = z
    repeat (first | (subst hz; (refine wpQuiet_load_row 26 _ rfl (by kernel_rfl) b3 rfl 26 cs (0, 0) _ Hrow.out Try.underlying26 rfl (by rw [Hc.out.1]; kernel_rfl) ?_); generalize hz : Act.put _ _ _ = z) | (refine wpQuiet_step (fun K hK => ?_); replace hK := Lib.hid hK; subst hz; go_simp; generalize hz : Act.mk _ _ = z; refine hK.out z ?_; clear hK K) | (refine wpQuiet_step (fun K hK => ?_); replace hK := Lib.hid hK; subst hz; refine iteSkip (by kernel_rfl) ?_; go_simp; generalize hz : Act.mk _ _ = z; refine hK.out z ?_; clear hK K))
    refine wpQuiet_nil ?_
    subst hz
    try dsimp only [NoPan]
    go_wp2_with fail
    refine (HD.out _ ((Ext.refl _ _).drew)).mono ?_
    rintro e w6 ⟨rfl, hx6⟩
    rw [sumV_cells, Hc.out.2.2]
    have h6 : w6.heap[b3]? = w5.drew.heap[b3]? := hx6.block b3 hlt5 id
    have H6 := Lib.hid (H5.out.trans ((Ext.refl (fun _ => False) w5).drew.trans hx6))
    clear hx6
    go_wp2_with fail
    refine ⟨Cls.mk fun b hb => by simp only [List.mem_singleton] at hb; subst hb; exact h6, ?_⟩
    try dsimp only [wpMix, wpSegs, pick, List.getElem?_cons_zero, List.getElem?_cons_succ]
    generalize hz : Act.mk _ _ = z
    repeat (first | (refine wpQuiet_step (fun K hK => ?_); replace hK := Lib.hid hK; subst hz; go_simp; generalize hz : Act.mk _ _ = z; refine hK.out z ?_; clear hK K) | (refine wpQuiet_step (fun K hK => ?_); replace hK := Lib.hid hK; subst hz; refine iteSkip (by kernel_rfl) ?_; go_simp; generalize hz : Act.mk _ _ = z; refine hK.out z ?_; clear hK K))
    refine wpQuiet_nil ?_
    subst hz
    try dsimp only [NoPan]
    go_wp2_with fail
    go_ret
    exact ⟨rfl, H6.out⟩
end Go.Proofs.Ythjmbpgakpnnoaa
