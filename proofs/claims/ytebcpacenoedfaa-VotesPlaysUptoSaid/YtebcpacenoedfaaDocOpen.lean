/- The document's votes are opened; no condition. -/
import Derived.Test.YtebcpacenoedfaaVoteOpen
import Derived.Test.YtebcpacenoedfaaRefDisk3
namespace Go.Proofs.Ytebcpacenoedfaa
set_option linter.unusedVariables false
set_option linter.unusedSimpArgs false
open Go.RowKit

def docO (a n : Nat) (bad : Bool) : Obj := .cells #[.pointer (some ⟨a, 0, none⟩), .int .i64 (n : Nat), .bool bad] 64 (0, 0)
def DOpenPost (F : Nat → Prop) (w : World) (a : Nat) (x : Dk) (e : Ending) (w' : World) : Prop :=
  ∃ F', RRep F' w' a (openD x).2 ∧ Ext F w w' ∧ (∀ k, F' k → F k ∨ w.heap.size ≤ k) ∧
    (((openD x).1 = 0 ∧ ∃ va v' vs, e = .returned (.tuple #[.pointer (some ⟨va, 0, none⟩), v', .int .i64 0]) ∧ w'.heap[va]? = some (docO a (recs x.l).1.length false) ∧ w.heap.size ≤ va ∧ ¬ F' va ∧
      OwnRows w.heap.size w' v' vs (recs x.l).1 ∧ (∀ k, v'.ownBlock = some k → ¬ F' k ∧ k ≠ va) ∧ (∀ u ∈ vs, ∀ k, u.ownBlock = some k → ¬ F' k ∧ k ≠ va)) ∨
    ((openD x).1 ≠ 0 ∧ e = .returned (.tuple #[.pointer none, .slice none 0 0, .int .i64 (openD x).1])))
theorem cut_len {n : Nat} {x y : Dk} (hn : n ≤ x.l.length) (h : cutD (n : Nat) x = (0, y)) : y.l.length = n := by
  have hg : (goesD x).2.l = x.l := by
    unfold goesD
    repeat' split
    all_goals rfl
  have hk : ∀ z : Dk, z.l = x.l → (keepD n z).l.length = n := fun z hz => by
    simp only [keepD, hz, List.length_take]
    omega
  unfold cutD at h
  repeat' split at h
  all_goals simp only [Prod.mk.injEq] at h
  all_goals first
    | (exact absurd h.1 (by decide))
    | (rw [← h.2, Int.toNat_natCast]; exact hk _ hg)
theorem dopen_done {F F4 : Nat → Prop} {w w1 w2 w4 : World} {a : Nat} {x y : Dk} {v2 : Value} {vs : List Value} (hF : ∀ k, F k → k < w.heap.size) (hR2 : OwnRows w1.heap.size w2 v2 vs (recs x.l).1) (sz1 : w.heap.size ≤ w1.heap.size)
    (hx02 : Ext (fun _ => False) w w2) (hx24 : Ext F w2 w4) (hn : ∀ k, F4 k → F k ∨ w2.heap.size ≤ k) (hD : RRep F4 w4 a y) (ho : openD x = (0, y)) :
    DOpenPost F w a x (.returned (.tuple #[.pointer (some ⟨w4.heap.size, 0, none⟩), v2, .int .i64 0])) (w4.alloc (docO a (recs x.l).1.length false)) := by
  have hxa := (Ext.refl (fun _ => False) w4).alloc (docO a (recs x.l).1.length false)
  have hx2a : Ext F w2 (w4.alloc (docO a (recs x.l).1.length false)) := hx24.trans' hxa fun _ => False.elim
  have hsz := hx02.size
  have hsz4 := hx24.size
  have hlt : ∀ k, v2.ownBlock = some k → w1.heap.size ≤ k ∧ k < w2.heap.size := fun k hk => ⟨own_from hR2.row k hk, own_below hR2.row k hk⟩
  have hlt2 : ∀ u ∈ vs, ∀ k, u.ownBlock = some k → w1.heap.size ≤ k ∧ k < w2.heap.size := fun u hu k hk => by
    obtain ⟨i, hi, he⟩ := List.mem_iff_getElem.1 hu
    have hi2 : vs[i]? = some u := by rw [List.getElem?_eq_getElem hi, he]
    exact ⟨hR2.from_ i u k hi2 hk, (hR2.each i u _ hi2 (List.getElem?_eq_getElem (by rw [← hR2.len]; exact hi))).lt k hk⟩
  have key : ∀ k, w1.heap.size ≤ k ∧ k < w2.heap.size → ¬ F4 k ∧ k ≠ w4.heap.size := fun k ⟨h1, h2⟩ => ⟨fun h4 => by
    rcases hn k h4 with h | h
    · have := hF k h; omega
    · omega, by omega⟩
  refine ⟨F4, by rw [ho]; exact hD.same hxa, (hx02.mono fun _ _ => False.elim).trans hx2a, fun k hk => ?_, .inl ⟨by rw [ho], w4.heap.size, v2, vs, rfl, heap_alloc_self _ _, by omega, fun h4 => by have := hD.lt _ h4; omega, ?_, fun k hk => key k (hlt k hk), fun u hu k hk => key k (hlt2 u hu k hk)⟩⟩
  · rcases hn k hk with h | h
    · exact .inl h
    · exact .inr (by omega)
  · exact ((hR2.ext (hx2a.mono (F1 := fun b => b < w.heap.size) fun b _ hb => hF b hb) (fun k hk => by omega) (fun k hk => own_from hR2.row k hk)).low sz1)
theorem dopen_fail {F F4 : Nat → Prop} {w w2 w4 : World} {a : Nat} {x y : Dk} {k : Int} (hx02 : Ext (fun _ => False) w w2) (hx24 : Ext F w2 w4) (hn : ∀ k, F4 k → F k ∨ w2.heap.size ≤ k) (hD : RRep F4 w4 a y) (ho : openD x = (k, y)) (hk : k ≠ 0) :
    DOpenPost F w a x (.returned (.tuple #[.pointer none, .slice none 0 0, .int .i64 k])) w4 := by
  have hsz := hx02.size
  refine ⟨F4, by rw [ho]; exact hD, (hx02.mono fun _ _ => False.elim).trans hx24, fun k hk => ?_, .inr ⟨by rw [ho]; exact hk, by rw [ho]⟩⟩
  rcases hn k hk with h | h
  · exact .inl h
  · exact .inr (by omega)

set_option maxRecDepth 100000 in
set_option maxHeartbeats 1000000 in
theorem dopen_walk {F : Nat → Prop} {w : World} {a : Nat} {x : Dk} (h : RRep F w a x) : Calls Try.prog 21 #[.pointer (some ⟨a, 0, none⟩)] w (DOpenPost F w a x) := by
  obtain ⟨v, p, q, hr⟩ := id h
  obtain ⟨A, c, rfl, _, _⟩ := hr.own.form
  have c0 : w.cell? ⟨a, 0, none⟩ = some (.slice A x.l.length c) := hr.cell 0
  have c2 : w.cell? ⟨a, 2, none⟩ = some (.bool x.off) := hr.cell 2
  by_cases ho : x.off = true
  · have hd : openD x = (18, x) := if_pos ho
    have Hd := Lib.hid (And.intro hd h)
    rw [ho] at c2
    clear hd h ho hr
    go_enter Try.func21, Try.ntmps21
    go_wp2_with fail
    refine bodyPost_ret (results_tmp3 rfl _ _ _) rfl ?_
    exact ⟨F, by rw [Hd.out.1]; exact Hd.out.2, Ext.refl _ _, fun k hk => .inl hk, .inr ⟨by rw [Hd.out.1]; show (18 : Int) ≠ 0; decide, by rw [Hd.out.1]; rfl⟩⟩
  · have hof : x.off = false := by simpa using ho
    rw [hof] at c2
    have hlen := hr.len
    have hd : openD x = if (openC x).1 ≠ 0 then openC x else if (openC x).2.s < (recs x.l).2 then syncD (openC x).2 else (0, (openC x).2) := if_neg ho
    have hc : openC x = if (recs x.l).2 < x.l.length then cutD ((recs x.l).2 : Nat) x else (0, x) := rfl
    obtain ⟨hr1, hr2, hr3, hr4⟩ := recs_spec x.l
    have HR := Lib.hid (drecords_walk hr.own hlen)
    have Hd := Lib.hid (And.intro hd (And.intro hc (And.intro h (And.intro hr ho))))
    have Hod := Lib.hid hd
    clear hd hc h ho hof hr2 hr3 hr
    go_enter Try.func21, Try.ntmps21
    go_wp2_with fail
    refine HR.out.mono ?_
    rintro e w2 ⟨v2, vs, rfl, hR2, hx2⟩
    obtain ⟨RA, Rc, hf2⟩ := own_slice_form hR2.row
    subst hf2
    have H2 := Lib.hid (And.intro hR2 (And.intro hx2 (Hd.out.2.2.1.same hx2)))
    have hsz2 := hx2.size
    have d0 : w2.cell? ⟨a, 0, none⟩ = some (.slice A x.l.length c) := cell_same c0 hx2
    clear hR2 hx2 HR c0 c2
    have HF := Lib.hid Hd.out.2.2.1.lt
    by_cases hcut : (recs x.l).2 < x.l.length
    · have hc1 : ((recs x.l).2 : Int) < (x.l.length : Int) := by omega
      have hc1' : decide ((recs x.l).2 < x.l.length) = true := by simpa using hcut
      have HCu := Lib.hid (rd_cut H2.out.2.2 ((recs x.l).2 : Nat))
      have hoc : openC x = cutD ((recs x.l).2 : Nat) x := if_pos hcut
      have hod : openD x = if (openC x).1 ≠ 0 then openC x else if (openC x).2.s < (recs x.l).2 then syncD (openC x).2 else (0, (openC x).2) := Hod.out
      rw [hoc] at hod
      have hcl := fun y => cut_len (y := y) (Nat.le_of_lt hcut)
      generalize cutD ((recs x.l).2 : Nat) x = r at *
      obtain ⟨k, y⟩ := r
      have Ho1 := Lib.hid hod
      have Hcl := Lib.hid (hcl y)
      clear hod hoc hcl Hd
      go_wp2_with fail
      refine HCu.out.mono ?_
      rintro e w3 ⟨rfl, F3, hD3, hx3, hn3⟩
      have H3 := Lib.hid (And.intro hx3 (And.intro hn3 hD3))
      clear hx3 hn3 d0
      by_cases hk : k = 0
      · subst hk
        have hyl : y.l.length = (recs x.l).2 := Hcl.out rfl
        have Ho := Lib.hid (show openD x = if y.s < (recs x.l).2 then syncD y else (0, y) by rw [Ho1.out, if_neg (by simp)])
        have hal : a < w3.heap.size := by obtain ⟨v3, p3, q3, h3⟩ := hD3; exact lt_of_heap h3.obj
        obtain ⟨v3, p3, q3, h3⟩ := hD3
        obtain ⟨A3, c3, rfl, _, _⟩ := h3.own.form
        have d0 : w3.cell? ⟨a, 0, none⟩ = some (.slice A3 y.l.length c3) := h3.cell 0
        have d1 : w3.cell? ⟨a, 1, none⟩ = some (.int .i64 y.s) := h3.cell 1
        rw [hyl] at d0
        clear h3
        by_cases hsn : y.s < (recs x.l).2
        · have hs1 : (y.s : Int) < ((recs x.l).2 : Int) := by omega
          have hs1' : decide (y.s < (recs x.l).2) = true := by simpa using hsn
          have HSy := Lib.hid (rd_sync (H3.out.2.2.same ((Ext.refl _ _).drew)))
          have ho2 : openD x = syncD y := by rw [Ho.out, if_pos hsn]
          generalize syncD y = r at *
          obtain ⟨k2, z⟩ := r
          have Ho2 := Lib.hid ho2
          clear ho2 hyl
          go_wp2_with fail
          refine wp_region_mix (Cls [a] _) [] [0, 1, 2, 3, 4, 5, 6, 7, 8, 9] (by kernel_rfl) (by kernel_rfl) (Cls.refl _ _) ?_
          try dsimp only [wpMix, wpSegs, pick, List.getElem?_cons_zero, List.getElem?_cons_succ]
          generalize hz : Act.mk _ _ = z
          repeat (first | (refine wpQuiet_step (fun K hK => ?_); replace hK := Lib.hid hK; subst hz; go_simp; generalize hz : Act.mk _ _ = z; refine hK.out z ?_; clear hK K) | (refine wpQuiet_step (fun K hK => ?_); replace hK := Lib.hid hK; subst hz; refine iteSkip (by kernel_rfl) ?_; go_simp; generalize hz : Act.mk _ _ = z; refine hK.out z ?_; clear hK K))
          refine wpQuiet_nil ?_
          subst hz
          try dsimp only [NoPan]
          go_wp2_with fail
          refine HSy.out.mono ?_
          rintro e w4 ⟨rfl, F4, hD4, hx4, hn4⟩
          have H4 := Lib.hid (And.intro (join_ext (H3.out.1.drew) H3.out.2.1 hx4) (And.intro (join_new (H3.out.1.drew).size H3.out.2.1 hn4) hD4))
          clear hD4 hx4 hn4
          by_cases hk : k2 = 0
          · subst hk
            go_wp2_with fail
            refine bodyPost_ret (results_tmp3 rfl _ _ _) rfl ?_
            exact dopen_done HF.out H2.out.1 (Nat.le_refl _) H2.out.2.1 H4.out.1 H4.out.2.1 H4.out.2.2 Ho2.out
          · have hk1 : (k2 != 0) = true := by simpa using hk
            have hk2 : (k2 == 0) = false := by simpa using hk
            have Hk := Lib.hid hk
            clear hk
            go_wp2_with fail
            refine bodyPost_ret (results_tmp3 rfl _ _ _) rfl ?_
            exact dopen_fail H2.out.2.1 H4.out.1 H4.out.2.1 H4.out.2.2 Ho2.out Hk.out
        · have hs1 : ¬ (y.s : Int) < ((recs x.l).2 : Int) := by omega
          have hs1' : decide (y.s < (recs x.l).2) = false := by simpa using hsn
          have ho2 : openD x = (0, y) := by rw [Ho.out, if_neg hsn]
          have Ho2 := Lib.hid ho2
          clear ho2 hyl
          go_wp2_with fail
          refine wp_region_mix (Cls [a] _) [] [0, 1, 2, 3, 4, 5, 6, 7, 8, 9] (by kernel_rfl) (by kernel_rfl) (Cls.refl _ _) ?_
          try dsimp only [wpMix, wpSegs, pick, List.getElem?_cons_zero, List.getElem?_cons_succ]
          generalize hz : Act.mk _ _ = z
          repeat (first | (refine wpQuiet_step (fun K hK => ?_); replace hK := Lib.hid hK; subst hz; go_simp; generalize hz : Act.mk _ _ = z; refine hK.out z ?_; clear hK K) | (refine wpQuiet_step (fun K hK => ?_); replace hK := Lib.hid hK; subst hz; refine iteSkip (by kernel_rfl) ?_; go_simp; generalize hz : Act.mk _ _ = z; refine hK.out z ?_; clear hK K))
          refine wpQuiet_nil ?_
          subst hz
          try dsimp only [NoPan]
          go_wp2_with fail
          refine bodyPost_ret (results_tmp3 rfl _ _ _) rfl ?_
          exact dopen_done HF.out H2.out.1 (Nat.le_refl _) H2.out.2.1 (H3.out.1.drew) H3.out.2.1 (H3.out.2.2.same ((Ext.refl _ _).drew)) Ho2.out
      · have hk1 : (k != 0) = true := by simpa using hk
        have hk2 : (k == 0) = false := by simpa using hk
        have ho2 : openD x = (k, y) := by rw [Ho1.out, if_pos hk]
        have Ho2 := Lib.hid (And.intro ho2 hk)
        clear ho2 hk
        go_wp2_with fail
        refine bodyPost_ret (results_tmp3 rfl _ _ _) rfl ?_
        exact dopen_fail H2.out.2.1 H3.out.1 H3.out.2.1 H3.out.2.2 Ho2.out.1 Ho2.out.2
    · have hc1 : ¬ ((recs x.l).2 : Int) < (x.l.length : Int) := by omega
      have hc1' : decide ((recs x.l).2 < x.l.length) = false := by simpa using hcut
      have hyl : x.l.length = (recs x.l).2 := by omega
      have hoc : openC x = (0, x) := if_neg hcut
      have hod : openD x = if x.s < (recs x.l).2 then syncD x else (0, x) := by
        have h := Hod.out
        rw [hoc, if_neg (by simp)] at h
        exact h
      have H3 := Lib.hid (And.intro (Ext.refl F w2) (And.intro (fun (k : Nat) (hk : F k) => Or.inl (b := w2.heap.size ≤ k) hk) H2.out.2.2))
      have Ho := Lib.hid hod
      have d1 : w2.cell? ⟨a, 1, none⟩ = some (.int .i64 x.s) := cell_same (Hd.out.2.2.2.1.cell 1) H2.out.2.1
      have hal : a < w2.heap.size := Nat.lt_of_lt_of_le (lt_of_heap Hd.out.2.2.2.1.obj) hsz2
      have HSy := Lib.hid (rd_sync (H3.out.2.2.same ((Ext.refl _ _).drew)))
      clear hod hoc Hd
      rw [hyl] at d0
      by_cases hsn : x.s < (recs x.l).2
      · have hs1 : (x.s : Int) < ((recs x.l).2 : Int) := by omega
        have hs1' : decide (x.s < (recs x.l).2) = true := by simpa using hsn
        have ho2 : openD x = syncD x := by rw [Ho.out, if_pos hsn]
        generalize syncD x = r at *
        obtain ⟨k2, z⟩ := r
        have Ho2 := Lib.hid ho2
        clear ho2 hyl hc1 hc1'
        have hc1' : decide ((recs x.l).2 < (recs x.l).2) = false := by simp
        have hc1'' : decide (((recs x.l).2 : Int) < ((recs x.l).2 : Int)) = false := by simp
        go_wp2_with fail
        refine wp_region_mix (Cls [a] _) [] [0, 1, 2, 3, 4, 5, 6, 7, 8, 9] (by kernel_rfl) (by kernel_rfl) (Cls.refl _ _) ?_
        try dsimp only [wpMix, wpSegs, pick, List.getElem?_cons_zero, List.getElem?_cons_succ]
        generalize hz : Act.mk _ _ = z
        repeat (first | (refine wpQuiet_step (fun K hK => ?_); replace hK := Lib.hid hK; subst hz; go_simp; generalize hz : Act.mk _ _ = z; refine hK.out z ?_; clear hK K) | (refine wpQuiet_step (fun K hK => ?_); replace hK := Lib.hid hK; subst hz; refine iteSkip (by kernel_rfl) ?_; go_simp; generalize hz : Act.mk _ _ = z; refine hK.out z ?_; clear hK K))
        refine wpQuiet_nil ?_
        subst hz
        try dsimp only [NoPan]
        go_wp2_with fail
        refine HSy.out.mono ?_
        rintro e w4 ⟨rfl, F4, hD4, hx4, hn4⟩
        have H4 := Lib.hid (And.intro (join_ext (H3.out.1.drew) H3.out.2.1 hx4) (And.intro (join_new (H3.out.1.drew).size H3.out.2.1 hn4) hD4))
        clear hD4 hx4 hn4
        by_cases hk : k2 = 0
        · subst hk
          go_wp2_with fail
          refine bodyPost_ret (results_tmp3 rfl _ _ _) rfl ?_
          exact dopen_done HF.out H2.out.1 (Nat.le_refl _) H2.out.2.1 H4.out.1 H4.out.2.1 H4.out.2.2 Ho2.out
        · have hk1 : (k2 != 0) = true := by simpa using hk
          have hk2 : (k2 == 0) = false := by simpa using hk
          have Hk := Lib.hid hk
          clear hk
          go_wp2_with fail
          refine bodyPost_ret (results_tmp3 rfl _ _ _) rfl ?_
          exact dopen_fail H2.out.2.1 H4.out.1 H4.out.2.1 H4.out.2.2 Ho2.out Hk.out
      · have hs1 : ¬ (x.s : Int) < ((recs x.l).2 : Int) := by omega
        have hs1' : decide (x.s < (recs x.l).2) = false := by simpa using hsn
        have ho2 : openD x = (0, x) := by rw [Ho.out, if_neg hsn]
        have Ho2 := Lib.hid ho2
        clear ho2 hyl hc1 hc1'
        have hc1' : decide ((recs x.l).2 < (recs x.l).2) = false := by simp
        have hc1'' : decide (((recs x.l).2 : Int) < ((recs x.l).2 : Int)) = false := by simp
        go_wp2_with fail
        refine wp_region_mix (Cls [a] _) [] [0, 1, 2, 3, 4, 5, 6, 7, 8, 9] (by kernel_rfl) (by kernel_rfl) (Cls.refl _ _) ?_
        try dsimp only [wpMix, wpSegs, pick, List.getElem?_cons_zero, List.getElem?_cons_succ]
        generalize hz : Act.mk _ _ = z
        repeat (first | (refine wpQuiet_step (fun K hK => ?_); replace hK := Lib.hid hK; subst hz; go_simp; generalize hz : Act.mk _ _ = z; refine hK.out z ?_; clear hK K) | (refine wpQuiet_step (fun K hK => ?_); replace hK := Lib.hid hK; subst hz; refine iteSkip (by kernel_rfl) ?_; go_simp; generalize hz : Act.mk _ _ = z; refine hK.out z ?_; clear hK K))
        refine wpQuiet_nil ?_
        subst hz
        try dsimp only [NoPan]
        go_wp2_with fail
        refine bodyPost_ret (results_tmp3 rfl _ _ _) rfl ?_
        exact dopen_done HF.out H2.out.1 (Nat.le_refl _) H2.out.2.1 (H3.out.1.drew) H3.out.2.1 (H3.out.2.2.same ((Ext.refl _ _).drew)) Ho2.out
end Go.Proofs.Ytebcpacenoedfaa
