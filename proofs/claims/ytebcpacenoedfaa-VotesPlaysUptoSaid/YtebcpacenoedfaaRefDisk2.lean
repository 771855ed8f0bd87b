/- The document's disk: Append, Cut, Boot; no condition. -/
import Derived.Test.YtebcpacenoedfaaRefDisk
namespace Go.Proofs.Ytebcpacenoedfaa
set_option linter.unusedVariables false
set_option linter.unusedSimpArgs false
open Go.RowKit

set_option maxRecDepth 100000 in
theorem rd_append {F D : Nat → Prop} {w : World} {a : Nat} {x : Dk} (h : RRep F w a x) {mv : Value} {m : Bs} (hm : Byt D w mv m) (hD : ∀ k, D k → ¬ F k) :
    Calls Try.prog 29 #[.pointer (some ⟨a, 0, none⟩), mv] w fun e w' => e = .returned (.int .i64 (appendD m x).1) ∧ RPost F w a (appendD m x).2 w' := by
  have hgo := rd_last h
  have H := Lib.hid h
  obtain ⟨v, p, q, h⟩ := id h
  obtain ⟨A0, c0', hv0, hlc0, hA0⟩ := h.own.form
  subst hv0
  have c2 : w.cell? ⟨a, 2, none⟩ = some (.bool x.off) := h.cell 2
  have c0 : w.cell? ⟨a, 0, none⟩ = some (.slice A0 x.l.length c0') := h.cell 0
  have hlen := h.len
  clear h
  obtain ⟨Am, cm, rfl, hmc, hmat⟩ := id hm
  have Hmat := Lib.hid hmat
  clear hmat
  by_cases ho : x.off = true
  · have hr : appendD m x = (18, x) := by simp [appendD, ho]
    rw [ho] at c2
    rw [hr]
    have Hgo := Lib.hid hgo
    clear ho hr hgo
    go_enter Try.func29, Try.ntmps29
    go_wp2_with fail
    go_ret
    exact ⟨rfl, RPost.same H.out⟩
  have ho' : x.off = false := by cases h' : x.off <;> simp_all
  rw [ho'] at c2
  by_cases hf : 4194304 - x.l.length < m.length
  · have hr : appendD m x = (16, x) := by simp [appendD, ho', hf]
    rw [hr]
    have hf' : decide ((4194304 : Int) - (x.l.length : Int) < (m.length : Int)) = true := by simp; omega
    have Hgo := Lib.hid hgo
    clear ho ho' hr hgo
    go_enter Try.func29, Try.ntmps29
    go_wp2_with fail
    go_ret
    exact ⟨rfl, RPost.same H.out⟩
  have hf' : decide ((4194304 : Int) - (x.l.length : Int) < (m.length : Int)) = false := by simp; omega
  by_cases hg : (goesD x).1 = true
  · have hr : appendD m x = (0, { (goesD x).2 with l := x.l ++ m }) := by simp [appendD, ho', hf, hg]
    rw [hr]
    rw [hg, Bool.not_true] at hgo
    clear ho ho' hr hg
    have hgl := goes_l x
    have hgs := goes_s x
    go_enter Try.func29, Try.ntmps29
    go_wp2_with fail
    refine hgo.mono ?_
    rintro e w1 ⟨rfl, F1, ⟨v1, p1, q1, h1⟩, hx1, hf1⟩
    obtain ⟨A, c, hv, hlc, hA⟩ := h1.own.form
    subst hv
    have hm1 : Byt D w1 (.slice Am m.length cm) m := hm.ext hx1 hD
    have c01 : w1.cell? ⟨a, 0, none⟩ = some (.slice A x.l.length c) := by rw [← hgl]; exact h1.cell 0
    have hown1 : OwnB w1 (.slice A x.l.length c) x.l := by have := h1.own; rwa [hgl] at this
    have Hf := Lib.hid hf
    clear hf
    go_wp2_with (at_builtin; refine Hid.out ?_)
    refine Lib.hid ?_
    refine wpList_append_bytes rfl _ _ 36 rfl Try.underlying36 info_u8 (sv := .slice A x.l.length c) rfl rfl hown1 hm1 (by have := Hf.out; omega) ?_
    intro v2 w2 hown2 hx2 hb2
    obtain ⟨A2, c2, hv2, _, _⟩ := hown2.form
    subst hv2
    have hs0 := h1.safe
    rw [hgl] at hs0
    have hx2' : Ext (fun k => (Value.slice A (goesD x).2.l.length c).ownBlock = some k) w1 w2 := by rw [hgl]; exact hx2
    have hb2' : (Value.slice A2 (x.l ++ m).length c2).ownBlock = (Value.slice A (goesD x).2.l.length c).ownBlock ∨ ∃ b, (Value.slice A2 (x.l ++ m).length c2).ownBlock = some b ∧ w1.heap.size ≤ b := by rw [hgl]; exact hb2
    have ha2 : w2.heap[a]? = _ := hx2'.heap h1.obj h1.va
    obtain ⟨F2, hP⟩ := h1.bytes hx2' hown2 (hb2'.imp id fun ⟨b, e, hle⟩ k hk => by rw [e] at hk; cases hk; exact hle) (by rw [List.length_append]; omega) (by have := Hf.out; rw [List.length_append]; omega)
    have c02 : w2.cell? ⟨a, 0, none⟩ = some (.slice A x.l.length c) := by rw [← hgl]; exact cells_at ha2 0
    have f02 : w2.frozen? ⟨a, 0, none⟩ = false := by simp [World.frozen?, ha2]
    have HP := Lib.hid hP
    clear hb2 hb2' ha2 c01 hP
    go_wp2_with fail
    go_ret
    have hP := HP.out
    rw [List.length_append] at hP
    exact ⟨rfl, RPost.trans hx1 hf1 ⟨F2, ⟨_, _, _, hP.1⟩, hP.2.1, hP.2.2⟩⟩
  · have hmx : m.length ≤ 9223372036854775806 := by omega
    have hg' : (goesD x).1 = false := by simpa using hg
    have hr : appendD m x = (18, { (goesD x).2 with l := x.l ++ m.take (x.part % (m.length + 1 : Nat)).toNat }) := by simp [appendD, ho', hf, hg']
    have Ha := Lib.hid (goes_armed hg')
    rw [hr]
    rw [hg', Bool.not_false] at hgo
    clear ho ho' hr hg hg'
    have hgl := goes_l x
    have hgs := goes_s x
    have hgp := goes_part x
    go_enter Try.func29, Try.ntmps29
    go_wp2_with fail
    refine hgo.mono ?_
    rintro e w1 ⟨rfl, F1, ⟨v1, p1, q1, h1⟩, hx1, hf1⟩
    obtain ⟨A, c, hv, hlc, hA⟩ := h1.own.form
    subst hv
    have hq1 : q1 = x.part := by rw [(h1.arm Ha.out).2.1, hgp]
    have hm1 : Byt D w1 (.slice Am m.length cm) m := hm.ext hx1 hD
    have c01 : w1.cell? ⟨a, 0, none⟩ = some (.slice A x.l.length c) := by rw [← hgl]; exact h1.cell 0
    have hown1 : OwnB w1 (.slice A x.l.length c) x.l := by have := h1.own; rwa [hgl] at this
    have c51 : w1.cell? ⟨a, 5, none⟩ = some (.int .i64 x.part) := by rw [← hq1]; exact h1.cell 5
    have hal1 := lt_of_heap h1.obj
    have Hf := Lib.hid hf
    clear hf hq1
    go_wp2_with fail
    refine wp_region_bar (Cls [a] _) [([0, 1, 2, 3, 4, 5, 6, 7, 8, 9, 10, 11, 12], 13), ([14], 15)] [16, 17] 18 [] [] (by kernel_rfl) (by kernel_rfl) (Cls.refl _ _) ?_
    try dsimp only [wpMix, wpSegs, pick, List.getElem?_cons_zero, List.getElem?_cons_succ]
    generalize hz : Act.mk _ _ = z
    repeat (first | (refine wpQuiet_step (fun K hK => ?_); replace hK := Lib.hid hK; subst hz; go_simp; generalize hz : Act.mk _ _ = z; refine hK.out z ?_; clear hK K) | (refine wpQuiet_step (fun K hK => ?_); replace hK := Lib.hid hK; subst hz; refine iteSkip (by kernel_rfl) ?_; go_simp; generalize hz : Act.mk _ _ = z; refine hK.out z ?_; clear hK K))
    refine wpQuiet_nil ?_
    subst hz
    try dsimp only [NoPan]
    go_wp2_with fail
    have hz : ((m.length : Int) + 1) = ((m.length + 1 : Nat) : Int) := by omega
    rw [hz]
    refine (rd_mod _ _ (by omega) (by have := Hf.out; omega) _).mono ?_
    rintro e w2 ⟨rfl, rfl⟩
    have hq0 := Int.emod_nonneg x.part (by omega : ((m.length + 1 : Nat) : Int) ≠ 0)
    have hq1 := Int.emod_lt_of_pos x.part (by omega : 0 < ((m.length + 1 : Nat) : Int))
    obtain ⟨q, hq⟩ : ∃ q : Nat, x.part % ((m.length + 1 : Nat) : Int) = q := ⟨_, (Int.toNat_of_nonneg hq0).symm⟩
    rw [hq] at hq0 hq1 ⊢
    have hqm : (q : Int) ≤ (cm : Int) := by omega
    have Hq := Lib.hid hq
    have Hq1 := Lib.hid hq1
    have Hlen := Lib.hid hlen
    clear H hgo c0 c2 hm hlc0 hf' hlen hz hq hq1
    have hadd : ∀ ad : Addr, ad.add 0 = ad := fun ad => by unfold Addr.add; split <;> simp_all
    go_wp2_with fail
    refine ⟨Cls.refl _ _, ?_⟩
    have hbt := (hm1.same ((Ext.refl (fun _ => False) _).drew)).take (n := q) (by have := Hq1.out; omega) cm (by omega)
    have htl : (m.take q).length ≤ m.length := by simp; omega
    have Htl := Lib.hid htl
    clear htl
    have hxd : Ext (fun _ => False) w1 w1.drew := (Ext.refl _ _).drew
    have h1d := h1.keep hxd fun _ _ => id
    have hownd := hown1.ext hxd fun _ _ => id
    clear hown1 hm1 c01 c51
    have goal2 : ∀ v2 w2, OwnB w2 v2 (x.l ++ m.take q) → Ext (fun k => (Value.slice A x.l.length c).ownBlock = some k) w1.drew w2 → (v2.ownBlock = (Value.slice A x.l.length c).ownBlock ∨ ∃ b, v2.ownBlock = some b ∧ w1.drew.heap.size ≤ b) →
        Cls [a] w1.drew w2 ∧ w2.cell? ⟨a, 0, none⟩ = some (.slice A x.l.length c) ∧ w2.frozen? ⟨a, 0, none⟩ = false ∧ RPost F w a { (goesD x).2 with l := x.l ++ m.take q } (w2.setCell ⟨a, 0, none⟩ v2) := by
      intro v2 w2 hown2 hx2 hb2
      have hs0 := h1.safe
      rw [hgl] at hs0
      rw [← hgl] at hx2 hb2
      obtain ⟨F2, hP⟩ := h1d.bytes hx2 hown2 (hb2.imp id fun ⟨b, e, hle⟩ k hk => by rw [e] at hk; cases hk; exact hle) (by rw [List.length_append]; omega) (by have := Hf.out; have := Htl.out; have := Hlen.out; rw [List.length_append]; omega)
      have ha2 := hx2.heap h1d.obj h1d.va
      refine ⟨(Cls.refl _ _).step hx2 (by intro b hb; simp at hb; subst hb; exact ⟨hal1, h1d.va⟩), ?_, by simp [World.frozen?, ha2], RPost.trans (hx1.drew) hf1 ⟨F2, ⟨_, _, _, hP.1⟩, hP.2.1, hP.2.2⟩⟩
      rw [← hgl]
      exact cells_at ha2 0
    have Hg := Lib.hid goal2
    have hle : x.l.length + (m.take q).length ≤ 140737488355328 := by have := Hf.out; have := Htl.out; have := Hlen.out; omega
    have Hle := Lib.hid hle
    clear goal2 hle h1 h1d
    cases Am with
    | none =>
      try dsimp only [wpMix, wpSegs, pick, List.getElem?_cons_zero, List.getElem?_cons_succ]
      generalize hz : Act.mk _ _ = z
      repeat (first | (refine wpQuiet_step (fun K hK => ?_); replace hK := Lib.hid hK; subst hz; go_simp; generalize hz : Act.mk _ _ = z; refine hK.out z ?_; clear hK K) | (refine wpQuiet_step (fun K hK => ?_); replace hK := Lib.hid hK; subst hz; refine iteSkip (by kernel_rfl) ?_; go_simp; generalize hz : Act.mk _ _ = z; refine hK.out z ?_; clear hK K))
      refine wpQuiet_nil ?_
      subst hz
      try dsimp only [NoPan]
      refine wpList_append_bytes rfl _ _ 36 rfl Try.underlying36 info_u8 (sv := .slice A x.l.length c) rfl rfl hownd hbt Hle.out ?_
      intro v2 w2 hown2 hx2 hb2
      obtain ⟨hcl, c42, f42, hP⟩ := Hg.out v2 w2 hown2 hx2 hb2
      obtain ⟨A2, c2, hv2, _, _⟩ := hown2.form
      subst hv2
      have HP := Lib.hid hP
      clear hP hb2 hx2
      apply wpList_nil
      simp only [Exit.then]
      refine ⟨hcl, ?_⟩
      try dsimp only [wpMix, wpSegs, pick, List.getElem?_cons_zero, List.getElem?_cons_succ]
      generalize hz : Act.mk _ _ = z
      repeat (first | (refine wpQuiet_step (fun K hK => ?_); replace hK := Lib.hid hK; subst hz; go_simp; generalize hz : Act.mk _ _ = z; refine hK.out z ?_; clear hK K) | (refine wpQuiet_step (fun K hK => ?_); replace hK := Lib.hid hK; subst hz; refine iteSkip (by kernel_rfl) ?_; go_simp; generalize hz : Act.mk _ _ = z; refine hK.out z ?_; clear hK K))
      refine wpQuiet_nil ?_
      subst hz
      try dsimp only [NoPan]
      go_wp2_with fail
      try dsimp only [wpMix, wpSegs, pick, List.getElem?_cons_zero, List.getElem?_cons_succ]
      generalize hz : Act.mk _ _ = z
      repeat (first | (refine wpQuiet_step (fun K hK => ?_); replace hK := Lib.hid hK; subst hz; go_simp; generalize hz : Act.mk _ _ = z; refine hK.out z ?_; clear hK K) | (refine wpQuiet_step (fun K hK => ?_); replace hK := Lib.hid hK; subst hz; refine iteSkip (by kernel_rfl) ?_; go_simp; generalize hz : Act.mk _ _ = z; refine hK.out z ?_; clear hK K))
      refine wpQuiet_nil ?_
      subst hz
      try dsimp only [NoPan]
      go_wp2_with fail
      go_ret
      have hP := HP.out
      rw [List.length_append, List.length_take] at hP
      have hq := Hq.out
      exact ⟨rfl, by rw [hq]; exact hP⟩
    | some ad =>
      try dsimp only [wpMix, wpSegs, pick, List.getElem?_cons_zero, List.getElem?_cons_succ]
      generalize hz : Act.mk _ _ = z
      repeat (first | (refine wpQuiet_step (fun K hK => ?_); replace hK := Lib.hid hK; subst hz; go_simp; generalize hz : Act.mk _ _ = z; refine hK.out z ?_; clear hK K) | (refine wpQuiet_step (fun K hK => ?_); replace hK := Lib.hid hK; subst hz; refine iteSkip (by kernel_rfl) ?_; go_simp; generalize hz : Act.mk _ _ = z; refine hK.out z ?_; clear hK K))
      refine wpQuiet_nil ?_
      subst hz
      try dsimp only [NoPan]
      refine wpList_append_bytes rfl _ _ 36 rfl Try.underlying36 info_u8 (sv := .slice A x.l.length c) rfl rfl hownd hbt Hle.out ?_
      intro v2 w2 hown2 hx2 hb2
      obtain ⟨hcl, c42, f42, hP⟩ := Hg.out v2 w2 hown2 hx2 hb2
      obtain ⟨A2, c2, hv2, _, _⟩ := hown2.form
      subst hv2
      have HP := Lib.hid hP
      clear hP hb2 hx2
      apply wpList_nil
      simp only [Exit.then]
      refine ⟨hcl, ?_⟩
      try dsimp only [wpMix, wpSegs, pick, List.getElem?_cons_zero, List.getElem?_cons_succ]
      generalize hz : Act.mk _ _ = z
      repeat (first | (refine wpQuiet_step (fun K hK => ?_); replace hK := Lib.hid hK; subst hz; go_simp; generalize hz : Act.mk _ _ = z; refine hK.out z ?_; clear hK K) | (refine wpQuiet_step (fun K hK => ?_); replace hK := Lib.hid hK; subst hz; refine iteSkip (by kernel_rfl) ?_; go_simp; generalize hz : Act.mk _ _ = z; refine hK.out z ?_; clear hK K))
      refine wpQuiet_nil ?_
      subst hz
      try dsimp only [NoPan]
      go_wp2_with fail
      try dsimp only [wpMix, wpSegs, pick, List.getElem?_cons_zero, List.getElem?_cons_succ]
      generalize hz : Act.mk _ _ = z
      repeat (first | (refine wpQuiet_step (fun K hK => ?_); replace hK := Lib.hid hK; subst hz; go_simp; generalize hz : Act.mk _ _ = z; refine hK.out z ?_; clear hK K) | (refine wpQuiet_step (fun K hK => ?_); replace hK := Lib.hid hK; subst hz; refine iteSkip (by kernel_rfl) ?_; go_simp; generalize hz : Act.mk _ _ = z; refine hK.out z ?_; clear hK K))
      refine wpQuiet_nil ?_
      subst hz
      try dsimp only [NoPan]
      go_wp2_with fail
      go_ret
      have hP := HP.out
      rw [List.length_append, List.length_take] at hP
      have hq := Hq.out
      exact ⟨rfl, by rw [hq]; exact hP⟩
end Go.Proofs.Ytebcpacenoedfaa
