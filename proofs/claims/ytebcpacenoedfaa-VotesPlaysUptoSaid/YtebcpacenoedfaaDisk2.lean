/- The disk's acts; no condition. -/
import Derived.Test.YtebcpacenoedfaaDisk
namespace Go.Proofs.Ytebcpacenoedfaa
set_option linter.unusedVariables false
set_option linter.unusedSimpArgs false
open Go.RowKit

theorem DPost.trans {F F1 : Nat → Prop} {w w1 w2 : World} {a : Nat} {x : Dk} (hx : Ext F w w1) (hf : ∀ k, F1 k → F k ∨ w.heap.size ≤ k) (h : DPost F1 w1 a x w2) : DPost F w a x w2 := by
  obtain ⟨F2, hR, hx2, hf2⟩ := h
  exact ⟨F2, hR, hx.trans' hx2 hf, fun k hk => (hf2 k hk).elim (hf k) fun h => .inr (Nat.le_trans hx.size h)⟩
theorem DPost.same {F : Nat → Prop} {w : World} {a : Nat} {x : Dk} (h : DRep F w a x) : DPost F w a x w := ⟨F, h, Ext.refl _ _, fun _ => .inl⟩
theorem goes_l (x : Dk) : (goesD x).2.l = x.l := by
  unfold goesD
  split
  · rfl
  · split <;> rfl
theorem goes_s (x : Dk) : (goesD x).2.s = x.s := by
  unfold goesD
  split
  · rfl
  · split <;> rfl
theorem goes_part (x : Dk) : (goesD x).2.part = x.part := by
  unfold goesD
  split
  · rfl
  · split <;> rfl

theorem DAt.appended {F : Nat → Prop} {w w1 : World} {a : Nat} {v v' : Value} {x : Dk} {l' : Bs} (h : DAt F w a v x) (hx : Ext (fun k => v.ownBlock = some k) w w1) (hown : OwnB w1 v' l') (hb : v'.ownBlock = v.ownBlock ∨ ∃ b, v'.ownBlock = some b ∧ w.heap.size ≤ b)
    (hs : x.s ≤ l'.length) (hl : l'.length ≤ 4194304) : DPost F w a { x with l := l' } (w1.setCell ⟨a, 4, none⟩ v') := by
  have hal := lt_of_heap h.obj
  have ha1 := hx.heap h.obj h.va
  have hne : v'.ownBlock ≠ some a := by
    rcases hb with hb | ⟨b, hb, hle⟩
    · rw [hb]; exact h.va
    · rw [hb]; intro e; simp at e; omega
  have hx2 : Ext (· = a) w1 (w1.setCell ⟨a, 4, none⟩ v') := (Ext.refl (· = a) w1).setCell (a := ⟨a, 4, none⟩) (.inl rfl) _
  refine ⟨fun k => F k ∨ v'.ownBlock = some k, ⟨v', ?_⟩, (hx.mono fun k _ hk => h.fv k hk).trans' hx2 (fun b hb => .inl (by rw [hb]; exact h.fa)), ?_⟩
  · exact { obj := by rw [heap_setCell_self ha1]; rfl
            own := hown.ext hx2 fun k hk e => hne (e ▸ hk)
            fa := .inl h.fa, fv := fun k hk => .inr hk, safe := hs, len := hl, acts := h.acts
            lt := fun k hk => Nat.lt_of_lt_of_le (hk.elim (fun h' => Nat.lt_of_lt_of_le (h.lt k h') hx.size) fun h' => hown.lt k h') hx2.size }
  · intro k hk
    rcases hk with hk | hk
    · exact .inl hk
    · rcases hb with hb | ⟨b, hb, hle⟩
      · exact .inl (h.fv k (by rw [← hb]; exact hk))
      · rw [hb] at hk
        simp at hk
        exact .inr (by omega)

def appendD (m : Bs) (x : Dk) : Int × Dk :=
  if x.off then (18, x) else if 4194304 - x.l.length < m.length then (16, x) else
  if (goesD x).1 then (0, { (goesD x).2 with l := x.l ++ m }) else (18, { (goesD x).2 with l := x.l ++ m.take (x.part % (m.length + 1 : Nat)).toNat })

theorem info_u8 : (Try.prog.info? 5).map (fun i => (i.zero, i.size, i.bytes)) = some (some (.int .u8 0), 1, 1) := by kernel_rfl

/-- The beginning of bytes. -/
theorem Byt.take {D : Nat → Prop} {w : World} {A : Option Addr} {c : Nat} {m : Bs} (h : Byt D w (.slice A m.length c) m) {n : Nat} (hn : n ≤ m.length) (c' : Nat) (hc' : n ≤ c') : Byt D w (.slice A n c') (m.take n) := by
  obtain ⟨A', c1, e, h1, h2⟩ := h
  cases e
  have hl : (m.take n).length = n := by simp; omega
  refine ⟨A, c', by rw [hl], by rw [hl]; exact hc', fun hne => ?_⟩
  obtain ⟨ad, e1, e2, e3⟩ := h2 (by rintro rfl; exact hne (by simp))
  refine ⟨ad, e1, e2, fun j u hu => e3 j u ?_⟩
  have hj : j < n := by
    have := (List.getElem?_eq_some_iff.1 hu).1
    omega
  rwa [List.getElem?_take_of_lt hj] at hu

set_option maxRecDepth 100000 in
theorem disk_append {F D : Nat → Prop} {w : World} {a : Nat} {x : Dk} (h : DRep F w a x) {mv : Value} {m : Bs} (hm : Byt D w mv m) (hD : ∀ k, D k → ¬ F k) :
    Calls Try.prog 28 #[.pointer (some ⟨a, 0, none⟩), mv] w fun e w' => e = .returned (.int .i64 (appendD m x).1) ∧ DPost F w a (appendD m x).2 w' := by
  have hgo := power_goes h
  have H := Lib.hid h
  obtain ⟨v, h⟩ := id h
  obtain ⟨A0, c0', hv0, hlc0, hA0⟩ := h.own.form
  subst hv0
  have c0 : w.cell? ⟨a, 0, none⟩ = some (.bool x.off) := h.cell 0
  have c4 : w.cell? ⟨a, 4, none⟩ = some (.slice A0 x.l.length c0') := h.cell 4
  have hlen := h.len
  clear h
  obtain ⟨Am, cm, rfl, hmc, hmat⟩ := id hm
  have Hmat := Lib.hid hmat
  clear hmat
  by_cases ho : x.off = true
  · have hr : appendD m x = (18, x) := by simp [appendD, ho]
    rw [ho] at c0
    rw [hr]
    have Hgo := Lib.hid hgo
    clear ho hr hgo
    go_enter Try.func28, Try.ntmps28
    go_wp2_with fail
    go_ret
    exact ⟨rfl, DPost.same H.out⟩
  have ho' : x.off = false := by cases h' : x.off <;> simp_all
  rw [ho'] at c0
  by_cases hf : 4194304 - x.l.length < m.length
  · have hr : appendD m x = (16, x) := by simp [appendD, ho', hf]
    rw [hr]
    have hf' : decide ((4194304 : Int) - (x.l.length : Int) < (m.length : Int)) = true := by simp; omega
    have Hgo := Lib.hid hgo
    clear ho ho' hr hgo
    go_enter Try.func28, Try.ntmps28
    go_wp2_with fail
    go_ret
    exact ⟨rfl, DPost.same H.out⟩
  have hf' : decide ((4194304 : Int) - (x.l.length : Int) < (m.length : Int)) = false := by simp; omega
  by_cases hg : (goesD x).1 = true
  · have hr : appendD m x = (0, { (goesD x).2 with l := x.l ++ m }) := by simp [appendD, ho', hf, hg]
    rw [hr]
    rw [hg] at hgo
    clear ho ho' hr hg
    have hgl := goes_l x
    have hgs := goes_s x
    go_enter Try.func28, Try.ntmps28
    go_wp2_with fail
    refine hgo.mono ?_
    rintro e w1 ⟨rfl, F1, ⟨v1, h1⟩, hx1, hf1⟩
    obtain ⟨A, c, hv, hlc, hA⟩ := h1.own.form
    subst hv
    have hm1 : Byt D w1 (.slice Am m.length cm) m := hm.ext hx1 hD
    have c41 : w1.cell? ⟨a, 4, none⟩ = some (.slice A x.l.length c) := by rw [← hgl]; exact h1.cell 4
    have hown1 : OwnB w1 (.slice A x.l.length c) x.l := by have := h1.own; rwa [hgl] at this
    have Hf := Lib.hid hf
    clear hf
    go_wp2_with (at_builtin; refine Hid.out ?_)
    refine Lib.hid ?_
    refine wpList_append_bytes rfl _ _ 36 rfl Try.underlying36 info_u8 (sv := .slice A x.l.length c) rfl rfl hown1 hm1 (by have := Hf.out; omega) ?_
    intro v2 w2 hown2 hx2 hb2
    obtain ⟨A2, c2, hv2, _, _⟩ := hown2.form
    subst hv2
    have hs0 := h1.safe
    rw [hgl] at hs0
    have hx2' : Ext (fun k => (Value.slice A (goesD x).2.l.length c).ownBlock = some k) w1 w2 := by rw [hgl]; exact hx2
    have hb2' : (Value.slice A2 (x.l ++ m).length c2).ownBlock = (Value.slice A (goesD x).2.l.length c).ownBlock ∨ ∃ b, (Value.slice A2 (x.l ++ m).length c2).ownBlock = some b ∧ w1.heap.size ≤ b := by rw [hgl]; exact hb2
    have hP := h1.appended hx2' hown2 hb2' (by simp; omega) (by have := Hf.out; rw [List.length_append]; omega)
    have ha2 : w2.heap[a]? = _ := hx2'.heap h1.obj h1.va
    have c42 : w2.cell? ⟨a, 4, none⟩ = some (.slice A x.l.length c) := by rw [← hgl]; exact cells_at ha2 4
    have f42 : w2.frozen? ⟨a, 4, none⟩ = false := by simp [World.frozen?, ha2]
    have Hb2 := Lib.hid hb2
    have HP := Lib.hid hP
    clear hb2 ha2 c41 hP
    go_wp2_with fail
    go_ret
    have hP := HP.out
    rw [List.length_append] at hP
    exact ⟨rfl, DPost.trans hx1 hf1 hP⟩
  · have hmx : m.length ≤ 9223372036854775806 := by omega
    have hg' : (goesD x).1 = false := by simpa using hg
    have hr : appendD m x = (18, { (goesD x).2 with l := x.l ++ m.take (x.part % (m.length + 1 : Nat)).toNat }) := by simp [appendD, ho', hf, hg']
    rw [hr]
    rw [hg'] at hgo
    clear ho ho' hr hg hg'
    have hgl := goes_l x
    have hgs := goes_s x
    have hgp := goes_part x
    go_enter Try.func28, Try.ntmps28
    go_wp2_with fail
    refine hgo.mono ?_
    rintro e w1 ⟨rfl, F1, ⟨v1, h1⟩, hx1, hf1⟩
    obtain ⟨A, c, hv, hlc, hA⟩ := h1.own.form
    subst hv
    have hm1 : Byt D w1 (.slice Am m.length cm) m := hm.ext hx1 hD
    have c41 : w1.cell? ⟨a, 4, none⟩ = some (.slice A x.l.length c) := by rw [← hgl]; exact h1.cell 4
    have hown1 : OwnB w1 (.slice A x.l.length c) x.l := by have := h1.own; rwa [hgl] at this
    have c31 : w1.cell? ⟨a, 3, none⟩ = some (.int .i64 (goesD x).2.part) := h1.cell 3
    have hal1 := lt_of_heap h1.obj
    have Hf := Lib.hid hf
    clear hf
    go_wp2_with fail
    refine wp_region_bar (Cls [a] _) [([0, 1, 2, 3, 4, 5, 6, 7, 8, 9, 10, 11, 12, 13], 14), ([15], 16)] [17, 18] 19 [] [] (by kernel_rfl) (by kernel_rfl) (Cls.refl _ _) ?_
    try dsimp only [wpMix, wpSegs, pick, List.getElem?_cons_zero, List.getElem?_cons_succ]
    generalize hz : Act.mk _ _ = z
    repeat (first | (refine wpQuiet_step (fun K hK => ?_); replace hK := Lib.hid hK; subst hz; go_simp; generalize hz : Act.mk _ _ = z; refine hK.out z ?_; clear hK K) | (refine wpQuiet_step (fun K hK => ?_); replace hK := Lib.hid hK; subst hz; refine iteSkip (by kernel_rfl) ?_; go_simp; generalize hz : Act.mk _ _ = z; refine hK.out z ?_; clear hK K))
    refine wpQuiet_nil ?_
    subst hz
    try dsimp only [NoPan]
    go_wp2_with fail
    have hz : ((m.length : Int) + 1) = ((m.length + 1 : Nat) : Int) := by omega
    rw [hz]
    refine (disk_modulo _ _ (by omega) (by omega) _).mono ?_
    rintro e w2 ⟨rfl, rfl⟩
    have hq0 := Int.emod_nonneg x.part (by omega : ((m.length + 1 : Nat) : Int) ≠ 0)
    have hq1 := Int.emod_lt_of_pos x.part (by omega : 0 < ((m.length + 1 : Nat) : Int))
    obtain ⟨q, hq⟩ : ∃ q : Nat, x.part % ((m.length + 1 : Nat) : Int) = q := ⟨_, (Int.toNat_of_nonneg hq0).symm⟩
    rw [hq] at hq0 hq1 ⊢
    have hqm : (q : Int) ≤ (cm : Int) := by omega
    have Hq := Lib.hid hq
    have Hq1 := Lib.hid hq1
    have Hlen := Lib.hid hlen
    clear h H hgo c0 c4 hm hlc0 hf' hlen hz hq hq1
    have hadd : ∀ ad : Addr, ad.add 0 = ad := fun ad => by unfold Addr.add; split <;> simp_all
    go_wp2_with fail
    refine ⟨Cls.refl _ _, ?_⟩
    have hbt := (hm1.same ((Ext.refl (fun _ => False) _).drew)).take (n := q) (by have := Hq1.out; omega) cm (by omega)
    have htl : (m.take q).length ≤ m.length := by simp; omega
    have Htl := Lib.hid htl
    clear htl
    have hxd : Ext (fun _ => False) w1 w1.drew := (Ext.refl _ _).drew
    have h1d := h1.keep hxd fun _ _ => id
    have hownd := hown1.ext hxd fun _ _ => id
    clear hown1 hm1 c41 c31
    have goal2 : ∀ v2 w2, OwnB w2 v2 (x.l ++ m.take q) → Ext (fun k => (Value.slice A x.l.length c).ownBlock = some k) w1.drew w2 → (v2.ownBlock = (Value.slice A x.l.length c).ownBlock ∨ ∃ b, v2.ownBlock = some b ∧ w1.drew.heap.size ≤ b) →
        Cls [a] w1.drew w2 ∧ w2.cell? ⟨a, 4, none⟩ = some (.slice A x.l.length c) ∧ w2.frozen? ⟨a, 4, none⟩ = false ∧ DPost F w a { (goesD x).2 with l := x.l ++ m.take q } (w2.setCell ⟨a, 4, none⟩ v2) := by
      intro v2 w2 hown2 hx2 hb2
      have hs0 := h1.safe
      rw [hgl] at hs0
      rw [← hgl] at hx2 hb2
      have hP := h1d.appended hx2 hown2 hb2 (by simp; omega) (by have := Hf.out; have := Htl.out; have := Hlen.out; rw [List.length_append]; omega)
      have ha2 := hx2.heap h1d.obj h1d.va
      refine ⟨(Cls.refl _ _).step hx2 (by intro b hb; simp at hb; subst hb; exact ⟨hal1, h1d.va⟩), ?_, by simp [World.frozen?, ha2], DPost.trans (hx1.drew) hf1 hP⟩
      rw [← hgl]
      exact cells_at ha2 4
    have Hg := Lib.hid goal2
    have hle : x.l.length + (m.take q).length ≤ 140737488355328 := by have := Hf.out; have := Htl.out; have := Hlen.out; omega
    have Hle := Lib.hid hle
    clear goal2 hle
    cases Am with
    | none =>
      try dsimp only [wpMix, wpSegs, pick, List.getElem?_cons_zero, List.getElem?_cons_succ]
      generalize hz : Act.mk _ _ = z
      repeat (first | (refine wpQuiet_step (fun K hK => ?_); replace hK := Lib.hid hK; subst hz; go_simp; generalize hz : Act.mk _ _ = z; refine hK.out z ?_; clear hK K) | (refine wpQuiet_step (fun K hK => ?_); replace hK := Lib.hid hK; subst hz; refine iteSkip (by kernel_rfl) ?_; go_simp; generalize hz : Act.mk _ _ = z; refine hK.out z ?_; clear hK K))
      refine wpQuiet_nil ?_
      subst hz
      try dsimp only [NoPan]
      refine wpList_append_bytes rfl _ _ 36 rfl Try.underlying36 info_u8 (sv := .slice A x.l.length c) rfl rfl hownd hbt Hle.out ?_
      intro v2 w2 hown2 hx2 hb2
      obtain ⟨hcl, c42, f42, hP⟩ := Hg.out v2 w2 hown2 hx2 hb2
      obtain ⟨A2, c2, hv2, _, _⟩ := hown2.form
      subst hv2
      have HP := Lib.hid hP
      clear hP hb2 hx2
      apply wpList_nil
      simp only [Exit.then]
      refine ⟨hcl, ?_⟩
      try dsimp only [wpMix, wpSegs, pick, List.getElem?_cons_zero, List.getElem?_cons_succ]
      generalize hz : Act.mk _ _ = z
      repeat (first | (refine wpQuiet_step (fun K hK => ?_); replace hK := Lib.hid hK; subst hz; go_simp; generalize hz : Act.mk _ _ = z; refine hK.out z ?_; clear hK K) | (refine wpQuiet_step (fun K hK => ?_); replace hK := Lib.hid hK; subst hz; refine iteSkip (by kernel_rfl) ?_; go_simp; generalize hz : Act.mk _ _ = z; refine hK.out z ?_; clear hK K))
      refine wpQuiet_nil ?_
      subst hz
      try dsimp only [NoPan]
      go_wp2_with fail
      try dsimp only [wpMix, wpSegs, pick, List.getElem?_cons_zero, List.getElem?_cons_succ]
      generalize hz : Act.mk _ _ = z
      repeat (first | (refine wpQuiet_step (fun K hK => ?_); replace hK := Lib.hid hK; subst hz; go_simp; generalize hz : Act.mk _ _ = z; refine hK.out z ?_; clear hK K) | (refine wpQuiet_step (fun K hK => ?_); replace hK := Lib.hid hK; subst hz; refine iteSkip (by kernel_rfl) ?_; go_simp; generalize hz : Act.mk _ _ = z; refine hK.out z ?_; clear hK K))
      refine wpQuiet_nil ?_
      subst hz
      try dsimp only [NoPan]
      go_wp2_with fail
      go_ret
      have hP := HP.out
      rw [List.length_append, List.length_take] at hP
      have hq := Hq.out
      exact ⟨rfl, by rw [hq]; exact hP⟩
    | some ad =>
      try dsimp only [wpMix, wpSegs, pick, List.getElem?_cons_zero, List.getElem?_cons_succ]
      generalize hz : Act.mk _ _ = z
      repeat (first | (refine wpQuiet_step (fun K hK => ?_); replace hK := Lib.hid hK; subst hz; go_simp; generalize hz : Act.mk _ _ = z; refine hK.out z ?_; clear hK K) | (refine wpQuiet_step (fun K hK => ?_); replace hK := Lib.hid hK; subst hz; refine iteSkip (by kernel_rfl) ?_; go_simp; generalize hz : Act.mk _ _ = z; refine hK.out z ?_; clear hK K))
      refine wpQuiet_nil ?_
      subst hz
      try dsimp only [NoPan]
      refine wpList_append_bytes rfl _ _ 36 rfl Try.underlying36 info_u8 (sv := .slice A x.l.length c) rfl rfl hownd hbt Hle.out ?_
      intro v2 w2 hown2 hx2 hb2
      obtain ⟨hcl, c42, f42, hP⟩ := Hg.out v2 w2 hown2 hx2 hb2
      obtain ⟨A2, c2, hv2, _, _⟩ := hown2.form
      subst hv2
      have HP := Lib.hid hP
      clear hP hb2 hx2
      apply wpList_nil
      simp only [Exit.then]
      refine ⟨hcl, ?_⟩
      try dsimp only [wpMix, wpSegs, pick, List.getElem?_cons_zero, List.getElem?_cons_succ]
      generalize hz : Act.mk _ _ = z
      repeat (first | (refine wpQuiet_step (fun K hK => ?_); replace hK := Lib.hid hK; subst hz; go_simp; generalize hz : Act.mk _ _ = z; refine hK.out z ?_; clear hK K) | (refine wpQuiet_step (fun K hK => ?_); replace hK := Lib.hid hK; subst hz; refine iteSkip (by kernel_rfl) ?_; go_simp; generalize hz : Act.mk _ _ = z; refine hK.out z ?_; clear hK K))
      refine wpQuiet_nil ?_
      subst hz
      try dsimp only [NoPan]
      go_wp2_with fail
      try dsimp only [wpMix, wpSegs, pick, List.getElem?_cons_zero, List.getElem?_cons_succ]
      generalize hz : Act.mk _ _ = z
      repeat (first | (refine wpQuiet_step (fun K hK => ?_); replace hK := Lib.hid hK; subst hz; go_simp; generalize hz : Act.mk _ _ = z; refine hK.out z ?_; clear hK K) | (refine wpQuiet_step (fun K hK => ?_); replace hK := Lib.hid hK; subst hz; refine iteSkip (by kernel_rfl) ?_; go_simp; generalize hz : Act.mk _ _ = z; refine hK.out z ?_; clear hK K))
      refine wpQuiet_nil ?_
      subst hz
      try dsimp only [NoPan]
      go_wp2_with fail
      go_ret
      have hP := HP.out
      rw [List.length_append, List.length_take] at hP
      have hq := Hq.out
      exact ⟨rfl, by rw [hq]; exact hP⟩
end Go.Proofs.Ytebcpacenoedfaa
