/- The document's disk: Cut, Boot; no condition. -/
import Derived.Test.YtebcpacenoedfaaRefDisk2
namespace Go.Proofs.Ytebcpacenoedfaa
set_option linter.unusedVariables false
set_option linter.unusedSimpArgs false
open Go.RowKit

theorem RAt.cutTo {F : Nat → Prop} {w w3 : World} {a : Nat} {v v' : Value} {x : Dk} {p q : Int} {n : Nat} (h : RAt F w a v x p q) (hx : Ext (fun _ => False) w w3) (hown : OwnB w3 v' (x.l.take n)) (hb : ∀ b, v'.ownBlock = some b → w.heap.size ≤ b) (hn : n ≤ x.l.length) :
    ∃ F', RAt F' ((w3.setCell ⟨a, 0, none⟩ v').setCell ⟨a, 1, none⟩ (.int .i64 n)) a v' (keepD n x) p q ∧ Ext F w ((w3.setCell ⟨a, 0, none⟩ v').setCell ⟨a, 1, none⟩ (.int .i64 n)) ∧ ∀ k, F' k → F k ∨ w.heap.size ≤ k := by
  have hal := lt_of_heap h.obj
  have ha1 := hx.heap h.obj id
  have hne : v'.ownBlock ≠ some a := fun e => by have := hb a e; omega
  have hx2 : Ext (· = a) w3 ((w3.setCell ⟨a, 0, none⟩ v').setCell ⟨a, 1, none⟩ (.int .i64 n)) := ((Ext.refl (· = a) w3).setCell (a := ⟨a, 0, none⟩) (.inl rfl) _).setCell (a := ⟨a, 1, none⟩) (.inl rfl) _
  have hlen := h.len
  refine ⟨fun k => F k ∨ v'.ownBlock = some k, ?_, (hx.mono (F1 := F) fun k _ hk => hk.elim).trans' hx2 (fun b hb => .inl (by rw [hb]; exact h.fa)), fun k hk => hk.imp id (hb k)⟩
  exact { obj := by rw [heap_setCell_self (heap_setCell_self ha1)]; rfl
          own := hown.ext hx2 fun k hk e => hne (e ▸ hk)
          fa := .inl h.fa, fv := fun k hk => .inr hk, safe := by show n ≤ (x.l.take n).length; simp; omega, len := by show (x.l.take n).length ≤ _; simp; omega, arm := h.arm
          lt := fun k hk => Nat.lt_of_lt_of_le (hk.elim (fun h' => Nat.lt_of_lt_of_le (h.lt k h') hx.size) fun h' => hown.lt k h') hx2.size }

/-- What append([]byte{}, d.B[:n]...) leaves, and the two stores behind it. -/
theorem RAt.renew {F : Nat → Prop} {w : World} {a : Nat} {A : Option Addr} {c : Nat} {x : Dk} {p q : Int} {n : Nat} (h : RAt F w a (.slice A x.l.length c) x p q) (hn : n ≤ x.l.length) {w3 : World} {v' : Value}
    (hown : OwnB w3 v' ([] ++ x.l.take n)) (hx : Ext (fun k => (Value.slice (some ⟨w.heap.size, 0, none⟩) 0 0).ownBlock = some k) (w.alloc (.cells #[] 5)) w3)
    (hb : v'.ownBlock = (Value.slice (some ⟨w.heap.size, 0, none⟩) 0 0).ownBlock ∨ ∃ b, v'.ownBlock = some b ∧ (w.alloc (.cells #[] 5)).heap.size ≤ b) :
    (∃ A' c', v' = .slice A' n c') ∧ w3.heap[a]? = some (.cells (rdC (.slice A x.l.length c) x p q) 56 (0, 0)) ∧ ∃ F', RAt F' ((w3.setCell ⟨a, 0, none⟩ v').setCell ⟨a, 1, none⟩ (.int .i64 n)) a v' (keepD n x) p q ∧ Ext F w ((w3.setCell ⟨a, 0, none⟩ v').setCell ⟨a, 1, none⟩ (.int .i64 n)) ∧ ∀ k, F' k → F k ∨ w.heap.size ≤ k := by
  have hx0 : Ext (fun _ => False) w w3 := ((Ext.refl _ _).alloc _).trans' hx fun b hb => .inr (by simp [Value.ownBlock] at hb; omega)
  have ha := hx0.heap h.obj id
  have hl : (x.l.take n).length = n := by simp; omega
  obtain ⟨A', c', e, _, _⟩ := hown.form
  rw [List.nil_append, hl] at e
  refine ⟨⟨A', c', e⟩, ha, h.cutTo hx0 (by simpa using hown) (fun b hb' => ?_) hn⟩
  rcases hb with hb | ⟨b', hb, hle⟩
  · rw [hb] at hb'; simp [Value.ownBlock] at hb'; omega
  · rw [hb] at hb'; simp at hb' hle; omega

set_option maxRecDepth 100000 in
theorem rd_boot {F : Nat → Prop} {w : World} {a : Nat} {x : Dk} (h : RRep F w a x) (k : Int) :
    Calls Try.prog 27 #[.pointer (some ⟨a, 0, none⟩), .int .i64 k] w fun e w' => e = .returned (.tuple #[]) ∧ RPost F w a (bootD k x) w' := by
  obtain ⟨v, p, q0, h⟩ := id h
  obtain ⟨A, c, hv0, hlc0, hA0⟩ := h.own.form
  subst hv0
  have c0 : w.cell? ⟨a, 0, none⟩ = some (.slice A x.l.length c) := h.cell 0
  have c1 : w.cell? ⟨a, 1, none⟩ = some (.int .i64 x.s) := h.cell 1
  have hlen := h.len
  have hsafe := h.safe
  have hal := lt_of_heap h.obj
  have hbyt := h.own.byt
  have Hbyt := Lib.hid hbyt
  have H := Lib.hid h
  clear h hbyt
  obtain ⟨q, hq, hql⟩ := emod_nat k (x.l.length - x.s + 1) (by omega)
  rw [bootD, hq]
  have hmo := fun w => rd_mod k ((x.l.length - x.s + 1 : Nat) : Int) (by omega) (by omega) w
  rw [hq] at hmo
  have Hmo := Lib.hid hmo
  clear hmo hq
  have hqc : ((x.s : Int) + (q : Int)) ≤ (c : Int) := by omega
  have hadd : ∀ ad : Addr, ad.add 0 = ad := fun ad => by unfold Addr.add; split <;> simp_all
  go_enter Try.func27, Try.ntmps27
  go_wp2_with fail
  refine wp_region_mix (Cls [a] _) [([0, 1, 2, 3, 4, 5, 6, 7, 8, 9, 10, 11, 12, 13, 14, 15], 16)] [17, 18] (by kernel_rfl) (by kernel_rfl) (Cls.refl _ _) ?_
  try dsimp only [wpMix, wpSegs, pick, List.getElem?_cons_zero, List.getElem?_cons_succ]
  generalize hz : Act.mk _ _ = z
  repeat (first | (refine wpQuiet_step (fun K hK => ?_); replace hK := Lib.hid hK; subst hz; go_simp; generalize hz : Act.mk _ _ = z; refine hK.out z ?_; clear hK K) | (refine wpQuiet_step (fun K hK => ?_); replace hK := Lib.hid hK; subst hz; refine iteSkip (by kernel_rfl) ?_; go_simp; generalize hz : Act.mk _ _ = z; refine hK.out z ?_; clear hK K))
  refine wpQuiet_nil ?_
  subst hz
  try dsimp only [NoPan]
  go_wp2_with fail
  rw [show ((x.l.length : Int) - (x.s : Int) + 1) = ((x.l.length - x.s + 1 : Nat) : Int) by omega]
  refine (Hmo.out _).mono ?_
  rintro e w2 ⟨rfl, rfl⟩
  go_wp2_with fail
  refine ⟨Cls.refl _ _, ?_⟩
  try dsimp only [wpMix, wpSegs, pick, List.getElem?_cons_zero, List.getElem?_cons_succ]
  generalize hz : Act.mk _ _ = z
  repeat (first | (refine wpQuiet_step (fun K hK => ?_); replace hK := Lib.hid hK; subst hz; go_simp; generalize hz : Act.mk _ _ = z; refine hK.out z ?_; clear hK K) | (refine wpQuiet_step (fun K hK => ?_); replace hK := Lib.hid hK; subst hz; refine iteSkip (by kernel_rfl) ?_; go_simp; generalize hz : Act.mk _ _ = z; refine hK.out z ?_; clear hK K))
  refine wpQuiet_nil ?_
  subst hz
  try dsimp only [NoPan]
  have hd := H.out.keep ((Ext.refl (fun _ => False) w).drew) fun _ _ => id
  have hbt := (Hbyt.out.same (((Ext.refl (fun _ => False) w).drew).alloc (.cells #[] 5))).take (n := x.s + q) (by omega) c (by omega)
  have Hd := Lib.hid hd
  have Hbt := Lib.hid hbt
  clear hd hbt
  have hfin : ∀ (v2 : Value) (w2 : World) (F2 : Nat → Prop), RAt F2 ((w2.setCell ⟨a, 0, none⟩ v2).setCell ⟨a, 1, none⟩ (.int .i64 ((x.s + q : Nat) : Int))) a v2 (keepD (x.s + q) x) p q0 →
      Ext F w.drew ((w2.setCell ⟨a, 0, none⟩ v2).setCell ⟨a, 1, none⟩ (.int .i64 ((x.s + q : Nat) : Int))) → (∀ k, F2 k → F k ∨ w.drew.heap.size ≤ k) →
      RPost F w a { keepD (x.s + q) x with off := false, armed := false, acts := 0, part := 0 } ((((w2.setCell ⟨a, 0, none⟩ v2).setCell ⟨a, 1, none⟩ (.int .i64 ((x.s + q : Nat) : Int))).setCell ⟨a, 2, none⟩ (.bool false)).setCell ⟨a, 3, none⟩ (.bool false)) := by
    intro v2 w2 F2 g1 g2 g3
    have p1 := g1.put 2 (.bool false) { keepD (x.s + q) x with off := false } p q0 rfl rfl g1.safe g1.arm
    have p2 := p1.put 3 (.bool false) { keepD (x.s + q) x with off := false, armed := false, acts := 0, part := 0 } p q0 rfl rfl p1.safe (fun e => by cases e)
    exact ⟨F2, ⟨_, _, _, p2⟩, (((Ext.refl F w).drew.trans g2).setCell (g3 _ g1.fa) _).setCell (g3 _ g1.fa) _, g3⟩
  have Hfin := Lib.hid hfin
  clear hfin
  rcases A with _ | ad
  all_goals
    go_wp2_with (at_builtin; refine Hid.out ?_)
    refine Lib.hid ?_
    refine wpList_append_bytes rfl _ _ 36 rfl Try.underlying36 info_u8 (sv := .slice (some ⟨w.heap.size, 0, none⟩) 0 0) (l := []) rfl rfl
      (.inr ⟨w.heap.size, 0, #[], (0, 0), rfl, heap_alloc_self _ _, Nat.le_refl _, Nat.le_refl _, by decide, fun i hi => by omega, fun j u hu => by simp at hu⟩) Hbt.out (by simp; omega) ?_
    intro v2 w2 hown2 hx2 hb2
    obtain ⟨⟨A2, c2, hv2⟩, ha, F2, hP⟩ := Hd.out.renew (n := x.s + q) (by omega) hown2 hx2 hb2
    subst hv2
    have d0 := cells_at ha 0
    have d1 : w2.cell? ⟨a, 1, none⟩ = some (.int .i64 x.s) := cells_at ha 1
    have d2 : w2.cell? ⟨a, 2, none⟩ = some (.bool x.off) := cells_at ha 2
    have d3 : w2.cell? ⟨a, 3, none⟩ = some (.bool x.armed) := cells_at ha 3
    have f : ∀ i, w2.frozen? ⟨a, i, none⟩ = false := fun i => by simp [World.frozen?, ha]
    have f0 := f 0
    have f1 := f 1
    have f2 := f 2
    have f3 := f 3
    have hal2 := lt_of_heap ha
    have HP := Lib.hid hP
    clear hP hown2 hx2 hb2 ha f
    go_wp2_with fail
    refine bodyPost_end (results_none rfl _ _ _) rfl ?_
    have hR := Hfin.out _ _ _ HP.out.1 HP.out.2.1 HP.out.2.2
    rw [Int.natCast_add] at hR
    exact ⟨rfl, hR⟩

set_option maxRecDepth 100000 in
theorem rd_cut {F : Nat → Prop} {w : World} {a : Nat} {x : Dk} (h : RRep F w a x) (n : Int) :
    Calls Try.prog 38 #[.pointer (some ⟨a, 0, none⟩), .int .i64 n] w fun e w' => e = .returned (.int .i64 (cutD n x).1) ∧ RPost F w a (cutD n x).2 w' := by
  have hgo := rd_last h
  have H := Lib.hid h
  obtain ⟨v, p, q0, h⟩ := id h
  obtain ⟨A0, c0', hv0, hlc0, hA0⟩ := h.own.form
  subst hv0
  have c2 : w.cell? ⟨a, 2, none⟩ = some (.bool x.off) := h.cell 2
  have c0 : w.cell? ⟨a, 0, none⟩ = some (.slice A0 x.l.length c0') := h.cell 0
  have hlen := h.len
  clear h
  by_cases ho : x.off = true
  · have hr : cutD n x = (18, x) := by simp [cutD, ho]
    rw [ho] at c2
    rw [hr]
    have Hgo := Lib.hid hgo
    clear ho hr hgo
    go_enter Try.func38, Try.ntmps38
    go_wp2_with fail
    go_ret
    exact ⟨rfl, RPost.same H.out⟩
  have ho' : x.off = false := by cases h' : x.off <;> simp_all
  rw [ho'] at c2
  by_cases hn0 : n < 0
  · have hr : cutD n x = (1, x) := by simp [cutD, ho', hn0]
    have hn0' : decide (n < 0) = true := by simpa using hn0
    rw [hr]
    have Hgo := Lib.hid hgo
    clear ho ho' hr hgo
    go_enter Try.func38, Try.ntmps38
    go_wp2_with fail
    go_ret
    exact ⟨rfl, RPost.same H.out⟩
  have hn0' : decide (n < 0) = false := by simpa using hn0
  by_cases hn1 : (x.l.length : Int) < n
  · have hr : cutD n x = (1, x) := by simp [cutD, ho', hn1]
    have hn1' : decide ((x.l.length : Int) < n) = true := by simpa using hn1
    rw [hr]
    have Hgo := Lib.hid hgo
    clear ho ho' hr hgo
    go_enter Try.func38, Try.ntmps38
    go_wp2_with fail
    go_ret
    exact ⟨rfl, RPost.same H.out⟩
  have hn1' : decide ((x.l.length : Int) < n) = false := by simpa using hn1
  obtain ⟨m, rfl⟩ : ∃ m : Nat, n = m := ⟨n.toNat, by omega⟩
  have hml : m ≤ x.l.length := by omega
  have hgl := goes_l x
  have hgp := goes_part x
  by_cases hg : (goesD x).1 = true
  · have hr : cutD m x = (0, keepD m (goesD x).2) := by simp [cutD, ho', hn1, hg]
    rw [hr]
    rw [hg, Bool.not_true] at hgo
    clear ho ho' hr hg
    have Hg := Lib.hid hgl
    have Hml := Lib.hid (And.intro hlen hml)
    clear hgl hgp hlen
    go_enter Try.func38, Try.ntmps38
    go_wp2_with fail
    refine hgo.mono ?_
    rintro e w1 ⟨rfl, F1, ⟨v1, p1, q1, h1⟩, hx1, hf1⟩
    obtain ⟨A, c, hv, hlc, hA⟩ := h1.own.form
    subst hv
    have c01 : w1.cell? ⟨a, 0, none⟩ = some (.slice A (goesD x).2.l.length c) := h1.cell 0
    have hal1 := lt_of_heap h1.obj
    have hmc : (m : Int) ≤ (c : Int) := by rw [Hg.out] at hlc; omega
    have Hbt := Lib.hid ((h1.own.byt.same ((Ext.refl (fun _ => False) w1).alloc (.cells #[] 5))).take (n := m) (by rw [Hg.out]; omega) c (by omega))
    have H1 := Lib.hid h1
    clear h1 hlc
    rcases A with _ | ad
    all_goals
      go_wp2_with (at_builtin; refine Hid.out ?_)
      refine Lib.hid ?_
      refine wpList_append_bytes rfl _ _ 36 rfl Try.underlying36 info_u8 (sv := .slice (some ⟨w1.heap.size, 0, none⟩) 0 0) (l := []) rfl rfl
        (.inr ⟨w1.heap.size, 0, #[], (0, 0), rfl, heap_alloc_self _ _, Nat.le_refl _, Nat.le_refl _, by decide, fun i hi => by omega, fun j u hu => by simp at hu⟩) Hbt.out (by have := Hml.out; simp; omega) ?_
      intro v2 w2 hown2 hx2 hb2
      obtain ⟨⟨A2, c2, hv2⟩, ha, F2, hP⟩ := H1.out.renew (n := m) (by rw [Hg.out]; exact hml) hown2 hx2 hb2
      subst hv2
      have d0 : w2.cell? ⟨a, 0, none⟩ = _ := cells_at ha 0
      have d1 : w2.cell? ⟨a, 1, none⟩ = some (.int .i64 (goesD x).2.s) := cells_at ha 1
      have f : ∀ i, w2.frozen? ⟨a, i, none⟩ = false := fun i => by simp [World.frozen?, ha]
      have f0 := f 0
      have f1 := f 1
      have hal2 := lt_of_heap ha
      have HP := Lib.hid hP
      clear hP hown2 hx2 hb2 ha f
      go_wp2_with fail
      go_ret
      exact ⟨rfl, RPost.trans hx1 hf1 ⟨F2, ⟨_, _, _, HP.out.1⟩, HP.out.2.1, HP.out.2.2⟩⟩
  · have hg' : (goesD x).1 = false := by simpa using hg
    have Ha := Lib.hid (goes_armed hg')
    rw [hg', Bool.not_false] at hgo
    have hmo := fun w => rd_mod x.part 2 (by omega) (by omega) w
    have Hmo := Lib.hid hmo
    clear hmo
    have hb2 : x.part % 2 = 0 ∨ x.part % 2 = 1 := by omega
    by_cases hp : x.part % 2 = 0
    · have hr : cutD m x = (18, (goesD x).2) := by simp [cutD, ho', hn1, hg', hp]
      have hp' : (x.part % 2 == 1) = false := by rw [hp]; rfl
      rw [hr]
      clear ho ho' hr hg hg' hp hb2
      have Hg := Lib.hid hgl
      clear hgl
      go_enter Try.func38, Try.ntmps38
      go_wp2_with fail
      refine hgo.mono ?_
      rintro e w1 ⟨rfl, F1, ⟨v1, p1, q1, h1⟩, hx1, hf1⟩
      have hq1 : q1 = x.part := by rw [(h1.arm Ha.out).2.1, hgp]
      have c51 : w1.cell? ⟨a, 5, none⟩ = some (.int .i64 x.part) := by rw [← hq1]; exact h1.cell 5
      have H1 := Lib.hid h1
      clear h1 hq1
      go_wp2_with fail
      refine (Hmo.out _).mono ?_
      rintro e w2 ⟨rfl, rfl⟩
      go_wp2_with fail
      go_ret
      exact ⟨rfl, RPost.trans hx1 hf1 (RPost.same ⟨_, _, _, H1.out⟩)⟩
    · have hr : cutD m x = (18, keepD m (goesD x).2) := by simp [cutD, ho', hn1, hg', hp]
      have hp' : (x.part % 2 == 1) = true := by rw [hb2.resolve_left hp]; rfl
      rw [hr]
      clear ho ho' hr hg hg' hp hb2
      have Hg := Lib.hid hgl
      have Hml := Lib.hid (And.intro hlen hml)
      clear hgl hlen
      go_enter Try.func38, Try.ntmps38
      go_wp2_with fail
      refine hgo.mono ?_
      rintro e w1 ⟨rfl, F1, ⟨v1, p1, q1, h1⟩, hx1, hf1⟩
      have hq1 : q1 = x.part := by rw [(h1.arm Ha.out).2.1, hgp]
      have c51 : w1.cell? ⟨a, 5, none⟩ = some (.int .i64 x.part) := by rw [← hq1]; exact h1.cell 5
      obtain ⟨A, c, hv, hlc, hA⟩ := h1.own.form
      subst hv
      have c01 : w1.cell? ⟨a, 0, none⟩ = some (.slice A (goesD x).2.l.length c) := h1.cell 0
      have hal1 := lt_of_heap h1.obj
      have hmc : (m : Int) ≤ (c : Int) := by rw [Hg.out] at hlc; omega
      have Hbt := Lib.hid ((h1.own.byt.same ((Ext.refl (fun _ => False) w1).alloc (.cells #[] 5))).take (n := m) (by rw [Hg.out]; omega) c (by omega))
      have H1 := Lib.hid h1
      clear h1 hlc hq1
      go_wp2_with fail
      refine (Hmo.out _).mono ?_
      rintro e w2 ⟨rfl, rfl⟩
      rcases A with _ | ad
      all_goals
        go_wp2_with (at_builtin; refine Hid.out ?_)
        refine Lib.hid ?_
        refine wpList_append_bytes rfl _ _ 36 rfl Try.underlying36 info_u8 (sv := .slice (some ⟨w1.heap.size, 0, none⟩) 0 0) (l := []) rfl rfl
          (.inr ⟨w1.heap.size, 0, #[], (0, 0), rfl, heap_alloc_self _ _, Nat.le_refl _, Nat.le_refl _, by decide, fun i hi => by omega, fun j u hu => by simp at hu⟩) Hbt.out (by have := Hml.out; simp; omega) ?_
        intro v2 w2 hown2 hx2 hb2
        obtain ⟨⟨A2, c2, hv2⟩, ha, F2, hP⟩ := H1.out.renew (n := m) (by rw [Hg.out]; exact hml) hown2 hx2 hb2
        subst hv2
        have d0 : w2.cell? ⟨a, 0, none⟩ = _ := cells_at ha 0
        have d1 : w2.cell? ⟨a, 1, none⟩ = some (.int .i64 (goesD x).2.s) := cells_at ha 1
        have f : ∀ i, w2.frozen? ⟨a, i, none⟩ = false := fun i => by simp [World.frozen?, ha]
        have f0 := f 0
        have f1 := f 1
        have hal2 := lt_of_heap ha
        have HP := Lib.hid hP
        clear hP hown2 hx2 hb2 ha f
        go_wp2_with fail
        go_ret
        exact ⟨rfl, RPost.trans hx1 hf1 ⟨F2, ⟨_, _, _, HP.out.1⟩, HP.out.2.1, HP.out.2.2⟩⟩
end Go.Proofs.Ytebcpacenoedfaa
