/- The disk's other acts; no condition. -/
import Derived.Test.YtebcpacenoedfaaDisk2
import Derived.Lib.SliceRun
namespace Go.Proofs.Ytebcpacenoedfaa
set_option linter.unusedVariables false
set_option linter.unusedSimpArgs false
open Go.RowKit

def syncD (x : Dk) : Int × Dk :=
  if x.off then (18, x) else if (goesD x).1 then (0, { (goesD x).2 with s := x.l.length }) else (18, { (goesD x).2 with s := x.s + (x.part % (x.l.length - x.s + 1 : Nat)).toNat })

theorem emod_nat (p : Int) (k : Nat) (hk : 0 < k) : ∃ q : Nat, p % (k : Int) = (q : Int) ∧ q < k := by
  have h0 := Int.emod_nonneg p (by omega : (k : Int) ≠ 0)
  have h1 := Int.emod_lt_of_pos p (by omega : (0 : Int) < (k : Int))
  exact ⟨(p % (k : Int)).toNat, (Int.toNat_of_nonneg h0).symm, by omega⟩

set_option maxRecDepth 100000 in
theorem disk_sync {F : Nat → Prop} {w : World} {a : Nat} {x : Dk} (h : DRep F w a x) :
    Calls Try.prog 32 #[.pointer (some ⟨a, 0, none⟩)] w fun e w' => e = .returned (.int .i64 (syncD x).1) ∧ DPost F w a (syncD x).2 w' := by
  have hgo := power_goes h
  have H := Lib.hid h
  obtain ⟨v, h⟩ := id h
  have c0 : w.cell? ⟨a, 0, none⟩ = some (.bool x.off) := h.cell 0
  have hlen := h.len
  have hsafe := h.safe
  clear h
  by_cases ho : x.off = true
  · have hr : syncD x = (18, x) := by simp [syncD, ho]
    rw [ho] at c0
    rw [hr]
    have Hgo := Lib.hid hgo
    clear ho hr hgo
    go_enter Try.func32, Try.ntmps32
    go_wp2_with fail
    go_ret
    exact ⟨rfl, DPost.same H.out⟩
  have ho' : x.off = false := by cases h' : x.off <;> simp_all
  rw [ho'] at c0
  have hgl := goes_l x
  have hgs := goes_s x
  have hgp := goes_part x
  by_cases hg : (goesD x).1 = true
  · have hr : syncD x = (0, { (goesD x).2 with s := x.l.length }) := by simp [syncD, ho', hg]
    rw [hr]
    rw [hg] at hgo
    clear ho ho' hr hg
    go_enter Try.func32, Try.ntmps32
    go_wp2_with fail
    refine hgo.mono ?_
    rintro e w1 ⟨rfl, F1, ⟨v1, h1⟩, hx1, hf1⟩
    obtain ⟨A, c, hv, hlc, hA⟩ := h1.own.form
    subst hv
    have c41 : w1.cell? ⟨a, 4, none⟩ = some (.slice A x.l.length c) := by rw [← hgl]; exact h1.cell 4
    have c51 : w1.cell? ⟨a, 5, none⟩ = some (.int .i64 (goesD x).2.s) := h1.cell 5
    have f5 := h1.melt 5
    have hp := h1.put 5 (.int .i64 (x.l.length : Nat)) { (goesD x).2 with s := x.l.length } rfl rfl (by rw [hgl]; exact Nat.le_refl _) h1.acts
    have Hp := Lib.hid hp
    have HF := Lib.hid h1.fa
    clear hp h1
    go_wp2_with fail
    go_ret
    exact ⟨rfl, DPost.trans hx1 hf1 ⟨F1, ⟨_, Hp.out⟩, (Ext.refl _ _).setCell (.inl HF.out) _, fun _ => .inl⟩⟩
  · have hg' : (goesD x).1 = false := by simpa using hg
    have hr : syncD x = (18, { (goesD x).2 with s := x.s + (x.part % (x.l.length - x.s + 1 : Nat)).toNat }) := by simp [syncD, ho', hg']
    rw [hr]
    rw [hg'] at hgo
    clear ho ho' hr hg hg'
    obtain ⟨q, hq, hql⟩ := emod_nat x.part (x.l.length - x.s + 1) (by omega)
    rw [hq]
    have hmo := fun w => disk_modulo x.part ((x.l.length - x.s + 1 : Nat) : Int) (by omega) (by omega) w
    rw [hq] at hmo
    have Hmo := Lib.hid hmo
    clear hmo hq
    go_enter Try.func32, Try.ntmps32
    go_wp2_with fail
    refine hgo.mono ?_
    rintro e w1 ⟨rfl, F1, ⟨v1, h1⟩, hx1, hf1⟩
    obtain ⟨A, c, hv, hlc, hA⟩ := h1.own.form
    subst hv
    have c31 : w1.cell? ⟨a, 3, none⟩ = some (.int .i64 x.part) := by rw [← hgp]; exact h1.cell 3
    have c41 : w1.cell? ⟨a, 4, none⟩ = some (.slice A x.l.length c) := by rw [← hgl]; exact h1.cell 4
    have c51 : w1.cell? ⟨a, 5, none⟩ = some (.int .i64 x.s) := by rw [← hgs]; exact h1.cell 5
    have hal1 := lt_of_heap h1.obj
    have f5 := h1.melt 5
    have h1d := h1.keep ((Ext.refl (fun _ => False) w1).drew) fun _ _ => id
    have hp := h1d.put 5 (.int .i64 (x.s + q : Nat)) { (goesD x).2 with s := x.s + q } rfl rfl (by show x.s + q ≤ _; rw [hgl]; omega) h1.acts
    have Hp := Lib.hid hp
    have HF := Lib.hid h1.fa
    clear hp h1 h1d
    go_wp2_with fail
    refine wp_region_bar (Cls [a] _) [([0, 1, 2, 3, 4, 5, 6, 7, 8, 9, 10, 11, 12, 13, 14, 15, 16, 17, 18, 19], 20)] [21, 22, 23] 24 [] [] (by kernel_rfl) (by kernel_rfl) (Cls.refl _ _) ?_
    try dsimp only [wpMix, wpSegs, pick, List.getElem?_cons_zero, List.getElem?_cons_succ]
    generalize hz : Act.mk _ _ = z
    repeat (first | (refine wpQuiet_step (fun K hK => ?_); replace hK := Lib.hid hK; subst hz; go_simp; generalize hz : Act.mk _ _ = z; refine hK.out z ?_; clear hK K) | (refine wpQuiet_step (fun K hK => ?_); replace hK := Lib.hid hK; subst hz; refine iteSkip (by kernel_rfl) ?_; go_simp; generalize hz : Act.mk _ _ = z; refine hK.out z ?_; clear hK K))
    refine wpQuiet_nil ?_
    subst hz
    try dsimp only [NoPan]
    go_wp2_with fail
    rw [show ((x.l.length : Int) - (x.s : Int) + 1) = ((x.l.length - x.s + 1 : Nat) : Int) by omega]
    refine (Hmo.out _).mono ?_
    rintro e w2 ⟨rfl, rfl⟩
    go_wp2_with fail
    refine ⟨Cls.refl _ _, ?_⟩
    try dsimp only [wpMix, wpSegs, pick, List.getElem?_cons_zero, List.getElem?_cons_succ]
    generalize hz : Act.mk _ _ = z
    repeat (first | (refine wpQuiet_step (fun K hK => ?_); replace hK := Lib.hid hK; subst hz; go_simp; generalize hz : Act.mk _ _ = z; refine hK.out z ?_; clear hK K) | (refine wpQuiet_step (fun K hK => ?_); replace hK := Lib.hid hK; subst hz; refine iteSkip (by kernel_rfl) ?_; go_simp; generalize hz : Act.mk _ _ = z; refine hK.out z ?_; clear hK K))
    refine wpQuiet_nil ?_
    subst hz
    try dsimp only [NoPan]
    go_wp2_with fail
    try dsimp only [wpMix, wpSegs, pick, List.getElem?_cons_zero, List.getElem?_cons_succ]
    generalize hz : Act.mk _ _ = z
    repeat (first | (refine wpQuiet_step (fun K hK => ?_); replace hK := Lib.hid hK; subst hz; go_simp; generalize hz : Act.mk _ _ = z; refine hK.out z ?_; clear hK K) | (refine wpQuiet_step (fun K hK => ?_); replace hK := Lib.hid hK; subst hz; refine iteSkip (by kernel_rfl) ?_; go_simp; generalize hz : Act.mk _ _ = z; refine hK.out z ?_; clear hK K))
    refine wpQuiet_nil ?_
    subst hz
    try dsimp only [NoPan]
    go_wp2_with fail
    go_ret
    have hp := Hp.out
    rw [Int.natCast_add] at hp
    exact ⟨rfl, DPost.trans hx1 hf1 ⟨F1, ⟨_, hp⟩, ((Ext.refl _ _).drew).setCell (.inl HF.out) _, fun _ => .inl⟩⟩

/-- Bytes that are the answer's own. -/
def Fresh (w : World) (l : Bs) (e : Ending) (w' : World) : Prop := ∃ v, e = .returned v ∧ OwnB w' v l ∧ Ext (fun _ => False) w w' ∧ ∀ k, v.ownBlock = some k → w.heap.size ≤ k

theorem bytes_clone {w : World} {v : Value} {l : Bs} (hb : OwnB w v l) (hl : l.length ≤ 140737488355328) : Calls Try.prog 36 #[v] w (Fresh w l) := by
  have kn := fun (W : World) (a : Option Addr) (n c : Nat) => Lib.run_eql_slice_nil (P := Try.prog) W 36 5 a n c 0 0 Try.underlying36
  have Hb := Lib.hid hb
  rcases hb with ⟨rfl, rfl⟩ | ⟨g, c, cells, fr, rfl, hg, h1, h2, h3, h4, h5⟩
  ·
    go_enter Try.func36, Try.ntmps36
    go_wp2_with fail
    go_ret
    exact ⟨_, rfl, .inl ⟨rfl, rfl⟩, Ext.refl _ _, fun k hk => by simp [Value.ownBlock] at hk⟩
  · clear hg h1 h2 h3 h4 h5
    go_enter Try.func36, Try.ntmps36
    go_wp2_with (at_builtin; refine Hid.out ?_)
    refine Lib.hid ?_
    have hxa : ∀ o, Ext (fun _ => False) w (w.alloc o) := fun o => (Ext.refl _ _).alloc o
    refine wpList_append_bytes rfl _ _ 36 rfl Try.underlying36 info_u8 (sv := .slice (some ⟨w.heap.size, 0, none⟩) 0 0) (xv := .slice (some ⟨g, 0, none⟩) l.length c) (l := []) rfl rfl
      (.inr ⟨w.heap.size, 0, #[], (0, 0), rfl, heap_alloc_self _ _, Nat.le_refl _, Nat.le_refl _, by decide, fun i hi => by omega, fun j u hu => by simp at hu⟩) (Hb.out.byt.same (hxa _)) (by simpa using hl) ?_
    intro v2 w2 hown2 hx2 hb2
    obtain ⟨A2, c2, hv2, _, _⟩ := hown2.form
    subst hv2
    have hx : Ext (fun _ => False) w w2 := (hxa _).trans' hx2 fun b hb => .inr (by simp [Value.ownBlock] at hb; omega)
    have hb3 : ∀ k, (Value.slice A2 ([] ++ l).length c2).ownBlock = some k → w.heap.size ≤ k := by
      intro k hk
      rcases hb2 with h | ⟨b, h, hle⟩
      · rw [h] at hk; simp [Value.ownBlock] at hk; omega
      · rw [h] at hk; simp at hk hle; omega
    have H := Lib.hid (And.intro hown2 (And.intro hx hb3))
    clear hb2 hx2 hb3 hx hown2
    go_wp2_with fail
    go_ret
    exact ⟨_, rfl, H.out.1, H.out.2.1, H.out.2.2⟩

theorem disk_bytes {F : Nat → Prop} {w : World} {a : Nat} {x : Dk} (h : DRep F w a x) : Calls Try.prog 20 #[.pointer (some ⟨a, 0, none⟩)] w (Fresh w x.l) := by
  obtain ⟨v, h⟩ := h
  obtain ⟨A, c, hv, hlc, hA⟩ := h.own.form
  subst hv
  have c4 : w.cell? ⟨a, 4, none⟩ = some (.slice A x.l.length c) := h.cell 4
  have hcl := bytes_clone h.own (by have := h.len; omega)
  have Hcl := Lib.hid hcl
  clear h hcl
  go_enter Try.func20, Try.ntmps20
  go_wp2_with fail
  refine Hcl.out.mono ?_
  rintro e w2 ⟨v2, rfl, hown, hx, hb⟩
  obtain ⟨A2, c2, hv2, _, _⟩ := hown.form
  subst hv2
  have H := Lib.hid (And.intro hown (And.intro hx hb))
  clear hb hx hown
  go_wp2_with fail
  go_ret
  exact ⟨_, rfl, H.out.1, H.out.2.1, H.out.2.2⟩

def keepD (n : Nat) (x : Dk) : Dk := { x with l := x.l.take n, s := n }
def cutD (n : Int) (x : Dk) : Int × Dk :=
  if x.off then (18, x) else if n < 0 ∨ (x.l.length : Int) < n then (1, x) else
  if (goesD x).1 then (0, keepD n.toNat (goesD x).2) else if x.part % 2 ≠ 0 then (18, keepD n.toNat (goesD x).2) else (18, (goesD x).2)

set_option maxRecDepth 100000 in
theorem disk_cut {F : Nat → Prop} {w : World} {a : Nat} {x : Dk} (h : DRep F w a x) (n : Int) :
    Calls Try.prog 31 #[.pointer (some ⟨a, 0, none⟩), .int .i64 n] w fun e w' => e = .returned (.int .i64 (cutD n x).1) ∧ DPost F w a (cutD n x).2 w' := by
  have hgo := power_goes h
  have H := Lib.hid h
  obtain ⟨v, h⟩ := id h
  obtain ⟨A0, c0', hv0, hlc0, hA0⟩ := h.own.form
  subst hv0
  have c0 : w.cell? ⟨a, 0, none⟩ = some (.bool x.off) := h.cell 0
  have c4 : w.cell? ⟨a, 4, none⟩ = some (.slice A0 x.l.length c0') := h.cell 4
  have hlen := h.len
  clear h
  by_cases ho : x.off = true
  · have hr : cutD n x = (18, x) := by simp [cutD, ho]
    rw [ho] at c0
    rw [hr]
    have Hgo := Lib.hid hgo
    clear ho hr hgo
    go_enter Try.func31, Try.ntmps31
    go_wp2_with fail
    go_ret
    exact ⟨rfl, DPost.same H.out⟩
  have ho' : x.off = false := by cases h' : x.off <;> simp_all
  rw [ho'] at c0
  by_cases hn0 : n < 0
  · have hr : cutD n x = (1, x) := by simp [cutD, ho', hn0]
    have hn0' : decide (n < 0) = true := by simpa using hn0
    rw [hr]
    have Hgo := Lib.hid hgo
    clear ho ho' hr hgo
    go_enter Try.func31, Try.ntmps31
    go_wp2_with fail
    go_ret
    exact ⟨rfl, DPost.same H.out⟩
  have hn0' : decide (n < 0) = false := by simpa using hn0
  by_cases hn1 : (x.l.length : Int) < n
  · have hr : cutD n x = (1, x) := by simp [cutD, ho', hn1]
    have hn1' : decide ((x.l.length : Int) < n) = true := by simpa using hn1
    rw [hr]
    have Hgo := Lib.hid hgo
    clear ho ho' hr hgo
    go_enter Try.func31, Try.ntmps31
    go_wp2_with fail
    go_ret
    exact ⟨rfl, DPost.same H.out⟩
  have hn1' : decide ((x.l.length : Int) < n) = false := by simpa using hn1
  obtain ⟨m, rfl⟩ : ∃ m : Nat, n = m := ⟨n.toNat, by omega⟩
  have hml : m ≤ x.l.length := by omega
  have hgl := goes_l x
  have hgp := goes_part x
  by_cases hg : (goesD x).1 = true
  · have hr : cutD m x = (0, keepD m (goesD x).2) := by simp [cutD, ho', hn1, hg]
    rw [hr]
    rw [hg] at hgo
    clear ho ho' hr hg
    have Hg := Lib.hid hgl
    clear hgl hgp
    go_enter Try.func31, Try.ntmps31
    go_wp2_with fail
    refine hgo.mono ?_
    rintro e w1 ⟨rfl, F1, h1, hx1, hf1⟩
    go_wp2_with fail
    refine (disk_keep h1 m (by rw [Hg.out]; exact hml)).mono ?_
    rintro e w2 ⟨rfl, h2⟩
    have H2 := Lib.hid h2
    clear h2
    go_wp2_with fail
    go_ret
    exact ⟨rfl, DPost.trans hx1 hf1 H2.out⟩
  · have hg' : (goesD x).1 = false := by simpa using hg
    rw [hg'] at hgo
    have hb : -2 < x.part.tmod 2 ∧ x.part.tmod 2 < 2 := by
      have h1 := Int.tmod_lt_of_pos x.part (by decide : (0 : Int) < 2)
      have h2 := Int.lt_tmod_of_pos x.part (by decide : (0 : Int) < 2)
      exact ⟨h2, h1⟩
    have hz : x.part.tmod 2 = 0 ↔ x.part % 2 = 0 := by rw [← Int.dvd_iff_tmod_eq_zero, Int.dvd_iff_emod_eq_zero]
    by_cases hp : x.part % 2 = 0
    · have hr : cutD m x = (18, (goesD x).2) := by simp [cutD, ho', hn1, hg', hp]
      have hp' : (x.part.tmod 2 == 0) = true := by simpa using hz.2 hp
      rw [hr]
      clear ho ho' hr hg hg' hz hp
      have Hg := Lib.hid hgl
      clear hgl
      go_enter Try.func31, Try.ntmps31
      go_wp2_with fail
      refine hgo.mono ?_
      rintro e w1 ⟨rfl, F1, ⟨v1, h1⟩, hx1, hf1⟩
      have c31 : w1.cell? ⟨a, 3, none⟩ = some (.int .i64 x.part) := by rw [← hgp]; exact h1.cell 3
      have H1 := Lib.hid h1
      clear h1
      go_wp2_with fail
      go_ret
      exact ⟨rfl, DPost.trans hx1 hf1 (DPost.same ⟨_, H1.out⟩)⟩
    · have hr : cutD m x = (18, keepD m (goesD x).2) := by simp [cutD, ho', hn1, hg', hp]
      have hp' : (x.part.tmod 2 == 0) = false := by simpa using fun e => hp (hz.1 e)
      rw [hr]
      clear ho ho' hr hg hg' hz hp
      have Hg := Lib.hid hgl
      clear hgl
      go_enter Try.func31, Try.ntmps31
      go_wp2_with fail
      refine hgo.mono ?_
      rintro e w1 ⟨rfl, F1, h1, hx1, hf1⟩
      have c31 : w1.cell? ⟨a, 3, none⟩ = some (.int .i64 x.part) := by rw [← hgp]; obtain ⟨v1, h1⟩ := h1; exact h1.cell 3
      have H1 := Lib.hid h1
      clear h1
      go_wp2_with fail
      refine (disk_keep H1.out m (by rw [Hg.out]; exact hml)).mono ?_
      rintro e w2 ⟨rfl, h2⟩
      have H2 := Lib.hid h2
      clear h2
      go_wp2_with fail
      go_ret
      exact ⟨rfl, DPost.trans hx1 hf1 H2.out⟩

def bootD (k : Int) (x : Dk) : Dk :=
  { keepD (x.s + (k % (x.l.length - x.s + 1 : Nat)).toNat) x with off := false, armed := false, acts := 0, part := 0 }

set_option maxRecDepth 100000 in
theorem disk_boot {F : Nat → Prop} {w : World} {a : Nat} {x : Dk} (h : DRep F w a x) (k : Int) :
    Calls Try.prog 16 #[.pointer (some ⟨a, 0, none⟩), .int .i64 k] w fun e w' => e = .returned (.tuple #[]) ∧ DPost F w a (bootD k x) w' := by
  have H := Lib.hid h
  obtain ⟨v, h⟩ := id h
  obtain ⟨A0, c0', hv0, hlc0, hA0⟩ := h.own.form
  subst hv0
  have c4 : w.cell? ⟨a, 4, none⟩ = some (.slice A0 x.l.length c0') := h.cell 4
  have c5 : w.cell? ⟨a, 5, none⟩ = some (.int .i64 x.s) := h.cell 5
  have hlen := h.len
  have hsafe := h.safe
  have hal := lt_of_heap h.obj
  clear h
  obtain ⟨q, hq, hql⟩ := emod_nat k (x.l.length - x.s + 1) (by omega)
  rw [bootD, hq]
  have hmo := fun w => disk_modulo k ((x.l.length - x.s + 1 : Nat) : Int) (by omega) (by omega) w
  rw [hq] at hmo
  have Hmo := Lib.hid hmo
  clear hmo hq
  have hkp := disk_keep (H.out.same ((Ext.refl (fun _ => False) w).drew)) (x.s + q) (by omega)
  have Hkp := Lib.hid hkp
  clear hkp
  go_enter Try.func16, Try.ntmps16
  go_wp2_with fail
  refine wp_region_bar (Cls [a] _) [([0, 1, 2, 3, 4, 5, 6, 7, 8, 9, 10, 11, 12, 13, 14, 15, 16], 17)] [18] 19 [] [] (by kernel_rfl) (by kernel_rfl) (Cls.refl _ _) ?_
  try dsimp only [wpMix, wpSegs, pick, List.getElem?_cons_zero, List.getElem?_cons_succ]
  generalize hz : Act.mk _ _ = z
  repeat (first | (refine wpQuiet_step (fun K hK => ?_); replace hK := Lib.hid hK; subst hz; go_simp; generalize hz : Act.mk _ _ = z; refine hK.out z ?_; clear hK K) | (refine wpQuiet_step (fun K hK => ?_); replace hK := Lib.hid hK; subst hz; refine iteSkip (by kernel_rfl) ?_; go_simp; generalize hz : Act.mk _ _ = z; refine hK.out z ?_; clear hK K))
  refine wpQuiet_nil ?_
  subst hz
  try dsimp only [NoPan]
  go_wp2_with fail
  rw [show ((x.l.length : Int) - (x.s : Int) + 1) = ((x.l.length - x.s + 1 : Nat) : Int) by omega]
  refine (Hmo.out _).mono ?_
  rintro e w2 ⟨rfl, rfl⟩
  go_wp2_with fail
  refine ⟨Cls.refl _ _, ?_⟩
  try dsimp only [wpMix, wpSegs, pick, List.getElem?_cons_zero, List.getElem?_cons_succ]
  generalize hz : Act.mk _ _ = z
  repeat (first | (refine wpQuiet_step (fun K hK => ?_); replace hK := Lib.hid hK; subst hz; go_simp; generalize hz : Act.mk _ _ = z; refine hK.out z ?_; clear hK K) | (refine wpQuiet_step (fun K hK => ?_); replace hK := Lib.hid hK; subst hz; refine iteSkip (by kernel_rfl) ?_; go_simp; generalize hz : Act.mk _ _ = z; refine hK.out z ?_; clear hK K))
  refine wpQuiet_nil ?_
  subst hz
  try dsimp only [NoPan]
  go_wp2_with fail
  rw [show ((x.s : Int) + (q : Int)) = ((x.s + q : Nat) : Int) by omega]
  refine Hkp.out.mono ?_
  rintro e w3 ⟨rfl, F3, ⟨v3, h3⟩, hx3, hf3⟩
  have d0 : w3.cell? ⟨a, 0, none⟩ = some (.bool x.off) := h3.cell 0
  have d1 : w3.cell? ⟨a, 1, none⟩ = some (.bool x.armed) := h3.cell 1
  have d2 : w3.cell? ⟨a, 2, none⟩ = some (.int .i64 x.acts) := h3.cell 2
  have d3 : w3.cell? ⟨a, 3, none⟩ = some (.int .i64 x.part) := h3.cell 3
  have f0 := h3.melt 0
  have f1 := h3.melt 1
  have f2 := h3.melt 2
  have f3 := h3.melt 3
  have p1 := h3.put 0 (.bool false) { keepD (x.s + q) x with off := false } rfl rfl h3.safe h3.acts
  have p2 := p1.put 1 (.bool false) { keepD (x.s + q) x with off := false, armed := false } rfl rfl p1.safe p1.acts
  have p3 := p2.put 2 (.int .i64 0) { keepD (x.s + q) x with off := false, armed := false, acts := 0 } rfl rfl p2.safe (by show (0 : Int) ≤ _; decide)
  have p4 := p3.put 3 (.int .i64 0) { keepD (x.s + q) x with off := false, armed := false, acts := 0, part := 0 } rfl rfl p3.safe (by show (0 : Int) ≤ _; decide)
  have H4 := Lib.hid p4
  have HF := Lib.hid h3.fa
  clear h3 p1 p2 p3 p4
  go_wp2_with fail
  try dsimp only [wpMix, wpSegs, pick, List.getElem?_cons_zero, List.getElem?_cons_succ]
  generalize hz : Act.mk _ _ = z
  repeat (first | (refine wpQuiet_step (fun K hK => ?_); replace hK := Lib.hid hK; subst hz; go_simp; generalize hz : Act.mk _ _ = z; refine hK.out z ?_; clear hK K) | (refine wpQuiet_step (fun K hK => ?_); replace hK := Lib.hid hK; subst hz; refine iteSkip (by kernel_rfl) ?_; go_simp; generalize hz : Act.mk _ _ = z; refine hK.out z ?_; clear hK K))
  refine wpQuiet_nil ?_
  subst hz
  try dsimp only [NoPan]
  go_wp2_with fail
  refine bodyPost_end (results_none rfl _ _ _) rfl ?_
  refine ⟨rfl, F3, ⟨_, H4.out⟩, (((Ext.refl F w).drew.trans hx3).setCell ?_ _).setCell ?_ _ |>.setCell ?_ _ |>.setCell ?_ _, hf3⟩
  all_goals exact hf3 _ HF.out
end Go.Proofs.Ytebcpacenoedfaa
