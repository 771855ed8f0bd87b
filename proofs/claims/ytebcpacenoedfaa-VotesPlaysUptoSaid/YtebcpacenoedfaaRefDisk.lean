/- The document's disk: it does what the disk does; no condition. -/
import Derived.Test.YtebcpacenoedfaaDisk3
namespace Go.Proofs.Ytebcpacenoedfaa
set_option linter.unusedVariables false
set_option linter.unusedSimpArgs false
open Go.RowKit

def rdC (v : Value) (x : Dk) (p q : Int) : Array Value := #[v, .int .i64 x.s, .bool x.off, .bool x.armed, .int .i64 p, .int .i64 q]
structure RAt (F : Nat → Prop) (w : World) (a : Nat) (v : Value) (x : Dk) (p q : Int) : Prop where
  obj : w.heap[a]? = some (.cells (rdC v x p q) 56 (0, 0))
  own : OwnB w v x.l
  fa : F a
  fv : ∀ k, v.ownBlock = some k → F k
  safe : x.s ≤ x.l.length
  len : x.l.length ≤ 4194304
  arm : x.armed = true → p = x.acts ∧ q = x.part ∧ 0 ≤ x.acts ∧ x.acts ≤ 9223372036854775807
  lt : ∀ k, F k → k < w.heap.size
def RRep (F : Nat → Prop) (w : World) (a : Nat) (x : Dk) : Prop := ∃ v p q, RAt F w a v x p q
def RPost (F : Nat → Prop) (w : World) (a : Nat) (x : Dk) (w' : World) : Prop := ∃ F', RRep F' w' a x ∧ Ext F w w' ∧ ∀ k, F' k → F k ∨ w.heap.size ≤ k

theorem RAt.va {F : Nat → Prop} {w : World} {a : Nat} {v : Value} {x : Dk} {p q : Int} (h : RAt F w a v x p q) : v.ownBlock ≠ some a := by
  intro e
  obtain ⟨cs, fr, hc⟩ := h.own.ty _ e
  exact ne_of_obj hc h.obj (by simp) rfl
theorem RAt.keep {F F1 : Nat → Prop} {w w' : World} {a : Nat} {v : Value} {x : Dk} {p q : Int} (h : RAt F w a v x p q) (he : Ext F1 w w') (hF : ∀ k, F k → ¬ F1 k) : RAt F w' a v x p q :=
  { obj := he.heap h.obj (hF _ h.fa), own := h.own.ext he fun k hk => hF _ (h.fv k hk), fa := h.fa, fv := h.fv, safe := h.safe, len := h.len, arm := h.arm
    lt := fun k hk => Nat.lt_of_lt_of_le (h.lt k hk) he.size }
theorem RRep.keep {F F1 : Nat → Prop} {w w' : World} {a : Nat} {x : Dk} (h : RRep F w a x) (he : Ext F1 w w') (hF : ∀ k, F k → ¬ F1 k) : RRep F w' a x := by
  obtain ⟨v, p, q, h⟩ := h
  exact ⟨v, p, q, h.keep he hF⟩
theorem RRep.same {F : Nat → Prop} {w w' : World} {a : Nat} {x : Dk} (h : RRep F w a x) (he : Ext (fun _ => False) w w') : RRep F w' a x := h.keep he fun _ _ => id
theorem RRep.lt {F : Nat → Prop} {w : World} {a : Nat} {x : Dk} (h : RRep F w a x) : ∀ k, F k → k < w.heap.size := by
  obtain ⟨v, p, q, h⟩ := h
  exact h.lt
theorem RAt.put {F : Nat → Prop} {w : World} {a : Nat} {v : Value} {x : Dk} {p q : Int} (h : RAt F w a v x p q) (i : Nat) (u : Value) (x' : Dk) (p' q' : Int) (hc : (rdC v x p q).setIfInBounds i u = rdC v x' p' q') (hl : x'.l = x.l) (hs : x'.s ≤ x.l.length) (ha : x'.armed = true → p' = x'.acts ∧ q' = x'.part ∧ 0 ≤ x'.acts ∧ x'.acts ≤ 9223372036854775807) :
    RAt F (w.setCell ⟨a, i, none⟩ u) a v x' p' q' := by
  have hx : Ext (· = a) w (w.setCell ⟨a, i, none⟩ u) := (Ext.refl (· = a) w).setCell (a := ⟨a, i, none⟩) (.inl rfl) _
  exact { obj := by rw [heap_setCell_self h.obj, hc], own := by rw [hl]; exact h.own.ext hx fun k hk e => h.va (e ▸ hk), fa := h.fa, fv := h.fv, safe := by rw [hl]; exact hs, len := by rw [hl]; exact h.len, arm := ha
          lt := fun k hk => Nat.lt_of_lt_of_le (h.lt k hk) hx.size }
theorem RAt.cell {F : Nat → Prop} {w : World} {a : Nat} {v : Value} {x : Dk} {p q : Int} (h : RAt F w a v x p q) (i : Nat) : w.cell? ⟨a, i, none⟩ = (rdC v x p q)[i]? := cells_at h.obj i
theorem RAt.melt {F : Nat → Prop} {w : World} {a : Nat} {v : Value} {x : Dk} {p q : Int} (h : RAt F w a v x p q) (i : Nat) : w.frozen? ⟨a, i, none⟩ = false := by simp [World.frozen?, h.obj]
theorem RPost.trans {F F1 : Nat → Prop} {w w1 w2 : World} {a : Nat} {x : Dk} (hx : Ext F w w1) (hf : ∀ k, F1 k → F k ∨ w.heap.size ≤ k) (h : RPost F1 w1 a x w2) : RPost F w a x w2 := by
  obtain ⟨F2, hR, hx2, hf2⟩ := h
  exact ⟨F2, hR, hx.trans' hx2 hf, fun k hk => (hf2 k hk).elim (hf k) fun h => .inr (Nat.le_trans hx.size h)⟩
theorem RPost.same {F : Nat → Prop} {w : World} {a : Nat} {x : Dk} (h : RRep F w a x) : RPost F w a x w := ⟨F, h, Ext.refl _ _, fun _ => .inl⟩
/-- The bytes are others now: of the disk's own block, or new. -/
theorem RAt.bytes {F : Nat → Prop} {w w1 : World} {a : Nat} {v v' : Value} {x : Dk} {p q : Int} {l' : Bs} (h : RAt F w a v x p q) (hx : Ext (fun k => v.ownBlock = some k) w w1) (hown : OwnB w1 v' l') (hb : v'.ownBlock = v.ownBlock ∨ ∀ b, v'.ownBlock = some b → w.heap.size ≤ b)
    (hs : x.s ≤ l'.length) (hl : l'.length ≤ 4194304) : ∃ F', RAt F' (w1.setCell ⟨a, 0, none⟩ v') a v' { x with l := l' } p q ∧ Ext F w (w1.setCell ⟨a, 0, none⟩ v') ∧ ∀ k, F' k → F k ∨ w.heap.size ≤ k := by
  have hal := lt_of_heap h.obj
  have ha1 := hx.heap h.obj h.va
  have hne : v'.ownBlock ≠ some a := by
    rcases hb with hb | hb
    · rw [hb]; exact h.va
    · intro e; have := hb a e; omega
  have hx2 : Ext (· = a) w1 (w1.setCell ⟨a, 0, none⟩ v') := (Ext.refl (· = a) w1).setCell (a := ⟨a, 0, none⟩) (.inl rfl) _
  refine ⟨fun k => F k ∨ v'.ownBlock = some k, ?_, (hx.mono fun k _ hk => h.fv k hk).trans' hx2 (fun b hb => .inl (by rw [hb]; exact h.fa)), ?_⟩
  · exact { obj := by rw [heap_setCell_self ha1]; rfl
            own := hown.ext hx2 fun k hk e => hne (e ▸ hk)
            fa := .inl h.fa, fv := fun k hk => .inr hk, safe := hs, len := hl, arm := h.arm
            lt := fun k hk => Nat.lt_of_lt_of_le (hk.elim (fun h' => Nat.lt_of_lt_of_le (h.lt k h') hx.size) fun h' => hown.lt k h') hx2.size }
  · intro k hk
    rcases hk with hk | hk
    · exact .inl hk
    · rcases hb with hb | hb
      · exact .inl (h.fv k (by rw [← hb]; exact hk))
      · exact .inr (hb k hk)

theorem rd_new (w : World) : Calls Try.prog 8 #[] w fun e w' => ∃ a F, e = .returned (.pointer (some ⟨a, 0, none⟩)) ∧ RRep F w' a ⟨false, false, 0, 0, [], 0⟩ ∧ Ext (fun _ => False) w w' ∧ ∀ k, F k → w.heap.size ≤ k := by
  go_enter Try.func8, Try.ntmps8
  go_wp2_with fail
  go_ret
  refine ⟨w.heap.size, fun k => k = w.heap.size, rfl, ⟨.slice none 0 0, 0, 0, ?_⟩, (Ext.refl _ _).alloc _, fun k hk => by omega⟩
  exact { obj := heap_alloc_self _ _, own := .inl ⟨rfl, rfl⟩, fa := rfl, fv := fun k hk => by simp [Value.ownBlock] at hk, safe := Nat.le_refl _, len := by simp, arm := by simp, lt := fun k hk => by subst hk; simp }

theorem rd_mod (n k : Int) (hk : 0 < k) (hk2 : k ≤ 4611686018427387904) (w : World) :
    Calls Try.prog 41 #[.int .i64 n, .int .i64 k] w fun e w' => e = .returned (.int .i64 (n % k)) ∧ w = w' := by
  have hr := tmod_emod n k hk
  have h1 := Int.emod_nonneg n (by omega : k ≠ 0)
  have h2 := Int.emod_lt_of_pos n hk
  have hk0 : (k == 0) = false := by simp; omega
  have hb : -k ≤ n.tmod k ∧ n.tmod k < k := by split at hr <;> omega
  have he : (n.tmod k + k).tmod k = n % k := by
    rw [Int.tmod_eq_emod_of_nonneg (by omega)]
    split at hr
    · rw [hr]; exact Int.emod_eq_of_lt h1 h2
    · rw [Int.add_emod_right, hr, Int.emod_eq_of_lt h1 h2]
  clear hr
  go_enter Try.func41, Try.ntmps41
  go_wp2_with fail
  go_ret
  first | exact ⟨rfl, rfl⟩ | (rw [he]; exact ⟨rfl, rfl⟩)

theorem goes_armed {x : Dk} (h : (goesD x).1 = false) : (goesD x).2.armed = true := by
  by_cases hA : x.armed = false
  · simp [goesD, hA] at h
  · have hA' : x.armed = true := by cases h' : x.armed <;> simp_all
    by_cases hp : 0 < x.acts
    · simp [goesD, hA', hp] at h
    · simp [goesD, hA', hp]
theorem rd_last {F : Nat → Prop} {w : World} {a : Nat} {x : Dk} (h : RRep F w a x) :
    Calls Try.prog 43 #[.pointer (some ⟨a, 0, none⟩)] w fun e w' => e = .returned (.bool (!(goesD x).1)) ∧ RPost F w a (goesD x).2 w' := by
  obtain ⟨v, p, q, h⟩ := h
  have c2 : w.cell? ⟨a, 2, none⟩ = some (.bool x.off) := h.cell 2
  have c3 : w.cell? ⟨a, 3, none⟩ = some (.bool x.armed) := h.cell 3
  have c4 : w.cell? ⟨a, 4, none⟩ = some (.int .i64 p) := h.cell 4
  have f2 := h.melt 2
  have f4 := h.melt 4
  by_cases hA : x.armed = false
  · rw [hA] at c3
    have hg : goesD x = (true, x) := by simp [goesD, hA]
    rw [hg]
    clear hg
    have H := Lib.hid h
    clear h
    go_enter Try.func43, Try.ntmps43
    go_wp2_with fail
    go_ret
    exact ⟨rfl, F, ⟨v, p, q, H.out⟩, Ext.refl _ _, fun _ => .inl⟩
  · have hA' : x.armed = true := by cases h' : x.armed <;> simp_all
    rw [hA'] at c3
    obtain ⟨rfl, rfl, hpos, hmax⟩ := h.arm hA'
    by_cases hp : 0 < x.acts
    · have hp' : (x.acts == 0) = false := by simp; omega
      have hg : goesD x = (true, { x with acts := x.acts - 1 }) := by simp [goesD, hA', hp]
      rw [hg]
      have hput := h.put 4 (.int .i64 (x.acts - 1)) { x with acts := x.acts - 1 } (x.acts - 1) x.part rfl rfl h.safe (fun _ => ⟨rfl, rfl, by show 0 ≤ x.acts - 1; omega, by show x.acts - 1 ≤ _; omega⟩)
      have Hput := Lib.hid hput
      have HF := Lib.hid (h.fa)
      clear h hg hput hA hA'
      go_enter Try.func43, Try.ntmps43
      go_wp2_with fail
      go_ret
      exact ⟨rfl, F, ⟨v, _, _, Hput.out⟩, (Ext.refl _ _).setCell (.inl HF.out) _, fun _ => .inl⟩
    · have hp' : (x.acts == 0) = true := by simp; omega
      have hg : goesD x = (false, { x with off := true }) := by simp [goesD, hA', hp]
      rw [hg]
      have hput := h.put 2 (.bool true) { x with off := true } x.acts x.part rfl rfl h.safe h.arm
      have Hput := Lib.hid hput
      have HF := Lib.hid (h.fa)
      clear h hg hput hA hA'
      go_enter Try.func43, Try.ntmps43
      go_wp2_with fail
      go_ret
      exact ⟨rfl, F, ⟨v, _, _, Hput.out⟩, (Ext.refl _ _).setCell (.inl HF.out) _, fun _ => .inl⟩

theorem rd_arm {F : Nat → Prop} {w : World} {a : Nat} {x : Dk} (h : RRep F w a x) (n m : Int) (hn : n ≤ 9223372036854775807) :
    Calls Try.prog 26 #[.pointer (some ⟨a, 0, none⟩), .int .i64 n, .int .i64 m] w fun e w' => e = .returned (.tuple #[]) ∧ RPost F w a (armD n m x) w' := by
  obtain ⟨v, p, q, h⟩ := h
  have c3 : w.cell? ⟨a, 3, none⟩ = some (.bool x.armed) := h.cell 3
  have c4 : w.cell? ⟨a, 4, none⟩ = some (.int .i64 p) := h.cell 4
  have c5 : w.cell? ⟨a, 5, none⟩ = some (.int .i64 q) := h.cell 5
  have f3 := h.melt 3
  have f4 := h.melt 4
  have f5 := h.melt 5
  have hlast : RAt F (((w.setCell ⟨a, 3, none⟩ (.bool (decide (0 ≤ n)))).setCell ⟨a, 4, none⟩ (.int .i64 n)).setCell ⟨a, 5, none⟩ (.int .i64 m)) a v (armD n m x) n m := by
    have hx : Ext (· = a) w (((w.setCell ⟨a, 3, none⟩ (.bool (decide (0 ≤ n)))).setCell ⟨a, 4, none⟩ (.int .i64 n)).setCell ⟨a, 5, none⟩ (.int .i64 m)) :=
      (((Ext.refl (· = a) w).setCell (a := ⟨a, 3, none⟩) (.inl rfl) _).setCell (a := ⟨a, 4, none⟩) (.inl rfl) _).setCell (a := ⟨a, 5, none⟩) (.inl rfl) _
    exact { obj := by rw [heap_setCell_self (heap_setCell_self (heap_setCell_self h.obj))]; rfl
            own := h.own.ext hx fun k hk e => h.va (e ▸ hk), fa := h.fa, fv := h.fv, safe := h.safe, len := h.len
            arm := fun e => ⟨rfl, rfl, by simpa [armD] using e, hn⟩, lt := fun k hk => Nat.lt_of_lt_of_le (h.lt k hk) hx.size }
  have Hput := Lib.hid hlast
  have HF := Lib.hid (h.fa)
  clear h hlast
  go_enter Try.func26, Try.ntmps26
  go_wp2_with fail
  refine bodyPost_end (results_none rfl _ _ _) rfl ?_
  exact ⟨rfl, F, ⟨v, _, _, Hput.out⟩, (((Ext.refl _ _).setCell (.inl HF.out) _).setCell (.inl HF.out) _).setCell (.inl HF.out) _, fun _ => .inl⟩

set_option maxRecDepth 100000 in
theorem rd_sync {F : Nat → Prop} {w : World} {a : Nat} {x : Dk} (h : RRep F w a x) :
    Calls Try.prog 39 #[.pointer (some ⟨a, 0, none⟩)] w fun e w' => e = .returned (.int .i64 (syncD x).1) ∧ RPost F w a (syncD x).2 w' := by
  have hgo := rd_last h
  have H := Lib.hid h
  obtain ⟨v, p, q, h⟩ := id h
  have c2 : w.cell? ⟨a, 2, none⟩ = some (.bool x.off) := h.cell 2
  have hlen := h.len
  have hsafe := h.safe
  clear h
  by_cases ho : x.off = true
  · have hr : syncD x = (18, x) := by simp [syncD, ho]
    rw [ho] at c2
    rw [hr]
    have Hgo := Lib.hid hgo
    clear ho hr hgo
    go_enter Try.func39, Try.ntmps39
    go_wp2_with fail
    go_ret
    exact ⟨rfl, RPost.same H.out⟩
  have ho' : x.off = false := by cases h' : x.off <;> simp_all
  rw [ho'] at c2
  have hgl := goes_l x
  have hgs := goes_s x
  have hgp := goes_part x
  by_cases hg : (goesD x).1 = true
  · have hr : syncD x = (0, { (goesD x).2 with s := x.l.length }) := by simp [syncD, ho', hg]
    rw [hr]
    rw [hg, Bool.not_true] at hgo
    clear ho ho' hr hg
    go_enter Try.func39, Try.ntmps39
    go_wp2_with fail
    refine hgo.mono ?_
    rintro e w1 ⟨rfl, F1, ⟨v1, p1, q1, h1⟩, hx1, hf1⟩
    obtain ⟨A, c, hv, hlc, hA⟩ := h1.own.form
    subst hv
    have c01 : w1.cell? ⟨a, 0, none⟩ = some (.slice A x.l.length c) := by rw [← hgl]; exact h1.cell 0
    have c11 : w1.cell? ⟨a, 1, none⟩ = some (.int .i64 (goesD x).2.s) := h1.cell 1
    have f1 := h1.melt 1
    have hp := h1.put 1 (.int .i64 (x.l.length : Nat)) { (goesD x).2 with s := x.l.length } p1 q1 rfl rfl (by rw [hgl]; exact Nat.le_refl _) h1.arm
    have Hp := Lib.hid hp
    have HF := Lib.hid h1.fa
    clear hp h1
    go_wp2_with fail
    go_ret
    exact ⟨rfl, RPost.trans hx1 hf1 ⟨F1, ⟨_, _, _, Hp.out⟩, (Ext.refl _ _).setCell (.inl HF.out) _, fun _ => .inl⟩⟩
  · have hg' : (goesD x).1 = false := by simpa using hg
    have hr : syncD x = (18, { (goesD x).2 with s := x.s + (x.part % (x.l.length - x.s + 1 : Nat)).toNat }) := by simp [syncD, ho', hg']
    have harm : (goesD x).2.armed = true := by
      have := goes_armed hg'
      exact this
    rw [hr]
    rw [hg', Bool.not_false] at hgo
    clear ho ho' hr hg hg'
    obtain ⟨q2, hq, hql⟩ := emod_nat x.part (x.l.length - x.s + 1) (by omega)
    rw [hq]
    have hmo := fun w => rd_mod x.part ((x.l.length - x.s + 1 : Nat) : Int) (by omega) (by omega) w
    rw [hq] at hmo
    have Hmo := Lib.hid hmo
    have Ha := Lib.hid harm
    clear hmo hq harm
    go_enter Try.func39, Try.ntmps39
    go_wp2_with fail
    refine hgo.mono ?_
    rintro e w1 ⟨rfl, F1, ⟨v1, p1, q1, h1⟩, hx1, hf1⟩
    obtain ⟨A, c, hv, hlc, hA⟩ := h1.own.form
    subst hv
    have hq1 : q1 = x.part := by rw [(h1.arm Ha.out).2.1, hgp]
    have c51 : w1.cell? ⟨a, 5, none⟩ = some (.int .i64 x.part) := by rw [← hq1]; exact h1.cell 5
    have c01 : w1.cell? ⟨a, 0, none⟩ = some (.slice A x.l.length c) := by rw [← hgl]; exact h1.cell 0
    have c11 : w1.cell? ⟨a, 1, none⟩ = some (.int .i64 x.s) := by rw [← hgs]; exact h1.cell 1
    have hal1 := lt_of_heap h1.obj
    have f1 := h1.melt 1
    have h1d := h1.keep ((Ext.refl (fun _ => False) w1).drew) fun _ _ => id
    have hp := h1d.put 1 (.int .i64 (x.s + q2 : Nat)) { (goesD x).2 with s := x.s + q2 } p1 q1 rfl rfl (by show x.s + q2 ≤ _; rw [hgl]; omega) h1.arm
    have Hp := Lib.hid hp
    have HF := Lib.hid h1.fa
    clear hp h1 h1d hq1
    go_wp2_with fail
    refine wp_region_bar (Cls [a] _) [([0, 1, 2, 3, 4, 5, 6, 7, 8, 9, 10, 11, 12, 13, 14, 15, 16, 17, 18, 19], 20)] [21, 22, 23] 24 [] [] (by kernel_rfl) (by kernel_rfl) (Cls.refl _ _) ?_
    try dsimp only [wpMix, wpSegs, pick, List.getElem?_cons_zero, List.getElem?_cons_succ]
    generalize hz : Act.mk _ _ = z
    repeat (first | (refine wpQuiet_step (fun K hK => ?_); replace hK := Lib.hid hK; subst hz; go_simp; generalize hz : Act.mk _ _ = z; refine hK.out z ?_; clear hK K) | (refine wpQuiet_step (fun K hK => ?_); replace hK := Lib.hid hK; subst hz; refine iteSkip (by kernel_rfl) ?_; go_simp; generalize hz : Act.mk _ _ = z; refine hK.out z ?_; clear hK K))
    refine wpQuiet_nil ?_
    subst hz
    try dsimp only [NoPan]
    go_wp2_with fail
    rw [show ((x.l.length : Int) - (x.s : Int) + 1) = ((x.l.length - x.s + 1 : Nat) : Int) by omega]
    refine (Hmo.out _).mono ?_
    rintro e w2 ⟨rfl, rfl⟩
    go_wp2_with fail
    refine ⟨Cls.refl _ _, ?_⟩
    try dsimp only [wpMix, wpSegs, pick, List.getElem?_cons_zero, List.getElem?_cons_succ]
    generalize hz : Act.mk _ _ = z
    repeat (first | (refine wpQuiet_step (fun K hK => ?_); replace hK := Lib.hid hK; subst hz; go_simp; generalize hz : Act.mk _ _ = z; refine hK.out z ?_; clear hK K) | (refine wpQuiet_step (fun K hK => ?_); replace hK := Lib.hid hK; subst hz; refine iteSkip (by kernel_rfl) ?_; go_simp; generalize hz : Act.mk _ _ = z; refine hK.out z ?_; clear hK K))
    refine wpQuiet_nil ?_
    subst hz
    try dsimp only [NoPan]
    go_wp2_with fail
    try dsimp only [wpMix, wpSegs, pick, List.getElem?_cons_zero, List.getElem?_cons_succ]
    generalize hz : Act.mk _ _ = z
    repeat (first | (refine wpQuiet_step (fun K hK => ?_); replace hK := Lib.hid hK; subst hz; go_simp; generalize hz : Act.mk _ _ = z; refine hK.out z ?_; clear hK K) | (refine wpQuiet_step (fun K hK => ?_); replace hK := Lib.hid hK; subst hz; refine iteSkip (by kernel_rfl) ?_; go_simp; generalize hz : Act.mk _ _ = z; refine hK.out z ?_; clear hK K))
    refine wpQuiet_nil ?_
    subst hz
    try dsimp only [NoPan]
    go_wp2_with fail
    go_ret
    have hp := Hp.out
    rw [Int.natCast_add] at hp
    exact ⟨rfl, RPost.trans hx1 hf1 ⟨F1, ⟨_, _, _, hp⟩, ((Ext.refl _ _).drew).setCell (.inl HF.out) _, fun _ => .inl⟩⟩
end Go.Proofs.Ytebcpacenoedfaa
