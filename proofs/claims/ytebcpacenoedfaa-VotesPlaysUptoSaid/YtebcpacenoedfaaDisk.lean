/- The disk: what it is, its power; no condition. -/
import Derived.Test.YtebcpacenoedfaaBufs2
import Derived.Test.YtebcpacenoedfaaMix
namespace Go.Proofs.Ytebcpacenoedfaa
set_option linter.unusedVariables false
set_option linter.unusedSimpArgs false
open Go.RowKit

structure Dk where
  off : Bool
  armed : Bool
  acts : Int
  part : Int
  l : Bs
  s : Nat
def dkC (v : Value) (x : Dk) : Array Value := #[.bool x.off, .bool x.armed, .int .i64 x.acts, .int .i64 x.part, v, .int .i64 x.s]
structure DAt (F : Nat → Prop) (w : World) (a : Nat) (v : Value) (x : Dk) : Prop where
  obj : w.heap[a]? = some (.cells (dkC v x) 47 (0, 0))
  own : OwnB w v x.l
  fa : F a
  fv : ∀ k, v.ownBlock = some k → F k
  safe : x.s ≤ x.l.length
  len : x.l.length ≤ 4194304
  acts : x.acts ≤ 9223372036854775807
  lt : ∀ k, F k → k < w.heap.size
def DRep (F : Nat → Prop) (w : World) (a : Nat) (x : Dk) : Prop := ∃ v, DAt F w a v x
/-- What an act leaves: the disk is x, and no other block changed. -/
def DPost (F : Nat → Prop) (w : World) (a : Nat) (x : Dk) (w' : World) : Prop := ∃ F', DRep F' w' a x ∧ Ext F w w' ∧ ∀ k, F' k → F k ∨ w.heap.size ≤ k

theorem DAt.va {F : Nat → Prop} {w : World} {a : Nat} {v : Value} {x : Dk} (h : DAt F w a v x) : v.ownBlock ≠ some a := by
  intro e
  obtain ⟨cs, fr, hc⟩ := h.own.ty _ e
  exact ne_of_obj hc h.obj (by simp) rfl
theorem DAt.keep {F F1 : Nat → Prop} {w w' : World} {a : Nat} {v : Value} {x : Dk} (h : DAt F w a v x) (he : Ext F1 w w') (hF : ∀ k, F k → ¬ F1 k) : DAt F w' a v x :=
  { obj := he.heap h.obj (hF _ h.fa), own := h.own.ext he fun k hk => hF _ (h.fv k hk), fa := h.fa, fv := h.fv, safe := h.safe, len := h.len, acts := h.acts
    lt := fun k hk => Nat.lt_of_lt_of_le (h.lt k hk) he.size }
theorem DRep.keep {F F1 : Nat → Prop} {w w' : World} {a : Nat} {x : Dk} (h : DRep F w a x) (he : Ext F1 w w') (hF : ∀ k, F k → ¬ F1 k) : DRep F w' a x := by
  obtain ⟨v, h⟩ := h
  exact ⟨v, h.keep he hF⟩
theorem DRep.same {F : Nat → Prop} {w w' : World} {a : Nat} {x : Dk} (h : DRep F w a x) (he : Ext (fun _ => False) w w') : DRep F w' a x := h.keep he fun _ _ => id
theorem DRep.lt {F : Nat → Prop} {w : World} {a : Nat} {x : Dk} (h : DRep F w a x) : ∀ k, F k → k < w.heap.size := by
  obtain ⟨v, h⟩ := h
  exact h.lt
/-- One cell of its own is written. -/
theorem DAt.put {F : Nat → Prop} {w : World} {a : Nat} {v : Value} {x : Dk} (h : DAt F w a v x) (i : Nat) (u : Value) (x' : Dk) (hc : (dkC v x).setIfInBounds i u = dkC v x') (hl : x'.l = x.l) (hs : x'.s ≤ x.l.length) (ha : x'.acts ≤ 9223372036854775807) :
    DAt F (w.setCell ⟨a, i, none⟩ u) a v x' := by
  have hx : Ext (· = a) w (w.setCell ⟨a, i, none⟩ u) := (Ext.refl (· = a) w).setCell (a := ⟨a, i, none⟩) (.inl rfl) _
  exact { obj := by rw [heap_setCell_self h.obj, hc], own := by rw [hl]; exact h.own.ext hx fun k hk e => h.va (e ▸ hk), fa := h.fa, fv := h.fv, safe := by rw [hl]; exact hs, len := by rw [hl]; exact h.len, acts := ha
          lt := fun k hk => Nat.lt_of_lt_of_le (h.lt k hk) hx.size }
theorem DAt.cell {F : Nat → Prop} {w : World} {a : Nat} {v : Value} {x : Dk} (h : DAt F w a v x) (i : Nat) : w.cell? ⟨a, i, none⟩ = (dkC v x)[i]? := cells_at h.obj i
theorem DAt.melt {F : Nat → Prop} {w : World} {a : Nat} {v : Value} {x : Dk} (h : DAt F w a v x) (i : Nat) : w.frozen? ⟨a, i, none⟩ = false := by simp [World.frozen?, h.obj]

def goesD (x : Dk) : Bool × Dk := if x.armed = false then (true, x) else if 0 < x.acts then (true, { x with acts := x.acts - 1 }) else (false, { x with off := true })

theorem power_goes {F : Nat → Prop} {w : World} {a : Nat} {x : Dk} (h : DRep F w a x) :
    Calls Try.prog 42 #[.pointer (some ⟨a, 0, none⟩)] w fun e w' => e = .returned (.bool (goesD x).1) ∧ DPost F w a (goesD x).2 w' := by
  obtain ⟨v, h⟩ := h
  have c0 : w.cell? ⟨a, 0, none⟩ = some (.bool x.off) := h.cell 0
  have c1 : w.cell? ⟨a, 1, none⟩ = some (.bool x.armed) := h.cell 1
  have c2 : w.cell? ⟨a, 2, none⟩ = some (.int .i64 x.acts) := h.cell 2
  have f0 := h.melt 0
  have f2 := h.melt 2
  have hmax := h.acts
  by_cases hA : x.armed = false
  · rw [hA] at c1
    have hg : goesD x = (true, x) := by simp [goesD, hA]
    rw [hg]
    clear hg
    have H := Lib.hid h
    clear h
    go_enter Try.func42, Try.ntmps42
    go_wp2_with fail
    go_ret
    exact ⟨rfl, F, ⟨v, H.out⟩, Ext.refl _ _, fun _ => .inl⟩
  · have hA' : x.armed = true := by cases h' : x.armed <;> simp_all
    rw [hA'] at c1
    by_cases hp : 0 < x.acts
    · have hp' : decide (0 < x.acts) = true := by simpa using hp
      have hg : goesD x = (true, { x with acts := x.acts - 1 }) := by simp [goesD, hA', hp]
      rw [hg]
      have hput := h.put 2 (.int .i64 (x.acts - 1)) { x with acts := x.acts - 1 } rfl rfl h.safe (by show x.acts - 1 ≤ _; omega)
      have Hput := Lib.hid hput
      have HF := Lib.hid (h.fa)
      clear h hg hput hA hA'
      go_enter Try.func42, Try.ntmps42
      go_wp2_with fail
      go_ret
      exact ⟨rfl, F, ⟨v, Hput.out⟩, (Ext.refl _ _).setCell (.inl HF.out) _, fun _ => .inl⟩
    · have hp' : decide (0 < x.acts) = false := by simpa using hp
      have hg : goesD x = (false, { x with off := true }) := by simp [goesD, hA', hp]
      rw [hg]
      have hput := h.put 0 (.bool true) { x with off := true } rfl rfl h.safe h.acts
      have Hput := Lib.hid hput
      have HF := Lib.hid (h.fa)
      clear h hg hput hA hA'
      go_enter Try.func42, Try.ntmps42
      go_wp2_with fail
      go_ret
      exact ⟨rfl, F, ⟨v, Hput.out⟩, (Ext.refl _ _).setCell (.inl HF.out) _, fun _ => .inl⟩

theorem power_up {F : Nat → Prop} {w : World} {a : Nat} {x : Dk} (h : DRep F w a x) :
    Calls Try.prog 14 #[.pointer (some ⟨a, 0, none⟩)] w fun e w' => e = .returned (.bool (!x.off)) ∧ w = w' := by
  obtain ⟨v, h⟩ := h
  have c0 : w.cell? ⟨a, 0, none⟩ = some (.bool x.off) := h.cell 0
  clear h
  go_enter Try.func14, Try.ntmps14
  go_wp2_with fail
  go_ret
  exact ⟨rfl, rfl⟩

theorem disk_safe {F : Nat → Prop} {w : World} {a : Nat} {x : Dk} (h : DRep F w a x) :
    Calls Try.prog 19 #[.pointer (some ⟨a, 0, none⟩)] w fun e w' => e = .returned (.int .i64 x.s) ∧ w = w' := by
  obtain ⟨v, h⟩ := h
  have c0 : w.cell? ⟨a, 5, none⟩ = some (.int .i64 x.s) := h.cell 5
  clear h
  go_enter Try.func19, Try.ntmps19
  go_wp2_with fail
  go_ret
  exact ⟨rfl, rfl⟩

def armD (n m : Int) (x : Dk) : Dk := { x with armed := decide (0 ≤ n), acts := n, part := m }
theorem power_arm {F : Nat → Prop} {w : World} {a : Nat} {x : Dk} (h : DRep F w a x) (n m : Int) (hn : n ≤ 9223372036854775807) :
    Calls Try.prog 15 #[.pointer (some ⟨a, 0, none⟩), .int .i64 n, .int .i64 m] w fun e w' => e = .returned (.tuple #[]) ∧ DPost F w a (armD n m x) w' := by
  obtain ⟨v, h⟩ := h
  have c1 : w.cell? ⟨a, 1, none⟩ = some (.bool x.armed) := h.cell 1
  have c2 : w.cell? ⟨a, 2, none⟩ = some (.int .i64 x.acts) := h.cell 2
  have c3 : w.cell? ⟨a, 3, none⟩ = some (.int .i64 x.part) := h.cell 3
  have f1 := h.melt 1
  have f2 := h.melt 2
  have f3 := h.melt 3
  have p1 := h.put 1 (.bool (decide (0 ≤ n))) { x with armed := decide (0 ≤ n) } rfl rfl h.safe h.acts
  have p2 := p1.put 2 (.int .i64 n) { x with armed := decide (0 ≤ n), acts := n } rfl rfl h.safe hn
  have p3 := p2.put 3 (.int .i64 m) (armD n m x) rfl rfl h.safe hn
  have Hput := Lib.hid p3
  have HF := Lib.hid (h.fa)
  clear h p1 p2 p3
  go_enter Try.func15, Try.ntmps15
  go_wp2_with fail
  refine bodyPost_end (results_none rfl _ _ _) rfl ?_
  exact ⟨rfl, F, ⟨v, Hput.out⟩, (((Ext.refl _ _).setCell (.inl HF.out) _).setCell (.inl HF.out) _).setCell (.inl HF.out) _, fun _ => .inl⟩

theorem tmod_emod (n k : Int) (hk : 0 < k) : (if n.tmod k < 0 then n.tmod k + k else n.tmod k) = n % k := by
  have h1 := Int.emod_nonneg n (by omega : k ≠ 0)
  have h2 := Int.emod_lt_of_pos n hk
  rw [Int.tmod_eq_emod]
  split <;> split at * <;> omega

theorem disk_modulo (n k : Int) (hk : 0 < k) (hk2 : k ≤ 9223372036854775807) (w : World) :
    Calls Try.prog 35 #[.int .i64 n, .int .i64 k] w fun e w' => e = .returned (.int .i64 (n % k)) ∧ w = w' := by
  have hr := tmod_emod n k hk
  have h1 := Int.emod_nonneg n (by omega : k ≠ 0)
  have h2 := Int.emod_lt_of_pos n hk
  have hk0 : (k == 0) = false := by simp; omega
  have hb : -k ≤ n.tmod k ∧ n.tmod k < k := by split at hr <;> omega
  by_cases hlt : n.tmod k < 0
  · have hlt' : decide (n.tmod k < 0) = true := by simpa using hlt
    rw [if_pos hlt] at hr
    go_enter Try.func35, Try.ntmps35
    go_wp2_with fail
    go_ret
    first | exact ⟨rfl, rfl⟩ | (rw [hr]; exact ⟨rfl, rfl⟩)
  · have hlt' : decide (n.tmod k < 0) = false := by simpa using hlt
    rw [if_neg hlt] at hr
    go_enter Try.func35, Try.ntmps35
    go_wp2_with fail
    go_ret
    first | exact ⟨rfl, rfl⟩ | (rw [hr]; exact ⟨rfl, rfl⟩)

theorem OwnB.form {w : World} {v : Value} {l : Bs} (h : OwnB w v l) : ∃ A c, v = .slice A l.length c ∧ l.length ≤ c ∧ (∀ ad, A = some ad → ∃ g, ad = ⟨g, 0, none⟩) := by
  rcases h with ⟨rfl, rfl⟩ | ⟨g, c, cells, fr, rfl, hg, h1, r⟩
  · exact ⟨none, 0, rfl, Nat.le_refl _, fun _ h => by cases h⟩
  · exact ⟨_, c, rfl, h1, fun _ h => ⟨g, by cases h; rfl⟩⟩
/-- The beginning of what is owned, without room. -/
theorem OwnB.cut {w : World} {A : Option Addr} {c : Nat} {l : Bs} (h : OwnB w (.slice A l.length c) l) {n : Nat} (hn : n ≤ l.length) : OwnB w (.slice A n n) (l.take n) := by
  rcases h with ⟨h, rfl⟩ | ⟨g, c', cells, fr, h, hg, h1, h2, h3, h4, h5⟩
  · cases h
    have : n = 0 := by simpa using hn
    subst this
    exact .inl ⟨rfl, rfl⟩
  · cases h
    have hl : (l.take n).length = n := by simp; omega
    refine .inr ⟨g, n, cells, fr, by rw [hl], hg, by omega, by omega, by omega, fun i hi => h4 i (by omega), fun j u hu => ?_⟩
    have hj : j < n := by
      have := (List.getElem?_eq_some_iff.1 hu).1
      omega
    rw [List.getElem?_take_of_lt hj] at hu
    exact h5 j u hu

theorem clip_slice {w : World} (A : Option Addr) (n c : Nat) (hn : n ≤ c) :
    Calls Try.prog 46 #[.slice A n c] w fun e w' => e = .returned (.slice A n n) ∧ w = w' := by
  have hn' : (n : Int) ≤ (c : Int) := by omega
  go_enter Try.func46, Try.ntmps46
  go_wp2_with fail
  go_ret
  exact ⟨rfl, rfl⟩

theorem DAt.put45 {F : Nat → Prop} {w : World} {a : Nat} {A : Option Addr} {c : Nat} {x : Dk} (h : DAt F w a (.slice A x.l.length c) x) {n : Nat} (hn : n ≤ x.l.length) :
    DAt F ((w.setCell ⟨a, 4, none⟩ (.slice A n n)).setCell ⟨a, 5, none⟩ (.int .i64 n)) a (.slice A n n) { x with l := x.l.take n, s := n } := by
  have hx : Ext (· = a) w ((w.setCell ⟨a, 4, none⟩ (.slice A n n)).setCell ⟨a, 5, none⟩ (.int .i64 n)) := ((Ext.refl (· = a) w).setCell (a := ⟨a, 4, none⟩) (.inl rfl) _).setCell (a := ⟨a, 5, none⟩) (.inl rfl) _
  have hb : (Value.slice A n n).ownBlock = (Value.slice A x.l.length c).ownBlock := by cases A <;> rfl
  exact { obj := by rw [heap_setCell_self (heap_setCell_self h.obj)]; rfl
          own := (h.own.cut hn).ext hx fun k hk e => h.va (by rw [← hb, hk, e])
          fa := h.fa, fv := fun k hk => h.fv k (by rw [← hb]; exact hk), safe := by simp; omega
          len := by have := h.len; simp; omega
          acts := h.acts, lt := fun k hk => Nat.lt_of_lt_of_le (h.lt k hk) hx.size }

theorem disk_keep {F : Nat → Prop} {w : World} {a : Nat} {x : Dk} (h : DRep F w a x) (n : Nat) (hn : n ≤ x.l.length) :
    Calls Try.prog 34 #[.pointer (some ⟨a, 0, none⟩), .int .i64 n] w fun e w' => e = .returned (.tuple #[]) ∧ DPost F w a { x with l := x.l.take n, s := n } w' := by
  obtain ⟨v, h⟩ := h
  obtain ⟨A, c, rfl, hlc, hA⟩ := h.own.form
  have c4 : w.cell? ⟨a, 4, none⟩ = some (.slice A x.l.length c) := h.cell 4
  have c5 : w.cell? ⟨a, 5, none⟩ = some (.int .i64 x.s) := h.cell 5
  have f4 := h.melt 4
  have f5 := h.melt 5
  have hp := h.put45 hn
  have Hp := Lib.hid hp
  have HF := Lib.hid h.fa
  have hmax := h.len
  have hnc : (n : Int) ≤ (c : Int) := by omega
  have hcl := fun (w : World) => clip_slice (w := w) A n c (by omega)
  clear h hp
  cases A with
  | none =>
    go_enter Try.func34, Try.ntmps34
    go_wp2_with fail
    refine (hcl _).mono ?_
    rintro e w' ⟨rfl, rfl⟩
    go_wp2_with fail
    refine bodyPost_end (results_none rfl _ _ _) rfl ?_
    exact ⟨rfl, F, ⟨_, Hp.out⟩, ((Ext.refl _ _).setCell (.inl HF.out) _).setCell (.inl HF.out) _, fun _ => .inl⟩
  | some ad =>
    obtain ⟨g, rfl⟩ := hA ad rfl
    go_enter Try.func34, Try.ntmps34
    go_wp2_with fail
    refine (hcl _).mono ?_
    rintro e w' ⟨rfl, rfl⟩
    go_wp2_with fail
    refine bodyPost_end (results_none rfl _ _ _) rfl ?_
    exact ⟨rfl, F, ⟨_, Hp.out⟩, ((Ext.refl _ _).setCell (.inl HF.out) _).setCell (.inl HF.out) _, fun _ => .inl⟩

theorem disk_new (w : World) : Calls Try.prog 7 #[] w fun e w' => ∃ a F, e = .returned (.pointer (some ⟨a, 0, none⟩)) ∧ DRep F w' a ⟨false, false, 0, 0, [], 0⟩ ∧ Ext (fun _ => False) w w' ∧ ∀ k, F k → w.heap.size ≤ k := by
  go_enter Try.func7, Try.ntmps7
  go_wp2_with fail
  go_ret
  refine ⟨w.heap.size, fun k => k = w.heap.size, rfl, ⟨.slice none 0 0, ?_⟩, (Ext.refl _ _).alloc _, fun k hk => by omega⟩
  exact { obj := heap_alloc_self _ _, own := .inl ⟨rfl, rfl⟩, fa := rfl, fv := fun k hk => by simp [Value.ownBlock] at hk, safe := Nat.le_refl _, len := by simp, acts := by simp, lt := fun k hk => by subst hk; simp }
end Go.Proofs.Ytebcpacenoedfaa
