/- The disk and the document's, side by side; Tells; no condition. -/
import Derived.Test.YtebcpacenoedfaaRefDisk3
import Derived.Test.YtebcpacenoedfaaOwned
import Derived.Test.YtebcpacenoedfaaDisk5
import Derived.Test.YtebcpacenoedfaaSized
namespace Go.Proofs.Ytebcpacenoedfaa
set_option linter.unusedVariables false
set_option linter.unusedSimpArgs false
open Go.RowKit Go.ChangeShapes Go.WideShapes Go.ChangeAt

/-- The one at a holds x, the document's at a' holds y; both were made since w0; blocks B stand as in W0. -/
structure TwoAt (F F' : Nat → Prop) (w0 : World) (B : Nat → Prop) (W0 w : World) (a a' : Nat) (x y : Dk) : Prop where
  dsk : DRep F w a x
  doc : RRep F' w a' y
  apart : ∀ k, F k → ¬ F' k
  old : Ext (fun _ => False) w0 w
  newF : ∀ k, F k → w0.heap.size ≤ k
  newF' : ∀ k, F' k → w0.heap.size ≤ k
  held : ∀ b, B b → b < w.heap.size ∧ w.heap[b]? = W0.heap[b]? ∧ ¬ F b ∧ ¬ F' b
def Two (w0 : World) (B : Nat → Prop) (W0 w : World) (a a' : Nat) (x y : Dk) : Prop := ∃ F F', TwoAt F F' w0 B W0 w a a' x y

section
variable {w0 W0 w w' : World} {B : Nat → Prop} {a a' : Nat} {x y z : Dk}
theorem Two.ext (h : Two w0 B W0 w a a' x y) (hx : Ext (fun _ => False) w w') : Two w0 B W0 w' a a' x y := by
  obtain ⟨F, F', h⟩ := h
  exact ⟨F, F', ⟨h.dsk.same hx, h.doc.same hx, h.apart, h.old.trans hx, h.newF, h.newF', fun b hb => ⟨Nat.lt_of_lt_of_le (h.held b hb).1 hx.size, (hx.block b (h.held b hb).1 id).trans (h.held b hb).2.1, (h.held b hb).2.2⟩⟩⟩
theorem Two.old (h : Two w0 B W0 w a a' x y) : Ext (fun _ => False) w0 w := by
  obtain ⟨F, F', h⟩ := h
  exact h.old
theorem Two.at (h : Two w0 B W0 w a a' x y) {b : Nat} (hb : B b) : w.heap[b]? = W0.heap[b]? := by
  obtain ⟨F, F', h⟩ := h
  exact (h.held b hb).2.1
/-- One block more is held: a new one. -/
theorem Two.more (h : Two w0 B W0 w a a' x y) {w1 : World} (hx : Ext (fun _ => False) w w1) : Two w0 (fun b => B b ∨ w.heap.size ≤ b ∧ b < w1.heap.size) w1 w1 a a' x y := by
  obtain ⟨F, F', h⟩ := h
  refine ⟨F, F', ⟨h.dsk.same hx, h.doc.same hx, h.apart, h.old.trans hx, h.newF, h.newF', fun b hb => ?_⟩⟩
  rcases hb with hb | ⟨h1, h2⟩
  · exact ⟨Nat.lt_of_lt_of_le (h.held b hb).1 hx.size, rfl, (h.held b hb).2.2⟩
  · exact ⟨h2, rfl, fun hf => by have := h.dsk.lt b hf; omega, fun hf => by have := h.doc.lt b hf; omega⟩
theorem Two.scribble {B' : Nat → Prop} {W1 : World} {g : Nat} (h : Two w0 B' W1 w a a' x y) (hx : Ext (· = g) w w') (hg : B' g) (hs : ∀ b, B b → B' b ∧ b ≠ g ∧ W1.heap[b]? = W0.heap[b]?) (hold : w0.heap.size ≤ g) : Two w0 B W0 w' a a' x y := by
  obtain ⟨F, F', h⟩ := h
  obtain ⟨_, _, g3, g4⟩ := h.held g hg
  refine ⟨F, F', ⟨h.dsk.keep hx fun k hk e => g3 (e ▸ hk), h.doc.keep hx fun k hk e => g4 (e ▸ hk), h.apart, h.old.trans' hx fun b hb => .inr (by rw [hb]; exact hold), h.newF, h.newF', fun b hb => ?_⟩⟩
  obtain ⟨s1, s2, s3⟩ := hs b hb
  obtain ⟨k1, k2, k3, k4⟩ := h.held b s1
  exact ⟨Nat.lt_of_lt_of_le k1 hx.size, ((hx.block b k1 s2).trans k2).trans s3, k3, k4⟩
theorem TwoAt.dpost {F F' : Nat → Prop} (h : TwoAt F F' w0 B W0 w a a' x y) (hp : DPost F w a z w') : Two w0 B W0 w' a a' z y := by
  obtain ⟨F1, h1, h2, h3⟩ := hp
  refine ⟨F1, F', ⟨h1, h.doc.keep h2 fun k hk hf => h.apart k hf hk, fun k hk hf => ?_, h.old.trans' h2 fun b hb => .inr (h.newF b hb), fun k hk => ?_, h.newF', fun b hb => ?_⟩⟩
  · rcases h3 k hk with h4 | h4
    · exact h.apart k h4 hf
    · have := h.doc.lt k hf; omega
  · rcases h3 k hk with h4 | h4
    · exact h.newF k h4
    · exact Nat.le_trans h.old.size h4
  · obtain ⟨k1, k2, k3, k4⟩ := h.held b hb
    exact ⟨Nat.lt_of_lt_of_le k1 h2.size, (h2.block b k1 k3).trans k2, fun hf => (h3 b hf).elim k3 fun h => by omega, k4⟩
theorem TwoAt.rpost {F F' : Nat → Prop} (h : TwoAt F F' w0 B W0 w a a' x y) (hp : RPost F' w a' z w') : Two w0 B W0 w' a a' x z := by
  obtain ⟨F1, h1, h2, h3⟩ := hp
  refine ⟨F, F1, ⟨h.dsk.keep h2 fun k hk hf => h.apart k hk hf, h1, fun k hk hf => ?_, h.old.trans' h2 fun b hb => .inr (h.newF' b hb), h.newF, fun k hk => ?_, fun b hb => ?_⟩⟩
  · rcases h3 k hf with h4 | h4
    · exact h.apart k hk h4
    · have := h.dsk.lt k hk; omega
  · rcases h3 k hk with h4 | h4
    · exact h.newF' k h4
    · exact Nat.le_trans h.old.size h4
  · obtain ⟨k1, k2, k3, k4⟩ := h.held b hb
    exact ⟨Nat.lt_of_lt_of_le k1 h2.size, (h2.block b k1 k4).trans k2, k3, fun hf => (h3 b hf).elim k4 fun h => by omega⟩

theorem two_new (w0 : World) {w : World} {a : Nat} {x : Dk} (h : DInv w0 w a x) : Calls Try.prog 8 #[] w fun e w' => ∃ a', e = .returned (.pointer (some ⟨a', 0, none⟩)) ∧ Two w0 (fun _ => False) w' w' a a' x ⟨false, false, 0, 0, [], 0⟩ := by
  obtain ⟨F, h1, h2, h3⟩ := h
  refine (rd_new w).mono fun e w' ⟨a', F', he, k1, k2, k3⟩ => ⟨a', he, F, F', ⟨h1.same k2, k1, fun k hk hf => ?_, h2.trans k2, h3, fun k hk => Nat.le_trans h2.size (k3 k hk), fun b hb => hb.elim⟩⟩
  have := h1.lt k hk
  have := k3 k hf
  omega

variable (h : Two w0 B W0 w a a' x y)
include h
theorem two_append {D : Nat → Prop} {mv : Value} {m : Bs} (hm : Byt D w mv m) (hD : ∀ k, D k → k < w0.heap.size ∨ B k) :
    Calls Try.prog 28 #[.pointer (some ⟨a, 0, none⟩), mv] w fun e w' => e = .returned (.int .i64 (appendD m x).1) ∧ Two w0 B W0 w' a a' (appendD m x).2 y := by
  obtain ⟨F, F', h⟩ := h
  refine (disk_append h.dsk hm (fun k hk hf => ?_)).mono fun e w' ⟨he, hp⟩ => ⟨he, h.dpost hp⟩
  rcases hD k hk with h1 | h1
  · have := h.newF k hf; omega
  · exact (h.held k h1).2.2.1 hf
theorem two_sync : Calls Try.prog 32 #[.pointer (some ⟨a, 0, none⟩)] w fun e w' => e = .returned (.int .i64 (syncD x).1) ∧ Two w0 B W0 w' a a' (syncD x).2 y := by
  obtain ⟨F, F', h⟩ := h
  exact (disk_sync h.dsk).mono fun e w' ⟨he, hp⟩ => ⟨he, h.dpost hp⟩
theorem two_cut (n : Int) : Calls Try.prog 31 #[.pointer (some ⟨a, 0, none⟩), .int .i64 n] w fun e w' => e = .returned (.int .i64 (cutD n x).1) ∧ Two w0 B W0 w' a a' (cutD n x).2 y := by
  obtain ⟨F, F', h⟩ := h
  exact (disk_cut h.dsk n).mono fun e w' ⟨he, hp⟩ => ⟨he, h.dpost hp⟩
theorem two_boot (n : Int) : Calls Try.prog 16 #[.pointer (some ⟨a, 0, none⟩), .int .i64 n] w fun e w' => e = .returned (.tuple #[]) ∧ Two w0 B W0 w' a a' (bootD n x) y := by
  obtain ⟨F, F', h⟩ := h
  exact (disk_boot h.dsk n).mono fun e w' ⟨he, hp⟩ => ⟨he, h.dpost hp⟩
theorem two_arm (n m : Int) (hn : n ≤ 9223372036854775807) : Calls Try.prog 15 #[.pointer (some ⟨a, 0, none⟩), .int .i64 n, .int .i64 m] w fun e w' => e = .returned (.tuple #[]) ∧ Two w0 B W0 w' a a' (armD n m x) y := by
  obtain ⟨F, F', h⟩ := h
  exact (power_arm h.dsk n m hn).mono fun e w' ⟨he, hp⟩ => ⟨he, h.dpost hp⟩
theorem doc_append {D : Nat → Prop} {mv : Value} {m : Bs} (hm : Byt D w mv m) (hD : ∀ k, D k → k < w0.heap.size ∨ B k) :
    Calls Try.prog 29 #[.pointer (some ⟨a', 0, none⟩), mv] w fun e w' => e = .returned (.int .i64 (appendD m y).1) ∧ Two w0 B W0 w' a a' x (appendD m y).2 := by
  obtain ⟨F, F', h⟩ := h
  refine (rd_append h.doc hm (fun k hk hf => ?_)).mono fun e w' ⟨he, hp⟩ => ⟨he, h.rpost hp⟩
  rcases hD k hk with h1 | h1
  · have := h.newF' k hf; omega
  · exact (h.held k h1).2.2.2 hf
theorem doc_sync : Calls Try.prog 39 #[.pointer (some ⟨a', 0, none⟩)] w fun e w' => e = .returned (.int .i64 (syncD y).1) ∧ Two w0 B W0 w' a a' x (syncD y).2 := by
  obtain ⟨F, F', h⟩ := h
  exact (rd_sync h.doc).mono fun e w' ⟨he, hp⟩ => ⟨he, h.rpost hp⟩
theorem doc_cut (n : Int) : Calls Try.prog 38 #[.pointer (some ⟨a', 0, none⟩), .int .i64 n] w fun e w' => e = .returned (.int .i64 (cutD n y).1) ∧ Two w0 B W0 w' a a' x (cutD n y).2 := by
  obtain ⟨F, F', h⟩ := h
  exact (rd_cut h.doc n).mono fun e w' ⟨he, hp⟩ => ⟨he, h.rpost hp⟩
theorem doc_boot (n : Int) : Calls Try.prog 27 #[.pointer (some ⟨a', 0, none⟩), .int .i64 n] w fun e w' => e = .returned (.tuple #[]) ∧ Two w0 B W0 w' a a' x (bootD n y) := by
  obtain ⟨F, F', h⟩ := h
  exact (rd_boot h.doc n).mono fun e w' ⟨he, hp⟩ => ⟨he, h.rpost hp⟩
theorem doc_arm (n m : Int) (hn : n ≤ 9223372036854775807) : Calls Try.prog 26 #[.pointer (some ⟨a', 0, none⟩), .int .i64 n, .int .i64 m] w fun e w' => e = .returned (.tuple #[]) ∧ Two w0 B W0 w' a a' x (armD n m y) := by
  obtain ⟨F, F', h⟩ := h
  exact (rd_arm h.doc n m hn).mono fun e w' ⟨he, hp⟩ => ⟨he, h.rpost hp⟩
end

/-- Owned of one row that is the call's own. -/
theorem owned_one {w : World} {u : Value} {l : Bs} (h : OwnB w u l) : Calls Try.prog 22 #[.slice (some ⟨w.heap.size, 0, none⟩) 1 1] (w.alloc (.cells #[u] 36)) fun e w' => e = .returned (.bool true) ∧ Ext (fun b => u.ownBlock = some b) w w' := by
  have hx : Ext (fun _ => False) w (w.alloc (.cells #[u] 36)) := (Ext.refl _ _).alloc _
  have hr : Rows8 (w.alloc (.cells #[u] 36)) (.slice (some ⟨w.heap.size, 0, none⟩) 1 1) [u] := by
    refine ⟨⟨_, 1, rfl, Nat.le_refl _, fun _ => ⟨w.heap.size, 0, rfl, fun u' hu' e => ?_, fun i x hi => ?_⟩⟩, fun u' hu' => ?_, fun i j u1 u2 k h1 h2 _ _ => ?_⟩
    · simp at hu'
      subst hu'
      have := h.lt _ e
      omega
    · have : i = 0 := by have := (List.getElem?_eq_some_iff.1 hi).1; simp at this; exact this
      subst this
      simp at hi
      subst hi
      show (w.alloc (.cells #[u] 36)).cell? ⟨w.heap.size, 0 + 0 * 1, none⟩ = some u
      rw [cells_at (heap_alloc_self w _)]
      rfl
    · simp at hu'
      subst hu'
      exact h.capA.ext hx fun _ _ => id
    · have := (List.getElem?_eq_some_iff.1 h1).1
      have := (List.getElem?_eq_some_iff.1 h2).1
      simp at *
      omega
  refine (owned_walk hr (by simp)).mono fun e w' ⟨he, hx2⟩ => ⟨he, (hx.mono fun _ _ hf => hf.elim).trans' hx2 fun b ⟨u', hu', e⟩ => .inl (by simp at hu'; rw [← hu']; exact e)⟩

set_option maxRecDepth 100000 in
theorem tells_walk {F F' : Nat → Prop} {w : World} {a a' : Nat} {x : Dk} (hD : DRep F w a x) (hR : RRep F' w a' x) :
    Calls Try.prog 11 #[.pointer (some ⟨a, 0, none⟩), .pointer (some ⟨a', 0, none⟩)] w fun e w' => e = .returned (.bool true) ∧ Ext (fun _ => False) w w' := by
  go_enter Try.func11, Try.ntmps11
  go_wp2_with fail
  go_loopw [5] (fun i W => ∃ k : Nat, k ≤ 2 ∧ i = .int .i64 k ∧ Ext (fun _ => False) w W) (fun i _ => 2 - (intOf i).toNat)
  case atStart => exact ⟨0, by omega, rfl, Ext.refl _ _⟩
  case round =>
    obtain ⟨k, hk, rfl, hx⟩ := hrel
    have hDr := hD.same hx
    obtain ⟨v', p', q', hRr⟩ := hR.same hx
    by_cases hlt : k < 2
    · have hlt' : decide ((k : Int) < 2) = true := by simp; omega
      go_wp2_with fail
      refine (disk_bytes hDr).mono ?_
      rintro e w1 ⟨v1, rfl, hown1, hx1, hb1⟩
      obtain ⟨A1, c1, rfl, _, _⟩ := hown1.form
      have hR1 := hRr.keep hx1 fun _ _ => id
      obtain ⟨A2, c2, rfl, _, _⟩ := hR1.own.form
      have hcv1 := hown1.byt.conv 36 5 9 Try.underlying36 Try.underlying5 Try.underlying9
      have hcv2 := hR1.own.byt.conv 36 5 9 Try.underlying36 Try.underlying5 Try.underlying9
      have d0 : w1.cell? ⟨a', 0, none⟩ = some (.slice A2 x.l.length c2) := hR1.cell 0
      have H1 := Lib.hid (And.intro hown1 (And.intro hb1 (hx.trans hx1)))
      clear hown1 hb1 hR1 hRr
      go_wp2_with fail
      refine wp_region_mix (Cls [a', blk (.slice A1 x.l.length c1), blk (.slice A2 x.l.length c2)] _) [] [0, 1, 2, 3, 4, 5, 6, 7, 8] (by kernel_rfl) (by kernel_rfl) (Cls.refl _ _) ?_
      try dsimp only [wpMix, wpSegs, pick, List.getElem?_cons_zero, List.getElem?_cons_succ]
      generalize hz : Act.mk _ _ = z
      repeat (first | (refine wpQuiet_step (fun K hK => ?_); replace hK := Lib.hid hK; subst hz; go_simp; generalize hz : Act.mk _ _ = z; refine hK.out z ?_; clear hK K) | (refine wpQuiet_step (fun K hK => ?_); replace hK := Lib.hid hK; subst hz; refine iteSkip (by kernel_rfl) ?_; go_simp; generalize hz : Act.mk _ _ = z; refine hK.out z ?_; clear hK K))
      refine wpQuiet_nil ?_
      subst hz
      try dsimp only [NoPan]
      go_wp2_with fail
      have hown := H1.out.1.ext ((Ext.refl (fun _ => False) w1).drew) fun _ _ => id
      refine (owned_one hown).mono ?_
      rintro e w3 ⟨rfl, hx3⟩
      go_wp2_with fail
      obtain ⟨_, hb1, hx1⟩ := H1.out
      exact ⟨⟨k + 1, by omega, by go_num, hx1.drew.trans' hx3 fun b hb => .inr (Nat.le_trans hx.size (hb1 b hb))⟩, by simp [intOf]; omega⟩
    · have hlt' : decide ((k : Int) < 2) = false := by simp; omega
      have hal := lt_of_heap hRr.obj
      have d1 : wr.cell? ⟨a', 1, none⟩ = some (.int .i64 x.s) := hRr.cell 1
      have d2 : wr.cell? ⟨a', 2, none⟩ = some (.bool x.off) := hRr.cell 2
      have Hx := Lib.hid hx
      clear hRr hx
      go_wp2_with fail
      refine wp_region_mix (Cls [a'] _) [([0, 2, 3, 4, 5], 1), ([6, 7, 8, 9, 10, 12, 13, 14, 15, 16], 11)] [17, 18, 19] (by kernel_rfl) (by kernel_rfl) (Cls.refl _ _) ?_
      try dsimp only [wpMix, wpSegs, pick, List.getElem?_cons_zero, List.getElem?_cons_succ]
      generalize hz : Act.mk _ _ = z
      repeat (first | (refine wpQuiet_step (fun K hK => ?_); replace hK := Lib.hid hK; subst hz; go_simp; generalize hz : Act.mk _ _ = z; refine hK.out z ?_; clear hK K) | (refine wpQuiet_step (fun K hK => ?_); replace hK := Lib.hid hK; subst hz; refine iteSkip (by kernel_rfl) ?_; go_simp; generalize hz : Act.mk _ _ = z; refine hK.out z ?_; clear hK K))
      refine wpQuiet_nil ?_
      subst hz
      try dsimp only [NoPan]
      go_wp2_with fail
      have hDd := hDr.same ((Ext.refl (fun _ => False) wr).drew)
      refine (disk_safe hDd).mono ?_
      rintro e w2 ⟨rfl, rfl⟩
      go_wp2_with fail
      refine ⟨Cls.refl _ _, ?_⟩
      try dsimp only [wpMix, wpSegs, pick, List.getElem?_cons_zero, List.getElem?_cons_succ]
      generalize hz : Act.mk _ _ = z
      repeat (first | (refine wpQuiet_step (fun K hK => ?_); replace hK := Lib.hid hK; subst hz; go_simp; generalize hz : Act.mk _ _ = z; refine hK.out z ?_; clear hK K) | (refine wpQuiet_step (fun K hK => ?_); replace hK := Lib.hid hK; subst hz; refine iteSkip (by kernel_rfl) ?_; go_simp; generalize hz : Act.mk _ _ = z; refine hK.out z ?_; clear hK K))
      refine wpQuiet_nil ?_
      subst hz
      try dsimp only [NoPan]
      go_wp2_with fail
      refine (power_up hDd).mono ?_
      rintro e w3 ⟨rfl, rfl⟩
      go_wp2_with fail
      refine ⟨Cls.refl _ _, ?_⟩
      try dsimp only [wpMix, wpSegs, pick, List.getElem?_cons_zero, List.getElem?_cons_succ]
      generalize hz : Act.mk _ _ = z
      repeat (first | (refine wpQuiet_step (fun K hK => ?_); replace hK := Lib.hid hK; subst hz; go_simp; generalize hz : Act.mk _ _ = z; refine hK.out z ?_; clear hK K) | (refine wpQuiet_step (fun K hK => ?_); replace hK := Lib.hid hK; subst hz; refine iteSkip (by kernel_rfl) ?_; go_simp; generalize hz : Act.mk _ _ = z; refine hK.out z ?_; clear hK K))
      refine wpQuiet_nil ?_
      subst hz
      try dsimp only [NoPan]
      go_wp2_with fail
      go_ret
      exact ⟨rfl, Hx.out.drew⟩
theorem two_tells {w0 W0 w : World} {B : Nat → Prop} {a a' : Nat} {x : Dk} (h : Two w0 B W0 w a a' x x) :
    Calls Try.prog 11 #[.pointer (some ⟨a, 0, none⟩), .pointer (some ⟨a', 0, none⟩)] w fun e w' => e = .returned (.bool true) ∧ Ext (fun _ => False) w w' := by
  obtain ⟨F, F', h⟩ := h
  exact tells_walk h.dsk h.doc
theorem Two.drop {w0 W0 W1 w : World} {B : Nat → Prop} {a a' : Nat} {x y : Dk} (h : Two w0 B W0 w a a' x y) : Two w0 (fun _ => False) W1 w a a' x y := by
  obtain ⟨F, F', h⟩ := h
  exact ⟨F, F', ⟨h.dsk, h.doc, h.apart, h.old, h.newF, h.newF', fun b hb => hb.elim⟩⟩
end Go.Proofs.Ytebcpacenoedfaa
