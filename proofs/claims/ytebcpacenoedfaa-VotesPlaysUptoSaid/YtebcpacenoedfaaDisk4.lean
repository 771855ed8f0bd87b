/- A disk of the call's own; the small case; no condition. -/
import Derived.Test.YtebcpacenoedfaaDisk3
import Derived.Test.YtebcpacenoedfaaConst
namespace Go.Proofs.Ytebcpacenoedfaa
set_option linter.unusedVariables false
set_option linter.unusedSimpArgs false
open Go.RowKit

/-- The disk that was made since w0; nothing else changed since. -/
def DInv (w0 w : World) (a : Nat) (x : Dk) : Prop := ∃ F, DRep F w a x ∧ Ext (fun _ => False) w0 w ∧ ∀ k, F k → w0.heap.size ≤ k
theorem DInv.ext {w0 w w' : World} {a : Nat} {x : Dk} (h : DInv w0 w a x) (hx : Ext (fun _ => False) w w') : DInv w0 w' a x := by
  obtain ⟨F, h1, h2, h3⟩ := h
  exact ⟨F, h1.same hx, h2.trans hx, h3⟩
theorem DInv.old {w0 w : World} {a : Nat} {x : Dk} (h : DInv w0 w a x) : Ext (fun _ => False) w0 w := by
  obtain ⟨F, h1, h2, h3⟩ := h
  exact h2
theorem DInv.safe {w0 w : World} {a : Nat} {x : Dk} (h : DInv w0 w a x) : x.s ≤ x.l.length ∧ x.l.length ≤ 4194304 := by
  obtain ⟨F, ⟨v, h1⟩, h2, h3⟩ := h
  exact ⟨h1.safe, h1.len⟩
theorem DPost.inv {F : Nat → Prop} {w0 w w' : World} {a : Nat} {x : Dk} (h : DPost F w a x w') (hx : Ext (fun _ => False) w0 w) (hF : ∀ k, F k → w0.heap.size ≤ k) : DInv w0 w' a x := by
  obtain ⟨F', h1, h2, h3⟩ := h
  exact ⟨F', h1, hx.trans' h2 fun b hb => .inr (hF b hb), fun k hk => (h3 k hk).elim (hF k) fun h => Nat.le_trans hx.size h⟩

section
variable {w0 w : World} {a : Nat} {x : Dk}
theorem inv_new (w0 : World) {w : World} (hx : Ext (fun _ => False) w0 w) : Calls Try.prog 7 #[] w fun e w' => ∃ a, e = .returned (.pointer (some ⟨a, 0, none⟩)) ∧ DInv w0 w' a ⟨false, false, 0, 0, [], 0⟩ :=
  (disk_new w).mono fun _ _ ⟨a, F, he, h1, h2, h3⟩ => ⟨a, he, F, h1, hx.trans h2, fun k hk => Nat.le_trans hx.size (h3 k hk)⟩
theorem inv_append (h : DInv w0 w a x) {w1 : World} (hx : Ext (fun _ => False) w w1) {D : Nat → Prop} {mv : Value} {m : Bs} (hm : Byt D w1 mv m) (hD : ∀ k, D k → k < w0.heap.size ∨ w.heap.size ≤ k) :
    Calls Try.prog 28 #[.pointer (some ⟨a, 0, none⟩), mv] w1 fun e w' => e = .returned (.int .i64 (appendD m x).1) ∧ DInv w0 w' a (appendD m x).2 := by
  obtain ⟨F, h1, h2, h3⟩ := h
  refine (disk_append (h1.same hx) hm (fun k hk hf => ?_)).mono fun e w' ⟨he, hp⟩ => ⟨he, hp.inv (h2.trans hx) h3⟩
  have := h3 k hf
  have := h1.lt k hf
  have := hD k hk
  omega
theorem inv_sync (h : DInv w0 w a x) : Calls Try.prog 32 #[.pointer (some ⟨a, 0, none⟩)] w fun e w' => e = .returned (.int .i64 (syncD x).1) ∧ DInv w0 w' a (syncD x).2 := by
  obtain ⟨F, h1, h2, h3⟩ := h
  exact (disk_sync h1).mono fun e w' ⟨he, hp⟩ => ⟨he, hp.inv h2 h3⟩
theorem inv_cut (h : DInv w0 w a x) (n : Int) : Calls Try.prog 31 #[.pointer (some ⟨a, 0, none⟩), .int .i64 n] w fun e w' => e = .returned (.int .i64 (cutD n x).1) ∧ DInv w0 w' a (cutD n x).2 := by
  obtain ⟨F, h1, h2, h3⟩ := h
  exact (disk_cut h1 n).mono fun e w' ⟨he, hp⟩ => ⟨he, hp.inv h2 h3⟩
theorem inv_boot (h : DInv w0 w a x) (n : Int) : Calls Try.prog 16 #[.pointer (some ⟨a, 0, none⟩), .int .i64 n] w fun e w' => e = .returned (.tuple #[]) ∧ DInv w0 w' a (bootD n x) := by
  obtain ⟨F, h1, h2, h3⟩ := h
  exact (disk_boot h1 n).mono fun e w' ⟨he, hp⟩ => ⟨he, hp.inv h2 h3⟩
theorem inv_arm (h : DInv w0 w a x) (n m : Int) (hn : n ≤ 9223372036854775807) : Calls Try.prog 15 #[.pointer (some ⟨a, 0, none⟩), .int .i64 n, .int .i64 m] w fun e w' => e = .returned (.tuple #[]) ∧ DInv w0 w' a (armD n m x) := by
  obtain ⟨F, h1, h2, h3⟩ := h
  exact (power_arm h1 n m hn).mono fun e w' ⟨he, hp⟩ => ⟨he, hp.inv h2 h3⟩
theorem inv_up (h : DInv w0 w a x) : Calls Try.prog 14 #[.pointer (some ⟨a, 0, none⟩)] w fun e w' => e = .returned (.bool (!x.off)) ∧ w = w' := by
  obtain ⟨F, h1, h2, h3⟩ := h
  exact power_up h1
theorem inv_safe (h : DInv w0 w a x) : Calls Try.prog 19 #[.pointer (some ⟨a, 0, none⟩)] w fun e w' => e = .returned (.int .i64 x.s) ∧ w = w' := by
  obtain ⟨F, h1, h2, h3⟩ := h
  exact disk_safe h1
theorem inv_bytes (h : DInv w0 w a x) : Calls Try.prog 20 #[.pointer (some ⟨a, 0, none⟩)] w fun e w' => ∃ A c, e = .returned (.slice A x.l.length c) ∧ OwnB w' (.slice A x.l.length c) x.l ∧ Ext (fun _ => False) w w' ∧ DInv w0 w' a x ∧ ∀ k, (Value.slice A x.l.length c).ownBlock = some k → w.heap.size ≤ k := by
  obtain ⟨F, h1, h2, h3⟩ := id h
  refine (disk_bytes h1).mono fun e w' ⟨v, he, hown, hx, hb⟩ => ?_
  obtain ⟨A, c, rfl, _, _⟩ := hown.form
  exact ⟨A, c, he, hown, hx, h.ext hx, hb⟩
end

/-- The same, and bytes that are not the disk's. -/
def DSide (w0 w : World) (a : Nat) (x : Dk) (v : Value) (l : Bs) : Prop := ∃ F, DRep F w a x ∧ Ext (fun _ => False) w0 w ∧ (∀ k, F k → w0.heap.size ≤ k) ∧ OwnB w v l ∧ ∀ k, v.ownBlock = some k → ¬ F k
theorem DPost.side {F : Nat → Prop} {w0 w w' : World} {a : Nat} {x : Dk} {v : Value} {l : Bs} (h : DPost F w a x w') (hx : Ext (fun _ => False) w0 w) (hF : ∀ k, F k → w0.heap.size ≤ k) (hb : OwnB w v l) (hn : ∀ k, v.ownBlock = some k → ¬ F k) : DSide w0 w' a x v l := by
  obtain ⟨F', h1, h2, h3⟩ := h
  refine ⟨F', h1, hx.trans' h2 fun b hb => .inr (hF b hb), fun k hk => (h3 k hk).elim (hF k) fun h => Nat.le_trans hx.size h, hb.ext h2 hn, fun k hk hf => ?_⟩
  rcases h3 k hf with h | h
  · exact hn k hk h
  · have := hb.lt k hk
    omega
theorem DSide.inv {w0 w : World} {a : Nat} {x : Dk} {v : Value} {l : Bs} (h : DSide w0 w a x v l) : DInv w0 w a x := by
  obtain ⟨F, h1, h2, h3, _⟩ := h
  exact ⟨F, h1, h2, h3⟩
section
variable {w0 w : World} {a : Nat} {x : Dk} {v : Value} {l : Bs}
theorem side_bytes (h : DInv w0 w a x) : Calls Try.prog 20 #[.pointer (some ⟨a, 0, none⟩)] w fun e w' => ∃ A c, e = .returned (.slice A x.l.length c) ∧ DSide w0 w' a x (.slice A x.l.length c) x.l := by
  obtain ⟨F, h1, h2, h3⟩ := id h
  refine (disk_bytes h1).mono fun e w' ⟨v, he, hown, hx, hb⟩ => ?_
  obtain ⟨A, c, rfl, _, _⟩ := hown.form
  exact ⟨A, c, he, F, h1.same hx, h2.trans hx, h3, hown, fun k hk hf => by have := hb k hk; have := h1.lt k hf; omega⟩
theorem side_arm (h : DSide w0 w a x v l) (n m : Int) (hn : n ≤ 9223372036854775807) : Calls Try.prog 15 #[.pointer (some ⟨a, 0, none⟩), .int .i64 n, .int .i64 m] w fun e w' => e = .returned (.tuple #[]) ∧ DSide w0 w' a (armD n m x) v l := by
  obtain ⟨F, h1, h2, h3, h4, h5⟩ := h
  exact (power_arm h1 n m hn).mono fun e w' ⟨he, hp⟩ => ⟨he, hp.side h2 h3 h4 h5⟩
theorem side_boot (h : DSide w0 w a x v l) (n : Int) : Calls Try.prog 16 #[.pointer (some ⟨a, 0, none⟩), .int .i64 n] w fun e w' => e = .returned (.tuple #[]) ∧ DSide w0 w' a (bootD n x) v l := by
  obtain ⟨F, h1, h2, h3, h4, h5⟩ := h
  exact (disk_boot h1 n).mono fun e w' ⟨he, hp⟩ => ⟨he, hp.side h2 h3 h4 h5⟩
theorem side_append (h : DSide w0 w a x v l) {w1 : World} (hx : Ext (fun _ => False) w w1) {D : Nat → Prop} {mv : Value} {m : Bs} (hm : Byt D w1 mv m) (hD : ∀ k, D k → k < w0.heap.size ∨ w.heap.size ≤ k) :
    Calls Try.prog 28 #[.pointer (some ⟨a, 0, none⟩), mv] w1 fun e w' => e = .returned (.int .i64 (appendD m x).1) ∧ DSide w0 w' a (appendD m x).2 v l := by
  obtain ⟨F, h1, h2, h3, h4, h5⟩ := h
  refine (disk_append (h1.same hx) hm (fun k hk hf => ?_)).mono fun e w' ⟨he, hp⟩ => ⟨he, hp.side (h2.trans hx) h3 (h4.ext hx fun _ _ => id) h5⟩
  have := h3 k hf
  have := h1.lt k hf
  have := hD k hk
  omega
end

end Go.Proofs.Ytebcpacenoedfaa
