/- A disk beside other blocks; what an act leaves as it was; no condition. -/
import Derived.Test.YtebcpacenoedfaaDisk4
import Derived.Test.YtebcpacenoedfaaLawBase
import Derived.OpenShut
namespace Go.Proofs.Ytebcpacenoedfaa
set_option linter.unusedVariables false
set_option linter.unusedSimpArgs false
open Go.RowKit Go.ChangeShapes Go.WideShapes Go.ChangeAt

/-- The disk that was made since w0, and blocks B that stand as in W0. -/
def DHold (w0 : World) (B : Nat → Prop) (W0 w : World) (a : Nat) (x : Dk) : Prop :=
  ∃ F, DRep F w a x ∧ Ext (fun _ => False) w0 w ∧ (∀ k, F k → w0.heap.size ≤ k) ∧ ∀ b, B b → b < w.heap.size ∧ w.heap[b]? = W0.heap[b]? ∧ ¬ F b
theorem DPost.hold {F B : Nat → Prop} {w0 W0 w w' : World} {a : Nat} {x : Dk} (h : DPost F w a x w') (hx : Ext (fun _ => False) w0 w) (hF : ∀ k, F k → w0.heap.size ≤ k) (hB : ∀ b, B b → b < w.heap.size ∧ w.heap[b]? = W0.heap[b]? ∧ ¬ F b) : DHold w0 B W0 w' a x := by
  obtain ⟨F', h1, h2, h3⟩ := h
  refine ⟨F', h1, hx.trans' h2 fun b hb => .inr (hF b hb), fun k hk => (h3 k hk).elim (hF k) fun h => Nat.le_trans hx.size h, fun b hb => ?_⟩
  obtain ⟨k1, k2, k3⟩ := hB b hb
  exact ⟨Nat.lt_of_lt_of_le k1 h2.size, (h2.block b k1 k3).trans k2, fun hf => (h3 b hf).elim k3 fun h => by omega⟩
theorem DHold.ext {B : Nat → Prop} {w0 W0 w w' : World} {a : Nat} {x : Dk} (h : DHold w0 B W0 w a x) (hx : Ext (fun _ => False) w w') : DHold w0 B W0 w' a x := by
  obtain ⟨F, h1, h2, h3, h4⟩ := h
  exact ⟨F, h1.same hx, h2.trans hx, h3, fun b hb => ⟨Nat.lt_of_lt_of_le (h4 b hb).1 hx.size, (hx.block b (h4 b hb).1 id).trans (h4 b hb).2.1, (h4 b hb).2.2⟩⟩
theorem DHold.inv {B : Nat → Prop} {w0 W0 w : World} {a : Nat} {x : Dk} (h : DHold w0 B W0 w a x) : DInv w0 w a x := by
  obtain ⟨F, h1, h2, h3, h4⟩ := h
  exact ⟨F, h1, h2, h3⟩
theorem DHold.at {B : Nat → Prop} {w0 W0 w : World} {a : Nat} {x : Dk} (h : DHold w0 B W0 w a x) {b : Nat} (hb : B b) : w.heap[b]? = W0.heap[b]? := by
  obtain ⟨F, h1, h2, h3, h4⟩ := h
  exact (h4 b hb).2.1
theorem DInv.hold {w0 w : World} {a : Nat} {x : Dk} (h : DInv w0 w a x) (o : Obj) : DHold w0 (· = w.heap.size) (w.alloc o) (w.alloc o) a x := by
  obtain ⟨F, h1, h2, h3⟩ := h
  exact ⟨F, h1.same ((Ext.refl _ _).alloc o), h2.alloc o, h3, fun b hb => ⟨by subst hb; simp, rfl, fun hf => by have := h1.lt b hf; omega⟩⟩
section
variable {B : Nat → Prop} {w0 W0 w : World} {a : Nat} {x : Dk}
theorem hold_append (h : DHold w0 B W0 w a x) {D : Nat → Prop} {mv : Value} {m : Bs} (hm : Byt D w mv m) (hD : ∀ k, D k → k < w0.heap.size) :
    Calls Try.prog 28 #[.pointer (some ⟨a, 0, none⟩), mv] w fun e w' => e = .returned (.int .i64 (appendD m x).1) ∧ DHold w0 B W0 w' a (appendD m x).2 := by
  obtain ⟨F, h1, h2, h3, h4⟩ := h
  refine (disk_append h1 hm (fun k hk hf => ?_)).mono fun e w' ⟨he, hp⟩ => ⟨he, hp.hold h2 h3 h4⟩
  have := h3 k hf
  have := hD k hk
  omega
theorem hold_sync (h : DHold w0 B W0 w a x) : Calls Try.prog 32 #[.pointer (some ⟨a, 0, none⟩)] w fun e w' => e = .returned (.int .i64 (syncD x).1) ∧ DHold w0 B W0 w' a (syncD x).2 := by
  obtain ⟨F, h1, h2, h3, h4⟩ := h
  exact (disk_sync h1).mono fun e w' ⟨he, hp⟩ => ⟨he, hp.hold h2 h3 h4⟩
theorem hold_cut (h : DHold w0 B W0 w a x) (n : Int) : Calls Try.prog 31 #[.pointer (some ⟨a, 0, none⟩), .int .i64 n] w fun e w' => e = .returned (.int .i64 (cutD n x).1) ∧ DHold w0 B W0 w' a (cutD n x).2 := by
  obtain ⟨F, h1, h2, h3, h4⟩ := h
  exact (disk_cut h1 n).mono fun e w' ⟨he, hp⟩ => ⟨he, hp.hold h2 h3 h4⟩
theorem hold_boot (h : DHold w0 B W0 w a x) (n : Int) : Calls Try.prog 16 #[.pointer (some ⟨a, 0, none⟩), .int .i64 n] w fun e w' => e = .returned (.tuple #[]) ∧ DHold w0 B W0 w' a (bootD n x) := by
  obtain ⟨F, h1, h2, h3, h4⟩ := h
  exact (disk_boot h1 n).mono fun e w' ⟨he, hp⟩ => ⟨he, hp.hold h2 h3 h4⟩
theorem hold_arm (h : DHold w0 B W0 w a x) (n m : Int) (hn : n ≤ 9223372036854775807) : Calls Try.prog 15 #[.pointer (some ⟨a, 0, none⟩), .int .i64 n, .int .i64 m] w fun e w' => e = .returned (.tuple #[]) ∧ DHold w0 B W0 w' a (armD n m x) := by
  obtain ⟨F, h1, h2, h3, h4⟩ := h
  exact (power_arm h1 n m hn).mono fun e w' ⟨he, hp⟩ => ⟨he, hp.hold h2 h3 h4⟩
theorem hold_bytes (h : DHold w0 B W0 w a x) : Calls Try.prog 20 #[.pointer (some ⟨a, 0, none⟩)] w fun e w' => ∃ A c, e = .returned (.slice A x.l.length c) ∧ OwnB w' (.slice A x.l.length c) x.l ∧ DHold w0 B W0 w' a x := by
  refine (inv_bytes h.inv).mono fun e w' ⟨A, c, he, hown, hx, _, _⟩ => ⟨A, c, he, hown, h.ext hx⟩
end


/-- What an act leaves as it was. -/
structure Lasts (d N : Int) (x x' : Dk) : Prop where
  in' : x'.s ≤ x'.l.length
  stays : d ≠ 2 → x.s ≤ x'.s ∧ x'.l.take x.s = x.l.take x.s
  cut : d = 2 → x'.l = x.l ∨ ((x'.l.length : Int) = N ∧ (x'.s : Int) = N)
  begins : x'.l.length ≤ x.l.length → x.l.take x'.l.length = x'.l
  boots : d = 4 → x'.off = false ∧ x'.s = x'.l.length ∧ x'.l.length ≤ x.l.length
  shorter : d ≠ 0 → x'.l.length ≤ x.l.length
theorem lasts_same {d N : Int} {x x' : Dk} (hd : d ≠ 4) (hl : x'.l = x.l) (h1 : x.s ≤ x'.s) (h2 : x'.s ≤ x.l.length) : Lasts d N x x' :=
  { in' := by rw [hl]; exact h2, stays := fun _ => ⟨h1, by rw [hl]⟩, cut := fun _ => .inl hl, begins := fun _ => by rw [hl]; simp, boots := fun h => absurd h hd, shorter := fun _ => by rw [hl]; exact Nat.le_refl _ }
theorem lasts_more {N : Int} {x x' : Dk} (m : Bs) (hl : x'.l = x.l ++ m) (hs : x'.s = x.s) (h2 : x.s ≤ x.l.length) : Lasts 0 N x x' :=
  { in' := by rw [hl, hs]; simp; omega
    stays := fun _ => ⟨by omega, by rw [hl, List.take_append_of_le_length h2]⟩
    cut := fun h => by omega
    begins := fun h => by
      rw [hl, List.length_append] at h
      have hm : m = [] := List.eq_nil_of_length_eq_zero (by omega)
      rw [hl, hm]
      simp
    boots := fun h => by omega
    shorter := fun h => absurd rfl h }
theorem lasts_append {N : Int} (m : Bs) {x : Dk} (h2 : x.s ≤ x.l.length) : Lasts 0 N x (appendD m x).2 := by
  unfold appendD
  split
  · exact lasts_same (by decide) rfl (Nat.le_refl _) h2
  · split
    · exact lasts_same (by decide) rfl (Nat.le_refl _) h2
    · split
      · exact lasts_more _ rfl (goes_s x) h2
      · exact lasts_more _ rfl (goes_s x) h2
theorem lasts_sync {N : Int} {x : Dk} (h2 : x.s ≤ x.l.length) : Lasts 1 N x (syncD x).2 := by
  unfold syncD
  split
  · exact lasts_same (by decide) rfl (Nat.le_refl _) h2
  · split
    · exact lasts_same (by decide) (goes_l x) h2 (Nat.le_refl _)
    · obtain ⟨q, hq, hq2⟩ := emod_nat x.part (x.l.length - x.s + 1) (by omega)
      refine lasts_same (by decide) (goes_l x) ?_ ?_
      · show x.s ≤ x.s + _
        omega
      · show x.s + _ ≤ _
        rw [hq]
        simp
        omega
theorem lasts_keep {d N : Int} {x y : Dk} {n : Nat} (hd : d = 2 ∧ N = n ∨ d = 4 ∧ x.s ≤ n) (hn : n ≤ x.l.length) (hl : y.l = x.l.take n) (hs : y.s = n) (ho : d = 4 → y.off = false) : Lasts d N x y := by
  have hle : (x.l.take n).length = n := by simp; omega
  refine { in' := by rw [hl, hs, hle]; exact Nat.le_refl _, stays := fun h => ?_, cut := fun h => ?_, begins := fun _ => by rw [hl, hle], boots := fun h => ⟨ho h, by rw [hs, hl, hle], by rw [hl, hle]; exact hn⟩, shorter := fun _ => by rw [hl, hle]; exact hn }
  · have h4 : x.s ≤ n := by omega
    refine ⟨by omega, ?_⟩
    rw [hl, List.take_take, Nat.min_eq_left h4]
  · rw [hl, hs, hle]
    exact .inr ⟨by omega, by omega⟩
theorem lasts_cut {N : Int} {x : Dk} (h2 : x.s ≤ x.l.length) : Lasts 2 N x (cutD N x).2 := by
  unfold cutD
  split
  · exact lasts_same (by decide) rfl (Nat.le_refl _) h2
  · split
    · exact lasts_same (by decide) rfl (Nat.le_refl _) h2
    · rename_i hN
      have hgl := goes_l x
      have hk : Lasts 2 N x (keepD N.toNat (goesD x).2) := lasts_keep (n := N.toNat) (.inl ⟨rfl, by omega⟩) (by omega) (by show (goesD x).2.l.take _ = _; rw [hgl]) rfl (fun h => by omega)
      split
      · exact hk
      · split
        · exact hk
        · exact lasts_same (by decide) hgl (Nat.le_of_eq (goes_s x).symm) (by show (goesD x).2.s ≤ _; rw [goes_s]; exact h2)
theorem lasts_arm {N : Int} (n m : Int) {x : Dk} (h2 : x.s ≤ x.l.length) : Lasts 3 N x (armD n m x) := lasts_same (by decide) rfl (Nat.le_refl _) h2
theorem lasts_boot {N : Int} (k : Int) {x : Dk} (h2 : x.s ≤ x.l.length) : Lasts 4 N x (bootD k x) := by
  obtain ⟨q, hq, hq2⟩ := emod_nat k (x.l.length - x.s + 1) (by omega)
  have hb : bootD k x = { keepD (x.s + q) x with off := false, armed := false, acts := 0, part := 0 } := by rw [bootD, hq]; rfl
  rw [hb]
  exact lasts_keep (n := x.s + q) (.inr ⟨rfl, by omega⟩) (by omega) rfl rfl fun _ => rfl
end Go.Proofs.Ytebcpacenoedfaa
