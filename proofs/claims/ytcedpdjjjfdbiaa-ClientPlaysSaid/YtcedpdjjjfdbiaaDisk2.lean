/- The disk's acts; no condition. -/
import Derived.Test.YtcedpdjjjfdbiaaDisk
namespace Go.Proofs.Ytcedpdjjjfdbiaa
set_option linter.unusedVariables false
set_option linter.unusedSimpArgs false
open Go.RowKit

theorem goes_l (x : Dk) : (goesD x).2.l = x.l := by
  unfold goesD
  split
  · rfl
  · split <;> rfl
theorem goes_s (x : Dk) : (goesD x).2.s = x.s := by
  unfold goesD
  split
  · rfl
  · split <;> rfl
theorem goes_part (x : Dk) : (goesD x).2.part = x.part := by
  unfold goesD
  split
  · rfl
  · split <;> rfl

def appendD (m : Bs) (x : Dk) : Int × Dk :=
  if x.off then (18, x) else if 4194304 - x.l.length < m.length then (16, x) else
  if (goesD x).1 then (0, { (goesD x).2 with l := x.l ++ m }) else (18, { (goesD x).2 with l := x.l ++ m.take (x.part % (m.length + 1 : Nat)).toNat })

theorem info_u8 : (Try.prog.info? 5).map (fun i => (i.zero, i.size, i.bytes)) = some (some (.int .u8 0), 1, 1) := by kernel_rfl

/-- The beginning of bytes. -/
theorem Byt.take {D : Nat → Prop} {w : World} {A : Option Addr} {c : Nat} {m : Bs} (h : Byt D w (.slice A m.length c) m) {n : Nat} (hn : n ≤ m.length) (c' : Nat) (hc' : n ≤ c') : Byt D w (.slice A n c') (m.take n) := by
  obtain ⟨A', c1, e, h1, h2⟩ := h
  cases e
  have hl : (m.take n).length = n := by simp; omega
  refine ⟨A, c', by rw [hl], by rw [hl]; exact hc', fun hne => ?_⟩
  obtain ⟨ad, e1, e2, e3⟩ := h2 (by rintro rfl; exact hne (by simp))
  refine ⟨ad, e1, e2, fun j u hu => e3 j u ?_⟩
  have hj : j < n := by
    have := (List.getElem?_eq_some_iff.1 hu).1
    omega
  rwa [List.getElem?_take_of_lt hj] at hu

end Go.Proofs.Ytcedpdjjjfdbiaa
