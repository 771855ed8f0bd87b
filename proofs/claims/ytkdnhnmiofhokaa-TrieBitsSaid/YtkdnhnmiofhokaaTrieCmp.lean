/- bytes.Compare; no condition. -/
import Derived.Test.YtkdnhnmiofhokaaCloneEq
import Derived.Lib.BytesEntry
namespace Go.Proofs.Ytkdnhnmiofhokaa
set_option linter.unusedVariables false
set_option linter.unusedSimpArgs false
open Go.RowKit

theorem bytesOf_nums : ∀ l : Bs, Lib.bytesOf (l.map fun b => (b.toNat : Int)) = l
  | [] => rfl
  | c :: l => by
    have := bytesOf_nums l
    simp only [Lib.bytesOf, List.map_cons, List.map_map] at this ⊢
    rw [this]
    simp
theorem run_bytesOf {P : Program} {D : Nat → Prop} {w : World} {v : Value} {l : Bs} (h : Byt D w v l) : (Extern.Bytes.bytesOf v).run P w = .ok ⟨l.toArray⟩ w := by
  obtain ⟨A, c, rfl, hc, hat⟩ := h
  cases A with
  | none =>
    have hnil : l = [] := Classical.byContradiction fun hne => by
      obtain ⟨ad, h1, _⟩ := hat hne
      cases h1
    subst hnil
    rfl
  | some ad =>
    have hcell : ∀ (j : Nat) (x : Int), (l.map fun b => (b.toNat : Int))[j]? = some x → w.cell? (ad.add j) = some (.int .u8 x) := by
      intro j x hx
      rw [List.getElem?_map] at hx
      obtain ⟨u, hu, rfl⟩ := Option.map_eq_some_iff.1 hx
      have hne : l ≠ [] := by rintro rfl; simp at hu
      obtain ⟨ad', h1, _, h2⟩ := hat hne
      simp only [Option.some.injEq] at h1
      subst h1
      exact h2 j u hu
    have := Lib.run_loadBytesX (P := P) w _ ad .empty hcell
    rw [bytesOf_nums, List.length_map] at this
    simp only [Extern.Bytes.bytesOf, this]
    congr 1
    apply ByteArray.ext
    simp
theorem run_compareSlices {P : Program} {D D' : Nat → Prop} {w : World} {v v' : Value} {l l' : Bs} (h : Byt D w v l) (h' : Byt D' w v' l') :
    (Extern.BytealgCompare.compare #[v, v']).run P w = .ok (.int .i64 (Lib.compareBytes l l')) w := by
  change Sem.run P (do pure (goInt (Extern.BytealgCompare.cmp (← Extern.Bytes.bytesOf v) (← Extern.Bytes.bytesOf v')))) w = _
  simp only [Sem.run_bind, run_bytesOf h, run_bytesOf h', Sem.run_pure, Result.andThen]
  rw [Lib.cmp_eq]
  rfl
theorem compare_walk {w : World} {D D' : Nat → Prop} {v v' : Value} {l l' : Bs} (h : Byt D w v l) (h' : Byt D' w v' l') :
    Calls Try.prog 41 #[v, v'] w fun e w' => e = .returned (.int .i64 (Lib.compareBytes l l')) ∧ w = w' := by
  have H := Lib.hid (And.intro h h')
  clear h h'
  go_enter Try.func41, Try.ntmps41
  go_wp2_with fail
  rw [run_callFunc_extern Try.func59 (by kernel_rfl) (by kernel_rfl) (by kernel_rfl) (e := Extern.BytealgCompare.compare) (by kernel_rfl), run_compareSlices H.out.1 H.out.2]
  simp only [Result.andThen]
  rw [Oper.upon_value]
  go_wp2_with fail
  go_ret
  exact ⟨rfl, rfl⟩
theorem compare_pos : ∀ a b : Bs, 0 < Lib.compareBytes a b ↔ b < a
  | [], [] => by simp [Lib.compareBytes]
  | [], _ :: _ => by simp [Lib.compareBytes]
  | _ :: _, [] => by simp [Lib.compareBytes]
  | a :: x, b :: y => by
    have ih := compare_pos x y
    rw [Lib.compareBytes, List.cons_lt_cons_iff]
    by_cases h : a < b
    · rw [if_pos h]
      constructor
      · intro h'; omega
      · rintro (h' | ⟨rfl, _⟩)
        · exact absurd h' (UInt8.not_lt.2 (UInt8.le_of_lt h))
        · exact absurd h (UInt8.lt_irrefl _)
    · rw [if_neg h]
      by_cases h2 : b < a
      · rw [if_pos h2]
        exact ⟨fun _ => .inl h2, fun _ => by decide⟩
      · rw [if_neg h2, ih]
        have : a = b := UInt8.le_antisymm (UInt8.not_lt.1 h2) (UInt8.not_lt.1 h)
        subst this
        constructor
        · exact fun h => .inr ⟨rfl, h⟩
        · rintro (h' | ⟨_, h'⟩)
          · exact absurd h' h
          · exact h'
end Go.Proofs.Ytkdnhnmiofhokaa
