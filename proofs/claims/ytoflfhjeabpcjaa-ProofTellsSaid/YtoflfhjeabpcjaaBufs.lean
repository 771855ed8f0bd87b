/- Byte slices that their owner may write: what is made of a string, rows of them; no condition. -/
import Derived.Test.YtoflfhjeabpcjaaOps
import Derived.Test.YtoflfhjeabpcjaaOpens
import Derived.Lib.ConvBytes
namespace Go.Proofs.Ytoflfhjeabpcjaa
set_option linter.unusedVariables false
set_option linter.unusedSimpArgs false
open Go.RowKit

/-- The slice value v owns its block whole: its bytes are l, its c places are cells that may be written. -/
def OwnB (w : World) (v : Value) (l : Bs) : Prop :=
  (v = .slice none 0 0 ∧ l = []) ∨
  ∃ (g c : Nat) (cells : Array Value) (fr : Nat × Nat), v = .slice (some ⟨g, 0, none⟩) l.length c ∧ w.heap[g]? = some (.cells cells 5 fr) ∧ l.length ≤ c ∧ c ≤ cells.size ∧ c ≤ 9223372036854775807 ∧ (∀ i, i < c → ¬ (fr.1 ≤ i ∧ i < fr.2)) ∧
    ∀ (j : Nat) (u : UInt8), l[j]? = some u → cells[j]? = some (Value.int .u8 u.toNat)

theorem OwnB.ext {F : Nat → Prop} {w w' : World} {v : Value} {l : Bs} (h : OwnB w v l) (he : Ext F w w') (hF : ∀ k, v.ownBlock = some k → ¬ F k) : OwnB w' v l := by
  rcases h with h | ⟨g, c, cells, fr, rfl, hg, r⟩
  · exact .inl h
  · exact .inr ⟨g, c, cells, fr, rfl, he.heap hg (hF g rfl), r⟩
theorem OwnB.lt {w : World} {v : Value} {l : Bs} (h : OwnB w v l) : ∀ k, v.ownBlock = some k → k < w.heap.size := by
  rcases h with ⟨rfl, _⟩ | ⟨g, c, cells, fr, rfl, hg, r⟩
  · intro k hk; simp [Value.ownBlock] at hk
  · intro k hk
    simp only [Value.ownBlock, Option.some.injEq] at hk
    subst hk
    exact lt_of_heap hg
theorem OwnB.ty {w : World} {v : Value} {l : Bs} (h : OwnB w v l) : ∀ k, v.ownBlock = some k → ∃ cs fr, w.heap[k]? = some (.cells cs 5 fr) := by
  rcases h with ⟨rfl, _⟩ | ⟨g, c, cells, fr, rfl, hg, r⟩
  · intro k hk; simp [Value.ownBlock] at hk
  · intro k hk
    simp only [Value.ownBlock, Option.some.injEq] at hk
    subst hk
    exact ⟨_, _, hg⟩
theorem OwnB.byt {w : World} {v : Value} {l : Bs} (h : OwnB w v l) : Byt (fun k => v.ownBlock = some k) w v l := by
  rcases h with ⟨rfl, rfl⟩ | ⟨g, c, cells, fr, rfl, hg, h1, h2, h3, h4, h5⟩
  · exact ⟨none, 0, rfl, Nat.le_refl _, fun h => absurd rfl h⟩
  · refine ⟨_, c, rfl, h1, fun _ => ⟨_, rfl, rfl, fun j u hu => ?_⟩⟩
    have ha : (⟨g, 0, none⟩ : Addr).add j = ⟨g, j, none⟩ := by unfold Addr.add; split <;> simp_all
    rw [ha, cells_at hg]
    exact h5 j u hu

section
variable {P : Program} {ops : Array Oper} {rest : List Oper} {o : Oper} {a : Act} {Q : Exit → Act → World → Prop} {w : World}

theorem grownCap_le (w : World) (n : Nat) (e : TypeId) (hn : n < 9223372036854775808) : n ≤ grownCap w n 0 e ∧ grownCap w n 0 e ≤ 9223372036854775807 := by
  unfold grownCap
  simp only [Question.cut]
  have : w.tape w.drawn (.appendCap n 0 e) % (2 ^ 63 - n) < 2 ^ 63 - n := Nat.mod_lt _ (by omega)
  omega

theorem run_str_bytes {src dst : TypeId} (hs : P.underlying src = some .string) (hd : P.underlying dst = some (.slice 5)) (he : P.underlying 5 = some (.int .u8)) (w : World) (l : Bs) (hl : l.length < 9223372036854775808) :
    ∃ c w', (convert src dst (str l)).run P w = .ok (.slice (some ⟨w.heap.size, 0, none⟩) l.length c) w' ∧ OwnB w' (.slice (some ⟨w.heap.size, 0, none⟩) l.length c) l ∧ Ext (fun _ => False) w w' ∧ w'.heap.size = w.heap.size + 1 := by
  have hr := Lib.run_convert_string_bytes (P := P) w src dst 5 ⟨l.toArray⟩ hs hd he
  have hsz : (⟨l.toArray⟩ : ByteArray).size = l.length := by simp [ByteArray.size]
  have hc := grownCap_le w l.length 5 hl
  rw [hsz] at hr
  refine ⟨_, _, hr, .inr ⟨_, _, _, _, rfl, Lib.bytesWorld_at_new _ _ _, hc.1, ?_, hc.2, ?_, ?_⟩, ⟨rfl, rfl, rfl, by rw [Lib.bytesWorld_size]; omega, fun k hk _ => Lib.bytesWorld_at_old _ _ _ _ hk⟩, Lib.bytesWorld_size _ _ _⟩
  · simp [Lib.bytesCells, hsz]; omega
  · intro i hi
    simp [Lib.bytesCells, hsz]
    omega
  · intro j u hu
    have hj : j < l.length := (List.getElem?_eq_some_iff.1 hu).1
    rw [List.getElem?_eq_getElem hj] at hu
    injection hu with hu
    simp [Lib.bytesCells, Array.getElem?_append, hj, hu]

theorem wpList_str_bytes {src dst : TypeId} (hs : P.underlying src = some .string) (hd : P.underlying dst = some (.slice 5)) (he : P.underlying 5 = some (.int .u8)) (hgd : o.guard = none) (x : Operand) (ho : o.op = .convert src dst x)
    {l : Bs} (hx : a.eval x = str l) (hl : l.length < 9223372036854775808)
    (next : ∀ c w', OwnB w' (.slice (some ⟨w.heap.size, 0, none⟩) l.length c) l → Ext (fun _ => False) w w' → w'.heap.size = w.heap.size + 1 → wpList P ops Q rest (a.put o.dst (.slice (some ⟨w.heap.size, 0, none⟩) l.length c)) w') : wpList P ops Q (o :: rest) a w := by
  obtain ⟨c, w', hr, h1, h2, h3⟩ := run_str_bytes hs hd he w l hl
  refine wpList_val hgd (v := .slice (some ⟨w.heap.size, 0, none⟩) l.length c) (w' := w') ?_ (next c w' h1 h2 h3)
  simp only [execOp, ho, hx, Sem.run_bind, hr, Result.andThen_ok, Sem.run_pure]
end

/-- Rows of bytes that their owner may write, each in a block of its own, all from block N on. -/
structure OwnRows (N : Nat) (w : World) (v : Value) (vs : List Value) (ls : List Bs) : Prop where
  row : w.ownsRow N 22 1 v ls.length vs
  len : vs.length = ls.length
  each : ∀ (i : Nat) (u : Value) (l : Bs), vs[i]? = some u → ls[i]? = some l → OwnB w u l
  from_ : ∀ (i : Nat) (u : Value) k, vs[i]? = some u → u.ownBlock = some k → N ≤ k
  apart : ∀ (i j : Nat) (u u' : Value) k, vs[i]? = some u → vs[j]? = some u' → u.ownBlock = some k → u'.ownBlock = some k → i = j

theorem OwnRows.ext {F : Nat → Prop} {N : Nat} {w w' : World} {v : Value} {vs : List Value} {ls : List Bs} (h : OwnRows N w v vs ls) (he : Ext F w w') (hF : ∀ k, N ≤ k → ¬ F k) (hN : ∀ k, v.ownBlock = some k → N ≤ k) : OwnRows N w' v vs ls :=
  { row := own_ext h.row he fun k hk => hF k (hN k hk)
    len := h.len
    each := fun i u l hu hl => (h.each i u l hu hl).ext he fun k hk => hF k (h.from_ i u k hu hk)
    from_ := h.from_, apart := h.apart }
theorem own_slice_form {w : World} {b : Nat} {e : TypeId} {size n : Nat} {v : Value} {xs : List Value} (h : w.ownsRow b e size v n xs) : ∃ A c, v = .slice A n c := by
  rcases h.2 with ⟨rfl, rfl⟩ | ⟨g, cap, cur, rfl, _⟩
  · exact ⟨_, _, rfl⟩
  · exact ⟨_, _, rfl⟩
theorem own_from {w : World} {b : Nat} {e : TypeId} {size n : Nat} {v : Value} {xs : List Value} (h : w.ownsRow b e size v n xs) : ∀ k, v.ownBlock = some k → b ≤ k := by
  intro k hk
  rcases h.2 with ⟨rfl, _⟩ | ⟨g, cap, cur, rfl, hg, hh, r⟩
  · simp [Value.ownBlock] at hk
  · simp only [Value.ownBlock, Option.some.injEq] at hk
    omega
/-- One row more. -/
theorem OwnRows.snoc {N : Nat} {w w2 : World} {v v' u : Value} {vs : List Value} {ls : List Bs} {l : Bs} (h : OwnRows N w v vs ls) (hx : Ext (fun k => v.ownBlock = some k) w w2)
    (hrow : w2.ownsRow N 22 1 v' (ls.length + 1) (vs ++ [u])) (hu : OwnB w2 u l) (hn : ∀ k, u.ownBlock = some k → w.heap.size ≤ k) (hN : N ≤ w.heap.size) : OwnRows N w2 v' (vs ++ [u]) (ls ++ [l]) := by
  have hvt : ∀ (i : Nat) (x : Value) k, vs[i]? = some x → x.ownBlock = some k → v.ownBlock ≠ some k := by
    intro i x k hx1 hk e
    have hi : i < vs.length := (List.getElem?_eq_some_iff.1 hx1).1
    obtain ⟨cs, hcs⟩ := own_ty h.row k e
    obtain ⟨cs', fr, hcs'⟩ := (h.each i x _ hx1 (List.getElem?_eq_getElem (by rw [← h.len]; exact hi))).ty k hk
    rw [hcs] at hcs'
    simp at hcs'
  have hold : ∀ (i : Nat) (x : Value) k, vs[i]? = some x → x.ownBlock = some k → k < w.heap.size := by
    intro i x k hx1 hk
    have hi : i < vs.length := (List.getElem?_eq_some_iff.1 hx1).1
    exact (h.each i x _ hx1 (List.getElem?_eq_getElem (by rw [← h.len]; exact hi))).lt k hk
  have split : ∀ (i : Nat) (x : Value), (vs ++ [u])[i]? = some x → (i < vs.length ∧ vs[i]? = some x) ∨ (i = vs.length ∧ x = u) := by
    intro i x hi
    by_cases hlt : i < vs.length
    · rw [List.getElem?_append_left hlt] at hi
      exact .inl ⟨hlt, hi⟩
    · rw [List.getElem?_append_right (by omega)] at hi
      obtain ⟨h1, h2⟩ := List.getElem?_eq_some_iff.1 hi
      simp only [List.length_singleton] at h1
      have : i = vs.length := by omega
      subst this
      exact .inr ⟨rfl, by simpa using h2.symm⟩
  refine ⟨by simpa using hrow, by simp [h.len], fun i x y hi hy => ?_, fun i x k hi hk => ?_, fun i j x x' k hi hj hk hk' => ?_⟩
  · rcases split i x hi with ⟨hlt, hi⟩ | ⟨rfl, rfl⟩
    · rw [List.getElem?_append_left (by rw [← h.len]; exact hlt)] at hy
      exact (h.each i x y hi hy).ext hx fun k hk => hvt i x k hi hk
    · rw [List.getElem?_append_right (by rw [h.len]; omega)] at hy
      simp [h.len] at hy
      subst hy
      exact hu
  · rcases split i x hi with ⟨hlt, hi⟩ | ⟨rfl, rfl⟩
    · exact h.from_ i x k hi hk
    · have := hn k hk; omega
  · rcases split i x hi with ⟨hlt, hi1⟩ | ⟨hie, hxe⟩
    · rcases split j x' hj with ⟨hlt', hj1⟩ | ⟨hje, hxe'⟩
      · exact h.apart i j x x' k hi1 hj1 hk hk'
      · have := hn k (hxe' ▸ hk'); have := hold i x k hi1 hk; omega
    · rcases split j x' hj with ⟨hlt', hj1⟩ | ⟨hje, hxe'⟩
      · have := hn k (hxe ▸ hk); have := hold j x' k hj1 hk'; omega
      · omega
theorem OwnRows.nil (N : Nat) (w : World) : OwnRows N w (.slice none 0 0) [] [] := ⟨⟨by simp, .inl ⟨rfl, rfl⟩⟩, rfl, by simp, by simp, by simp⟩
end Go.Proofs.Ytoflfhjeabpcjaa
