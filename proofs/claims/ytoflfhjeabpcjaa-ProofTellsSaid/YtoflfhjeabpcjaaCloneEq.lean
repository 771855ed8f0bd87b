/- bytes.Clone and bytes.Equal; no condition. -/
import Derived.Test.YtoflfhjeabpcjaaBufs2
namespace Go.Proofs.Ytoflfhjeabpcjaa
set_option linter.unusedVariables false
set_option linter.unusedSimpArgs false
open Go.RowKit

theorem str_eqb (s t : Bs) : ((⟨s.toArray⟩ : ByteArray) == ⟨t.toArray⟩) = decide (s = t) := by
  rw [beq_toListBytes, ByteArray.toList_eq, ByteArray.toList_eq]
  by_cases h : s = t <;> simp [h]
theorem equal_walk {w : World} {D D' : Nat → Prop} {v v' : Value} {l l' : Bs} (h : Byt D w v l) (h' : Byt D' w v' l') : Calls Try.prog 60 #[v, v'] w fun e w' => e = .returned (.bool (decide (l = l'))) ∧ w = w' := by
  have hc := h.conv 22 5 9 Try.underlying22 Try.underlying5 Try.underlying9 w rfl
  have hc' := h'.conv 22 5 9 Try.underlying22 Try.underlying5 Try.underlying9 w rfl
  have he := str_eqb l l'
  clear h h'
  go_enter Try.func60, Try.ntmps60
  go_wp2_with fail
  go_ret
  refine ⟨?_, rfl⟩
  show Ending.returned (.bool (l == l')) = _
  rw [show (l == l') = decide (l = l') from by rw [Bool.eq_iff_iff]; simp]

theorem OwnB.formv {w : World} {v : Value} {l : Bs} (h : OwnB w v l) : ∃ A c, v = .slice A l.length c := by
  rcases h with ⟨rfl, rfl⟩ | ⟨g, c, cells, fr, rfl, _⟩
  · exact ⟨none, 0, rfl⟩
  · exact ⟨_, _, rfl⟩
theorem info_u8c : (Try.prog.info? 5).map (fun i => (i.zero, i.size, i.bytes)) = some (some (.int .u8 0), 1, 1) := by kernel_rfl
/-- What is cloned is the clone's own. -/
theorem clone_walk {w : World} {D : Nat → Prop} {v : Value} {l : Bs} (hb : Byt D w v l) (hl : l.length ≤ 140737488355328) :
    Calls Try.prog 67 #[v] w fun e w' => ∃ v', e = .returned v' ∧ OwnB w' v' l ∧ Ext (fun _ => False) w w' ∧ ∀ k, v'.ownBlock = some k → w.heap.size ≤ k := by
  have kn := fun (W : World) (a : Option Addr) (n c : Nat) => Lib.run_eql_slice_nil (P := Try.prog) W 22 5 a n c 0 0 Try.underlying22
  have Hb := Lib.hid hb
  obtain ⟨A, c, rfl, hcap, hat⟩ := hb
  cases A with
  | none =>
    have hnil : l = [] := Classical.byContradiction fun hne => by
      obtain ⟨ad, h1, _⟩ := hat hne
      cases h1
    subst hnil
    clear hat
    go_enter Try.func67, Try.ntmps67
    go_wp2_with fail
    go_ret
    exact ⟨_, rfl, .inl ⟨rfl, rfl⟩, Ext.refl _ _, fun k hk => by simp [Value.ownBlock] at hk⟩
  | some ad =>
    clear hat hcap
    go_enter Try.func67, Try.ntmps67
    go_wp2_with (at_builtin; refine Hid.out ?_)
    refine Lib.hid ?_
    have hxa : ∀ o, Ext (fun _ => False) w (w.alloc o) := fun o => (Ext.refl _ _).alloc o
    refine wpList_append_bytes rfl _ _ 22 rfl Try.underlying22 info_u8c (sv := .slice (some ⟨w.heap.size, 0, none⟩) 0 0) (xv := .slice (some ad) l.length c) (l := []) rfl rfl
      (.inr ⟨w.heap.size, 0, #[], (0, 0), rfl, heap_alloc_self _ _, Nat.le_refl _, Nat.le_refl _, by decide, fun i hi => by omega, fun j u hu => by simp at hu⟩) (Hb.out.same (hxa _)) (by simpa using hl) ?_
    intro v2 w2 hown2 hx2 hb2
    obtain ⟨A2, c2, hv2⟩ := hown2.formv
    subst hv2
    have hx : Ext (fun _ => False) w w2 := (hxa _).trans' hx2 fun b hb => .inr (by simp [Value.ownBlock] at hb; omega)
    have hb3 : ∀ k, (Value.slice A2 ([] ++ l).length c2).ownBlock = some k → w.heap.size ≤ k := by
      intro k hk
      rcases hb2 with h | ⟨b, h, hle⟩
      · rw [h] at hk; simp [Value.ownBlock] at hk; omega
      · rw [h] at hk; simp at hk hle; omega
    have H := Lib.hid (And.intro hown2 (And.intro hx hb3))
    clear hb2 hx2 hb3 hx hown2
    go_wp2_with fail
    go_ret
    exact ⟨_, rfl, H.out.1, H.out.2.1, H.out.2.2⟩
end Go.Proofs.Ytoflfhjeabpcjaa
