/- Bytes filled up to whole blocks; no condition. -/
import Derived.Test.YtoflfhjeabpcjaaSha5
import Derived.Test.YtoflfhjeabpcjaaPlain2
namespace Go.Proofs.Ytoflfhjeabpcjaa
set_option linter.unusedVariables false
set_option linter.unusedSimpArgs false
open Go.RowKit

def lenV : Value → Nat
  | .slice _ n _ => n
  | _ => 0
def padZ (n : Nat) : Nat := (119 - n % 64) % 64
/-- Bytes filled up to whole blocks. -/
def fillB (l : Bs) : Bs := l ++ [128] ++ List.replicate (padZ l.length) 0 ++ beB (8 * (l.length : Int)) 8
theorem fillB_len (l : Bs) : (fillB l).length = 64 * ((l.length + 9 + padZ l.length) / 64) := by
  simp only [fillB, List.length_append, List.length_replicate, beB_len, List.length_cons, List.length_nil, padZ]
  omega
theorem made_fresh (w : World) (c : Nat) (hc : c ≤ 9223372036854775807) : FreshB w [] (.slice (some ⟨w.heap.size, 0, none⟩) 0 c) (w.alloc (Obj.cells (madeCells #[Value.int IntKind.u8 0] c) 5)) :=
  ⟨.inr ⟨w.heap.size, c, _, (0, 0), rfl, heap_alloc_self _ _, Nat.zero_le _, by rw [size_madeCells]; simp, hc, fun i _ h => by simp at h, fun j u hu => by simp at hu⟩, (Ext.refl _ _).alloc _, fun k hk => by
    simp only [Value.ownBlock, Option.some.injEq] at hk
    omega⟩

set_option maxRecDepth 100000 in
set_option maxHeartbeats 1000000 in
theorem filled_walk {w : World} {D : Nat → Prop} {v : Value} {l : Bs} (hv : Byt D w v l) (hl : l.length ≤ 140737488351232) :
    Calls Try.prog 93 #[v] w fun e w' => ∃ v', e = .returned v' ∧ FreshB w (fillB l) v' w' := by
  obtain ⟨A, c, rfl, hle, _⟩ := id hv
  have hmk : ∀ u : World, (Instr.makeSlice 22 (.int .i64 0) (.int .i64 ((l.length : Int) + 128))).run Try.prog u = .ok (.slice (some ⟨u.heap.size, 0, none⟩) 0 (l.length + 128)) (u.alloc (.cells (madeCells #[.int .u8 0] (l.length + 128)) 5)) := run_make_bytes 0 (l.length + 128) (by omega) (by omega)
  have Hv := Lib.hid hv
  have q8 : IntKind.i64.wrap (8 * (l.length : Int)) = 8 * (l.length : Int) := by rw [IntKind.wrap_i64]; omega
  clear hv hle
  go_enter Try.func93, Try.ntmps93
  go_wp2_with (at_builtin; refine Hid.out ?_)
  refine Lib.hid ?_
  have h0 : FreshB w [] (.slice (some ⟨w.heap.size, 0, none⟩) 0 (l.length + 128)) (w.alloc (Obj.cells (madeCells #[Value.int IntKind.u8 0] (l.length + 128)) 5)) := made_fresh w (l.length + 128) (by omega)
  refine wpList_append_bytes rfl _ _ 22 rfl Try.underlying22 info8p (sv := .slice (some ⟨w.heap.size, 0, none⟩) 0 (l.length + 128)) rfl rfl h0.own (Hv.out.same h0.ext) (by simp; omega) ?_
  intro v1 w1 hown1 hx1 hb1
  have h1 := h0.appended hown1 hx1 hb1
  rw [List.nil_append] at h1
  obtain ⟨A1, c1, hform1, _, _⟩ := h1.own.formP
  subst hform1
  have H1 := Lib.hid h1
  clear hown1 hx1 hb1 h1 h0
  go_wp2_with (at_builtin; refine Hid.out ?_)
  refine Lib.hid ?_
  refine wpList_append_bytes rfl _ _ 22 rfl Try.underlying22 info8p (sv := .slice A1 _ c1) rfl rfl (H1.out.step ((Ext.refl _ _).alloc _)).own (byt_lit w1 [128] (0, 0)) (by simp; omega) ?_
  intro v2 w2 hown2 hx2 hb2
  have h2 := (H1.out.step ((Ext.refl _ _).alloc _)).appended hown2 hx2 hb2
  have H2 := Lib.hid h2
  clear hown2 hx2 hb2 h2
  go_wp2_with fail
  go_loopw [3] (fun u W => ∃ z : Nat, z ≤ padZ l.length ∧ FreshB w (l ++ [128] ++ List.replicate z 0) u W) (fun u _ => l.length + 200 - lenV u)
  case atStart => exact ⟨0, by omega, by simpa using H2.out⟩
  case round =>
    obtain ⟨z, hz, hu⟩ := hrel
    obtain ⟨A3, c3, hform3, _, _⟩ := hu.own.formP
    subst hform3
    have hln : (l ++ [128] ++ List.replicate z 0).length = l.length + 1 + z := by simp; omega
    have hpz : padZ l.length < 64 := Nat.mod_lt _ (by decide)
    generalize hm : (l ++ [128] ++ List.replicate z 0).length = m at *
    by_cases hlt : z < padZ l.length
    · have hne : m % 64 ≠ 56 := by unfold padZ at hlt; omega
      have hne' : (((m : Int) % 64 != 56)) = true := by simp; omega
      have Hu := Lib.hid (And.intro hu hln)
      clear hu hln
      go_wp2_with (at_builtin; refine Hid.out ?_)
      refine Lib.hid ?_
      have hu1 := Hu.out.1.step ((Ext.refl (fun _ => False) _).alloc (.cells #[.int .u8 0] 5 (0, 0)))
      refine wpList_append_bytes rfl _ _ 22 rfl Try.underlying22 info8p (sv := .slice A3 m c3) rfl rfl hu1.own (byt_lit wr [0] (0, 0)) (by rw [hm]; have := Hu.out.2; simp; omega) ?_
      intro v3 w3 hown3 hx3 hb3
      have h3 := hu1.appended hown3 hx3 hb3
      rw [List.append_assoc, ← List.replicate_succ'] at h3
      obtain ⟨A4, c4, hform4, _, _⟩ := h3.own.formP
      subst hform4
      have H3 := Lib.hid h3
      clear hown3 hx3 hb3 h3 hu1
      go_wp2_with fail
      have h3 := H3.out
      have hl3 : List.length (l ++ [128] ++ List.replicate (z + 1) 0) = l.length + (z + 1 + 1) := by simp
      rw [hl3] at h3
      refine ⟨⟨z + 1, by omega, h3⟩, ?_⟩
      have := Hu.out.2
      simp [lenV]
      omega
    · have hze : z = padZ l.length := by omega
      have hne : m % 64 = 56 := by unfold padZ at hze; omega
      have hne' : (((m : Int) % 64 != 56)) = false := by simp; omega
      have Hu := Lib.hid (And.intro hu hln)
      have HN := Lib.hid (num_walk wr (8 * (l.length : Int)))
      clear hu hln
      go_wp2_with fail
      refine HN.out.mono ?_
      rintro e w4 ⟨v4, rfl, h4⟩
      have hu4 := Hu.out.1.step h4.ext
      obtain ⟨A4, c4, hform4, _, _⟩ := h4.own.formP
      subst hform4
      have H4 := Lib.hid (And.intro h4 hu4)
      clear h4 hu4
      go_wp2_with (at_builtin; refine Hid.out ?_)
      refine Lib.hid ?_
      refine wpList_append_bytes rfl _ _ 22 rfl Try.underlying22 info8p (sv := .slice A3 m c3) rfl rfl H4.out.2.own H4.out.1.byt (by rw [hm]; have := Hu.out.2; simp [beB_len]; omega) ?_
      intro v5 w5 hown5 hx5 hb5
      have h5 := H4.out.2.appended hown5 hx5 hb5
      have H5 := Lib.hid h5
      clear hown5 hx5 hb5 h5
      go_wp2_with fail
      go_ret
      have h5 := H5.out
      rw [hze] at h5
      exact ⟨_, rfl, h5⟩
end Go.Proofs.Ytoflfhjeabpcjaa
