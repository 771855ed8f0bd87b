/- The small case of the votes' statements; no condition. -/
import Derived.Test.YtebcpacenoedfaaVoteInv
import Derived.Laws.Pointers
namespace Go.Proofs.Ytebcpacenoedfaa
set_option linter.unusedVariables false
set_option linter.unusedSimpArgs false
open Go.RowKit

theorem byts_row {w : World} {g : Nat} {t : TypeId} {fr : Nat × Nat} {cs : Array Value} {ls : List Bs} {n : Nat} (h : w.heap[g]? = some (.cells cs t fr)) (hn : n = ls.length) (hc : cs.size = ls.length)
    (he : ∀ (i : Nat) (l : Bs), ls[i]? = some l → ∃ u, cs[i]? = some u ∧ Byt (fun _ => True) w u l) : Byts (fun _ => True) w (.slice (some ⟨g, 0, none⟩) n n) ls := by
  subst hn
  refine ⟨_, _, rfl, Nat.le_refl _, fun _ => ⟨g, 0, rfl, trivial, fun i l hl => ?_⟩⟩
  obtain ⟨u, hu, hb⟩ := he i l hl
  refine ⟨u, ?_, hb⟩
  rw [cells_at h]
  simpa using hu
set_option maxRecDepth 100000 in
theorem votes_small (w : World) : Calls Try.prog 6 #[] w fun e w' => e = .returned (.bool true) ∧ Ext (fun _ => False) w w' := by
  have kc := fun (w : World) (C : Array Value) (n c : Nat) => Lib.run_convert_bytes_const (P := Try.prog) w 36 5 C n c Try.underlying36 Try.underlying5
  have kc2 : ∀ (w : World) (o : Obj) (C : Array Value) (n c : Nat), (convert 36 36 (.slice (some ⟨w.heap.size + 1, 0, none⟩) n c)).run Try.prog ((w.alloc o).alloc (.cells C 5)) = .ok (.slice (some ⟨w.heap.size + 1, 0, none⟩) n c) ((w.alloc o).alloc (.cells C 5 (C.size, C.size + 1))) := fun w o C n c => by
    have h := kc (w.alloc o) C n c
    rwa [show (w.alloc o).heap.size = w.heap.size + 1 by simp] at h
  have hxa := fun (w : World) (o : Obj) => (Ext.refl (fun _ => False) w).alloc o
  go_enter Try.func6, Try.ntmps6
  go_wp2_with fail
  refine (inv_new w (Ext.refl _ _)).mono ?_
  rintro e w1 ⟨a, rfl, h1⟩
  go_wp2_with fail
  refine (d_open h1 (by kernel_rfl)).mono ?_
  rw [show openD ⟨false, false, 0, 0, [], 0⟩ = (0, ⟨false, false, 0, 0, [], 0⟩) by kernel_rfl]
  rw [show recs (Dk.l ⟨false, false, 0, 0, [], 0⟩) = ([], 0) by kernel_rfl]
  rintro e w2 ⟨va, A2, c2, vs2, rfl, h2, _⟩
  clear h1
  have h2' : VInv w w2 a va ⟨false, false, 0, 0, [], 0⟩ 0 0 false := h2
  clear h2
  go_wp2_with fail
  have hb : Byts (fun _ => True) (((w2.alloc (.cells #[.int .u8 97] 5 (1, 2))).alloc (.cells #[.int .u8 98, .int .u8 99] 5 (2, 3))).alloc (.cells #[.slice (some ⟨w2.heap.size, 0, none⟩) 1 1, .slice (some ⟨w2.heap.size + 1, 0, none⟩) 2 2] 36)) (.slice (some ⟨w2.heap.size + 2, 0, none⟩) 2 2) [[97], [98, 99]] := by
    have h1 : ((w2.alloc (.cells #[.int .u8 97] 5 (1, 2))).alloc (.cells #[.int .u8 98, .int .u8 99] 5 (2, 3))).heap.size = w2.heap.size + 2 := by simp
    have h0 : (w2.alloc (.cells #[.int .u8 97] 5 (1, 2))).heap.size = w2.heap.size + 1 := by simp
    have hA := Byt.const (l := [97]) (heap_alloc_self w2 (.cells #[.int .u8 97] 5 (1, 2))) rfl 1 rfl
    have hB := Byt.const (l := [98, 99]) (heap_alloc_self (w2.alloc (.cells #[.int .u8 97] 5 (1, 2))) (.cells #[.int .u8 98, .int .u8 99] 5 (2, 3))) rfl 2 rfl
    rw [h0] at hB
    have hA2 := ((hA.ext (hxa _ (.cells #[.int .u8 98, .int .u8 99] 5 (2, 3))) fun _ _ => id).ext (hxa _ (.cells #[.slice (some ⟨w2.heap.size, 0, none⟩) 1 1, .slice (some ⟨w2.heap.size + 1, 0, none⟩) 2 2] 36)) fun _ _ => id).mono (D' := fun _ => True) fun _ _ => trivial
    have hB2 := (hB.ext (hxa _ (.cells #[.slice (some ⟨w2.heap.size, 0, none⟩) 1 1, .slice (some ⟨w2.heap.size + 1, 0, none⟩) 2 2] 36)) fun _ _ => id).mono (D' := fun _ => True) fun _ _ => trivial
    rw [← h1]
    refine byts_row (heap_alloc_self _ _) rfl rfl fun i l hl => ?_
    match i, hl with
    | 0, hl => simp at hl; subst hl; exact ⟨_, rfl, hA2⟩
    | 1, hl => simp at hl; subst hl; exact ⟨_, rfl, hB2⟩
    | i + 2, hl => simp at hl
  refine (v_put (((h2'.ext (hxa _ _)).ext (hxa _ _)).ext (hxa _ _)) hb (by decide) (by decide) (by decide)).mono ?_
  rintro e w3 ⟨he, h3⟩
  rw [show putR ⟨false, false, 0, 0, [], 0⟩ 0 0 false [[97], [98, 99]] = ⟨0, ⟨false, false, 0, 0, [0, 0, 0, 1, 97, 0, 0, 0, 2, 98, 99], 11⟩, 2, 11, false⟩ by kernel_rfl] at he h3
  subst he
  clear hb h2'
  go_wp2_with fail
  refine (v_arm h3 0 3 (by decide)).mono ?_
  rintro e w4 ⟨rfl, h4⟩
  have h4' : VInv w w4 a va ⟨false, true, 0, 3, [0, 0, 0, 1, 97, 0, 0, 0, 2, 98, 99], 11⟩ 2 11 false := h4
  clear h4 h3
  go_wp2_with fail
  have hb : Byts (fun _ => True) ((w4.alloc (.cells #[.int .u8 100] 5 (1, 2))).alloc (.cells #[.slice (some ⟨w4.heap.size, 0, none⟩) 1 1] 36)) (.slice (some ⟨w4.heap.size + 1, 0, none⟩) 1 1) [[100]] := by
    have h0 : (w4.alloc (.cells #[.int .u8 100] 5 (1, 2))).heap.size = w4.heap.size + 1 := by simp
    have hA := Byt.const (l := [100]) (heap_alloc_self w4 (.cells #[.int .u8 100] 5 (1, 2))) rfl 1 rfl
    have hA2 := (hA.ext (hxa _ (.cells #[.slice (some ⟨w4.heap.size, 0, none⟩) 1 1] 36)) fun _ _ => id).mono (D' := fun _ => True) fun _ _ => trivial
    rw [← h0]
    refine byts_row (heap_alloc_self _ _) rfl rfl fun i l hl => ?_
    match i, hl with
    | 0, hl => simp at hl; subst hl; exact ⟨_, rfl, hA2⟩
    | i + 1, hl => simp at hl
  refine (v_put ((h4'.ext (hxa _ _)).ext (hxa _ _)) hb (by decide) (by decide) (by decide)).mono ?_
  rintro e w5 ⟨he, h5⟩
  rw [show putR ⟨false, true, 0, 3, [0, 0, 0, 1, 97, 0, 0, 0, 2, 98, 99], 11⟩ 2 11 false [[100]] = ⟨18, (putR ⟨false, true, 0, 3, [0, 0, 0, 1, 97, 0, 0, 0, 2, 98, 99], 11⟩ 2 11 false [[100]]).x, 2, 11, true⟩ by kernel_rfl] at he h5
  subst he
  clear hb h4'
  go_wp2_with fail
  refine (v_boot h5 9).mono ?_
  rintro e w6 ⟨rfl, h6⟩
  go_wp2_with fail
  refine (v_open h6 (by kernel_rfl)).mono ?_
  rw [show recs (bootD 9 (putR ⟨false, true, 0, 3, [0, 0, 0, 1, 97, 0, 0, 0, 2, 98, 99], 11⟩ 2 11 false [[100]]).x).l = ([[97], [98, 99]], 11) by kernel_rfl]
  rintro e w7 ⟨vb, A7, c7, vs7, rfl, _, h7, hr7⟩
  obtain ⟨g7, c7', u7, e7, _, hc7, hu7, _⟩ := rows_at hr7 (i := 1) (by decide)
  obtain ⟨rfl, rfl⟩ : A7 = some ⟨g7, 0, none⟩ ∧ c7 = c7' := by simpa using e7
  have hcv : (convert 36 9 u7).run Try.prog w7 = .ok (.string ⟨#[98, 99]⟩) w7 := hu7.byt.conv 36 5 9 Try.underlying36 Try.underlying5 Try.underlying9 w7 rfl
  have HC := v_count h7
  have Hx := Lib.hid h7.old
  clear h7 h6 h5 hr7 hu7 e7
  have hsl : ([[97], [98, 99]] : List Bs).length = 2 := rfl
  go_wp2_with fail
  refine HC.mono ?_
  rintro e _ ⟨rfl, rfl⟩
  go_wp2_with fail
  go_ret
  exact ⟨rfl, Hx.out⟩
end Go.Proofs.Ytebcpacenoedfaa
