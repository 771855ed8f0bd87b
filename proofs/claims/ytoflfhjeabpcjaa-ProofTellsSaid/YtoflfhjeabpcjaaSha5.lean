/- The constants, and the first words; no condition. -/
import Derived.Test.YtoflfhjeabpcjaaSha4
import Derived.Laws.Tables
namespace Go.Proofs.Ytoflfhjeabpcjaa
set_option linter.unusedVariables false
set_option linter.unusedSimpArgs false
open Go.RowKit

def hs0 : List Nat := [1779033703, 3144134277, 1013904242, 2773480762, 1359893119, 2600822924, 528734635, 1541459225]
def ks0 : List Nat := [
  1116352408, 1899447441, 3049323471, 3921009573, 961987163, 1508970993, 2453635748, 2870763221,
  3624381080, 310598401, 607225278, 1426881987, 1925078388, 2162078206, 2614888103, 3248222580,
  3835390401, 4022224774, 264347078, 604807628, 770255983, 1249150122, 1555081692, 1996064986,
  2554220882, 2821834349, 2952996808, 3210313671, 3336571891, 3584528711, 113926993, 338241895,
  666307205, 773529912, 1294757372, 1396182291, 1695183700, 1986661051, 2177026350, 2456956037,
  2730485921, 2820302411, 3259730800, 3345764771, 3516065817, 3600352804, 4094571909, 275423344,
  430227734, 506948616, 659060556, 883997877, 958139571, 1322822218, 1537002063, 1747873779,
  1955562222, 2024104815, 2227730452, 2361852424, 2428436474, 2756734187, 3204031479, 3329325298]
theorem Ext.setRow {F : Nat → Prop} {w w' : World} (h : Ext F w w') {g : Nat} (hg : F g ∨ w.heap.size ≤ g) (cs : Array Value) : Ext F w (w'.setRow g cs) :=
  ⟨h.os, h.tape, h.output, by rw [setRow_size]; exact h.size, fun k hk hF => by
    rw [setRow_other w' g k cs (by rintro rfl; rcases hg with hg | hg; exact hF hg; omega)]
    exact h.block k hk hF⟩

set_option maxRecDepth 100000 in
set_option maxHeartbeats 1000000 in
theorem first_walk (w : World) : Calls Try.prog 91 #[] w fun e w' => e = .returned (.agg (hs0.map u32).toArray) ∧ Ext (fun _ => False) w w' := by
  have hxa := fun o => (Ext.refl (fun _ => False) w).alloc o
  have hob := heap_alloc_self w
  have hH := Lib.hid (And.intro hxa hob)
  clear hxa hob
  go_enter Try.func91, Try.ntmps91
  go_wp2_with (refine wpList_store_row rfl 126 _ _ rfl w.heap.size _ rfl rfl 126 _ (hH.out.2 _) (by kernel_rfl) (by kernel_rfl) (by kernel_rfl) ?_)
  refine bodyPost_ret (results_cell_row rfl _ _ w.heap.size 126 _ (0, 0) _ rfl (setRow_heap _ _ _ _ _ _ (hH.out.2 _)) Try.underlying126 rfl (by kernel_rfl)) rfl ?_
  refine ⟨rfl, (hH.out.1 _).setRow (.inr (Nat.le_refl _)) _⟩

set_option maxRecDepth 100000 in
set_option maxHeartbeats 1000000 in
theorem constants_walk (w : World) : Calls Try.prog 92 #[] w fun e w' => e = .returned (.agg (ks0.map u32).toArray) ∧ Ext (fun _ => False) w w' := by
  have hxa := fun o => (Ext.refl (fun _ => False) w).alloc o
  have hob := heap_alloc_self w
  have hH := Lib.hid (And.intro hxa hob)
  clear hxa hob
  go_enter Try.func92, Try.ntmps92
  go_wp2_with (refine wpList_store_row rfl 128 _ _ rfl w.heap.size _ rfl rfl 128 _ (hH.out.2 _) (by kernel_rfl) (by kernel_rfl) (by kernel_rfl) ?_)
  refine bodyPost_ret (results_cell_row rfl _ _ w.heap.size 128 _ (0, 0) _ rfl (setRow_heap _ _ _ _ _ _ (hH.out.2 _)) Try.underlying128 rfl (by kernel_rfl)) rfl ?_
  refine ⟨rfl, (hH.out.1 _).setRow (.inr (Nat.le_refl _)) _⟩
end Go.Proofs.Ytoflfhjeabpcjaa
