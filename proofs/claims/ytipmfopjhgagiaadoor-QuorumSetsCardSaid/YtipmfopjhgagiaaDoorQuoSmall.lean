/- The small case; no condition. -/
import Derived.Test.YtipmfopjhgagiaaDoorAgree
import Derived.Test.YtipmfopjhgagiaaDoorQuo4
namespace Go.Proofs.YtipmfopjhgagiaaDoor
set_option linter.unusedVariables false
set_option linter.unusedSimpArgs false
open Go.RowKit

theorem small_best : IsBest (Pass 2 [[97], [98], [97], []]) [97] := by
  refine .inr ⟨⟨by decide, by decide⟩, fun s hs => ?_⟩
  have hm : s ∈ ([[97], [98], [97], []] : List Bs) := List.count_pos_iff.1 (by have := hs.2; omega)
  simp at hm
  rcases hm with rfl | rfl | rfl | rfl
  · decide
  · exact absurd hs.2 (by decide)
  · decide
  · exact absurd rfl hs.1
theorem row_lit {α : Type} (enc : α → Value) {w : World} {g : Nat} {t : TypeId} {l : List α} (h : w.heap[g]? = some (.cells (l.map enc).toArray t (0, 0))) :
    Row (fun w g n x => w.cell? ⟨g, n, none⟩ = some (enc x)) 1 (fun _ => True) w (.slice (some ⟨g, 0, none⟩) l.length l.length) l :=
  ⟨_, _, rfl, Nat.le_refl _, fun _ => ⟨g, 0, rfl, trivial, fun i x hx => by
    show w.cell? ⟨g, 0 + i * 1, none⟩ = some (enc x)
    rw [cells_at h, show 0 + i * 1 = i by omega]
    simp [hx]⟩⟩
theorem quo_small (w : World) : Calls Tryd.prog 5 #[] w fun e w' => e = .returned (.bool true) ∧ Ext (fun _ => False) w w' := by
  have hxa := fun (w : World) (o : Obj) => (Ext.refl (fun _ => False) w).alloc o
  have hs1 := quo_size 1
  have hs3 := quo_most 4
  have hs4 := quo_few 4
  have hs5 := quo_count 5
  have hs6 := quo_is 4 7
  have hs7 := quo_is 4 5
  rw [show sizeQ 1 = (4, 0) by decide +kernel] at hs1
  rw [show mostQ 4 = 3 by decide +kernel] at hs3
  rw [show fewQ 4 = 2 by decide +kernel] at hs4
  rw [show pc (setN 5) = 2 by decide +kernel] at hs5
  rw [show decide (isQ 4 7) = true by decide +kernel] at hs6
  rw [show decide (isQ 4 5) = false by decide +kernel] at hs7
  have H := Lib.hid (And.intro (And.intro hs1 (And.intro hs3 hs4)) (And.intro hs5 (And.intro hs6 hs7)))
  clear hs1 hs3 hs4 hs5 hs6 hs7
  go_enter Tryd.func5, Tryd.ntmps5
  go_wp2_with fail
  refine (H.out.1.1 _).mono ?_
  rintro e _ ⟨rfl, rfl⟩
  go_wp2_with fail
  have hS := quo_Set (row_lit (fun x : Int => .int .i64 x) (l := [1, 3]) (heap_alloc_self w (Obj.cells #[.int .i64 1, .int .i64 3] 3))) (by simp)
  rw [show setS [1, 3] = (5, 0) by decide +kernel] at hS
  refine hS.mono ?_
  rintro e _ ⟨rfl, rfl⟩
  clear hS
  generalize hW : w.alloc (Obj.cells #[.int .i64 1, .int .i64 3] 3) = W
  have hxW : Ext (fun _ => False) w W := by subst hW; exact hxa _ _
  clear hW
  go_wp2_with fail
  have hA := quo_agreed (row_lit str (l := [[97], [98], [97], []]) (heap_alloc_self W (Obj.cells #[str [97], str [98], str [97], str []] 9))) (by simp) 4
  refine hA.mono ?_
  rintro e w4 ⟨b, rfl, hx4, hb⟩
  obtain rfl : b = [97] := hb.unique (.inr ⟨by decide +kernel, by
    rw [show (fewQ 4).toNat = 2 by decide +kernel]
    exact small_best⟩)
  clear hA hb
  have Hx := Lib.hid ((hxW.alloc _).trans hx4)
  clear hx4 hxW
  go_wp2_with fail
  refine (H.out.1.2.1 _).mono ?_
  rintro e _ ⟨rfl, rfl⟩
  go_wp2_with fail
  refine (H.out.1.2.2 _).mono ?_
  rintro e _ ⟨rfl, rfl⟩
  go_wp2_with fail
  refine (H.out.2.1 _).mono ?_
  rintro e _ ⟨rfl, rfl⟩
  go_wp2_with fail
  refine (H.out.2.2.1 _).mono ?_
  rintro e w5 ⟨rfl, hx5⟩
  go_wp2_with fail
  refine (H.out.2.2.2 _).mono ?_
  rintro e w6 ⟨rfl, hx6⟩
  have Hx6 := Lib.hid ((Hx.out.trans hx5).trans hx6)
  clear hx5 hx6
  go_wp2_with fail
  go_ret
  exact ⟨rfl, Hx6.out⟩
end Go.Proofs.YtipmfopjhgagiaaDoor
