/- The small case; no condition. -/
import Derived.Test.YtcedpdjjjfdbiaaAgree
import Derived.Test.YtcedpdjjjfdbiaaQuo4
namespace Go.Proofs.Ytcedpdjjjfdbiaa
set_option linter.unusedVariables false
set_option linter.unusedSimpArgs false
open Go.RowKit

theorem small_best : IsBest (Pass 2 [[97], [98], [97], []]) [97] := by
  refine .inr ⟨⟨by decide, by decide⟩, fun s hs => ?_⟩
  have hm : s ∈ ([[97], [98], [97], []] : List Bs) := List.count_pos_iff.1 (by have := hs.2; omega)
  simp at hm
  rcases hm with rfl | rfl | rfl | rfl
  · decide
  · exact absurd hs.2 (by decide)
  · decide
  · exact absurd rfl hs.1
theorem row_lit {α : Type} (enc : α → Value) {w : World} {g : Nat} {t : TypeId} {l : List α} (h : w.heap[g]? = some (.cells (l.map enc).toArray t (0, 0))) :
    Row (fun w g n x => w.cell? ⟨g, n, none⟩ = some (enc x)) 1 (fun _ => True) w (.slice (some ⟨g, 0, none⟩) l.length l.length) l :=
  ⟨_, _, rfl, Nat.le_refl _, fun _ => ⟨g, 0, rfl, trivial, fun i x hx => by
    show w.cell? ⟨g, 0 + i * 1, none⟩ = some (enc x)
    rw [cells_at h, show 0 + i * 1 = i by omega]
    simp [hx]⟩⟩
end Go.Proofs.Ytcedpdjjjfdbiaa
