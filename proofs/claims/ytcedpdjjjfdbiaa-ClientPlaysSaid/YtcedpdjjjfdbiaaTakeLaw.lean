/- A row's bytes give the row back; no condition. -/
import Derived.Test.YtcedpdjjjfdbiaaCliRes2
namespace Go.Proofs.Ytcedpdjjjfdbiaa
set_option linter.unusedVariables false
set_option linter.unusedSimpArgs false
open Go.RowKit
theorem take_blobs : ∀ (ls : List Bs) (p : Bs) (done : List Bs), (∀ l ∈ ls, l.length ≤ 65536) → takeG ls.length (p ++ ls.flatMap blobB) p.length done = (done ++ ls, (p ++ ls.flatMap blobB).length, 0)
  | [], p, done, _ => by simp [takeG]
  | l :: ls, p, done, h => by
    have hd : (p ++ (l :: ls).flatMap blobB).drop p.length = blobB l ++ ls.flatMap blobB := by rw [List.drop_left' rfl, List.flatMap_cons]
    have ht := takeR_blob l (ls.flatMap blobB) (h l (by simp))
    rw [List.length_cons, takeG, hd, ht, if_pos rfl]
    have hp : p ++ (l :: ls).flatMap blobB = (p ++ blobB l) ++ ls.flatMap blobB := by simp
    have hl : p.length + (4 + l.length) = (p ++ blobB l).length := by rw [List.length_append, blobB_len]
    simp only
    rw [hl, hp, take_blobs ls (p ++ blobB l) (done ++ [l]) fun x hx => h x (by simp [hx])]
    simp
theorem takeRow_rowB {ls : List Bs} (h1 : ls.length ≤ 4096) (h2 : ∀ l ∈ ls, l.length ≤ 65536) : takeRow (rowB ls) = (ls, (rowB ls).length, 0) := by
  have hb : be4 (rowB ls) = ls.length := by
    rw [rowB]
    exact be4_beB _ (by omega) _
  have hlen : 4 ≤ (rowB ls).length := by simp [rowB, beB_len]
  rw [takeRow, if_neg (by omega), if_neg (by omega), hb]
  have := take_blobs ls (beB ls.length 4) [] h2
  rw [beB_len] at this
  rw [rowB]
  simpa using this
end Go.Proofs.Ytcedpdjjjfdbiaa
