/- A row of blobs in bytes; no condition. -/
import Derived.Test.YtebcpacenoedfaaPlain
namespace Go.Proofs.Ytebcpacenoedfaa
set_option linter.unusedVariables false
set_option linter.unusedSimpArgs false
open Go.RowKit

/-- A slice of byte slices. -/
abbrev Byts (D : Nat → Prop) (w : World) (v : Value) (ls : List Bs) : Prop := Row (fun w g n x => ∃ u, w.cell? ⟨g, n, none⟩ = some u ∧ Byt D w u x) 1 D w v ls
theorem Byts.same {D : Nat → Prop} {w w' : World} {v : Value} {ls : List Bs} (h : Byts D w v ls) (hx : Ext (fun _ => False) w w') : Byts D w' v ls :=
  h.imp fun g n x _ ⟨u, hc, hb⟩ => ⟨u, cell_same hc hx, hb.same hx⟩
theorem Byts.ext {D F : Nat → Prop} {w w' : World} {v : Value} {ls : List Bs} (h : Byts D w v ls) (hx : Ext F w w') (hF : ∀ b, D b → ¬ F b) : Byts D w' v ls :=
  h.imp fun g n x hD ⟨u, hc, hb⟩ => ⟨u, cell_ext hc hx (hF g hD), hb.ext hx hF⟩
theorem Byts.mono {D D' : Nat → Prop} {w : World} {v : Value} {ls : List Bs} (h : Byts D w v ls) (hD : ∀ b, D b → D' b) : Byts D' w v ls := by
  obtain ⟨A, c, e, hc, h⟩ := h
  exact ⟨A, c, e, hc, fun hn => let ⟨g, o, e, hd, hr⟩ := h hn; ⟨g, o, e, hD g hd, fun i x hx => let ⟨u, h1, h2⟩ := hr i x hx; ⟨u, h1, h2.mono hD⟩⟩⟩
def rowB (ls : List Bs) : Bs := beB ls.length 4 ++ ls.flatMap blobB
/-- A row in bytes, and the answer's number. -/
def rowR (ls : List Bs) : Bs × Int := if ls.length ≤ 4096 ∧ ∀ l ∈ ls, l.length ≤ 65536 then (rowB ls, 0) else ([], 2)
theorem flat_len : ∀ (ls : List Bs), (∀ l ∈ ls, l.length ≤ 65536) → (ls.flatMap blobB).length ≤ ls.length * 65540
  | [], _ => by simp
  | l :: ls, h => by
    have h1 := flat_len ls fun x hx => h x (List.mem_cons_of_mem _ hx)
    have h2 := h l (List.mem_cons_self ..)
    simp only [List.flatMap_cons, List.length_append, blobB_len, List.length_cons]
    omega
theorem rowR_len (ls : List Bs) : (rowR ls).1.length ≤ 268451844 := by
  unfold rowR
  split
  · rename_i h
    have := flat_len ls h.2
    simp only [rowB, List.length_append, beB_len]
    have : ls.length * 65540 ≤ 4096 * 65540 := Nat.mul_le_mul_right _ h.1
    omega
  · simp
def RowPost (w : World) (ls : List Bs) (e : Ending) (w' : World) : Prop := ∃ v', e = .returned (.tuple #[v', .int .i64 (rowR ls).2]) ∧ FreshB w (rowR ls).1 v' w'

end Go.Proofs.Ytebcpacenoedfaa
