/- A row of blobs in bytes; no condition. -/
import Derived.Test.YtoflfhjeabpcjaaPlain
namespace Go.Proofs.Ytoflfhjeabpcjaa
set_option linter.unusedVariables false
set_option linter.unusedSimpArgs false
open Go.RowKit

/-- A slice of byte slices. -/
abbrev Byts (D : Nat → Prop) (w : World) (v : Value) (ls : List Bs) : Prop := Row (fun w g n x => ∃ u, w.cell? ⟨g, n, none⟩ = some u ∧ Byt D w u x) 1 D w v ls
theorem Byts.same {D : Nat → Prop} {w w' : World} {v : Value} {ls : List Bs} (h : Byts D w v ls) (hx : Ext (fun _ => False) w w') : Byts D w' v ls :=
  h.imp fun g n x _ ⟨u, hc, hb⟩ => ⟨u, cell_same hc hx, hb.same hx⟩
theorem Byts.ext {D F : Nat → Prop} {w w' : World} {v : Value} {ls : List Bs} (h : Byts D w v ls) (hx : Ext F w w') (hF : ∀ b, D b → ¬ F b) : Byts D w' v ls :=
  h.imp fun g n x hD ⟨u, hc, hb⟩ => ⟨u, cell_ext hc hx (hF g hD), hb.ext hx hF⟩
theorem Byts.mono {D D' : Nat → Prop} {w : World} {v : Value} {ls : List Bs} (h : Byts D w v ls) (hD : ∀ b, D b → D' b) : Byts D' w v ls := by
  obtain ⟨A, c, e, hc, h⟩ := h
  exact ⟨A, c, e, hc, fun hn => let ⟨g, o, e, hd, hr⟩ := h hn; ⟨g, o, e, hD g hd, fun i x hx => let ⟨u, h1, h2⟩ := hr i x hx; ⟨u, h1, h2.mono hD⟩⟩⟩
def rowB (ls : List Bs) : Bs := beB ls.length 4 ++ ls.flatMap blobB
/-- A row in bytes, and the answer's number. -/
def rowR (ls : List Bs) : Bs × Int := if ls.length ≤ 4096 ∧ ∀ l ∈ ls, l.length ≤ 65536 then (rowB ls, 0) else ([], 2)
theorem flat_len : ∀ (ls : List Bs), (∀ l ∈ ls, l.length ≤ 65536) → (ls.flatMap blobB).length ≤ ls.length * 65540
  | [], _ => by simp
  | l :: ls, h => by
    have h1 := flat_len ls fun x hx => h x (List.mem_cons_of_mem _ hx)
    have h2 := h l (List.mem_cons_self ..)
    simp only [List.flatMap_cons, List.length_append, blobB_len, List.length_cons]
    omega
theorem rowR_len (ls : List Bs) : (rowR ls).1.length ≤ 268451844 := by
  unfold rowR
  split
  · rename_i h
    have := flat_len ls h.2
    simp only [rowB, List.length_append, beB_len]
    have : ls.length * 65540 ≤ 4096 * 65540 := Nat.mul_le_mul_right _ h.1
    omega
  · simp
def RowPost (w : World) (ls : List Bs) (e : Ending) (w' : World) : Prop := ∃ v', e = .returned (.tuple #[v', .int .i64 (rowR ls).2]) ∧ FreshB w (rowR ls).1 v' w'

set_option maxRecDepth 100000 in
set_option maxHeartbeats 1000000 in
theorem row_walk {w : World} {D : Nat → Prop} {v : Value} {ls : List Bs} (hv : Byts D w v ls) (h63 : ls.length ≤ 9223372036854775807) :
    Calls Try.prog 89 #[v] w (RowPost w ls) := by
  obtain ⟨A, c, rfl, hle, _⟩ := id hv
  have Hv := Lib.hid hv
  by_cases hbig : 4096 < ls.length
  · have hcm : decide ((4096 : Int) < (ls.length : Int)) = true := by simp; omega
    have hcm' : (4096 : Int) < (ls.length : Int) := by omega
    clear hv hle
    go_enter Try.func89, Try.ntmps89
    go_wp2_with fail
    refine bodyPost_ret (results_tmp2 rfl _ _ _) rfl ?_
    have hr : rowR ls = ([], 2) := by unfold rowR; rw [if_neg]; omega
    exact ⟨_, by rw [hr]; rfl, by rw [hr]; exact FreshB.nil w⟩
  have hcm : decide ((4096 : Int) < (ls.length : Int)) = false := by simp; omega
  have hcm' : ¬ (4096 : Int) < (ls.length : Int) := by omega
  have H := Lib.hid (put_walk (n := ls.length) (k := 4) (FreshB.nil w) (by decide) (by decide) (by simp))
  clear hv hle
  go_enter Try.func89, Try.ntmps89
  go_wp2_with fail
  refine H.out.mono ?_
  rintro e w1 ⟨v1, rfl, h1⟩
  have H1 := Lib.hid h1
  clear h1
  go_wp2_with fail
  go_loopw [4, 17] (fun u i W => ∃ k : Nat, k ≤ ls.length ∧ i = .int .i64 k ∧ FreshB w (beB ls.length 4 ++ (ls.take k).flatMap blobB) u W ∧ ∀ l ∈ ls.take k, l.length ≤ 65536) (fun _ i _ => ls.length - (intOf i).toNat)
  case atStart => exact ⟨0, by omega, rfl, by simpa using H1.out, by simp⟩
  case round =>
    obtain ⟨k, hk, rfl, hu, hall⟩ := hrel
    by_cases hlt : k < ls.length
    · obtain ⟨g, o, c', hav, hD, x, hcell, hbx⟩ := Hv.out.at hlt
      obtain ⟨rfl, rfl⟩ : A = some ⟨g, o, none⟩ ∧ c = c' := by simpa using hav
      clear hav
      rw [Nat.mul_one] at hcell
      have hcell' := cell_same hcell hu.ext
      have hbx' := hbx.same hu.ext
      have hlt' : (k : Int) < (ls.length : Int) := by omega
      have htk : ls.take (k + 1) = ls.take k ++ [ls[k]] := List.take_succ_eq_append_getElem hlt
      generalize hxl : ls[k] = xl at *
      have hmem : xl ∈ ls := by rw [← hxl]; exact List.getElem_mem hlt
      have hlen : (beB ls.length 4 ++ (ls.take k).flatMap blobB).length + 65540 ≤ 140737488355328 := by
        have := flat_len _ hall
        rw [List.length_append, beB_len]
        have h2 : (ls.take k).length * 65540 ≤ 4096 * 65540 := Nat.mul_le_mul_right _ (by simp; omega)
        omega
      have Hlen := Lib.hid hlen
      obtain ⟨A2, c2, hform, _, _⟩ := hu.own.formP
      subst hform
      have Hu := Lib.hid (And.intro hu (And.intro hall htk))
      clear hu hall htk hlen hcell hbx hxl
      generalize hp : beB ls.length 4 ++ (ls.take k).flatMap blobB = p at *
      have Hp := Lib.hid hp
      clear hp
      by_cases hxs : xl.length ≤ 65536
      · have HB := Lib.hid (blob_walk hbx' hxs)
        clear hbx'
        go_wp2_with fail
        refine HB.out.mono ?_
        rintro e w2 ⟨v2, rfl, h2⟩
        have hu2 := Hu.out.1.step h2.ext
        obtain ⟨A3, c3, hform3, _, _⟩ := h2.own.formP
        subst hform3
        have H2 := Lib.hid (And.intro h2 hu2)
        clear h2 hu2
        go_wp2_with (at_builtin; refine Hid.out ?_)
        refine Lib.hid ?_
        refine wpList_append_bytes rfl _ _ 22 rfl Try.underlying22 info8p (sv := .slice A2 _ c2) rfl rfl H2.out.2.own H2.out.1.byt (by have := Hlen.out; rw [blobB_len]; omega) ?_
        intro v3 w3 hown3 hx3 hb3
        have hfr := H2.out.2.appended hown3 hx3 hb3
        have HF := Lib.hid hfr
        clear hown3 hx3 hb3 hfr
        go_wp2_with fail
        refine ⟨⟨k + 1, by omega, by go_num, ?_, ?_⟩, by simp [intOf]; omega⟩
        · rw [Hu.out.2.2, List.flatMap_append, ← List.append_assoc, Hp.out]
          simpa using HF.out
        · rw [Hu.out.2.2]
          intro l hl
          rcases List.mem_append.1 hl with hl | hl
          · exact Hu.out.2.1 l hl
          · simp at hl; subst hl; exact hxs
      · have HB := Lib.hid (blob_long hbx' (by omega))
        clear hbx'
        go_wp2_with fail
        refine HB.out.mono ?_
        rintro e w2 ⟨rfl, h2⟩
        have H2 := Lib.hid h2
        clear h2
        go_wp2_with fail
        refine bodyPost_ret (results_tmp2 rfl _ _ _) rfl ?_
        have hr : rowR ls = ([], 2) := by unfold rowR; rw [if_neg]; intro h; exact hxs (h.2 _ hmem)
        exact ⟨_, by rw [hr]; rfl, by rw [hr]; exact (FreshB.nil _).base (Hu.out.1.ext.trans H2.out)⟩
    · have : k = ls.length := by omega
      subst this
      have hlt' : ¬ (ls.length : Int) < (ls.length : Int) := by omega
      have Hu := Lib.hid (And.intro hu hall)
      clear hu hall
      go_wp2_with fail
      refine bodyPost_ret (results_tmp2 rfl _ _ _) rfl ?_
      obtain ⟨hu, hall⟩ := Hu.out
      rw [List.take_of_length_le (Nat.le_refl _)] at hu hall
      have hr : rowR ls = (rowB ls, 0) := by unfold rowR; rw [if_pos ⟨by omega, hall⟩]
      exact ⟨_, by rw [hr]; rfl, by rw [hr]; exact hu⟩
end Go.Proofs.Ytoflfhjeabpcjaa
