/- Records are put; no condition. -/
import Derived.Test.YtebcpacenoedfaaVoteOpen
namespace Go.Proofs.Ytebcpacenoedfaa
set_option linter.unusedVariables false
set_option linter.unusedSimpArgs false
open Go.RowKit

/-- The records' bytes; of those that are too long: none. -/
def joinS (ls : List Bs) : Bs := ls.flatMap fun l => if l.length ≤ 65536 then blobB l else []
theorem joinS_ok {ls : List Bs} (h : ∀ l ∈ ls, l.length ≤ 65536) : joinS ls = ls.flatMap blobB := by
  induction ls with
  | nil => rfl
  | cons l ls ih =>
    simp only [joinS, List.flatMap_cons] at *
    rw [if_pos (h l (by simp)), ih fun x hx => h x (by simp [hx])]
theorem joinS_len (ls : List Bs) : (joinS ls).length ≤ ls.length * 65540 := by
  induction ls with
  | nil => simp [joinS]
  | cons l ls ih =>
    simp only [joinS, List.flatMap_cons, List.length_append, List.length_cons] at *
    split
    · rw [blobB_len]; omega
    · simp only [List.length_nil]; omega
theorem joinS_snoc (ls : List Bs) (l : Bs) : joinS (ls ++ [l]) = joinS ls ++ if l.length ≤ 65536 then blobB l else [] := by
  simp [joinS]
/-- Bytes are appended and made safe. -/
def apS (m : Bs) (x : Dk) : Int × Dk := if (appendD m x).1 = 0 then syncD (appendD m x).2 else appendD m x
structure PutR where
  e : Int
  x : Dk
  n : Nat
  sz : Nat
  bad : Bool
def anyLong (ls : List Bs) : Bool := ls.any fun l => decide (65536 < l.length)
def putR (x : Dk) (n sz : Nat) (bad : Bool) (ls : List Bs) : PutR :=
  if bad = true then ⟨18, x, n, sz, true⟩ else if anyLong ls = true then ⟨2, x, n, sz, false⟩ else if ls.length = 0 then ⟨0, x, n, sz, false⟩ else
  if 4194304 - sz < (joinS ls).length then ⟨16, x, n, sz, false⟩ else
  if (apS (joinS ls) x).1 = 0 then ⟨0, (apS (joinS ls) x).2, n + ls.length, sz + (joinS ls).length, false⟩ else ⟨(apS (joinS ls) x).1, (apS (joinS ls) x).2, n, sz, true⟩
def PutPost (F : Nat → Prop) (w : World) (a va : Nat) (r : PutR) (e : Ending) (w' : World) : Prop :=
  ∃ F', DRep F' w' a r.x ∧ Ext (fun k => F k ∨ k = va) w w' ∧ (∀ k, F' k → F k ∨ w.heap.size ≤ k) ∧ ¬ F' va ∧ w'.heap[va]? = some (voteO a r.n r.sz r.bad) ∧ e = .returned (.int .i64 r.e)
theorem anyLong_take {ls : List Bs} (h : ∀ l ∈ ls, l.length ≤ 65536) : anyLong ls = false := by
  rw [anyLong, List.any_eq_false]
  intro l hl
  have := h l hl
  simp
  omega
theorem anyLong_at {ls : List Bs} {l : Bs} (hl : l ∈ ls) (h : 65536 < l.length) : anyLong ls = true := by
  rw [anyLong, List.any_eq_true]
  exact ⟨l, hl, by simpa using h⟩
/-- What stands when nothing was done but reading. -/
theorem put_same {F : Nat → Prop} {w w' : World} {a va : Nat} {x : Dk} {n sz : Nat} {bad : Bool} {k : Int} (h : DRep F w a x) (hv : w.heap[va]? = some (voteO a n sz bad)) (hva : ¬ F va) (hx : Ext (fun _ => False) w w') {r : PutR} (hr : r = ⟨k, x, n, sz, bad⟩) : PutPost F w a va r (.returned (.int .i64 k)) w' := by
  subst hr
  exact ⟨F, h.same hx, hx.mono fun _ _ => False.elim, fun k hk => .inl hk, hva, hx.heap hv id, rfl⟩

/-- What stands when the disk was changed and the votes' own cells written. -/
theorem put_set {F F2 : Nat → Prop} {w wr w2 w' : World} {a va : Nat} {x : Dk} {r : PutR} (h : DRep F w a x) (hvl : va < w.heap.size) (hva : ¬ F va) (hx : Ext (fun _ => False) w wr) (hx2 : Ext F wr w2)
    (hD : DRep F2 w2 a r.x) (hn : ∀ k, F2 k → F k ∨ wr.heap.size ≤ k) (hx3 : Ext (· = va) w2 w') (hv : w'.heap[va]? = some (voteO a r.n r.sz r.bad)) : PutPost F w a va r (.returned (.int .i64 r.e)) w' := by
  have hsz := hx.size
  have hnv : ¬ F2 va := fun h2 => by
    rcases hn va h2 with h3 | h3
    · exact hva h3
    · omega
  refine ⟨F2, hD.keep hx3 fun k hk e => hnv (e ▸ hk), ?_, fun k hk => ?_, hnv, hv, rfl⟩
  · exact ((hx.mono fun _ _ => False.elim).trans (hx2.mono fun _ _ hk => .inl hk)).trans' hx3 fun b hb => .inl (.inr hb)
  · rcases hn k hk with h3 | h3
    · exact .inl h3
    · exact .inr (by omega)
/-- Two acts of the disk, one behind the other. -/
theorem two_acts {F F2 F3 : Nat → Prop} {wr w2 w3 : World} (hx2 : Ext F wr w2) (hn : ∀ k, F2 k → F k ∨ wr.heap.size ≤ k) (hx3 : Ext F2 w2 w3) (hn3 : ∀ k, F3 k → F2 k ∨ w2.heap.size ≤ k) :
    Ext F wr w3 ∧ ∀ k, F3 k → F k ∨ wr.heap.size ≤ k := ⟨join_ext hx2 hn hx3, join_new hx2.size hn hn3⟩
theorem vote_bad {w : World} {a va n sz : Nat} (hv : w.heap[va]? = some (voteO a n sz false)) : (w.setCell ⟨va, 3, none⟩ (.bool true)).heap[va]? = some (voteO a n sz true) := by
  rw [heap_setCell_self hv]; rfl
theorem vote_more {w : World} {a va n sz : Nat} {n' sz' : Nat} {k l : Int} (hv : w.heap[va]? = some (voteO a n sz false)) (hk : k = (n' : Nat)) (hl : l = (sz' : Nat)) :
    ((w.setCell ⟨va, 1, none⟩ (.int .i64 k)).setCell ⟨va, 2, none⟩ (.int .i64 l)).heap[va]? = some (voteO a n' sz' false) := by
  subst hk hl
  rw [heap_setCell_self (heap_setCell_self hv)]; rfl

set_option maxRecDepth 100000 in
set_option maxHeartbeats 2000000 in
theorem put_rec {F D : Nat → Prop} {w : World} {a va : Nat} {x : Dk} {n sz : Nat} {bad : Bool} {v : Value} {ls : List Bs} (h : DRep F w a x) (hv : w.heap[va]? = some (voteO a n sz bad)) (hva : ¬ F va) (hb : Byts D w v ls) (hl : ls.length ≤ 1048576) (hsz : sz ≤ 4194304) (hn : n ≤ 4611686018427387904) :
    Calls Try.prog 13 #[.pointer (some ⟨va, 0, none⟩), v] w (PutPost F w a va (putR x n sz bad ls)) := by
  obtain ⟨A, c, rfl, _⟩ := id hb
  have H0 := Lib.hid (And.intro h (And.intro hv (And.intro hva hb)))
  have hvl := lt_of_heap hv
  clear h hv hva hb
  go_enter Try.func13, Try.ntmps13
  go_wp2_with fail
  go_loopw [5, 13] (fun u i W => ∃ k : Nat, k ≤ ls.length ∧ i = .int .i64 k ∧ FreshB w (joinS (ls.take k)) u W ∧ (bad = false → ∀ l ∈ ls.take k, l.length ≤ 65536)) (fun _ i _ => ls.length - (intOf i).toNat)
  case atStart => exact ⟨0, by omega, rfl, by simpa [joinS] using FreshB.nil w, fun _ l h => by simp at h⟩
  case round =>
    obtain ⟨k, hk, rfl, hu, hall⟩ := hrel
    obtain ⟨UA, uc, hform, _, _⟩ := hu.own.formP
    subst hform
    have hjl := joinS_len (ls.take k)
    have hvw := hu.ext.heap H0.out.2.1 id
    have c0 : wr.cell? ⟨va, 0, none⟩ = some (.pointer (some ⟨a, 0, none⟩)) := cells_at hvw 0
    have c1 : wr.cell? ⟨va, 1, none⟩ = some (.int .i64 (n : Nat)) := cells_at hvw 1
    have c2 : wr.cell? ⟨va, 2, none⟩ = some (.int .i64 (sz : Nat)) := cells_at hvw 2
    have c3 : wr.cell? ⟨va, 3, none⟩ = some (.bool bad) := cells_at hvw 3
    by_cases hlt : k < ls.length
    · have hlt' : (k : Int) < (ls.length : Int) := by omega
      have hlt2 : decide (k < ls.length) = true := by simpa using hlt
      obtain ⟨g1, o1, cc, hA1, _, u1, hcell1, hu1⟩ := H0.out.2.2.2.at hlt
      obtain ⟨rfl, rfl⟩ : A = some ⟨g1, o1, none⟩ ∧ c = cc := by simpa using hA1
      rw [Nat.mul_one] at hcell1
      replace hcell1 := cell_same hcell1 hu.ext
      replace hu1 := hu1.same hu.ext
      have htk : ls.take (k + 1) = ls.take k ++ [ls[k]] := List.take_succ_eq_append_getElem hlt
      have hmem : ls[k] ∈ ls := List.getElem_mem hlt
      generalize ls[k] = y at *
      have hjs := joinS_snoc (ls.take k) y
      have htl : (ls.take k).length ≤ 1048576 := by rw [List.length_take]; omega
      have hjb : (joinS (ls.take k)).length + 65540 ≤ 140737488355328 := by omega
      rw [← htk] at hjs
      generalize hp : joinS (ls.take k) = p at *
      have Hu := Lib.hid (And.intro hu (And.intro hall (And.intro htk hjs)))
      clear hu hall htk hjs hA1 hp hjl
      by_cases hy : y.length ≤ 65536
      · have HB := Lib.hid (blob_walk hu1 hy)
        have Hy := Lib.hid hy
        clear hu1 hy
        go_wp2_with fail
        refine HB.out.mono ?_
        rintro e w2 ⟨v2, rfl, h2⟩
        obtain ⟨B2, d2, hf2, _, _⟩ := h2.own.formP
        subst hf2
        have H2 := Lib.hid (And.intro h2 (Hu.out.1.step h2.ext))
        clear h2
        go_wp2_with (at_builtin; refine Hid.out ?_)
        refine Lib.hid ?_
        refine wpList_append_bytes rfl _ _ 36 rfl Try.underlying36 info8p (sv := .slice UA p.length uc) rfl rfl H2.out.2.own H2.out.1.byt (by have := Hy.out; rw [blobB_len]; omega) ?_
        intro v3 w3 hown3 hx3 hb3
        have hfr := H2.out.2.appended hown3 hx3 hb3
        have HFr := Lib.hid hfr
        clear hown3 hx3 hb3 hfr
        go_wp2_with fail
        refine ⟨⟨k + 1, by omega, by go_num, ?_, fun hbad l hl => ?_⟩, by simp [intOf]; omega⟩
        · rw [Hu.out.2.2.2, if_pos Hy.out]
          exact HFr.out
        · rw [Hu.out.2.2.1] at hl
          rcases List.mem_append.1 hl with hl | hl
          · exact Hu.out.2.1 hbad l hl
          · simp at hl; subst hl; exact Hy.out
      · have HB := Lib.hid (blob_long hu1 (by omega))
        have Hy := Lib.hid (And.intro hy hmem)
        clear hu1 hy
        cases bad with
        | false =>
          go_wp2_with fail
          refine HB.out.mono ?_
          rintro e w2 ⟨rfl, hx2⟩
          have c3' : w2.cell? ⟨va, 3, none⟩ = some (.bool false) := cell_same c3 hx2
          have H2 := Lib.hid (Hu.out.1.ext.trans hx2)
          clear hx2
          go_wp2_with fail
          go_ret
          refine put_same H0.out.1 H0.out.2.1 H0.out.2.2.1 H2.out ?_
          rw [putR, if_neg (by decide), if_pos (anyLong_at Hy.out.2 (by have := Hy.out.1; omega))]
        | true =>
          go_wp2_with fail
          refine HB.out.mono ?_
          rintro e w2 ⟨rfl, hx2⟩
          have c3' : w2.cell? ⟨va, 3, none⟩ = some (.bool true) := cell_same c3 hx2
          have H2 := Lib.hid (Hu.out.1.step hx2)
          clear hx2
          go_wp2_with (at_builtin; refine Hid.out ?_)
          refine Lib.hid ?_
          refine wpList_append_bytes rfl _ _ 36 rfl Try.underlying36 info8p (sv := .slice UA p.length uc) (xv := .slice none 0 0) (m := []) (D := fun _ => True) rfl rfl H2.out.own ⟨none, 0, rfl, Nat.le_refl _, fun h => absurd rfl h⟩ (by simp only [List.length_nil]; omega) ?_
          intro v3 w3 hown3 hx3 hb3
          have hfr := H2.out.appended hown3 hx3 hb3
          have HFr := Lib.hid hfr
          clear hown3 hx3 hb3 hfr
          go_wp2_with fail
          refine ⟨⟨k + 1, by omega, by go_num, ?_, fun hbad => by cases hbad⟩, by simp [intOf]; omega⟩
          rw [Hu.out.2.2.2, if_neg Hy.out.1]
          exact HFr.out
    · have hke : k = ls.length := by omega
      subst hke
      have hlt' : ¬ (ls.length : Int) < (ls.length : Int) := by omega
      have hlt2 : decide (ls.length < ls.length) = false := by simp
      rw [List.take_of_length_le (Nat.le_refl _)] at hu hall hjl
      rw [List.take_of_length_le (Nat.le_refl _)]
      cases bad with
      | true =>
        have Hx := Lib.hid hu.ext
        clear hu hall
        go_wp2_with fail
        go_ret
        refine put_same H0.out.1 H0.out.2.1 H0.out.2.2.1 Hx.out ?_
        rw [putR, if_pos rfl]
      | false =>
        have hall' := hall rfl
        have hnl : anyLong ls = false := anyLong_take hall'
        by_cases h0 : ls.length = 0
        · have hz : ((ls.length : Int) == 0) = true := by rw [beq_iff_eq]; omega
          have hz2 : (ls.length == 0) = true := by rw [beq_iff_eq]; omega
          have Hx := Lib.hid (And.intro hu.ext (And.intro h0 hnl))
          clear hu hall hall' hnl h0
          go_wp2_with fail
          go_ret
          refine put_same H0.out.1 H0.out.2.1 H0.out.2.2.1 Hx.out.1 ?_
          rw [putR, if_neg (by decide), if_neg (by rw [Hx.out.2.2]; decide), if_pos Hx.out.2.1]
        · have hz : ((ls.length : Int) == 0) = false := by rw [beq_eq_false_iff_ne]; omega
          have hz2 : (ls.length == 0) = false := by rw [beq_eq_false_iff_ne]; omega
          have hjl2 : (joinS ls).length ≤ 68724654080 := by omega
          by_cases hf : 4194304 - sz < (joinS ls).length
          · have hf1 : (4194304 : Int) - (sz : Int) < ((joinS ls).length : Int) := by omega
            have hf1' : decide ((4194304 : Int) - (sz : Int) < ((joinS ls).length : Int)) = true := by simpa using hf1
            have hr : putR x n sz false ls = ⟨16, x, n, sz, false⟩ := by rw [putR, if_neg (by decide), if_neg (by rw [hnl]; decide), if_neg h0, if_pos hf]
            have Hx := Lib.hid (And.intro hu.ext hr)
            generalize joinS ls = J at *
            clear hu hall hall' hnl h0 hr hf
            go_wp2_with fail
            go_ret
            exact put_same H0.out.1 H0.out.2.1 H0.out.2.2.1 Hx.out.1 Hx.out.2
          · have hf1 : ¬ (4194304 : Int) - (sz : Int) < ((joinS ls).length : Int) := by omega
            have hf1' : decide ((4194304 : Int) - (sz : Int) < ((joinS ls).length : Int)) = false := by simpa using hf1
            have hr : putR x n sz false ls = if (apS (joinS ls) x).1 = 0 then ⟨0, (apS (joinS ls) x).2, n + ls.length, sz + (joinS ls).length, false⟩ else ⟨(apS (joinS ls) x).1, (apS (joinS ls) x).2, n, sz, true⟩ := by rw [putR, if_neg (by decide), if_neg (by rw [hnl]; decide), if_neg h0, if_neg hf]
            have ha : apS (joinS ls) x = if (appendD (joinS ls) x).1 = 0 then syncD (appendD (joinS ls) x).2 else appendD (joinS ls) x := rfl
            rw [ha] at hr
            have hap := disk_append (H0.out.1.same hu.ext) hu.byt (fun k hk hF => by have := H0.out.1.lt k hF; omega)
            generalize joinS ls = J at *
            generalize appendD J x = r1 at *
            obtain ⟨k1, y⟩ := r1
            have Hx := Lib.hid (And.intro hu (And.intro hr hap))
            clear hu hall hall' hnl h0 hr hf hap ha
            go_wp2_with fail
            refine Hx.out.2.2.mono ?_
            rintro e w2 ⟨rfl, F2, hD2, hx2, hn2⟩
            have hv2 := hx2.heap (Hx.out.1.ext.heap H0.out.2.1 id) H0.out.2.2.1
            have d0 : w2.cell? ⟨va, 0, none⟩ = some (.pointer (some ⟨a, 0, none⟩)) := cells_at hv2 0
            have d1 : w2.cell? ⟨va, 1, none⟩ = some (.int .i64 (n : Nat)) := cells_at hv2 1
            have d2 : w2.cell? ⟨va, 2, none⟩ = some (.int .i64 (sz : Nat)) := cells_at hv2 2
            have d3 : w2.cell? ⟨va, 3, none⟩ = some (.bool false) := cells_at hv2 3
            have fr3 : w2.frozen? ⟨va, 3, none⟩ = false := by simp [World.frozen?, hv2, voteO]
            by_cases hk1 : k1 = 0
            · subst hk1
              have hs := disk_sync hD2
              have hr2 := Hx.out.2.1
              rw [if_pos rfl] at hr2
              generalize syncD y = r2 at *
              obtain ⟨k2, z⟩ := r2
              have H2 := Lib.hid (And.intro hD2 (And.intro hx2 (And.intro hn2 (And.intro hs hr2))))
              clear hD2 hx2 hn2 hs hr2 hv2
              go_wp2_with fail
              refine H2.out.2.2.2.1.mono ?_
              rintro e w3 ⟨rfl, F3, hD3, hx3, hn3⟩
              obtain ⟨hx13, hn13⟩ := two_acts H2.out.2.1 H2.out.2.2.1 hx3 hn3
              have hv3 := hx13.heap (Hx.out.1.ext.heap H0.out.2.1 id) H0.out.2.2.1
              have e1 : w3.cell? ⟨va, 1, none⟩ = some (.int .i64 (n : Nat)) := cells_at hv3 1
              have e2 : w3.cell? ⟨va, 2, none⟩ = some (.int .i64 (sz : Nat)) := cells_at hv3 2
              have g3 : w3.frozen? ⟨va, 3, none⟩ = false := by simp [World.frozen?, hv3, voteO]
              have e3 : w3.cell? ⟨va, 3, none⟩ = some (.bool false) := cells_at hv3 3
              have e0 : w3.cell? ⟨va, 0, none⟩ = some (.pointer (some ⟨a, 0, none⟩)) := cells_at hv3 0
              have g2 : w3.frozen? ⟨va, 2, none⟩ = false := by simp [World.frozen?, hv3, voteO]
              have g1 : w3.frozen? ⟨va, 1, none⟩ = false := by simp [World.frozen?, hv3, voteO]
              have hr3 := H2.out.2.2.2.2
              by_cases hk2 : k2 = 0
              · subst hk2
                rw [if_pos rfl] at hr3
                have H3 := Lib.hid (And.intro hD3 (And.intro hx13 (And.intro hn13 (And.intro hv3 hr3))))
                clear hD3 hx13 hn13 hv3 hr3 hx3 hn3
                go_wp2_with fail
                go_ret
                rw [H3.out.2.2.2.2]
                exact put_set H0.out.1 hvl H0.out.2.2.1 Hx.out.1.ext H3.out.2.1 H3.out.1 H3.out.2.2.1 (((Ext.refl (· = va) w3).setCell (a := ⟨va, 1, none⟩) (.inl rfl) _).setCell (a := ⟨va, 2, none⟩) (.inl rfl) _) (vote_more H3.out.2.2.2.1 (by simp) (by simp))
              · have hkb : (k2 == 0) = false := by rw [beq_eq_false_iff_ne]; exact hk2
                rw [if_neg hk2] at hr3
                have H3 := Lib.hid (And.intro hD3 (And.intro hx13 (And.intro hn13 (And.intro hv3 hr3))))
                clear hD3 hx13 hn13 hv3 hr3 hx3 hn3 hk2
                go_wp2_with fail
                go_ret
                rw [H3.out.2.2.2.2]
                exact put_set H0.out.1 hvl H0.out.2.2.1 Hx.out.1.ext H3.out.2.1 H3.out.1 H3.out.2.2.1 ((Ext.refl (· = va) w3).setCell (a := ⟨va, 3, none⟩) (.inl rfl) _) (vote_bad H3.out.2.2.2.1)
            · have hkb : (k1 == 0) = false := by rw [beq_eq_false_iff_ne]; exact hk1
              have hr2 := Hx.out.2.1
              rw [if_neg hk1, if_neg hk1] at hr2
              have H2 := Lib.hid (And.intro hD2 (And.intro hx2 (And.intro hn2 (And.intro hv2 hr2))))
              clear hD2 hx2 hn2 hv2 hr2 hk1
              go_wp2_with fail
              go_ret
              rw [H2.out.2.2.2.2]
              exact put_set H0.out.1 hvl H0.out.2.2.1 Hx.out.1.ext H2.out.2.1 H2.out.1 H2.out.2.2.1 ((Ext.refl (· = va) w2).setCell (a := ⟨va, 3, none⟩) (.inl rfl) _) (vote_bad H2.out.2.2.2.1)
end Go.Proofs.Ytebcpacenoedfaa
