/- The document's votes: records are put; no condition. -/
import Derived.Test.YtebcpacenoedfaaVotePut
import Derived.Test.YtebcpacenoedfaaDocOpen
import Derived.Test.YtebcpacenoedfaaRefPlain
namespace Go.Proofs.Ytebcpacenoedfaa
set_option linter.unusedVariables false
set_option linter.unusedSimpArgs false
open Go.RowKit

def DPutPost (F : Nat → Prop) (w : World) (a va : Nat) (r : PutR) (e : Ending) (w' : World) : Prop :=
  ∃ F', RRep F' w' a r.x ∧ Ext (fun k => F k ∨ k = va) w w' ∧ (∀ k, F' k → F k ∨ w.heap.size ≤ k) ∧ ¬ F' va ∧ w'.heap[va]? = some (docO a r.n r.bad) ∧ e = .returned (.int .i64 r.e)
theorem dput_same {F : Nat → Prop} {w w' : World} {a va : Nat} {x : Dk} {n sz : Nat} {bad : Bool} {k : Int} (h : RRep F w a x) (hv : w.heap[va]? = some (docO a n bad)) (hva : ¬ F va) (hx : Ext (fun _ => False) w w') {r : PutR} (hr : r = ⟨k, x, n, sz, bad⟩) : DPutPost F w a va r (.returned (.int .i64 k)) w' := by
  subst hr
  exact ⟨F, h.same hx, hx.mono fun _ _ => False.elim, fun k hk => .inl hk, hva, hx.heap hv id, rfl⟩
theorem dput_set {F F2 : Nat → Prop} {w wr w2 w' : World} {a va : Nat} {x : Dk} {r : PutR} (h : RRep F w a x) (hvl : va < w.heap.size) (hva : ¬ F va) (hx : Ext (fun _ => False) w wr) (hx2 : Ext F wr w2)
    (hD : RRep F2 w2 a r.x) (hn : ∀ k, F2 k → F k ∨ wr.heap.size ≤ k) (hx3 : Ext (· = va) w2 w') (hv : w'.heap[va]? = some (docO a r.n r.bad)) : DPutPost F w a va r (.returned (.int .i64 r.e)) w' := by
  have hsz := hx.size
  have hnv : ¬ F2 va := fun h2 => by
    rcases hn va h2 with h3 | h3
    · exact hva h3
    · omega
  refine ⟨F2, hD.keep hx3 fun k hk e => hnv (e ▸ hk), ?_, fun k hk => ?_, hnv, hv, rfl⟩
  · exact ((hx.mono fun _ _ => False.elim).trans (hx2.mono fun _ _ hk => .inl hk)).trans' hx3 fun b hb => .inl (.inr hb)
  · rcases hn k hk with h3 | h3
    · exact .inl h3
    · exact .inr (by omega)
theorem doc_bad {w : World} {a va n : Nat} (hv : w.heap[va]? = some (docO a n false)) : (w.setCell ⟨va, 2, none⟩ (.bool true)).heap[va]? = some (docO a n true) := by
  rw [heap_setCell_self hv]; rfl
theorem doc_more {w : World} {a va n : Nat} {n' : Nat} {k : Int} (hv : w.heap[va]? = some (docO a n false)) (hk : k = (n' : Nat)) :
    (w.setCell ⟨va, 1, none⟩ (.int .i64 k)).heap[va]? = some (docO a n' false) := by
  subst hk
  rw [heap_setCell_self hv]; rfl

set_option maxRecDepth 100000 in
set_option maxHeartbeats 2000000 in
theorem dput_walk {F D : Nat → Prop} {w : World} {a va : Nat} {x : Dk} {n : Nat} {bad : Bool} {v : Value} {ls : List Bs} (h : RRep F w a x) (hv : w.heap[va]? = some (docO a n bad)) (hva : ¬ F va) (hb : Byts D w v ls) (hl : ls.length ≤ 1048576) (hn : n ≤ 4611686018427387904) :
    Calls Try.prog 25 #[.pointer (some ⟨va, 0, none⟩), v] w (DPutPost F w a va (putR x n x.l.length bad ls)) := by
  obtain ⟨A, c, rfl, _⟩ := id hb
  have hlen := (by obtain ⟨v, p, q, hr⟩ := h; exact hr.len : x.l.length ≤ 4194304)
  have H0 := Lib.hid (And.intro h (And.intro hv (And.intro hva hb)))
  have hvl := lt_of_heap hv
  have b2 : w.cell? ⟨va, 2, none⟩ = some (.bool bad) := cells_at hv 2
  clear h hv hva hb
  cases bad with
  | true =>
    go_enter Try.func25, Try.ntmps25
    go_wp2_with fail
    go_ret
    refine dput_same H0.out.1 H0.out.2.1 H0.out.2.2.1 (Ext.refl _ _) (sz := x.l.length) ?_
    rw [putR, if_pos rfl]
  | false =>
    by_cases h0 : ls.length = 0
    · have hz : ((ls.length : Int) == 0) = true := by rw [beq_iff_eq]; omega
      have hz2 : (ls.length == 0) = true := by rw [beq_iff_eq]; omega
      have Hz := Lib.hid h0
      clear h0
      go_enter Try.func25, Try.ntmps25
      go_wp2_with fail
      go_ret
      refine dput_same H0.out.1 H0.out.2.1 H0.out.2.2.1 (Ext.refl _ _) (sz := x.l.length) ?_
      obtain rfl := List.eq_nil_of_length_eq_zero Hz.out
      rw [putR, if_neg (by decide), if_neg (by decide), if_pos List.length_nil]
    · have hz : ((ls.length : Int) == 0) = false := by rw [beq_eq_false_iff_ne]; omega
      have hz2 : (ls.length == 0) = false := by rw [beq_eq_false_iff_ne]; omega
      go_enter Try.func25, Try.ntmps25
      go_wp2_with fail
      go_loopw [5, 6] (fun u i W => ∃ k : Nat, k ≤ ls.length ∧ i = .int .i64 k ∧ FreshB w (joinS (ls.take k)) u W ∧ (∀ l ∈ ls.take k, l.length ≤ 65536)) (fun _ i _ => ls.length - (intOf i).toNat)
      case atStart => exact ⟨0, by omega, rfl, by simpa [joinS] using FreshB.nil w, fun l h => by simp at h⟩
      case round =>
        obtain ⟨k, hk, rfl, hu, hall⟩ := hrel
        obtain ⟨UA, uc, hform, _, _⟩ := hu.own.formP
        subst hform
        have hjl := joinS_len (ls.take k)
        have hvw := hu.ext.heap H0.out.2.1 id
        have c0 : wr.cell? ⟨va, 0, none⟩ = some (.pointer (some ⟨a, 0, none⟩)) := cells_at hvw 0
        by_cases hlt : k < ls.length
        · have hlt' : (k : Int) < (ls.length : Int) := by omega
          have hlt2 : decide (k < ls.length) = true := by simpa using hlt
          obtain ⟨g1, o1, cc, hA1, _, u1, hcell1, hu1⟩ := H0.out.2.2.2.at hlt
          obtain ⟨rfl, rfl⟩ : A = some ⟨g1, o1, none⟩ ∧ c = cc := by simpa using hA1
          rw [Nat.mul_one] at hcell1
          replace hcell1 := cell_same hcell1 hu.ext
          replace hu1 := hu1.same hu.ext
          have htk : ls.take (k + 1) = ls.take k ++ [ls[k]] := List.take_succ_eq_append_getElem hlt
          have hmem : ls[k] ∈ ls := List.getElem_mem hlt
          generalize ls[k] = y at *
          have hjs := joinS_snoc (ls.take k) y
          have htl : (ls.take k).length ≤ 1048576 := by rw [List.length_take]; omega
          have hjb : (joinS (ls.take k)).length + 65540 ≤ 140737488355328 := by omega
          rw [← htk] at hjs
          generalize hp : joinS (ls.take k) = p at *
          have Hu := Lib.hid (And.intro hu (And.intro hall (And.intro htk hjs)))
          clear hu hall htk hjs hA1 hp hjl
          by_cases hy : y.length ≤ 65536
          · have HB := Lib.hid (dblob_walk hu1 hy)
            have Hy := Lib.hid hy
            clear hu1 hy
            go_wp2_with fail
            refine HB.out.mono ?_
            rintro e w2 ⟨v2, rfl, h2⟩
            obtain ⟨B2, d2, hf2, _, _⟩ := h2.own.formP
            subst hf2
            have H2 := Lib.hid (And.intro h2 (Hu.out.1.step h2.ext))
            clear h2
            go_wp2_with (at_builtin; refine Hid.out ?_)
            refine Lib.hid ?_
            refine wpList_append_bytes rfl _ _ 36 rfl Try.underlying36 info8p (sv := .slice UA p.length uc) rfl rfl H2.out.2.own H2.out.1.own.byt (by have := Hy.out; rw [blobB_len]; omega) ?_
            intro v3 w3 hown3 hx3 hb3
            have hfr := H2.out.2.appended hown3 hx3 hb3
            have HFr := Lib.hid hfr
            clear hown3 hx3 hb3 hfr
            go_wp2_with fail
            refine ⟨⟨k + 1, by omega, by go_num, ?_, fun l hl => ?_⟩, by simp [intOf]; omega⟩
            · rw [Hu.out.2.2.2, if_pos Hy.out]
              exact HFr.out
            · rw [Hu.out.2.2.1] at hl
              rcases List.mem_append.1 hl with hl | hl
              · exact Hu.out.2.1 l hl
              · simp at hl; subst hl; exact Hy.out
          · have HB := Lib.hid (dblob_long hu1 (by omega))
            have Hy := Lib.hid (And.intro hy hmem)
            clear hu1 hy
            go_wp2_with fail
            refine HB.out.mono ?_
            rintro e w2 ⟨rfl, hx2⟩
            have H2 := Lib.hid (Hu.out.1.ext.trans hx2)
            clear hx2
            go_wp2_with fail
            go_ret
            refine dput_same H0.out.1 H0.out.2.1 H0.out.2.2.1 H2.out (sz := x.l.length) ?_
            rw [putR, if_neg (by decide), if_pos (anyLong_at Hy.out.2 (by have := Hy.out.1; omega))]
        · have hke : k = ls.length := by omega
          subst hke
          have hlt' : ¬ (ls.length : Int) < (ls.length : Int) := by omega
          have hlt2 : decide (ls.length < ls.length) = false := by simp
          have c1 : wr.cell? ⟨va, 1, none⟩ = some (.int .i64 (n : Nat)) := cells_at hvw 1
          have c2 : wr.cell? ⟨va, 2, none⟩ = some (.bool false) := cells_at hvw 2
          rw [List.take_of_length_le (Nat.le_refl _)] at hu hall hjl
          rw [List.take_of_length_le (Nat.le_refl _)]
          have hnl : anyLong ls = false := anyLong_take hall
          obtain ⟨xv, xp, xq, hxr⟩ := H0.out.1.same hu.ext
          obtain ⟨XA, xc, rfl, _, _⟩ := hxr.own.form
          have e0 : wr.cell? ⟨a, 0, none⟩ = some (.slice XA x.l.length xc) := hxr.cell 0
          clear hxr
          have hjl2 : (joinS ls).length ≤ 68724654080 := by omega
          by_cases hf : 4194304 - x.l.length < (joinS ls).length
          · have hf1 : (4194304 : Int) - (x.l.length : Int) < ((joinS ls).length : Int) := by omega
            have hf1' : decide ((4194304 : Int) - (x.l.length : Int) < ((joinS ls).length : Int)) = true := by simpa using hf1
            have hr : putR x n x.l.length false ls = ⟨16, x, n, x.l.length, false⟩ := by rw [putR, if_neg (by decide), if_neg (by rw [hnl]; decide), if_neg h0, if_pos hf]
            have Hx := Lib.hid (And.intro hu.ext hr)
            generalize joinS ls = J at *
            clear hu hall hnl h0 hr hf
            go_wp2_with fail
            go_ret
            exact dput_same H0.out.1 H0.out.2.1 H0.out.2.2.1 Hx.out.1 Hx.out.2
          · have hf1 : ¬ (4194304 : Int) - (x.l.length : Int) < ((joinS ls).length : Int) := by omega
            have hf1' : decide ((4194304 : Int) - (x.l.length : Int) < ((joinS ls).length : Int)) = false := by simpa using hf1
            have hr : putR x n x.l.length false ls = if (apS (joinS ls) x).1 = 0 then ⟨0, (apS (joinS ls) x).2, n + ls.length, x.l.length + (joinS ls).length, false⟩ else ⟨(apS (joinS ls) x).1, (apS (joinS ls) x).2, n, x.l.length, true⟩ := by rw [putR, if_neg (by decide), if_neg (by rw [hnl]; decide), if_neg h0, if_neg hf]
            have ha : apS (joinS ls) x = if (appendD (joinS ls) x).1 = 0 then syncD (appendD (joinS ls) x).2 else appendD (joinS ls) x := rfl
            rw [ha] at hr
            have hap := rd_append (H0.out.1.same hu.ext) hu.own.byt (fun k hk hF => by have := H0.out.1.lt k hF; have := hu.new k hk; omega)
            generalize joinS ls = J at *
            generalize appendD J x = r1 at *
            obtain ⟨k1, y⟩ := r1
            have Hx := Lib.hid (And.intro hu (And.intro hr hap))
            clear hu hall hnl h0 hr hf hap ha
            go_wp2_with fail
            refine Hx.out.2.2.mono ?_
            rintro e w2 ⟨rfl, F2, hD2, hx2, hn2⟩
            have hv2 := hx2.heap (Hx.out.1.ext.heap H0.out.2.1 id) H0.out.2.2.1
            have d0 : w2.cell? ⟨va, 0, none⟩ = some (.pointer (some ⟨a, 0, none⟩)) := cells_at hv2 0
            have d1 : w2.cell? ⟨va, 1, none⟩ = some (.int .i64 (n : Nat)) := cells_at hv2 1
            have d2 : w2.cell? ⟨va, 2, none⟩ = some (.bool false) := cells_at hv2 2
            have fr2 : w2.frozen? ⟨va, 2, none⟩ = false := by simp [World.frozen?, hv2, docO]
            by_cases hk1 : k1 = 0
            · subst hk1
              have hs := rd_sync hD2
              have hr2 := Hx.out.2.1
              rw [if_pos rfl] at hr2
              generalize syncD y = r2 at *
              obtain ⟨k2, z⟩ := r2
              have H2 := Lib.hid (And.intro hD2 (And.intro hx2 (And.intro hn2 (And.intro hs hr2))))
              clear hD2 hx2 hn2 hs hr2 hv2
              go_wp2_with fail
              refine H2.out.2.2.2.1.mono ?_
              rintro e w3 ⟨rfl, F3, hD3, hx3, hn3⟩
              obtain ⟨hx13, hn13⟩ := two_acts H2.out.2.1 H2.out.2.2.1 hx3 hn3
              have hv3 := hx13.heap (Hx.out.1.ext.heap H0.out.2.1 id) H0.out.2.2.1
              have e1 : w3.cell? ⟨va, 1, none⟩ = some (.int .i64 (n : Nat)) := cells_at hv3 1
              have e2 : w3.cell? ⟨va, 2, none⟩ = some (.bool false) := cells_at hv3 2
              have g2 : w3.frozen? ⟨va, 2, none⟩ = false := by simp [World.frozen?, hv3, docO]
              have g1 : w3.frozen? ⟨va, 1, none⟩ = false := by simp [World.frozen?, hv3, docO]
              have hr3 := H2.out.2.2.2.2
              by_cases hk2 : k2 = 0
              · subst hk2
                rw [if_pos rfl] at hr3
                have H3 := Lib.hid (And.intro hD3 (And.intro hx13 (And.intro hn13 (And.intro hv3 hr3))))
                clear hD3 hx13 hn13 hv3 hr3 hx3 hn3
                go_wp2_with fail
                go_ret
                rw [H3.out.2.2.2.2]
                exact dput_set H0.out.1 hvl H0.out.2.2.1 Hx.out.1.ext H3.out.2.1 H3.out.1 H3.out.2.2.1 ((Ext.refl (· = va) w3).setCell (a := ⟨va, 1, none⟩) (.inl rfl) _) (doc_more H3.out.2.2.2.1 (by simp))
              · have hkb : (k2 == 0) = false := by rw [beq_eq_false_iff_ne]; exact hk2
                have hkn : (k2 != 0) = true := by simpa using hk2
                rw [if_neg hk2] at hr3
                have H3 := Lib.hid (And.intro hD3 (And.intro hx13 (And.intro hn13 (And.intro hv3 hr3))))
                clear hD3 hx13 hn13 hv3 hr3 hx3 hn3 hk2
                go_wp2_with fail
                go_ret
                rw [H3.out.2.2.2.2]
                exact dput_set H0.out.1 hvl H0.out.2.2.1 Hx.out.1.ext H3.out.2.1 H3.out.1 H3.out.2.2.1 ((Ext.refl (· = va) w3).setCell (a := ⟨va, 2, none⟩) (.inl rfl) _) (doc_bad H3.out.2.2.2.1)
            · have hkb : (k1 == 0) = false := by rw [beq_eq_false_iff_ne]; exact hk1
              have hkn : (k1 != 0) = true := by simpa using hk1
              have hr2 := Hx.out.2.1
              rw [if_neg hk1, if_neg hk1] at hr2
              have H2 := Lib.hid (And.intro hD2 (And.intro hx2 (And.intro hn2 (And.intro hv2 hr2))))
              clear hD2 hx2 hn2 hv2 hr2 hk1
              go_wp2_with fail
              go_ret
              rw [H2.out.2.2.2.2]
              exact dput_set H0.out.1 hvl H0.out.2.2.1 Hx.out.1.ext H2.out.2.1 H2.out.1 H2.out.2.2.1 ((Ext.refl (· = va) w2).setCell (a := ⟨va, 2, none⟩) (.inl rfl) _) (doc_bad H2.out.2.2.2.1)
end Go.Proofs.Ytebcpacenoedfaa
