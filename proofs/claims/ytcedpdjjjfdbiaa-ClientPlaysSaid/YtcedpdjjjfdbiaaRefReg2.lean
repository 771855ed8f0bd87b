/- The document's registry: By, Text; two rows of bytes; no condition. -/
import Derived.Test.YtcedpdjjjfdbiaaRefReg
import Derived.Test.YtcedpdjjjfdbiaaOwned
namespace Go.Proofs.Ytcedpdjjjfdbiaa
set_option linter.unusedVariables false
set_option linter.unusedSimpArgs false
open Go.RowKit

theorem byL_succ (who : Int) (L : List (Int × Bs)) (k : Nat) (hk : k < L.length) : byL who (L.take (k + 1)) = byL who (L.take k) ++ (if L[k].1 = who then [L[k].2] else []) := by
  rw [List.take_succ_eq_append_getElem hk]
  unfold byL
  rw [List.filter_append, List.map_append]
  by_cases h : L[k].1 = who <;> simp [h]

set_option maxRecDepth 100000 in
theorem rg_by {F : Nat → Prop} {w : World} {a : Nat} {L : List (Int × Bs)} (h : RgRep F w a L) (who : Int) (hlen : ∀ s ∈ byL who L, s.length < 9223372036854775808) (hL : L.length < 1073741824) :
    Calls Try.prog 56 #[.pointer (some ⟨a, 0, none⟩), .int .i64 who] w fun e w' =>
      ∃ v vs, e = .returned v ∧ OwnRows w.heap.size w' v vs (byL who L) ∧ Ext (fun _ => False) w w' := by
  obtain ⟨ov, h⟩ := h
  obtain ⟨A, c, rfl, hp⟩ := h.pairs
  have c0 : w.cell? ⟨a, 0, none⟩ = some (.slice A L.length c) := cells_at h.obj 0
  clear h
  go_enter Try.func56, Try.ntmps56
  go_wp2_with fail
  go_loopw [5, 6] (fun out i W => ∃ (k : Nat) (vs : List Value), k ≤ L.length ∧ i = .int .i64 k ∧ OwnRows w.heap.size W out vs (byL who (L.take k)) ∧ Ext (fun _ => False) w W)
    (fun _ i _ => L.length - (intOf i).toNat)
  case atStart => exact ⟨0, [], by omega, rfl, OwnRows.nil _ _, Ext.refl _ _⟩
  case round =>
    obtain ⟨k, vs, hk, rfl, hR, hx⟩ := hrel
    have c0r := cell_same c0 hx
    by_cases hlt : k < L.length
    · obtain ⟨g, rfl, _, hg⟩ := hp (by rintro rfl; simp at hlt)
      obtain ⟨e0, e1⟩ := hg k _ (List.getElem?_eq_getElem hlt)
      have e0 := cell_same e0 hx
      have e1 := cell_same e1 hx
      have hlt' : (k : Int) < (L.length : Int) := by omega
      have hsucc := byL_succ who L k hlt
      have hll : (byL who (L.take k)).length ≤ 1073741823 := by
        have := byL_le who (L.take k)
        simp at this
        omega
      have hin : L[k].1 = who → L[k].2.length < 9223372036854775808 := fun e => hlen _ ((mem_byL _ _ _).2 (by rw [← e]; exact List.getElem_mem hlt))
      have Hll := Lib.hid (And.intro hll hsucc)
      clear hll hsucc hg
      generalize hLk : L[k] = p at *
      obtain ⟨pw, ps⟩ := p
      simp only at e0 e1 hin
      by_cases hw : pw = who
      · have hw' : (pw == who) = true := by simpa using hw
        have hl := hin hw
        have Hw := Lib.hid (And.intro hw hLk)
        clear hw hLk hin
        go_wp2_with (first | (refine wpList_str_bytes Try.underlying9 Try.underlying33 Try.underlying5 rfl _ rfl (l := ps) rfl hl ?_; intro c1 w1 hb1 hx1 hs1; have Hs1 := Lib.hid hs1; clear hs1) | (at_builtin; refine Hid.out ?_))
        refine Lib.hid ?_
        have hs1 := Hs1.out
        have hsz := hx.size
        refine wpList_append_lit rfl _ _ 45 rfl Try.underlying45 info_bytes rfl (by decide) (v := u5) rfl (own_ext hR.row (hx1.alloc _) fun _ _ => id) (by simp; omega) rfl (heap_alloc_self _ _) rfl (by simp [Value.oneCell']) (by decide) (by have := Hll.out.1; omega) (by have := Hll.out.1; omega) ?_
        intro g2 c2 w2 ho2 hx2 hg2 hl2
        have hx12 : Ext (fun k => u5.ownBlock = some k) wr w2 := ((hx1.alloc _).mono fun _ _ => False.elim).trans hx2
        have hb2 := (hb1.ext ((Ext.refl (fun _ => False) _).alloc _) fun _ _ => id).ext hx2 fun k hk e => by
          simp [Value.ownBlock] at hk
          have := own_below hR.row k e
          omega
        have hR2 := hR.snoc hx12 ho2 hb2 (fun k hk => by simp [Value.ownBlock] at hk; omega) hsz
        have hxx : Ext (fun _ => False) w w2 := hx.trans' hx12 fun b hb => .inr (own_from hR.row b hb)
        clear hs1 hg2 hx2
        go_wp2_with fail
        refine ⟨⟨k + 1, vs ++ [.slice (some ⟨wr.heap.size, 0, none⟩) (List.length ps) c1], by omega, by go_num, ?_, hxx⟩, by simp [intOf]; omega⟩
        rw [Hll.out.2, if_pos Hw.out.1]
        exact hR2
      · have hw' : (pw == who) = false := by simpa using hw
        have Hw := Lib.hid hw
        clear hw hin
        go_wp2_with fail
        refine ⟨⟨k + 1, vs, by omega, by go_num, ?_, hx⟩, by simp [intOf]; omega⟩
        rw [Hll.out.2, if_neg Hw.out, List.append_nil]
        exact hR
    · have : k = L.length := by omega
      subst this
      have hlt' : decide ((L.length : Int) < (L.length : Int)) = false := by simp
      rw [List.take_length] at hR
      go_wp2_with fail
      go_ret
      exact ⟨_, vs, rfl, hR, hx⟩

/-- Rows of one's own may be written all over. -/
theorem OwnRows.rows8 {N : Nat} {w : World} {v : Value} {vs : List Value} {ls : List Bs} (h : OwnRows N w v vs ls) : Rows8 w v vs := by
  have hb : ∀ k, v.ownBlock = some k → ∀ u ∈ vs, u.ownBlock ≠ some k := by
    intro k hk u hu e
    obtain ⟨i, hi, he⟩ := List.mem_iff_getElem.1 hu
    obtain ⟨cs, hcs⟩ := own_ty h.row k hk
    obtain ⟨cs', fr, hcs'⟩ := (h.each i u _ (by rw [List.getElem?_eq_getElem hi, he]) (List.getElem?_eq_getElem (by rw [← h.len]; exact hi))).ty k e
    rw [hcs] at hcs'
    simp at hcs'
  refine ⟨?_, fun u hu => ?_, h.apart⟩
  · rcases h.row.2 with ⟨h1, h2⟩ | ⟨g, cap, cur, h1, _, h3, h4, _, h5, h6⟩
    · refine ⟨none, 0, by rw [h1, h.len, h2], by rw [h.len, h2]; exact Nat.le_refl _, fun hne => ?_⟩
      exact absurd (List.eq_nil_of_length_eq_zero (by rw [h.len, h2])) hne
    · refine ⟨_, cap, by rw [h1, h.len], by rw [h.len]; exact h4, fun _ => ⟨g, 0, rfl, hb g (by rw [h1]; rfl), fun i x hx => ?_⟩⟩
      have h7 := congrArg (fun l => l[i]?) h6
      have hlt : i < vs.length := (List.getElem?_eq_some_iff.1 hx).1
      have hl := h.len
      simp only [hx] at h7
      rw [List.getElem?_take_of_lt (by omega)] at h7
      show w.cell? ⟨g, 0 + i * 1, none⟩ = some x
      rw [cells_at h3, show 0 + i * 1 = i by omega]
      simpa using h7
  · obtain ⟨i, hi, he⟩ := List.mem_iff_getElem.1 hu
    exact (h.each i u _ (by rw [List.getElem?_eq_getElem hi, he]) (List.getElem?_eq_getElem (by rw [← h.len]; exact hi))).capA
end Go.Proofs.Ytcedpdjjjfdbiaa
