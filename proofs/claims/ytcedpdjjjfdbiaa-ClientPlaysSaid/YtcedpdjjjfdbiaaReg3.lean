/- What the registry tells of one signer's texts; no condition. -/
import Derived.Test.YtcedpdjjjfdbiaaReg2
import Derived.Test.YtcedpdjjjfdbiaaBufs
namespace Go.Proofs.Ytcedpdjjjfdbiaa
set_option linter.unusedVariables false
set_option linter.unusedSimpArgs false
open Go.RowKit

/-- The row of one's texts, and where it stands. -/
theorem RegAt.row {F : Nat → Prop} {w : World} {a m t : Nat} {ov : Value} {ES : List ((Int × Bs) × Value)} {ET : List (Int × Value)} {L : List (Int × Bs)} (h : RegAt F w a m t ov ES ET L) (who : Int) :
    ∃ A c, (assoc who ET).getD (.slice none 0 0) = .slice A (byL who L).length c ∧ (byL who L ≠ [] → ∃ g, A = some ⟨g, 0, none⟩ ∧ F g ∧ ∀ i s, (byL who L)[i]? = some s → w.cell? ⟨g, i, none⟩ = some (str s)) := by
  have hr := h.rows who
  rcases hr.2 with ⟨h1, h2⟩ | ⟨g, cap, cur, h1, _, h3, h4, _, _, h6⟩
  · refine ⟨none, 0, by rw [h1, h2], fun hne => ?_⟩
    exact absurd (List.eq_nil_of_length_eq_zero h2) hne
  · refine ⟨_, _, h1, fun _ => ⟨g, rfl, ?_, fun i s hs => ?_⟩⟩
    · cases hc : assoc who ET with
      | none => rw [hc] at h1; simp at h1
      | some v => rw [hc] at h1; simp only [Option.getD_some] at h1; exact h.fr who v g hc (by rw [h1]; rfl)
    · rw [cells_at h3]
      have h7 := congrArg (fun l => l[i]?) h6
      simp only [List.getElem?_map, hs, Option.map_some] at h7
      have hlt : i < (byL who L).length := (List.getElem?_eq_some_iff.1 hs).1
      rw [List.getElem?_take_of_lt (by omega)] at h7
      simpa using h7

/-- What Text answers: text number n, or none. -/
def TextPost (w : World) (ls : List Bs) (n : Int) (e : Ending) (w' : World) : Prop :=
  Ext (fun _ => False) w w' ∧
  ((∃ v l, 0 ≤ n ∧ ls[n.toNat]? = some l ∧ e = .returned (.tuple #[v, .bool true]) ∧ OwnB w' v l ∧ ∀ k, v.ownBlock = some k → w.heap.size ≤ k) ∨
   ((n < 0 ∨ ls.length ≤ n) ∧ e = .returned (.tuple #[.slice none 0 0, .bool false])))

theorem info_bytes : (Try.prog.info? 33).map (fun i => (i.zero, i.size, i.bytes)) = some (some (.slice none 0 0), 1, 24) := by kernel_rfl

theorem reg_by {F : Nat → Prop} {w : World} {a : Nat} {L : List (Int × Bs)} (h : RegRep F w a L) (who : Int) (hlen : ∀ s ∈ byL who L, s.length < 9223372036854775808) (hL : L.length < 1073741824) :
    Calls Try.prog 32 #[.pointer (some ⟨a, 0, none⟩), .int .i64 who] w fun e w' =>
      ∃ v vs, e = .returned v ∧ OwnRows w.heap.size w' v vs (byL who L) ∧ Ext (fun _ => False) w w' := by
  obtain ⟨m, t, ov, ES, ET, h⟩ := h
  have c2 : w.cell? ⟨a, 2, none⟩ = some (.map (some t)) := cells_at h.obj 2
  have hlk := h.texts.lookup key_int Try.underlying70 _ zero_strs who w rfl
  obtain ⟨A, c, hv, hr⟩ := h.row who
  have hle : (byL who L).length ≤ L.length := by simp [byL]; exact List.length_filter_le _ _
  rw [hv] at hlk
  clear h hv
  go_enter Try.func32, Try.ntmps32
  go_wp2_with fail
  generalize hls : byL who L = ls at *
  go_loopw [5, 15] (fun out i W => ∃ (k : Nat) (vs : List Value), k ≤ ls.length ∧ i = .int .i64 k ∧ OwnRows w.heap.size W out vs (ls.take k) ∧ Ext (fun _ => False) w W)
    (fun _ i _ => ls.length - (intOf i).toNat)
  case atStart => exact ⟨0, [], by omega, rfl, OwnRows.nil _ _, Ext.refl _ _⟩
  case round =>
    obtain ⟨k, vs, hk, rfl, hR, hx⟩ := hrel
    by_cases hlt : k < ls.length
    · obtain ⟨g, rfl, _, hg⟩ := hr (by rintro rfl; simp at hlt)
      have hc := cell_same (hg k _ (List.getElem?_eq_getElem hlt)) hx
      have hl := hlen _ (List.getElem_mem hlt)
      have hlt' : (k : Int) < (ls.length : Int) := by omega
      have hll : (ls.take k).length = k := by simp; omega
      have hkb : k + 1 ≤ 1073741824 := by omega
      have Hll := Lib.hid hll
      clear hll
      go_wp2_with (first | (refine wpList_str_bytes Try.underlying9 Try.underlying33 Try.underlying5 rfl _ rfl (l := ls[k]) rfl hl ?_; intro c1 w1 hb1 hx1 hs1; have Hs1 := Lib.hid hs1; clear hs1) | (at_builtin; refine Hid.out ?_))
      refine Lib.hid ?_
      have hs1 := Hs1.out
      have hw := hx.size
      refine wpList_append_lit rfl _ _ 45 rfl Try.underlying45 info_bytes rfl (by decide) (v := u5) rfl (own_ext hR.row (hx1.alloc _) fun _ _ => id) (by simp; omega) rfl (heap_alloc_self _ _) rfl (by simp [Value.oneCell']) (by decide) (by rw [Hll.out]; omega) (by rw [Hll.out]; omega) ?_
      intro g2 c2 w2 ho2 hx2 hg2 hl2
      have hx12 : Ext (fun k => u5.ownBlock = some k) wr w2 := ((hx1.alloc _).mono fun _ _ => False.elim).trans hx2
      have hb2 := (hb1.ext ((Ext.refl (fun _ => False) _).alloc _) fun _ _ => id).ext hx2 fun k hk e => by
        simp [Value.ownBlock] at hk
        have := own_below hR.row k e
        omega
      have hR2 := hR.snoc hx12 ho2 hb2 (fun k hk => by simp [Value.ownBlock] at hk; omega) hw
      have hxx : Ext (fun _ => False) w w2 := hx.trans' hx12 fun b hb => .inr (own_from hR.row b hb)
      clear hs1 hg2 hx2
      go_wp2_with fail
      refine ⟨⟨k + 1, vs ++ [.slice (some ⟨wr.heap.size, 0, none⟩) (List.length ls[k]) c1], by omega, by go_num, ?_, hxx⟩, by simp [intOf]; omega⟩
      rw [Hll.out] at hR2
      rw [List.take_succ_eq_append_getElem hlt]
      exact hR2
    · have : k = ls.length := by omega
      subst this
      have hlt' : decide ((ls.length : Int) < (ls.length : Int)) = false := by simp
      rw [List.take_length] at hR
      go_wp2_with fail
      go_ret
      exact ⟨_, vs, rfl, by rw [hls]; exact hR, hx⟩
end Go.Proofs.Ytcedpdjjjfdbiaa
