/- The document's Side; no condition. -/
import Derived.Test.YtoflfhjeabpcjaaTrieDoc
namespace Go.Proofs.Ytoflfhjeabpcjaa
set_option linter.unusedVariables false
set_option linter.unusedSimpArgs false
open Go.RowKit

abbrev Ent (w : World) : World → Nat → Nat → Bs × Bs → Prop := EntryIs (· < w.heap.size)
/-- A row of entries, wherever it lies. -/
def Ents (w : World) (v : Value) (l : List (Bs × Bs)) : Prop := Row (EntryIs (· < w.heap.size)) 2 (· < w.heap.size) w v l
theorem EntryIs.still {w w' : World} {g n : Nat} {x : Bs × Bs} (h : EntryIs (· < w.heap.size) w g n x) (hx : Ext (fun _ => False) w w') : EntryIs (· < w'.heap.size) w' g n x := by
  obtain ⟨⟨a, b, c0, c1, ha, hb⟩, la, lb⟩ := h
  exact ⟨⟨a, b, cell_same c0 hx, cell_same c1 hx, (ha.mono fun k hk => Nat.lt_of_lt_of_le hk hx.size).same hx, (hb.mono fun k hk => Nat.lt_of_lt_of_le hk hx.size).same hx⟩, la, lb⟩
theorem Ents.still {w w' : World} {v : Value} {l : List (Bs × Bs)} (h : Ents w v l) (hx : Ext (fun _ => False) w w') : Ents w' v l := by
  obtain ⟨A, c, rfl, hc, h⟩ := h
  refine ⟨A, c, rfl, hc, fun hl => ?_⟩
  obtain ⟨g, o, rfl, hd, hr⟩ := h hl
  exact ⟨g, o, rfl, Nat.lt_of_lt_of_le hd hx.size, fun i x hxi => (hr i x hxi).still hx⟩
theorem info_entry : (Try.prog.info? 24).map (fun i => (i.zero, i.size, i.bytes)) = some (some (.agg #[.slice none 0 0, .slice none 0 0]), 2, 48) := by kernel_rfl
/-- Entries put into a row of the call's own. -/
structure OwnE (w W : World) (ov : Value) (l : List (Bs × Bs)) : Prop where
  row : ∃ vs : List (Value × Value), vs.length = l.length ∧ W.ownsRow w.heap.size 24 2 ov l.length (vs.flatMap fun p => [p.1, p.2]) ∧
    ∀ (i : Nat) (p : Value × Value) (e : Bs × Bs), vs[i]? = some p → l[i]? = some e → Byt (· < w.heap.size) w p.1 e.1 ∧ Byt (· < w.heap.size) w p.2 e.2 ∧ e.1.length ≤ 140737488351232 ∧ e.2.length ≤ 140737488351232
theorem OwnE.ents {w W : World} {ov : Value} {l : List (Bs × Bs)} (h : OwnE w W ov l) (hx : Ext (fun _ => False) w W) : Ents W ov l := by
  obtain ⟨vs, hl, ho, hv⟩ := h.row
  rcases ho.2 with ⟨rfl, h0⟩ | ⟨g, cap, cur, rfl, hg, hh, h1, _, hsz, htk⟩
  · have : l = [] := List.eq_nil_of_length_eq_zero h0
    subst this
    exact ⟨none, 0, rfl, Nat.le_refl _, fun h => absurd rfl h⟩
  · refine ⟨_, cap, rfl, h1, fun _ => ⟨g, 0, rfl, lt_of_heap hh, fun i e hi => ?_⟩⟩
    have hlt := (List.getElem?_eq_some_iff.1 hi).1
    have hvi : vs[i]? = some vs[i] := List.getElem?_eq_getElem (by omega)
    obtain ⟨b1, b2, l1, l2⟩ := hv i _ e hvi hi
    have hat : ∀ j, j < 2 → W.cell? ⟨g, 2 * i + j, none⟩ = [vs[i].1, vs[i].2][j]? := by
      intro j hj
      rw [cells_at hh, ← flatMap_at (f := fun p : Value × Value => [p.1, p.2]) (m := 2) (fun _ => rfl) vs i j _ hj hvi, ← htk, List.getElem?_take_of_lt (by omega)]
      simp
    refine ⟨⟨_, _, ?_, ?_, (b1.mono fun k hk => Nat.lt_of_lt_of_le hk hx.size).same hx, (b2.mono fun k hk => Nat.lt_of_lt_of_le hk hx.size).same hx⟩, l1, l2⟩
    · have := hat 0 (by decide)
      rw [Nat.zero_add, Nat.mul_comm]
      exact this
    · have := hat 1 (by decide)
      rw [Nat.zero_add, Nat.mul_comm]
      exact this
/-- The entries whose bit there is that. -/
def sideL (l : List (Bs × Bs)) (b : Nat) (r : Bool) : List (Bs × Bs) := l.filter fun e => bitB e.1 b == r
set_option maxRecDepth 100000 in
set_option maxHeartbeats 2000000 in
theorem dside_walk {w : World} {lv : Value} {l : List (Bs × Bs)} (hL : Ents w lv l) (hl : l.length ≤ 1099511627776) (b : Nat) (r : Bool) :
    Calls Try.prog 97 #[lv, .int .i64 b, .bool r] w fun e w' => ∃ v', e = .returned v' ∧ Ents w' v' (sideL l b r) ∧ Ext (fun _ => False) w w' := by
  obtain ⟨A, cp, hav, hcap, _⟩ := id hL
  subst hav
  have HL := Lib.hid hL
  clear hL
  go_enter Try.func97, Try.ntmps97
  go_wp2_with fail
  go_loopw [7, 8] (fun ov i W => ∃ k : Nat, k ≤ l.length ∧ i = .int .i64 k ∧ Ext (fun _ => False) w W ∧ OwnE w W ov (sideL (l.take k) b r)) (fun _ i _ => l.length - (intOf i).toNat)
  case atStart => exact ⟨0, Nat.zero_le _, rfl, Ext.refl _ _, ⟨[], rfl, ⟨by simp [sideL], .inl ⟨rfl, by simp [sideL]⟩⟩, by simp⟩⟩
  case round =>
    obtain ⟨k, hk, rfl, hx, hO⟩ := hrel
    by_cases hlt : k < l.length
    · obtain ⟨g, off, c', hav, _, ⟨⟨a, bb, c0, c1, ha, hb⟩, la, lb⟩⟩ := HL.out.at hlt
      simp only [Value.slice.injEq, true_and] at hav
      obtain ⟨rfl, rfl⟩ := hav
      have hkd : decide ((k : Int) < (l.length : Int)) = true := by simp; omega
      have d0 := cell_same c0 hx
      have d1 := cell_same c1 hx
      have htk : l.take (k + 1) = l.take k ++ [l[k]] := by rw [List.take_add_one, List.getElem?_eq_getElem hlt]; rfl
      have hsl : (sideL (l.take k) b r).length ≤ l.length := by
        refine Nat.le_trans (List.length_filter_le _ _) ?_
        rw [List.length_take]; omega
      have HO := Lib.hid (And.intro hx (And.intro hO (And.intro htk hsl)))
      have HB := Lib.hid (And.intro ha (And.intro hb (And.intro la lb)))
      obtain ⟨A1, cc1, rfl, _, _⟩ := id ha
      obtain ⟨A2, cc2, rfl, _, _⟩ := id hb
      clear hx hO ha hb la lb c0 c1 htk hsl
      go_wp2_with fail
      refine (dbit_walk (HB.out.1.same HO.out.1) (by have := HB.out.2.2.1; omega) (b : Int)).mono ?_
      rintro e _ ⟨rfl, rfl⟩
      rw [bitI_nat]
      by_cases hbe : bitB l[k].1 b = r
      · have hx : (bitB l[k].1 b == r) = true := by simpa using hbe
        have hsd : sideL (l.take (k + 1)) b r = sideL (l.take k) b r ++ [l[k]] := by
          rw [HO.out.2.2.1, sideL, List.filter_append]
          congr 1
          simp [hbe]
        have HS := Lib.hid hsd
        clear hbe hsd
        obtain ⟨vs, v1, v2, v3⟩ := HO.out.2.1.row
        have HV := Lib.hid (And.intro v1 (And.intro v2 v3))
        clear v1 v2 v3
        go_wp2_with (refine wpList_append_lit rfl _ _ 50 rfl Try.underlying50 info_entry rfl (by decide) rfl (own_ext HV.out.2.1 ((Ext.refl (fun _ => False) _).alloc _) fun _ _ => id) (Nat.le_trans HO.out.1.size ((Ext.refl (fun _ => False) _).alloc _).size) rfl (heap_alloc_self _ _) rfl (by simp [Value.oneCell']) (by decide) (by have := HO.out.2.2.2; omega) (by have := HO.out.2.2.2; omega) ?_; intro g2 c2 W2 ho2 hx2 hg2 hl2; have HZ := Lib.hid (And.intro ho2 hx2); clear ho2 hx2 hg2 hl2)
        have hxw : Ext (fun _ => False) w W2 := (HO.out.1.trans ((Ext.refl (fun _ => False) _).alloc _)).trans' HZ.out.2 fun k' hk' => .inr (own_base HV.out.2.1 k' hk')
        refine ⟨⟨k + 1, by omega, by go_num, hxw, ⟨vs ++ [(.slice A1 (l[k].1).length cc1, .slice A2 (l[k].2).length cc2)], ?_, ?_, ?_⟩⟩, by simp [intOf]; omega⟩
        · rw [HS.out, List.length_append, List.length_append, HV.out.1]; rfl
        · rw [HS.out, List.length_append, List.flatMap_append]
          exact HZ.out.1
        · intro i p e hp he
          rw [HS.out] at he
          by_cases hi : i < vs.length
          · rw [List.getElem?_append_left hi] at hp
            rw [List.getElem?_append_left (by rw [← HV.out.1]; exact hi)] at he
            exact HV.out.2.2 i p e hp he
          · rw [List.getElem?_append_right (by omega)] at hp
            rw [List.getElem?_append_right (by rw [← HV.out.1]; omega), ← HV.out.1] at he
            have hi0 : i - vs.length = 0 := by have := (List.getElem?_eq_some_iff.1 hp).1; simp at this; omega
            rw [hi0] at hp he
            simp at hp he
            subst hp he
            exact ⟨HB.out.1, HB.out.2.1, HB.out.2.2.1, HB.out.2.2.2⟩
      · have hx : (bitB l[k].1 b == r) = false := by simpa using hbe
        have hsd : sideL (l.take (k + 1)) b r = sideL (l.take k) b r := by
          rw [HO.out.2.2.1, sideL, List.filter_append]
          simp [hbe, sideL]
        have HS := Lib.hid hsd
        clear hbe hsd
        go_wp2_with fail
        refine ⟨⟨k + 1, by omega, by go_num, HO.out.1, by rw [HS.out]; exact HO.out.2.1⟩, by simp [intOf]; omega⟩
    · have hkd : decide ((k : Int) < (l.length : Int)) = false := by simp; omega
      have hkk : k = l.length := by omega
      subst hkk
      have HO := Lib.hid (And.intro hx hO)
      clear hx hO
      go_wp2_with fail
      go_ret
      have h2 := HO.out.2
      rw [List.take_length] at h2
      exact ⟨_, rfl, h2.ents HO.out.1, HO.out.1⟩
end Go.Proofs.Ytoflfhjeabpcjaa
