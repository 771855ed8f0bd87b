/- Parts of the proof, put together: TrieDoc, TrieSide, TrieAll, Const; no condition. -/
import Derived.Test.YtoflfhjeabpcjaaTrieMade
import Derived.Test.YtoflfhjeabpcjaaOpenEntry
import Derived.Test.YtoflfhjeabpcjaaTrieIter1
import Derived.Test.YtoflfhjeabpcjaaOpens
import Derived.Lib.SlBytesConst
/- The document's Bit, Fork, Side; no condition. -/
namespace Go.Proofs.Ytoflfhjeabpcjaa
set_option linter.unusedVariables false
set_option linter.unusedSimpArgs false
open Go.RowKit

theorem byte_bit2 : ∀ (c : Nat), c < 256 → ∀ (j : Nat), j < 9 → 0 < j → (((c : Int) / 2 ^ (8 - j)).tmod 2 == 1) = c.testBit (8 - j) := by
  have h : ∀ (c : Fin 256) (j : Fin 9), 0 < j.val → (((c.val : Int) / 2 ^ (8 - j.val)).tmod 2 == 1) = c.val.testBit (8 - j.val) := by decide +kernel
  exact fun c hc j h0 hj => h ⟨c, hc⟩ ⟨j, h0⟩ hj
set_option maxRecDepth 100000 in
theorem dbit_walk {w : World} {D : Nat → Prop} {v : Value} {k : Bs} (hb : Byt D w v k) (hk : k.length ≤ 140737488355328) (i : Int) :
    Calls Try.prog 26 #[v, .int .i64 i] w fun e w' => e = .returned (.bool (bitI k i)) ∧ w = w' := by
  have hw9 : IntKind.i64.wrap (9 * (k.length : Int)) = 9 * (k.length : Int) := IntWalk.i64_in _ (by omega)
  by_cases h0 : i < 0
  · have hr : bitI k i = false := by unfold bitI; rw [if_pos h0]
    obtain ⟨A, c, rfl, hcap, _⟩ := hb
    have h0' : decide (i < 0) = true := by simpa using h0
    go_enter Try.func26, Try.ntmps26
    go_wp2_with fail
    go_ret
    exact ⟨by first | rfl | (rw [hr]; rfl), rfl⟩
  have h0' : decide (i < 0) = false := by simpa using h0
  obtain ⟨n, rfl⟩ : ∃ n : Nat, i = (n : Int) := ⟨i.toNat, by omega⟩
  by_cases h1 : 9 * (k.length : Int) ≤ (n : Int)
  · have hr : bitI k n = false := by rw [bitI_nat]; unfold bitB; rw [if_pos (by omega)]
    obtain ⟨A, c, rfl, hcap, _⟩ := hb
    have h1' : decide (9 * (k.length : Int) ≤ (n : Int)) = true := by simpa using h1
    go_enter Try.func26, Try.ntmps26
    go_wp2_with fail
    go_ret
    exact ⟨by first | rfl | (rw [hr]; rfl), rfl⟩
  have h1' : decide (9 * (k.length : Int) ≤ (n : Int)) = false := by simpa using h1
  have hne : k ≠ [] := by rintro rfl; simp at h1
  obtain ⟨ad, c, rfl, hcap, hcell⟩ := hb.cell hne
  by_cases h2 : n % 9 = 0
  · have hr : bitI k n = true := by rw [bitI_nat]; unfold bitB; rw [if_neg (by omega), if_pos h2]
    go_enter Try.func26, Try.ntmps26
    go_wp2_with fail
    go_ret
    exact ⟨by first | rfl | (rw [hr]; rfl), rfl⟩
  have hlt : n / 9 < k.length := by omega
  have hc := hcell (n / 9) _ (List.getElem?_eq_getElem hlt)
  have hr : bitI k n = (k[n / 9]).toNat.testBit (8 - n % 9) := by
    rw [bitI_nat]; unfold bitB; rw [if_neg (by omega), if_neg h2]; simp [hlt]
  go_enter Try.func26, Try.ntmps26
  go_wp2_with fail
  go_ret
  refine ⟨?_, rfl⟩
  show Ending.returned (.bool (((k[n / 9].toNat : Int) / 2 ^ (8 - n % 9)).tmod 2 == 1)) = _
  rw [byte_bit2 _ k[n / 9].toNat_lt _ (by omega) (by omega)]
set_option maxRecDepth 100000 in
set_option maxHeartbeats 2000000 in
/-- The first place at which not all keys' bits are the same. -/
theorem dfork_walk {w : World} {D : Nat → Prop} {lv : Value} {l : List (Bs × Bs)} (hL : Row (EntryIs D) 2 D w lv l) (hl : l.length ≤ 1099511627776) (h0 : 0 < l.length) {b : Nat} (hb : b ≤ 1080)
    (hlow : ∀ i, i < b → ∀ e ∈ l, bitB e.1 i = bitB l[0].1 i) (hat : ∃ e ∈ l, bitB e.1 b ≠ bitB l[0].1 b) :
    Calls Try.prog 96 #[lv] w fun e w' => e = .returned (.int .i64 b) ∧ w = w' := by
  obtain ⟨A, cp, hav, hcap, _⟩ := id hL
  subst hav
  obtain ⟨g, off, c', hav, _, ⟨⟨a0, b0, c0, _, ha0, _⟩, la0, _⟩⟩ := hL.at h0
  simp only [Value.slice.injEq, true_and] at hav
  obtain ⟨rfl, rfl⟩ := hav
  have z0 : w.cell? ⟨g, off, none⟩ = some a0 := by simpa using c0
  have HL := Lib.hid hL
  have HA := Lib.hid (And.intro hlow hat)
  have HB0 := Lib.hid ha0
  clear hL hlow hat ha0 c0
  go_enter Try.func96, Try.ntmps96
  go_wp2_with fail
  go_loopw [3] (fun i W => ∃ k : Nat, k ≤ b ∧ i = .int .i64 k ∧ w = W) (fun i _ => b - (intOf i).toNat)
  case atStart => exact ⟨0, Nat.zero_le _, rfl, rfl⟩
  case round =>
    obtain ⟨k, hk, rfl, rfl⟩ := hrel
    have hk1080 : decide ((k : Int) ≤ 1080) = true := by simp; omega
    go_wp2_with fail
    refine (dbit_walk HB0.out (by omega) (k : Int)).mono ?_
    rintro e _ ⟨rfl, rfl⟩
    rw [bitI_nat]
    go_wp2_with fail
    go_loopw [5] (fun i W => ∃ j : Nat, 1 ≤ j ∧ j ≤ l.length ∧ i = .int .i64 j ∧ w = W ∧ ∀ m (h : m < l.length), m < j → bitB l[m].1 k = bitB l[0].1 k) (fun i _ => l.length - (intOf i).toNat)
    case atStart =>
      refine ⟨1, Nat.le_refl _, by omega, rfl, rfl, fun m h hm => ?_⟩
      have : m = 0 := by omega
      subst this
      rfl
    case round =>
      obtain ⟨j, hj1, hjl, rfl, rfl, hall⟩ := hrel
      by_cases hlt : j < l.length
      · obtain ⟨g', off', c'', hav, _, ⟨⟨aj, bj, cj, _, haj, _⟩, laj, _⟩⟩ := HL.out.at hlt
        simp only [Value.slice.injEq, Option.some.injEq, Addr.mk.injEq, true_and, and_true] at hav
        obtain ⟨⟨rfl, rfl⟩, rfl⟩ := hav
        have hjd : decide ((j : Int) < (l.length : Int)) = true := by simp; omega
        have HJ := Lib.hid (And.intro haj (And.intro hall laj))
        clear haj hall
        go_wp2_with fail
        refine (dbit_walk HJ.out.1 (by have := HJ.out.2.2; omega) (k : Int)).mono ?_
        rintro e _ ⟨rfl, rfl⟩
        rw [bitI_nat]
        by_cases hbe : bitB l[j].1 k = bitB l[0].1 k
        · have hx : (bitB l[j].1 k == bitB l[0].1 k) = true := by simpa using hbe
          have HX := Lib.hid hbe
          clear hbe
          go_wp2_with fail
          refine ⟨⟨j + 1, by omega, by omega, by go_num, trivial, fun m h hm => ?_⟩, by simp [intOf]; omega⟩
          by_cases hmj : m < j
          · exact HJ.out.2.1 m h hmj
          · have : m = j := by omega
            subst this
            exact HX.out
        · have hx : (bitB l[j].1 k == bitB l[0].1 k) = false := by simpa using hbe
          have hkb : k = b := by
            apply Classical.byContradiction
            intro hne
            exact hbe (HA.out.1 k (by omega) _ (List.getElem_mem hlt))
          subst hkb
          clear hbe
          go_wp2_with fail
          go_ret
          exact ⟨rfl, rfl⟩
      · have hjd : decide ((j : Int) < (l.length : Int)) = false := by simp; omega
        have hkb : k < b := by
          apply Classical.byContradiction
          intro hne
          have hkb : k = b := by omega
          subst hkb
          obtain ⟨e, he, hne⟩ := HA.out.2
          obtain ⟨m, hm, rfl⟩ := List.mem_iff_getElem.1 he
          exact hne (hall m hm (by omega))
        clear hall
        go_wp2_with fail
        exact ⟨⟨k + 1, by omega, by go_num, trivial⟩, by simp [intOf]; omega⟩
end Go.Proofs.Ytoflfhjeabpcjaa
/- The document's Side; no condition. -/
namespace Go.Proofs.Ytoflfhjeabpcjaa
set_option linter.unusedVariables false
set_option linter.unusedSimpArgs false
open Go.RowKit

abbrev Ent (w : World) : World → Nat → Nat → Bs × Bs → Prop := EntryIs (· < w.heap.size)
/-- A row of entries, wherever it lies. -/
def Ents (w : World) (v : Value) (l : List (Bs × Bs)) : Prop := Row (EntryIs (· < w.heap.size)) 2 (· < w.heap.size) w v l
theorem EntryIs.still {w w' : World} {g n : Nat} {x : Bs × Bs} (h : EntryIs (· < w.heap.size) w g n x) (hx : Ext (fun _ => False) w w') : EntryIs (· < w'.heap.size) w' g n x := by
  obtain ⟨⟨a, b, c0, c1, ha, hb⟩, la, lb⟩ := h
  exact ⟨⟨a, b, cell_same c0 hx, cell_same c1 hx, (ha.mono fun k hk => Nat.lt_of_lt_of_le hk hx.size).same hx, (hb.mono fun k hk => Nat.lt_of_lt_of_le hk hx.size).same hx⟩, la, lb⟩
theorem Ents.still {w w' : World} {v : Value} {l : List (Bs × Bs)} (h : Ents w v l) (hx : Ext (fun _ => False) w w') : Ents w' v l := by
  obtain ⟨A, c, rfl, hc, h⟩ := h
  refine ⟨A, c, rfl, hc, fun hl => ?_⟩
  obtain ⟨g, o, rfl, hd, hr⟩ := h hl
  exact ⟨g, o, rfl, Nat.lt_of_lt_of_le hd hx.size, fun i x hxi => (hr i x hxi).still hx⟩
theorem info_entry : (Try.prog.info? 24).map (fun i => (i.zero, i.size, i.bytes)) = some (some (.agg #[.slice none 0 0, .slice none 0 0]), 2, 48) := by kernel_rfl
/-- Entries put into a row of the call's own. -/
structure OwnE (w W : World) (ov : Value) (l : List (Bs × Bs)) : Prop where
  row : ∃ vs : List (Value × Value), vs.length = l.length ∧ W.ownsRow w.heap.size 24 2 ov l.length (vs.flatMap fun p => [p.1, p.2]) ∧
    ∀ (i : Nat) (p : Value × Value) (e : Bs × Bs), vs[i]? = some p → l[i]? = some e → Byt (· < w.heap.size) w p.1 e.1 ∧ Byt (· < w.heap.size) w p.2 e.2 ∧ e.1.length ≤ 140737488351232 ∧ e.2.length ≤ 140737488351232
theorem OwnE.ents {w W : World} {ov : Value} {l : List (Bs × Bs)} (h : OwnE w W ov l) (hx : Ext (fun _ => False) w W) : Ents W ov l := by
  obtain ⟨vs, hl, ho, hv⟩ := h.row
  rcases ho.2 with ⟨rfl, h0⟩ | ⟨g, cap, cur, rfl, hg, hh, h1, _, hsz, htk⟩
  · have : l = [] := List.eq_nil_of_length_eq_zero h0
    subst this
    exact ⟨none, 0, rfl, Nat.le_refl _, fun h => absurd rfl h⟩
  · refine ⟨_, cap, rfl, h1, fun _ => ⟨g, 0, rfl, lt_of_heap hh, fun i e hi => ?_⟩⟩
    have hlt := (List.getElem?_eq_some_iff.1 hi).1
    have hvi : vs[i]? = some vs[i] := List.getElem?_eq_getElem (by omega)
    obtain ⟨b1, b2, l1, l2⟩ := hv i _ e hvi hi
    have hat : ∀ j, j < 2 → W.cell? ⟨g, 2 * i + j, none⟩ = [vs[i].1, vs[i].2][j]? := by
      intro j hj
      rw [cells_at hh, ← flatMap_at (f := fun p : Value × Value => [p.1, p.2]) (m := 2) (fun _ => rfl) vs i j _ hj hvi, ← htk, List.getElem?_take_of_lt (by omega)]
      simp
    refine ⟨⟨_, _, ?_, ?_, (b1.mono fun k hk => Nat.lt_of_lt_of_le hk hx.size).same hx, (b2.mono fun k hk => Nat.lt_of_lt_of_le hk hx.size).same hx⟩, l1, l2⟩
    · have := hat 0 (by decide)
      rw [Nat.zero_add, Nat.mul_comm]
      exact this
    · have := hat 1 (by decide)
      rw [Nat.zero_add, Nat.mul_comm]
      exact this
/-- The entries whose bit there is that. -/
def sideL (l : List (Bs × Bs)) (b : Nat) (r : Bool) : List (Bs × Bs) := l.filter fun e => bitB e.1 b == r
set_option maxRecDepth 100000 in
set_option maxHeartbeats 2000000 in
theorem dside_walk {w : World} {lv : Value} {l : List (Bs × Bs)} (hL : Ents w lv l) (hl : l.length ≤ 1099511627776) (b : Nat) (r : Bool) :
    Calls Try.prog 97 #[lv, .int .i64 b, .bool r] w fun e w' => ∃ v', e = .returned v' ∧ Ents w' v' (sideL l b r) ∧ Ext (fun _ => False) w w' := by
  obtain ⟨A, cp, hav, hcap, _⟩ := id hL
  subst hav
  have HL := Lib.hid hL
  clear hL
  go_enter Try.func97, Try.ntmps97
  go_wp2_with fail
  go_loopw [7, 8] (fun ov i W => ∃ k : Nat, k ≤ l.length ∧ i = .int .i64 k ∧ Ext (fun _ => False) w W ∧ OwnE w W ov (sideL (l.take k) b r)) (fun _ i _ => l.length - (intOf i).toNat)
  case atStart => exact ⟨0, Nat.zero_le _, rfl, Ext.refl _ _, ⟨[], rfl, ⟨by simp [sideL], .inl ⟨rfl, by simp [sideL]⟩⟩, by simp⟩⟩
  case round =>
    obtain ⟨k, hk, rfl, hx, hO⟩ := hrel
    by_cases hlt : k < l.length
    · obtain ⟨g, off, c', hav, _, ⟨⟨a, bb, c0, c1, ha, hb⟩, la, lb⟩⟩ := HL.out.at hlt
      simp only [Value.slice.injEq, true_and] at hav
      obtain ⟨rfl, rfl⟩ := hav
      have hkd : decide ((k : Int) < (l.length : Int)) = true := by simp; omega
      have d0 := cell_same c0 hx
      have d1 := cell_same c1 hx
      have htk : l.take (k + 1) = l.take k ++ [l[k]] := by rw [List.take_add_one, List.getElem?_eq_getElem hlt]; rfl
      have hsl : (sideL (l.take k) b r).length ≤ l.length := by
        refine Nat.le_trans (List.length_filter_le _ _) ?_
        rw [List.length_take]; omega
      have HO := Lib.hid (And.intro hx (And.intro hO (And.intro htk hsl)))
      have HB := Lib.hid (And.intro ha (And.intro hb (And.intro la lb)))
      obtain ⟨A1, cc1, rfl, _, _⟩ := id ha
      obtain ⟨A2, cc2, rfl, _, _⟩ := id hb
      clear hx hO ha hb la lb c0 c1 htk hsl
      go_wp2_with fail
      refine (dbit_walk (HB.out.1.same HO.out.1) (by have := HB.out.2.2.1; omega) (b : Int)).mono ?_
      rintro e _ ⟨rfl, rfl⟩
      rw [bitI_nat]
      by_cases hbe : bitB l[k].1 b = r
      · have hx : (bitB l[k].1 b == r) = true := by simpa using hbe
        have hsd : sideL (l.take (k + 1)) b r = sideL (l.take k) b r ++ [l[k]] := by
          rw [HO.out.2.2.1, sideL, List.filter_append]
          congr 1
          simp [hbe]
        have HS := Lib.hid hsd
        clear hbe hsd
        obtain ⟨vs, v1, v2, v3⟩ := HO.out.2.1.row
        have HV := Lib.hid (And.intro v1 (And.intro v2 v3))
        clear v1 v2 v3
        go_wp2_with (refine wpList_append_lit rfl _ _ 50 rfl Try.underlying50 info_entry rfl (by decide) rfl (own_ext HV.out.2.1 ((Ext.refl (fun _ => False) _).alloc _) fun _ _ => id) (Nat.le_trans HO.out.1.size ((Ext.refl (fun _ => False) _).alloc _).size) rfl (heap_alloc_self _ _) rfl (by simp [Value.oneCell']) (by decide) (by have := HO.out.2.2.2; omega) (by have := HO.out.2.2.2; omega) ?_; intro g2 c2 W2 ho2 hx2 hg2 hl2; have HZ := Lib.hid (And.intro ho2 hx2); clear ho2 hx2 hg2 hl2)
        have hxw : Ext (fun _ => False) w W2 := (HO.out.1.trans ((Ext.refl (fun _ => False) _).alloc _)).trans' HZ.out.2 fun k' hk' => .inr (own_base HV.out.2.1 k' hk')
        refine ⟨⟨k + 1, by omega, by go_num, hxw, ⟨vs ++ [(.slice A1 (l[k].1).length cc1, .slice A2 (l[k].2).length cc2)], ?_, ?_, ?_⟩⟩, by simp [intOf]; omega⟩
        · rw [HS.out, List.length_append, List.length_append, HV.out.1]; rfl
        · rw [HS.out, List.length_append, List.flatMap_append]
          exact HZ.out.1
        · intro i p e hp he
          rw [HS.out] at he
          by_cases hi : i < vs.length
          · rw [List.getElem?_append_left hi] at hp
            rw [List.getElem?_append_left (by rw [← HV.out.1]; exact hi)] at he
            exact HV.out.2.2 i p e hp he
          · rw [List.getElem?_append_right (by omega)] at hp
            rw [List.getElem?_append_right (by rw [← HV.out.1]; omega), ← HV.out.1] at he
            have hi0 : i - vs.length = 0 := by have := (List.getElem?_eq_some_iff.1 hp).1; simp at this; omega
            rw [hi0] at hp he
            simp at hp he
            subst hp he
            exact ⟨HB.out.1, HB.out.2.1, HB.out.2.2.1, HB.out.2.2.2⟩
      · have hx : (bitB l[k].1 b == r) = false := by simpa using hbe
        have hsd : sideL (l.take (k + 1)) b r = sideL (l.take k) b r := by
          rw [HO.out.2.2.1, sideL, List.filter_append]
          simp [hbe, sideL]
        have HS := Lib.hid hsd
        clear hbe hsd
        go_wp2_with fail
        refine ⟨⟨k + 1, by omega, by go_num, HO.out.1, by rw [HS.out]; exact HO.out.2.1⟩, by simp [intOf]; omega⟩
    · have hkd : decide ((k : Int) < (l.length : Int)) = false := by simp; omega
      have hkk : k = l.length := by omega
      subst hkk
      have HO := Lib.hid (And.intro hx hO)
      clear hx hO
      go_wp2_with fail
      go_ret
      have h2 := HO.out.2
      rw [List.take_length] at h2
      exact ⟨_, rfl, h2.ents HO.out.1, HO.out.1⟩
end Go.Proofs.Ytoflfhjeabpcjaa
/- All: the entries, in other memory; no condition. -/
namespace Go.Proofs.Ytoflfhjeabpcjaa
set_option linter.unusedVariables false
set_option linter.unusedSimpArgs false
open Go.RowKit Go.Shelf
attribute [local go_sem] Oper.semAt_some

/-- A row of entries of one's own, each with bytes of its own. -/
structure OwnF (N : Nat) (D : Nat → Prop) (w : World) (ov : Value) (vs : List (Value × Value)) (l : List (Bs × Bs)) : Prop where
  len : vs.length = l.length
  row : w.ownsRow N 24 2 ov l.length (vs.flatMap fun p => [p.1, p.2])
  rowD : ∀ k, ov.ownBlock = some k → D k
  ent : ∀ (i : Nat) (p : Value × Value) (e : Bs × Bs), vs[i]? = some p → l[i]? = some e → OwnB w p.1 e.1 ∧ OwnB w p.2 e.2
  from_ : ∀ (i : Nat) (p : Value × Value), vs[i]? = some p → (∀ q, p.1.ownBlock = some q → N ≤ q ∧ D q) ∧ (∀ q, p.2.ownBlock = some q → N ≤ q ∧ D q ∧ p.1.ownBlock ≠ some q)
theorem OwnF.nil (N : Nat) (D : Nat → Prop) (w : World) : OwnF N D w (.slice none 0 0) [] [] := ⟨rfl, ⟨rfl, .inl ⟨rfl, rfl⟩⟩, fun k hk => by simp [Value.ownBlock] at hk, by simp, by simp⟩
theorem OwnF.form {N : Nat} {D : Nat → Prop} {w : World} {ov : Value} {vs : List (Value × Value)} {l : List (Bs × Bs)} (h : OwnF N D w ov vs l) : ∃ A c, ov = .slice A l.length c := own_form h.row
theorem OwnF.ext {N : Nat} {D F : Nat → Prop} {w w' : World} {ov : Value} {vs : List (Value × Value)} {l : List (Bs × Bs)} (h : OwnF N D w ov vs l) (hx : Ext F w w') (hF : ∀ k, D k → ¬ F k) : OwnF N D w' ov vs l := by
  refine ⟨h.len, own_ext h.row hx fun k hk => hF k (h.rowD k hk), h.rowD, fun i p e hp he => ?_, h.from_⟩
  obtain ⟨h1, h2⟩ := h.ent i p e hp he
  obtain ⟨f1, f2⟩ := h.from_ i p hp
  exact ⟨h1.ext hx fun k hk => hF k (f1 k hk).2, h2.ext hx fun k hk => hF k (f2 k hk).2.1⟩
/-- A block of bytes is no row of entries. -/
theorem OwnB.not_row {w : World} {v ov : Value} {b : Bs} {N n : Nat} {xs : List Value} (h : OwnB w v b) (hr : w.ownsRow N 24 2 ov n xs) : ∀ q, v.ownBlock = some q → ov.ownBlock ≠ some q := by
  intro q hq ho
  obtain ⟨cs, fr, hc⟩ := h.ty q hq
  rcases hr.2 with ⟨rfl, _⟩ | ⟨g, cap, cur, rfl, _, hg, _⟩
  · simp [Value.ownBlock] at ho
  · simp only [Value.ownBlock, Option.some.injEq] at ho
    subst ho
    rw [hg] at hc
    simp only [Option.some.injEq, Obj.cells.injEq] at hc
    exact absurd hc.2.1 (by decide)
theorem OwnF.snoc {N : Nat} {D D' : Nat → Prop} {w w1 : World} {ov ov' a b : Value} {vs : List (Value × Value)} {l : List (Bs × Bs)} {k v : Bs} (h : OwnF N D w ov vs l) (hx : Ext (fun q => ov.ownBlock = some q) w w1)
    (hr : w1.ownsRow N 24 2 ov' (l.length + 1) ((vs.flatMap fun p => [p.1, p.2]) ++ [a, b])) (ha : OwnB w a k) (hb : OwnB w b v) (hD : ∀ q, D q → D' q) (hD1 : ∀ q, ov'.ownBlock = some q → D' q) (hD2 : ∀ q, a.ownBlock = some q → N ≤ q ∧ D' q) (hD3 : ∀ q, b.ownBlock = some q → N ≤ q ∧ D' q ∧ a.ownBlock ≠ some q) :
    OwnF N D' w1 ov' (vs ++ [(a, b)]) (l ++ [(k, v)]) := by
  refine ⟨by simp [h.len], by simpa using hr, hD1, fun i p e hp he => ?_, fun i p hp => ?_⟩
  · have hne : ∀ (u : Value) (x : Bs), OwnB w u x → OwnB w1 u x := fun u x hu => hu.ext hx fun q hq => hu.not_row h.row q hq
    by_cases hi : i < l.length
    · rw [List.getElem?_append_left (by rw [h.len]; exact hi)] at hp
      rw [List.getElem?_append_left hi] at he
      obtain ⟨h1, h2⟩ := h.ent i p e hp he
      exact ⟨hne _ _ h1, hne _ _ h2⟩
    · have hi' : i = l.length := by
        have := (List.getElem?_eq_some_iff.1 he).1
        simp at this
        omega
      subst hi'
      rw [← h.len] at hp
      simp only [List.getElem?_concat_length, Option.some.injEq] at hp he
      subst hp he
      exact ⟨hne _ _ ha, hne _ _ hb⟩
  · by_cases hi : i < vs.length
    · rw [List.getElem?_append_left hi] at hp
      obtain ⟨f1, f2⟩ := h.from_ i p hp
      exact ⟨fun q hq => ⟨(f1 q hq).1, hD q (f1 q hq).2⟩, fun q hq => ⟨(f2 q hq).1, hD q (f2 q hq).2.1, (f2 q hq).2.2⟩⟩
    · have hi' : i = vs.length := by
        have := (List.getElem?_eq_some_iff.1 hp).1
        simp at this
        omega
      subst hi'
      simp only [List.getElem?_concat_length, Option.some.injEq] at hp
      subst hp
      exact ⟨hD2, hD3⟩
theorem OwnF.less {N N' : Nat} {D : Nat → Prop} {w : World} {ov : Value} {vs : List (Value × Value)} {l : List (Bs × Bs)} (h : OwnF N D w ov vs l) (hN : N' ≤ N) : OwnF N' D w ov vs l :=
  ⟨h.len, own_less h.row hN, h.rowD, h.ent, fun i p hp => ⟨fun q hq => ⟨Nat.le_trans hN ((h.from_ i p hp).1 q hq).1, ((h.from_ i p hp).1 q hq).2⟩, fun q hq => ⟨Nat.le_trans hN ((h.from_ i p hp).2 q hq).1, ((h.from_ i p hp).2 q hq).2⟩⟩⟩
/-- What All's own cells hold when some entries have come. -/
def AllI (b0 : Nat) (w1 : World) (D : Nat → Prop) (pre : List EntV) (A : World) : Prop :=
  ∃ ov vs, A.heap[b0]? = some (.cells #[ov] 50 (0, 0)) ∧ OwnF w1.heap.size (fun b => D b ∧ b ≠ b0) A ov vs (pre.map EntV.kvs) ∧ D b0 ∧ (∀ b, D b → b < A.heap.size ∧ (b = b0 ∨ w1.heap.size ≤ b)) ∧ Ext (· = b0) w1 A
set_option maxRecDepth 100000 in
set_option maxHeartbeats 1000000 in
theorem all_walk {D : Nat → Prop} {w : World} {c : Nat} {o : Option Tr} (h : TI D w c o) (hn : (Tr.entsO o).length ≤ 1048576) :
    Calls Try.prog 30 #[ptrV c] w fun e w' => ∃ ov vs D', e = .returned ov ∧ OwnF w.heap.size D' w' ov vs (Tr.entsO o) ∧ (∀ b, D' b → w.heap.size ≤ b) ∧ Ext (fun _ => False) w w' := by
  obtain ⟨v, h1, h2⟩ := h.root
  have c0 : w.cell? ⟨c, 0, none⟩ = some v := cells_at h1 0
  have hc := lt_of_heap h1
  have HT := Lib.hid h
  clear h
  cases o with
  | none =>
    simp only [RootV] at h2
    subst h2
    clear h1
    refine callsIn_wide.1 (callsIn_of_wp_marks (F := Fence.wide) (n := 0) Try.func30 rfl trivial ?_)
    simp only [Try.ntmps30, List.size_toArray, List.length_cons, List.length_nil, Nat.reduceAdd, Nat.reduceSub, Array.replicate_succ, Array.replicate_zero, List.push_toArray, List.append_toArray, List.nil_append, List.cons_append]
    refine wpIn_wide.2 ?_
    go_wp2_with fail
    refine ⟨_, results_tmp rfl _ _ _, ?_⟩
    exact ⟨.slice none 0 0, [], fun _ => False, rfl, OwnF.nil _ _ _, fun _ => False.elim, Ext.refl _ _⟩
  | some t =>
    obtain ⟨p, rfl, hN⟩ := h2
    have HN := Lib.hid (And.intro h1 hN)
    clear h1 hN
    refine callsIn_wide.1 (callsIn_of_wp_marks (F := Fence.wide) (n := 0) Try.func30 rfl trivial ?_)
    simp only [Try.ntmps30, List.size_toArray, List.length_cons, List.length_nil, Nat.reduceAdd, Nat.reduceSub, Array.replicate_succ, Array.replicate_zero, List.push_toArray, List.append_toArray, List.nil_append, List.cons_append]
    refine wpIn_wide.2 ?_
    go_wp2_with fail
    refine (entries_walk _ p).mono ?_
    rintro e w1 ⟨rfl, hb, x1⟩
    have H1 := Lib.hid (And.intro hb x1)
    clear hb x1
    go_wp2_with fail
    have hsz : (w.alloc (.cells #[.slice none 0 0] 50 (0, 0))).heap.size = w.heap.size + 1 := by simp
    have hb1 : w1.heap[w.heap.size + 1]? = some (.cells #[ptrV p] 92 (0, 0)) := by rw [← hsz]; exact H1.out.1
    have ho1 : w1.heap[w.heap.size]? = some (.cells #[.slice none 0 0] 50 (0, 0)) := H1.out.2.heap (heap_alloc_self _ _) id
    have xw : Ext (fun _ => False) w w1 := ((Ext.refl (fun _ => False) w).alloc _).trans H1.out.2
    obtain ⟨xs, y1, y2, y3⟩ := YR.of HN.out.2
    have hDw : ∀ b, D b → b < w.heap.size := HT.out.below
    have y1' : YR D w1 t p xs := y1.heaps fun k hk => xw.heap_eq (hDw k hk) id
    have hxl : xs.length = (Tr.entsO (some t)).length := by rw [show Tr.entsO (some t) = t.ents from rfl, ← y2, List.length_map]
    have hlt1 := lt_of_heap hb1
    have HX := Lib.hid (And.intro y2 (And.intro y3 (And.intro xw hxl)))
    clear y1 y2 y3 xw H1
    refine (wpIn_wide (n := 0)).1 ?_
    refine wpIn_range1 (m := 0) (gf := 108) (lb := #[.pointer (some ⟨w.heap.size + 1, 0, none⟩)]) rfl (enters_of Try.func108 (by kernel_rfl) rfl) (enc := EntV.enc) (xs := xs) (K := fun b => b < w1.heap.size ∧ b ≠ w.heap.size) (fun b hb => hb.1)
      (entries_iter (D := D) y1' hb1 (fun b hb => ⟨by have := hDw b hb; omega, by have := hDw b hb; omega⟩) ⟨hlt1, by omega⟩ (fun b hb => hb.1) (by omega)) (AllI w.heap.size w1) (· = w.heap.size) ?_ ?_ ?_ ?_ ?_
    · rintro D' pre A B ⟨ov, vs, i1, i2, i3, i4, i5⟩ hx
      exact ⟨ov, vs, hx.heap i1 (fun h => h.1 i3), i2.ext hx (fun k hk hh => hh.1 hk.1), i3, fun b hb => ⟨Nat.lt_of_lt_of_le (i4 b hb).1 hx.size, (i4 b hb).2⟩, i5.trans' hx fun b hb => by
        by_cases h1 : b = w.heap.size
        · exact .inl h1
        · exact .inr (Nat.le_of_not_lt fun h2 => hb.2 ⟨h2, h1⟩)⟩
    · rintro D' pre A b ⟨ov, vs, i1, i2, i3, i4, i5⟩ hb
      refine ⟨(i4 b hb).1, fun h => ?_⟩
      rcases (i4 b hb).2 with h1 | h1
      · exact h.2 h1
      · have := h.1
        omega
    · exact ⟨.slice none 0 0, [], ho1, OwnF.nil _ _ _, rfl, fun b hb => ⟨by have := lt_of_heap ho1; omega, .inl hb⟩, Ext.refl _ _⟩
    · rintro l D' pre ⟨kv, vv, k, v⟩ A ⟨ov, vs, i1, i2, i3, i4, i5⟩ hpre hl hl2 hnl
      obtain ⟨b1, b2⟩ := HX.out.2.1 ⟨kv, vv, k, v⟩ (by obtain ⟨r, hr⟩ := hpre; rw [← hr]; simp)
      have hmem : (k, v) ∈ t.ents := by
        rw [← HX.out.1]
        exact List.mem_map.2 ⟨⟨kv, vv, k, v⟩, by obtain ⟨r, hr⟩ := hpre; rw [← hr]; simp, rfl⟩
      have hlen : pre.length + 1 ≤ xs.length := by
        obtain ⟨r, hr⟩ := hpre
        have := congrArg List.length hr
        simp at this
        omega
      obtain ⟨lk, lv⟩ := HT.out.ents (k, v) hmem
      simp only at b1 b2 lk lv
      have xA : Ext (fun _ => False) w A := (HX.out.2.2.1.trans' i5 fun b hb => .inr (by omega))
      have HB := Lib.hid (And.intro (b1.ext xA fun _ _ => id) (b2.ext xA fun _ _ => id))
      obtain ⟨A1, c1, rfl, _, _⟩ := b1
      obtain ⟨A2, c2, rfl, _, _⟩ := b2
      have HI := Lib.hid (And.intro i1 (And.intro i2 (And.intro i3 (And.intro i4 (And.intro i5 (And.intro hpre (And.intro xA (And.intro hl (And.intro hl2 hnl)))))))))
      clear i1 i2 i3 i4 i5 hpre y1' ho1 hb1 xA hl hl2 hnl hmem
      refine wpR_region_lit (by kernel_rfl) (by rintro ⟨_, _, h⟩; exact h) ?_
      unfold EntV.enc
      have hnew := heap_alloc_self A (.cells #[.slice none 0 0, .slice none 0 0] 24 (0, 0))
      go_wp2_with (refine wpList_store_row rfl 24 (.tmp 4) _ rfl A.heap.size _ rfl rfl 24 _ hnew (by kernel_rfl) (by kernel_rfl) (by kernel_rfl) ?_)
      have x2 : Ext (fun b => A.heap.size ≤ b) A ((A.alloc (.cells #[.slice none 0 0, .slice none 0 0] 24 (0, 0))).setRow A.heap.size #[.slice A1 k.length c1, .slice A2 v.length c2]) := ((Ext.refl _ A).alloc _).setRow (.inl (Nat.le_refl _)) _
      have g2 : ((A.alloc (.cells #[.slice none 0 0, .slice none 0 0] 24 (0, 0))).setRow A.heap.size #[.slice A1 k.length c1, .slice A2 v.length c2]).heap[A.heap.size]? = some (.cells #[.slice A1 k.length c1, .slice A2 v.length c2] 24 (0, 0)) := setRow_heap _ _ _ _ _ _ hnew
      refine ⟨x2, fun W2 hw2 => ?_⟩
      have hlA := HI.out.2.2.2.2.2.2.2.1
      have g3 := hw2.heap g2 (fun e => by omega)
      have o3 := hw2.heap (x2.heap HI.out.1 (by have := lt_of_heap HI.out.1; omega)) (fun e => HI.out.2.2.2.2.2.2.2.2.2 (by rw [← e]; exact HI.out.2.2.1))
      have x3 : Ext (· = l) A W2 := (x2.mono (F1 := (· = l)) fun b hb hh => by omega).trans hw2
      clear x2 g2 hnew hw2
      have hAl := lt_of_heap g3
      have hol := lt_of_heap o3
      have d0 : W2.cell? ⟨A.heap.size, 0, none⟩ = some (.slice A1 k.length c1) := cells_at g3 0
      have d1 : W2.cell? ⟨A.heap.size, 1, none⟩ = some (.slice A2 v.length c2) := cells_at g3 1
      have d2 : W2.cell? ⟨w.heap.size, 0, none⟩ = some ov := cells_at o3 0
      obtain ⟨Ao, co, rfl⟩ := HI.out.2.1.form
      have HW := Lib.hid (And.intro g3 (And.intro o3 x3))
      clear g3 o3 x3
      refine wpIn_block ?_
      refine wpR_region_bar (Cls [w.heap.size, A.heap.size] _) [([0, 1], 2), ([], 3), ([], 4)] [] 5 [] [] (by kernel_rfl) (by kernel_rfl) (by kernel_rfl) (by rintro ⟨_, _, h⟩; exact h) (Cls.refl _ _) ?_
      try dsimp only [wpMix, wpSegs, pick, List.getElem?_cons_zero, List.getElem?_cons_succ]
      generalize hz : Act.mk _ _ = z
      repeat (first | (refine wpQuiet_step (fun K hK => ?_); replace hK := Lib.hid hK; subst hz; go_simp; generalize hz : Act.mk _ _ = z; refine hK.out z ?_; clear hK K) | (refine wpQuiet_step (fun K hK => ?_); replace hK := Lib.hid hK; subst hz; refine iteSkip (by kernel_rfl) ?_; go_simp; generalize hz : Act.mk _ _ = z; refine hK.out z ?_; clear hK K))
      try refine wpQuiet_nil ?_
      subst hz
      try dsimp only [NoPan]
      go_wp2_with fail
      have hw1 : w.heap.size ≤ w1.heap.size := HX.out.2.2.1.size
      have hll : w1.heap.size ≤ l := HI.out.2.2.2.2.2.2.2.2.1
      have hDl : ∀ b, D b → ¬ (b = l) := fun b hb e => by have := hDw b hb; omega
      refine (copied_walk (k := k) (v := v) (HB.out.1.ext HW.out.2.2.drew hDl) (HB.out.2.ext HW.out.2.2.drew hDl) (by omega) (by omega)).mono ?_
      rintro e w3 ⟨ka, va, rfl, ok, ov3, fk, fv, x4⟩
      obtain ⟨A5, c5, rfl⟩ := ok.formv
      obtain ⟨A6, c6, rfl⟩ := ov3.formv
      have H3 := Lib.hid (And.intro ok (And.intro ov3 (And.intro fk (And.intro fv x4))))
      clear ok ov3 fk fv x4
      go_wp2_with fail
      have hCl : ∀ b' ∈ [w.heap.size, A.heap.size], b' < W2.drew.heap.size := by simp; exact ⟨hol, hAl⟩
      have C3 : Cls [w.heap.size, A.heap.size] W2.drew w3 := (Cls.refl _ _).old H3.out.2.2.2.2 hCl
      have hC3 : ∀ b' ∈ [w.heap.size, A.heap.size], b' < w3.heap.size := fun b' hb' => Nat.lt_of_lt_of_le (hCl b' hb') H3.out.2.2.2.2.size
      refine ⟨C3, ?_⟩
      try dsimp only [wpMix, wpSegs, pick, List.getElem?_cons_zero, List.getElem?_cons_succ]
      generalize hz : Act.mk _ _ = z
      repeat (first | (refine wpQuiet_step (fun K hK => ?_); replace hK := Lib.hid hK; subst hz; go_simp; generalize hz : Act.mk _ _ = z; refine hK.out z ?_; clear hK K) | (refine wpQuiet_step (fun K hK => ?_); replace hK := Lib.hid hK; subst hz; refine iteSkip (by kernel_rfl) ?_; go_simp; generalize hz : Act.mk _ _ = z; refine hK.out z ?_; clear hK K))
      try refine wpQuiet_nil ?_
      subst hz
      try dsimp only [NoPan]
      go_wp2_with fail
      have hxe : ∀ o : Obj, Ext (fun _ => False) w3 (w3.alloc o) := fun o => (Ext.refl (fun _ => False) w3).alloc o
      have C4 := fun o : Obj => C3.old (hxe o) hC3
      refine ⟨C4 _, ?_⟩
      try dsimp only [wpMix, wpSegs, pick, List.getElem?_cons_zero, List.getElem?_cons_succ]
      generalize hz : Act.mk _ _ = z
      repeat (first | (refine wpQuiet_step (fun K hK => ?_); replace hK := Lib.hid hK; subst hz; go_simp; generalize hz : Act.mk _ _ = z; refine hK.out z ?_; clear hK K) | (refine wpQuiet_step (fun K hK => ?_); replace hK := Lib.hid hK; subst hz; refine iteSkip (by kernel_rfl) ?_; go_simp; generalize hz : Act.mk _ _ = z; refine hK.out z ?_; clear hK K))
      try refine wpQuiet_nil ?_
      subst hz
      try dsimp only [NoPan]
      have xA3 : Ext (· = l) A w3 := HW.out.2.2.drew.trans' H3.out.2.2.2.2 fun _ h => h.elim
      have hnl := HI.out.2.2.2.2.2.2.2.2.2
      have hpl : (pre.map EntV.kvs).length = pre.length := List.length_map ..
      have o4 : OwnF w1.heap.size (fun b => D' b ∧ b ≠ w.heap.size) w3 (.slice Ao pre.length co) vs (pre.map EntV.kvs) := by
        rw [← hpl]
        exact HI.out.2.1.ext xA3 fun q hq e => hnl (e ▸ hq.1)
      have hxn := HX.out.2.2.2
      have hw13 : w1.heap.size ≤ w3.heap.size := Nat.le_trans HI.out.2.2.2.2.1.size xA3.size
      refine wpList_append_lit rfl _ _ 50 rfl Try.underlying50 info_entry rfl (by decide) (v := .slice Ao pre.length co) rfl (own_ext o4.row (hxe _) fun _ _ => id) (Nat.le_trans hw13 (hxe _).size) (m := 1) (cs := [.slice A5 k.length c5, .slice A6 v.length c6]) rfl (heap_alloc_self _ _) rfl (by simp [Value.oneCell']) (by decide) (by omega) (by omega) ?_
      intro g5 c6' W5 ho5 hx5 hg5 hl5
      apply wpList_nil
      simp only [Exit.then]
      have hob : ∀ q, (Value.slice Ao pre.length co).ownBlock = some q → w1.heap.size ≤ q ∧ q < A.heap.size := fun q hq => by
        have := HI.out.2.1.row.lt q (by rw [hpl]; exact hq)
        exact this
      have hsz4 : ∀ o : Obj, (w3.alloc o).heap.size = w3.heap.size + 1 := fun o => by simp
      have hws : w.heap.size < w1.heap.size := by omega
      have C5 := (C4 (.cells #[.slice A5 k.length c5, .slice A6 v.length c6] 24 (0, 0))).step hx5 (fun b' hb' => ⟨by have := hC3 b' hb'; have := hsz4 (.cells #[.slice A5 k.length c5, .slice A6 v.length c6] 24 (0, 0)); omega, fun e => by
        have := hob b' e
        simp only [List.mem_cons, List.not_mem_nil, or_false] at hb'
        omega⟩)
      refine ⟨C5, ?_⟩
      have x35 : Ext (fun q => (Value.slice Ao pre.length co).ownBlock = some q) w3 W5 := ((hxe _).mono fun _ _ => False.elim).trans hx5
      have o5 : W5.heap[w.heap.size]? = some (.cells #[.slice Ao pre.length co] 50 (0, 0)) := by
        refine x35.heap (H3.out.2.2.2.2.heap (by have := HW.out.2.1; rw [hpl] at this; exact this) id) fun e => ?_
        have := hob _ e
        omega
      have e0 : W5.cell? ⟨w.heap.size, 0, none⟩ = some (.slice Ao pre.length co) := cells_at o5 0
      have e0f : W5.frozen? ⟨w.heap.size, 0, none⟩ = false := by simp [World.frozen?, o5]
      have HS := Lib.hid (And.intro o4.row (And.intro ho5 (And.intro hx5 (And.intro hg5 (And.intro hl5 (And.intro xA3 (And.intro x35 (And.intro o4 o5))))))))
      clear o4 ho5 hx5 hg5 hl5 xA3 x35 o5 d0 d1 d2 C3 C4 C5 hxe
      try dsimp only [wpMix, wpSegs, pick, List.getElem?_cons_zero, List.getElem?_cons_succ]
      generalize hz : Act.mk _ _ = z
      repeat (first | (refine wpQuiet_step (fun K hK => ?_); replace hK := Lib.hid hK; subst hz; go_simp; generalize hz : Act.mk _ _ = z; refine hK.out z ?_; clear hK K) | (refine wpQuiet_step (fun K hK => ?_); replace hK := Lib.hid hK; subst hz; refine iteSkip (by kernel_rfl) ?_; go_simp; generalize hz : Act.mk _ _ = z; refine hK.out z ?_; clear hK K))
      try refine wpQuiet_nil ?_
      subst hz
      try dsimp only [NoPan]
      go_wp2_with fail
      try dsimp only [wpMix, wpSegs, pick, List.getElem?_cons_zero, List.getElem?_cons_succ]
      generalize hz : Act.mk _ _ = z
      repeat (first | (refine wpQuiet_step (fun K hK => ?_); replace hK := Lib.hid hK; subst hz; go_simp; generalize hz : Act.mk _ _ = z; refine hK.out z ?_; clear hK K) | (refine wpQuiet_step (fun K hK => ?_); replace hK := Lib.hid hK; subst hz; refine iteSkip (by kernel_rfl) ?_; go_simp; generalize hz : Act.mk _ _ = z; refine hK.out z ?_; clear hK K))
      try refine wpQuiet_nil ?_
      subst hz
      try dsimp only [NoPan]
      simp only [roundEnd]
      obtain ⟨hrw, ho5, hx5, hg5, hl5, xA3, x35, o4, o5⟩ := HS.out
      obtain ⟨ok, ov3, fk, fv, x4⟩ := H3.out
      obtain ⟨i1, i2, i3, i4, i5, hpre, xA, hl, hl2, hnl⟩ := HI.out
      have hAW2 : A.heap.size ≤ W2.heap.size := HW.out.2.2.size
      have hW23 : W2.heap.size ≤ w3.heap.size := x4.size
      have hW35 : w3.heap.size ≤ W5.heap.size := x35.size
      have hwA : w1.heap.size ≤ A.heap.size := i5.size
      have hg5w : w1.heap.size ≤ g5 := own_base ho5 g5 rfl
      have hown : ∀ q, (Value.slice Ao pre.length co).ownBlock = some q → D' q := fun q hq => (o4.rowD q hq).1
      have z5 : Ext (· = w.heap.size) W5 (W5.setCell ⟨w.heap.size, 0, none⟩ (.slice (some ⟨g5, 0, none⟩) (pre.length + 1) c6')) := (Ext.refl (· = w.heap.size) W5).setCell (a := ⟨w.heap.size, 0, none⟩) (.inl rfl) _
      have g6 : (W5.setCell ⟨w.heap.size, 0, none⟩ (.slice (some ⟨g5, 0, none⟩) (pre.length + 1) c6')).heap[w.heap.size]? = some (.cells #[.slice (some ⟨g5, 0, none⟩) (pre.length + 1) c6'] 50 (0, 0)) := heap_setCell_self o5
      have hfk : ∀ q, (Value.slice A5 k.length c5).ownBlock = some q → A.heap.size ≤ q := fun q hq => Nat.le_trans hAW2 (fk q hq)
      have hfv : ∀ q, (Value.slice A6 v.length c6).ownBlock = some q → A.heap.size ≤ q := fun q hq => Nat.le_trans hAW2 (fv q hq).1
      have y5 := OwnF.snoc (D' := fun b => (D' b ∨ b = g5 ∨ (Value.slice A5 k.length c5).ownBlock = some b ∨ (Value.slice A6 v.length c6).ownBlock = some b) ∧ b ≠ w.heap.size) (o4.ext ((Ext.refl (fun _ => False) w3).alloc (.cells #[.slice A5 k.length c5, .slice A6 v.length c6] 24 (0, 0))) fun _ _ => id) hx5 ho5 (ok.ext ((Ext.refl (fun _ => False) w3).alloc _) fun _ _ => id) (ov3.ext ((Ext.refl (fun _ => False) w3).alloc _) fun _ _ => id)
        (fun q hq => ⟨.inl hq.1, hq.2⟩) (fun q hq => by
          simp only [Value.ownBlock, Option.some.injEq] at hq
          subst hq
          exact ⟨.inr (.inl rfl), by omega⟩) (fun q hq => ⟨by have := hfk q hq; omega, .inr (.inr (.inl hq)), by have := hfk q hq; omega⟩) (fun q hq => ⟨by have := hfv q hq; omega, ⟨.inr (.inr (.inr hq)), by have := hfv q hq; omega⟩, (fv q hq).2⟩)
      have y6 := y5.ext z5 fun q hq => hq.2
      rw [hpl] at y6
      refine ⟨fun b => D' b ∨ b = g5 ∨ (Value.slice A5 k.length c5).ownBlock = some b ∨ (Value.slice A6 v.length c6).ownBlock = some b, ⟨_, _, g6, by rw [List.map_append]; exact y6, .inl i3, fun b hb => ?_, ?_⟩, ?_, fun b hb => ?_⟩
      · have hz := z5.size
        rcases hb with hb | rfl | hb | hb
        · have := i4 b hb
          exact ⟨by omega, this.2⟩
        · exact ⟨by omega, .inr hg5w⟩
        · have := ok.lt b hb
          have := hfk b hb
          exact ⟨by omega, .inr (by omega)⟩
        · have := ov3.lt b hb
          have := hfv b hb
          exact ⟨by omega, .inr (by omega)⟩
      · refine ((i5.trans' xA3 fun b hb => .inr (by omega)).trans' x35 fun b hb => .inr (by have := hob b hb; omega)).trans z5
      · have u1 : Ext (fun b => D' b ∨ A.heap.size ≤ b) W2 w3 := ((Ext.refl (fun _ => False) W2).drew.trans x4).mono fun _ _ => False.elim
        exact (u1.trans' x35 fun b hb => .inl (.inl (hown b hb))).trans' z5 fun b hb => .inl (.inl (by rw [hb]; exact i3))
      · rcases hb with hb | rfl | hb | hb
        · exact .inl hb
        · rcases hg5 with h | h
          · exact .inl (hown _ h)
          · exact .inr (by have := hsz4 (.cells #[.slice A5 k.length c5, .slice A6 v.length c6] 24 (0, 0)); omega)
        · exact .inr (hfk b hb)
        · exact .inr (hfv b hb)
    · rintro D' d W hd ⟨ov, vs, i1, i2, i3, i4, i5⟩ hnd hdef
      obtain ⟨Ao, co, rfl⟩ := i2.form
      have e0 := cells_at i1 0
      simp only [Exit.inBlock, Exit.then]
      have HI := Lib.hid (And.intro i2 (And.intro i4 (And.intro i5 (And.intro hnd (And.intro hdef hd)))))
      clear i1 i2 i3 i4 i5 hnd hdef y1' ho1 hb1
      go_wp2_with fail
      obtain ⟨i2, i4, i5, hnd, hdef, hd⟩ := HI.out
      refine ⟨by simp, .inl ⟨_, _, rfl, run_takeDeferred hdef, ?_⟩⟩
      refine ⟨_, results_tmp rfl _ _ _, ?_⟩
      rw [HX.out.1] at i2
      have z : Ext (· = d) W (W.putObj d (.deferred none)) := (Ext.refl (· = d) W).putObj (.inl rfl) _
      refine ⟨_, vs, _, rfl, (i2.ext z fun k hk e => hnd (e ▸ hk.1)).less HX.out.2.2.1.size, fun b hb => ?_, ?_⟩
      · have h1 := HX.out.2.2.1.size
        rcases (i4 b hb.1).2 with h | h
        · exact absurd h hb.2
        · omega
      · exact (HX.out.2.2.1.trans' i5 fun b hb => .inr (by omega)).trans' z fun b hb => .inr (by have := HX.out.2.2.1.size; omega)
end Go.Proofs.Ytoflfhjeabpcjaa
/- Constant bytes laid out; no condition. -/
namespace Go.Proofs.Ytoflfhjeabpcjaa
set_option linter.unusedVariables false
set_option linter.unusedSimpArgs false
open Go.RowKit

theorem Byt.const {w : World} {g : Nat} {l : Bs} {t : TypeId} {fr : Nat × Nat} {cs : Array Value} (h : w.heap[g]? = some (.cells cs t fr)) (hc : cs = (l.map fun c => Value.int .u8 c.toNat).toArray) (n : Nat) (hn : n = l.length) :
    Byt (fun b => b = g) w (.slice (some ⟨g, 0, none⟩) n n) l := by
  subst hc hn
  refine ⟨_, _, rfl, Nat.le_refl _, fun _ => ⟨_, rfl, rfl, fun j u hu => ?_⟩⟩
  have ha : (⟨g, 0, none⟩ : Addr).add j = ⟨g, j, none⟩ := by unfold Addr.add; split <;> simp_all
  rw [ha]
  simp [World.cell?, h, hu]

end Go.Proofs.Ytoflfhjeabpcjaa
