/- What is put into a tree; no condition. -/
import Derived.Test.YtoflfhjeabpcjaaTrieWo
namespace Go.Proofs.Ytoflfhjeabpcjaa
set_option linter.unusedVariables false
set_option linter.unusedSimpArgs false
open Go.RowKit

/-- A tree: its cell is c, its nodes lie in blocks of D. -/
structure TI (D : Nat → Prop) (w : World) (c : Nat) (o : Option Tr) : Prop where
  root : ∃ v, w.heap[c]? = some (.cells #[v] 94 (0, 0)) ∧ RootV D w o v
  ok : Tr.okO o
  sep : ¬ D c
  below : Below D w
theorem RootV.ext {D : Nat → Prop} {w w' : World} {F : Nat → Prop} (hx : Ext F w w') (hF : ∀ k, D k → ¬ F k) {o : Option Tr} {v : Value} (h : RootV D w o v) : RootV D w' o v := by
  cases o with
  | none => exact h
  | some t =>
    obtain ⟨p, h1, h2⟩ := h
    exact ⟨p, h1, NRep.ext hx hF h2⟩
theorem RootV.mono {D D' : Nat → Prop} {w : World} (hD : ∀ k, D k → D' k) {o : Option Tr} {v : Value} (h : RootV D w o v) : RootV D' w o v := by
  cases o with
  | none => exact h
  | some t =>
    obtain ⟨p, h1, h2⟩ := h
    exact ⟨p, h1, h2.mono hD⟩
theorem TI.ext {D : Nat → Prop} {w w' : World} {F : Nat → Prop} {c : Nat} {o : Option Tr} (h : TI D w c o) (hx : Ext F w w') (hF : ∀ k, D k → ¬ F k) (hc : ¬ F c) : TI D w' c o := by
  obtain ⟨v, h1, h2⟩ := h.root
  exact ⟨⟨v, hx.heap h1 hc, h2.ext hx hF⟩, h.ok, h.sep, fun b hb => Nat.lt_of_lt_of_le (h.below b hb) hx.size⟩
theorem TI.lt {D : Nat → Prop} {w : World} {c : Nat} {o : Option Tr} (h : TI D w c o) : c < w.heap.size := by
  obtain ⟨v, h1, h2⟩ := h.root
  exact lt_of_heap h1
/-- The root was written. -/
theorem TI.made {D : Nat → Prop} {w w' : World} {c : Nat} {o o' : Option Tr} {v : Value} (h : TI D w c o) (hx : Ext (fun _ => False) w w') (hr : RootV (Grown D w w') w' o' v) (ho : Tr.okO o') :
    TI (Grown D w (w'.setCell ⟨c, 0, none⟩ v)) (w'.setCell ⟨c, 0, none⟩ v) c o' ∧ Ext (· = c) w (w'.setCell ⟨c, 0, none⟩ v) := by
  obtain ⟨v0, h1, h2⟩ := h.root
  have hlt := h.lt
  have hs : (w'.setCell ⟨c, 0, none⟩ v).heap.size = w'.heap.size := by simp [World.setCell]
  have hy : Ext (· = c) w' (w'.setCell ⟨c, 0, none⟩ v) := (Ext.refl (· = c) w').setCell (a := ⟨c, 0, none⟩) (.inl rfl) _
  have hn : ¬ Grown D w w' c := by
    rintro (hd | ⟨hd, _⟩)
    · exact h.sep hd
    · omega
  refine ⟨⟨⟨v, ?_, ?_⟩, ho, ?_, ?_⟩, (hx.mono fun _ _ => False.elim).trans hy⟩
  · rw [heap_setCell_self (hx.heap h1 id)]; rfl
  · refine (hr.ext hy fun k hk h => by subst h; exact hn hk).mono fun k hk => ?_
    unfold Grown
    rw [hs]
    exact hk
  · rintro (hd | ⟨hd, _⟩)
    · exact h.sep hd
    · omega
  · exact Grown.below h.below (by rw [hs]; exact hx.size)

/-- A tree made of a tree's entries and one more. -/
def PutOf (k v : Bs) (o : Option Tr) (t' : Tr) : Prop := t'.ok ∧ (∀ e, e ∈ t'.ents ↔ e = (k, v) ∨ (e ∈ Tr.entsO o ∧ e.1 ≠ k)) ∧ t'.ents.length ≤ (Tr.entsO o).length + 1
set_option maxRecDepth 100000 in
theorem put_long {w : World} {c : Nat} {kv vv : Value} {k v : Bs} {D D' : Nat → Prop} (hk : Byt D w kv k) (hv : Byt D' w vv v) (hl : ¬ (k.length ≤ 120 ∧ v.length ≤ 1200)) :
    Calls Try.prog 17 #[ptrV c, kv, vv] w fun e w' => e = .returned (.int .i64 2) ∧ w' = w := by
  obtain ⟨A, cp, rfl, _, _⟩ := hk
  obtain ⟨A', cp', rfl, _, _⟩ := hv
  by_cases h1 : k.length ≤ 120
  · have h1' : decide (120 < (k.length : Int)) = false := by simp; omega
    have h2' : decide (1200 < (v.length : Int)) = true := by simp; omega
    go_enter Try.func17, Try.ntmps17
    go_wp2_with fail
    go_ret
    exact ⟨rfl, rfl⟩
  · have h1' : decide (120 < (k.length : Int)) = true := by simp; omega
    go_enter Try.func17, Try.ntmps17
    go_wp2_with fail
    go_ret
    exact ⟨rfl, rfl⟩
set_option maxRecDepth 100000 in
set_option maxHeartbeats 2000000 in
theorem put_none {D Dk Dv : Nat → Prop} {w : World} {c : Nat} {kv vv : Value} {k v : Bs} (h : TI D w c none) (hk : Byt Dk w kv k) (hv : Byt Dv w vv v) (hkl : k.length ≤ 120) (hvl : v.length ≤ 1200) :
    Calls Try.prog 17 #[ptrV c, kv, vv] w fun e w' => e = .returned (.int .i64 0) ∧ TI (Grown D w w') w' c (some (.leaf k v)) ∧ Ext (· = c) w w' := by
  have HN := Lib.hid (newleaf_walk hk hv (by omega) (by omega))
  obtain ⟨A, cp, rfl, _, _⟩ := hk
  obtain ⟨A', cp', rfl, _, _⟩ := hv
  have h1' : decide (120 < (k.length : Int)) = false := by simp; omega
  have h2' : decide (1200 < (v.length : Int)) = false := by simp; omega
  obtain ⟨r, hc, hr⟩ := id h.root
  simp only [RootV] at hr
  subst hr
  have H := Lib.hid h
  clear h
  go_enter Try.func17, Try.ntmps17
  go_wp2_with fail
  refine HN.out.mono ?_
  rintro e w1 ⟨px, rfl, hx, x1⟩
  have g1 := x1.heap hc id
  have c1 : w1.cell? ⟨c, 0, none⟩ = some (.pointer none) := (cells_at g1 0).trans rfl
  have f1 : w1.frozen? ⟨c, 0, none⟩ = false := by simp [World.frozen?, g1]
  have HX := Lib.hid (H.out.made (v := ptrV px) (o' := some (.leaf k v)) x1 ⟨px, rfl, hx.mono fun b hb => .inr hb⟩ ⟨hkl, hvl⟩)
  clear hx x1 g1 HN
  go_wp2_with fail
  go_ret
  exact ⟨rfl, HX.out.1, HX.out.2⟩
set_option maxRecDepth 100000 in
set_option maxHeartbeats 4000000 in
theorem put_some {D Dk Dv : Nat → Prop} {w : World} {c : Nat} {kv vv : Value} {k v : Bs} {t : Tr} (h : TI D w c (some t)) (hk : Byt Dk w kv k) (hv : Byt Dv w vv v) (hkl : k.length ≤ 120) (hvl : v.length ≤ 1200) (hn : t.ents.length < 9223372036854775807) :
    Calls Try.prog 17 #[ptrV c, kv, vv] w fun e w' => ∃ t', e = .returned (.int .i64 0) ∧ PutOf k v (some t) t' ∧ TI (Grown D w w') w' c (some t') ∧ Ext (· = c) w w' := by
  have HN := Lib.hid (newleaf_walk hk hv (by omega) (by omega))
  have HK := Lib.hid hk
  obtain ⟨A, cp, rfl, _, _⟩ := hk
  obtain ⟨A', cp', rfl, _, _⟩ := hv
  have h1' : decide (120 < (k.length : Int)) = false := by simp; omega
  have h2' : decide (1200 < (v.length : Int)) = false := by simp; omega
  obtain ⟨r, hc, p, rfl, hr⟩ := id h.root
  have H := Lib.hid (And.intro h hr)
  clear h hr
  go_enter Try.func17, Try.ntmps17
  go_wp2_with fail
  refine HN.out.mono ?_
  rintro e w1 ⟨px, rfl, hx, x1⟩
  have g1 := x1.heap hc id
  have c1 : w1.cell? ⟨c, 0, none⟩ = some (ptrV p) := (cells_at g1 0).trans rfl
  have HE := Lib.hid (end_walk (H.out.2.still x1) (HK.out.same x1) (by omega))
  have HX := Lib.hid (And.intro hx x1)
  clear hx HN
  go_wp2_with fail
  refine HE.out.mono ?_
  rintro e w2 ⟨q, rfl, hq, x2⟩
  obtain ⟨_, ka, va, la, ra, hN, hka, _⟩ := hq.still x2
  have n1 := hN.c1
  have hal : (t.last k).1.length ≤ 120 := (Tr.ok_ent H.out.1.ok _ (t.last_mem k)).1
  have HQ := Lib.hid (equal_walk hka (HK.out.same (x1.trans x2)))
  have HA := fun hne => Lib.hid (apart_walk hka (HK.out.same (x1.trans x2)) (by omega) (by omega) hne)
  have x12 := x1.trans x2
  have HT := Lib.hid (And.intro (H.out.2.still x12) (And.intro (HX.out.1.still x2) x12))
  have g2 := x12.heap hc id
  have c2 : w2.cell? ⟨c, 0, none⟩ = some (ptrV p) := (cells_at g2 0).trans rfl
  have hs1 := x1.size
  have hs2 := x2.size
  clear hq hN hka x2 x1 x12 HE
  have HW := fun o => Lib.hid (with_walk (k := k) (v := v) (by omega) (px := px) o t (HT.out.1.mono (D' := Grown D w w2) fun b hb => .inl hb) (HT.out.2.1.mono fun b hb => .inr ⟨hb.1, Nat.lt_of_lt_of_le hb.2 hs2⟩) hn)
  have fin : ∀ (o : Option Nat) (w3 : World) (q3 : Nat), NRep (Grown (Grown D w w2) w2 w3) w3 (Tr.ins k v o t) q3 → Ext (fun _ => False) w2 w3 → (Tr.ins k v o t).ok →
      Hid (TI (Grown D w (w3.setCell ⟨c, 0, none⟩ (ptrV q3))) (w3.setCell ⟨c, 0, none⟩ (ptrV q3)) c (some (Tr.ins k v o t)) ∧ Ext (· = c) w (w3.setCell ⟨c, 0, none⟩ (ptrV q3)) ∧ w3.cell? ⟨c, 0, none⟩ = some (ptrV p) ∧ w3.frozen? ⟨c, 0, none⟩ = false) := by
    intro o w3 q3 h3 x3 ho
    have g3 := x3.heap g2 id
    obtain ⟨k1, k2⟩ := H.out.1.made (v := ptrV q3) (o' := some (Tr.ins k v o t)) (HT.out.2.2.trans x3) ⟨q3, rfl, h3.mono (Grown.trans (Nat.le_trans hs1 hs2) x3.size)⟩ ho
    exact Lib.hid ⟨k1, k2, (cells_at g3 0).trans rfl, by simp [World.frozen?, g3]⟩
  go_wp2_with fail
  refine HQ.out.mono ?_
  rintro e _ ⟨rfl, rfl⟩
  by_cases hak : (t.last k).1 = k
  · have hd : decide ((t.last k).1 = k) = true := by simpa using hak
    have hp := Tr.ins_none hkl hvl H.out.1.ok hak
    have HP := Lib.hid hp
    have hW := HW none
    simp only [atV] at hW
    clear hp hak HA
    go_wp2_with fail
    refine hW.out.mono ?_
    rintro e w3 ⟨q3, rfl, h3, x3⟩
    have HF := fin _ _ _ h3 x3 HP.out.1
    have HC := Lib.hid HF.out.1
    have HX := Lib.hid HF.out.2.1
    obtain ⟨_, _, c3, f3⟩ := HF.out
    clear h3 x3 fin HW hW
    go_wp2_with fail
    go_ret
    exact ⟨_, rfl, ⟨HP.out.1, HP.out.2, ins_len k v none t⟩, HC.out, HX.out⟩
  · have hd : decide ((t.last k).1 = k) = false := by simpa using hak
    have hA := HA hak
    have HK' := Lib.hid hak
    clear hak HA
    go_wp2_with fail
    refine hA.out.mono ?_
    rintro e _ ⟨i, rfl, hi1, hi2, rfl⟩
    have hp := Tr.ins_some hkl hvl H.out.1.ok hi2 hi1
    have HP := Lib.hid hp
    have hW := HW (some i)
    simp only [atV] at hW
    clear hp hA hi1 hi2
    go_wp2_with fail
    refine hW.out.mono ?_
    rintro e w3 ⟨q3, rfl, h3, x3⟩
    have HF := fin _ _ _ h3 x3 HP.out.1
    have HC := Lib.hid HF.out.1
    have HX := Lib.hid HF.out.2.1
    obtain ⟨_, _, c3, f3⟩ := HF.out
    clear h3 x3 fin HW hW
    go_wp2_with fail
    go_ret
    refine ⟨_, rfl, ⟨HP.out.1, fun e => ?_, ins_len k v (some i) t⟩, HC.out, HX.out⟩
    rw [HP.out.2 e]
    constructor
    · rintro (h | h)
      · exact .inl h
      · refine .inr ⟨h, fun hk => HK'.out ?_⟩
        have := Tr.last_of H.out.1.ok e h
        rw [hk] at this
        rw [this]
        exact hk
    · rintro (h | h)
      · exact .inl h
      · exact .inr h.1
end Go.Proofs.Ytoflfhjeabpcjaa
