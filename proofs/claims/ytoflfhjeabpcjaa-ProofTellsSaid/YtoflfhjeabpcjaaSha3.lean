/- The words of a block; no condition. -/
import Derived.Test.YtoflfhjeabpcjaaSha2
import Derived.Test.YtoflfhjeabpcjaaLent
import Derived.Laws.Rows
namespace Go.Proofs.Ytoflfhjeabpcjaa
set_option linter.unusedVariables false
set_option linter.unusedSimpArgs false
open Go.RowKit

def wstep (w c : Nat) : Nat := (w * 256 % 4294967296) ||| c
/-- What m bytes from place 4 * k on make. -/
def part (l : Bs) (k : Nat) : Nat → Nat
  | 0 => 0
  | m + 1 => wstep (part l k m) (l.getD (4 * k + m) 0).toNat
def word (l : Bs) (k : Nat) : Nat := part l k 4
def wordsOf (l : Bs) : List Nat := (List.range 16).map (word l)
theorem wstep_lt (w c : Nat) (hc : c < 256) : wstep w c < 4294967296 := Nat.or_lt_two_pow (n := 32) (Nat.mod_lt _ (by decide)) (by omega)
theorem part_lt (l : Bs) (k : Nat) : ∀ m, part l k m < 4294967296
  | 0 => by show 0 < 4294967296; decide
  | m + 1 => wstep_lt _ _ (UInt8.toNat_lt _)
theorem wstep_facts (x c : Nat) (hc : c < 256) : ∃ a : Nat, IntKind.u32.wrap ((x : Int) * 256) = (a : Int) ∧ bits .or .u32 (a : Int) (c : Int) = (wstep x c : Int) :=
  ⟨x * 256 % 4294967296, by rw [IntKind.wrap_u32]; omega, u32_or _ _ (mod_u32 _) (by omega)⟩

theorem words_eq {l : Bs} {ws : List Nat} (hl : ws.length = 16) (h : ∀ i, i < 16 → ws.getD i 0 = word l i) : ws = wordsOf l := by
  apply List.ext_getElem?
  intro i
  by_cases hi : i < 16
  · have := h i hi
    rw [List.getD_eq_getElem?_getD, List.getElem?_eq_getElem (by omega), Option.getD_some] at this
    rw [List.getElem?_eq_getElem (by omega), this]
    simp [wordsOf, hi]
  · rw [List.getElem?_eq_none (by omega), List.getElem?_eq_none (by simp [wordsOf]; omega)]

theorem getD_zero (i : Nat) : (List.replicate 16 0).getD i 0 = 0 := by
  rw [List.getD_eq_getElem?_getD]
  by_cases h : i < 16
  · rw [List.getElem?_replicate_of_lt h]; rfl
  · rw [List.getElem?_eq_none (by simpa using h)]; rfl
theorem heap_setCell_val {w : World} {b i : Nat} {v : Value} {cs : Array Value} {t : TypeId} {fr : Nat × Nat} (h : w.heap[b]? = some (.cells cs t fr)) (hv : cs[i]? = some v) : (w.setCell ⟨b, i, none⟩ v).heap[b]? = some (.cells cs t fr) := by
  rw [heap_setCell_self h]
  have : cs.setIfInBounds i v = cs := by
    apply Array.ext_getElem?
    intro j
    by_cases hj : j = i
    · subst hj
      rw [Array.getElem?_setIfInBounds_self_of_lt (Array.getElem?_eq_some_iff.1 hv).1, hv]
    · rw [Array.getElem?_setIfInBounds_ne (Ne.symm hj)]
  rw [this]
theorem list16 (ws : List Nat) (h : ws.length = 16) : ∃ x0 x1 x2 x3 x4 x5 x6 x7 x8 x9 x10 x11 x12 x13 x14 x15 : Nat, ws = [x0, x1, x2, x3, x4, x5, x6, x7, x8, x9, x10, x11, x12, x13, x14, x15] := by
  match ws, h with
  | [x0, x1, x2, x3, x4, x5, x6, x7, x8, x9, x10, x11, x12, x13, x14, x15], _ => exact ⟨x0, x1, x2, x3, x4, x5, x6, x7, x8, x9, x10, x11, x12, x13, x14, x15, rfl⟩
/-- Bytes that are not none stand in plain cells. -/
theorem Byt.plain {D : Nat → Prop} {w : World} {v : Value} {l : Bs} (hb : Byt D w v l) (hne : l ≠ []) : ∃ g o c, v = .slice (some ⟨g, o, none⟩) l.length c ∧ l.length ≤ c ∧ D g ∧ ∀ (j : Nat) (u : UInt8), l[j]? = some u → w.cell? ⟨g, o + j, none⟩ = some (.int .u8 u.toNat) := by
  obtain ⟨A, c, rfl, hcap, hat⟩ := hb
  obtain ⟨⟨g, o, sp⟩, rfl, hD, hcell⟩ := hat hne
  cases sp with
  | none =>
    refine ⟨g, o, c, rfl, hcap, hD, fun j u hu => ?_⟩
    have := hcell j u hu
    have ha : (⟨g, o, none⟩ : Addr).add j = ⟨g, o + j, none⟩ := by unfold Addr.add; split <;> simp_all
    rwa [ha] at this
  | some s =>
    obtain ⟨u, hu⟩ : ∃ u, l[0]? = some u := ⟨_, List.getElem?_eq_getElem (List.length_pos_iff.2 hne)⟩
    have h0 := hcell 0 u hu
    have e1 : (⟨g, o, some s⟩ : Addr).add 0 = ⟨g, o, some s⟩ := by simp [Addr.add]
    have : w.cell? ⟨g, o, some s⟩ = none := by
      unfold World.cell?
      split <;> simp
    rw [e1, this] at h0
    cases h0

set_option maxRecDepth 100000 in
set_option maxHeartbeats 1000000 in
theorem words_walk {w : World} {D : Nat → Prop} {v : Value} {l : Bs} (hb : Byt D w v l) (hl : l.length = 64) :
    Calls Try.prog 113 #[v] w fun e w' => e = .returned (.agg ((wordsOf l).map u32).toArray) ∧ Ext (fun _ => False) w w' := by
  obtain ⟨g, o, c, rfl, hcap, _, hcell⟩ := hb.plain (by intro e; rw [e] at hl; simp at hl)
  rw [hl] at hcap ⊢
  have hgl : g < w.heap.size := World.block_lt_of_cell? _ _ (hcell 0 _ (List.getElem?_eq_getElem (by omega)))
  have hxa := fun o => (Ext.refl (fun _ => False) w).alloc o
  have hob := heap_alloc_self w (Obj.cells ((List.replicate 16 0).map u32).toArray 153)
  have H0 : Words (w.alloc (Obj.cells ((List.replicate 16 0).map u32).toArray 153)) w.heap.size 153 (List.replicate 16 0) := ⟨hob, fun x hx => by rw [List.eq_of_mem_replicate hx]; decide⟩
  have Hb := Lib.hid (And.intro hb (And.intro hxa H0))
  clear hb hob H0 hxa
  go_enter Try.func113, Try.ntmps113
  go_wp2_with fail
  go_loopw [6] (fun i W => ∃ (k : Nat) (ws : List Nat), k ≤ 16 ∧ i = .int .i64 k ∧ Words W w.heap.size 153 ws ∧ ws.length = 16 ∧ (∀ i, i < k → ws.getD i 0 = word l i) ∧ (∀ i, k ≤ i → ws.getD i 0 = 0) ∧ Ext (fun _ => False) w W)
    (fun i _ => 16 - (intOf i).toNat)
  case atStart => exact ⟨0, List.replicate 16 0, by omega, rfl, Hb.out.2.2, by simp, fun i h => by omega, fun i _ => getD_zero i, Hb.out.2.1 _⟩
  case round =>
    obtain ⟨k, ws, hk, rfl, hW, hws, hdone, hrest, hx⟩ := hrel
    by_cases hk16 : k < 16
    · have hk' : decide ((k : Int) < 16) = true := by simp; omega
      have Hd := Lib.hid (And.intro hdone (And.intro hrest hx))
      have HW := Lib.hid hW
      clear hdone hrest hx hW
      have hc1 : (4 : Int) * k + 4 ≤ (c : Int) := by omega
      go_wp2_with fail
      go_loopw [17] (fun j W => ∃ (m : Nat) (ws2 : List Nat), m ≤ 4 ∧ j = .int .i64 m ∧ Words W w.heap.size 153 ws2 ∧ ws2.length = 16 ∧ (∀ i, i < k → ws2.getD i 0 = word l i) ∧ (∀ i, k < i → ws2.getD i 0 = 0) ∧ ws2.getD k 0 = part l k m ∧ Ext (fun _ => False) w W)
        (fun j _ => 4 - (intOf j).toNat)
      case atStart => exact ⟨0, ws, by omega, rfl, HW.out, hws, Hd.out.1, fun i h => Hd.out.2.1 i (by omega), Hd.out.2.1 k (Nat.le_refl _), Hd.out.2.2⟩
      case round =>
        obtain ⟨m, ws2, hm, rfl, hW2, hws2, hdone2, hrest2, hpart, hx2⟩ := hrel
        by_cases hm4 : m < 4
        · have hm' : decide ((m : Int) < 4) = true := by simp; omega
          have hm'' : (m : Int) < 4 := by omega
          have hlt : 4 * k + m < l.length := by omega
          have hcm := cell_same (hcell (4 * k + m) _ (List.getElem?_eq_getElem hlt)) hx2
          rw [show o + (4 * k + m) = o + 4 * k + m by omega] at hcm
          have hgd : (l.getD (4 * k + m) 0) = l[4 * k + m] := by rw [List.getD_eq_getElem?_getD, List.getElem?_eq_getElem hlt]; rfl
          have hck := hW2.cell (i := k) (by omega)
          have hkx : ws2[k]'(by omega) = part l k m := by rw [← hpart, List.getD_eq_getElem?_getD, List.getElem?_eq_getElem (by omega)]; rfl
          rw [hkx] at hck
          have hfk := hW2.melt k
          have hst : part l k (m + 1) = wstep (part l k m) (l[4 * k + m]).toNat := by rw [part, hgd]
          have hlt2 := part_lt l k (m + 1)
          have hu := UInt8.toNat_lt (l[4 * k + m])
          rw [hst] at hlt2
          obtain ⟨a, q1, q2⟩ := wstep_facts (part l k m) (l[4 * k + m]).toNat hu
          generalize (l[4 * k + m]).toNat = u at *
          generalize wstep (part l k m) u = y at *
          generalize part l k m = x at *
          have hP := hW2.put k y hlt2
          have hfin : ∀ W', W' = wr.setCell ⟨w.heap.size, k, none⟩ (u32 y) → ∃ ws3, Words W' w.heap.size 153 ws3 ∧ ws3.length = 16 ∧ (∀ i, i < k → ws3.getD i 0 = word l i) ∧ (∀ i, k < i → ws3.getD i 0 = 0) ∧ ws3.getD k 0 = part l k (m + 1) ∧ Ext (fun _ => False) w W' := by
            intro W' hW'
            subst hW'
            refine ⟨ws2.set k y, hP, by simpa using hws2, fun i h => ?_, fun i h => ?_, by rw [hst]; exact getD_set _ _ _ (by omega), hx2.setCell (.inr (Nat.le_refl _)) _⟩
            · rw [List.getD_eq_getElem?_getD, List.getElem?_set_ne (by omega), ← List.getD_eq_getElem?_getD]; exact hdone2 i h
            · rw [List.getD_eq_getElem?_getD, List.getElem?_set_ne (by omega), ← List.getD_eq_getElem?_getD]; exact hrest2 i h
          have Hfin := Lib.hid hfin
          have hal2 := lt_of_heap hW2.obj
          clear hP hfin hW2 hdone2 hrest2 hst hpart hkx hgd hx2 hlt2 hlt
          go_wp2_with fail
          obtain ⟨ws3, r1, r2, r3, r4, r5, r6⟩ := Hfin.out _ rfl
          exact ⟨⟨m + 1, ws3, by omega, by go_num, r1, r2, r3, r4, r5, r6⟩, by simp [intOf]; omega⟩
        · have : m = 4 := by omega
          subst this
          have hm' : decide ((4 : Int) < 4) = false := by decide
          have H2 := Lib.hid (And.intro hW2 (And.intro hdone2 (And.intro hrest2 (And.intro hpart hx2))))
          clear hW2 hdone2 hrest2 hpart hx2
          go_wp2_with fail
          refine ⟨⟨k + 1, ws2, by omega, by go_num, H2.out.1, hws2, fun i h => ?_, fun i h => H2.out.2.2.1 i (by omega), H2.out.2.2.2.2⟩, by simp [intOf]; omega⟩
          by_cases hik : i = k
          · subst hik; exact H2.out.2.2.2.1
          · exact H2.out.2.1 i (by omega)
    · have : k = 16 := by omega
      subst this
      have hk' : decide ((16 : Int) < 16) = false := by decide
      have hwe := words_eq hws hdone
      obtain ⟨x0, x1, x2, x3, x4, x5, x6, x7, x8, x9, x10, x11, x12, x13, x14, x15, hxs⟩ := list16 ws hws
      subst hxs
      have hal := lt_of_heap hW.obj
      have c0 : wr.cell? ⟨w.heap.size, 0, none⟩ = some (u32 x0) := hW.cell (i := 0) (by simp)
      have f0 := hW.melt 0
      have c1 : wr.cell? ⟨w.heap.size, 1, none⟩ = some (u32 x1) := hW.cell (i := 1) (by simp)
      have f1 := hW.melt 1
      have c2 : wr.cell? ⟨w.heap.size, 2, none⟩ = some (u32 x2) := hW.cell (i := 2) (by simp)
      have f2 := hW.melt 2
      have c3 : wr.cell? ⟨w.heap.size, 3, none⟩ = some (u32 x3) := hW.cell (i := 3) (by simp)
      have f3 := hW.melt 3
      have c4 : wr.cell? ⟨w.heap.size, 4, none⟩ = some (u32 x4) := hW.cell (i := 4) (by simp)
      have f4 := hW.melt 4
      have c5 : wr.cell? ⟨w.heap.size, 5, none⟩ = some (u32 x5) := hW.cell (i := 5) (by simp)
      have f5 := hW.melt 5
      have c6 : wr.cell? ⟨w.heap.size, 6, none⟩ = some (u32 x6) := hW.cell (i := 6) (by simp)
      have f6 := hW.melt 6
      have c7 : wr.cell? ⟨w.heap.size, 7, none⟩ = some (u32 x7) := hW.cell (i := 7) (by simp)
      have f7 := hW.melt 7
      have c8 : wr.cell? ⟨w.heap.size, 8, none⟩ = some (u32 x8) := hW.cell (i := 8) (by simp)
      have f8 := hW.melt 8
      have c9 : wr.cell? ⟨w.heap.size, 9, none⟩ = some (u32 x9) := hW.cell (i := 9) (by simp)
      have f9 := hW.melt 9
      have c10 : wr.cell? ⟨w.heap.size, 10, none⟩ = some (u32 x10) := hW.cell (i := 10) (by simp)
      have f10 := hW.melt 10
      have c11 : wr.cell? ⟨w.heap.size, 11, none⟩ = some (u32 x11) := hW.cell (i := 11) (by simp)
      have f11 := hW.melt 11
      have c12 : wr.cell? ⟨w.heap.size, 12, none⟩ = some (u32 x12) := hW.cell (i := 12) (by simp)
      have f12 := hW.melt 12
      have c13 : wr.cell? ⟨w.heap.size, 13, none⟩ = some (u32 x13) := hW.cell (i := 13) (by simp)
      have f13 := hW.melt 13
      have c14 : wr.cell? ⟨w.heap.size, 14, none⟩ = some (u32 x14) := hW.cell (i := 14) (by simp)
      have f14 := hW.melt 14
      have c15 : wr.cell? ⟨w.heap.size, 15, none⟩ = some (u32 x15) := hW.cell (i := 15) (by simp)
      have f15 := hW.melt 15
      have ho := hW.obj
      have Hx := Lib.hid (And.intro hwe (And.intro hx ho))
      clear hW hdone hrest hx hwe ho
      generalize hbe : w.heap.size = b at *
      have hbl : w.heap.size ≤ b := by omega
      go_wp2_with fail
      try simp only [Exit.inBlock, Exit.then]
      have g0 := heap_setCell_val Hx.out.2.2 (i := 0) (v := u32 x0) rfl
      have g1 := heap_setCell_val g0 (i := 1) (v := u32 x1) rfl
      have g2 := heap_setCell_val g1 (i := 2) (v := u32 x2) rfl
      have g3 := heap_setCell_val g2 (i := 3) (v := u32 x3) rfl
      have g4 := heap_setCell_val g3 (i := 4) (v := u32 x4) rfl
      have g5 := heap_setCell_val g4 (i := 5) (v := u32 x5) rfl
      have g6 := heap_setCell_val g5 (i := 6) (v := u32 x6) rfl
      have g7 := heap_setCell_val g6 (i := 7) (v := u32 x7) rfl
      have g8 := heap_setCell_val g7 (i := 8) (v := u32 x8) rfl
      have g9 := heap_setCell_val g8 (i := 9) (v := u32 x9) rfl
      have g10 := heap_setCell_val g9 (i := 10) (v := u32 x10) rfl
      have g11 := heap_setCell_val g10 (i := 11) (v := u32 x11) rfl
      have g12 := heap_setCell_val g11 (i := 12) (v := u32 x12) rfl
      have g13 := heap_setCell_val g12 (i := 13) (v := u32 x13) rfl
      have g14 := heap_setCell_val g13 (i := 14) (v := u32 x14) rfl
      have g15 := heap_setCell_val g14 (i := 15) (v := u32 x15) rfl
      refine bodyPost_ret (results_cell_row rfl _ _ b 153 _ (0, 0) _ rfl g15 Try.underlying153 rfl (by kernel_rfl)) rfl ?_
      refine ⟨by rw [← Hx.out.1], ?_⟩
      refine ((((((((((((((((Hx.out.2.1.setCell ?_ _).setCell ?_ _).setCell ?_ _).setCell ?_ _).setCell ?_ _).setCell ?_ _).setCell ?_ _).setCell ?_ _).setCell ?_ _).setCell ?_ _).setCell ?_ _).setCell ?_ _).setCell ?_ _).setCell ?_ _).setCell ?_ _).setCell ?_ _)
      all_goals exact .inr hbl
end Go.Proofs.Ytoflfhjeabpcjaa
