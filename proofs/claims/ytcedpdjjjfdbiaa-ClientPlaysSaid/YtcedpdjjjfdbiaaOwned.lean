/- Owned: the owner of rows of bytes may write over all of each; no condition. -/
import Derived.Test.YtcedpdjjjfdbiaaLent
namespace Go.Proofs.Ytcedpdjjjfdbiaa
set_option linter.unusedVariables false
set_option linter.unusedSimpArgs false
open Go.RowKit

/-- A slice value of bytes whose places, spare ones too, may be written; all of them hold x, if all. -/
def Cap (w : World) (u : Value) (all : Option Value) : Prop :=
  u = .slice none 0 0 ∨ ∃ (g n c : Nat) (cells : Array Value) (fr : Nat × Nat), u = .slice (some ⟨g, 0, none⟩) n c ∧ w.heap[g]? = some (.cells cells 5 fr) ∧ n ≤ c ∧ c ≤ cells.size ∧ c ≤ 9223372036854775807 ∧ (∀ i, i < c → ¬ (fr.1 ≤ i ∧ i < fr.2)) ∧
    ∀ x, all = some x → ∀ j, j < c → cells[j]? = some x
theorem OwnB.capA {w : World} {u : Value} {l : Bs} (h : OwnB w u l) : Cap w u none := by
  rcases h with ⟨rfl, _⟩ | ⟨g, c, cells, fr, rfl, hg, h1, h2, h3, h4, _⟩
  · exact .inl rfl
  · exact .inr ⟨g, _, c, cells, fr, rfl, hg, h1, h2, h3, h4, fun x h => by cases h⟩
theorem Cap.ext {F : Nat → Prop} {w w' : World} {u : Value} {x : Option Value} (h : Cap w u x) (he : Ext F w w') (hF : ∀ k, u.ownBlock = some k → ¬ F k) : Cap w' u x := by
  rcases h with h | ⟨g, n, c, cells, fr, rfl, hg, r⟩
  · exact .inl h
  · exact .inr ⟨g, n, c, cells, fr, rfl, he.heap hg (hF g rfl), r⟩
theorem Cap.any {w : World} {u : Value} {x : Option Value} (h : Cap w u x) : Cap w u none := by
  rcases h with h | ⟨g, n, c, cells, fr, rfl, hg, h1, h2, h3, h4, h5⟩
  · exact .inl h
  · exact .inr ⟨g, n, c, cells, fr, rfl, hg, h1, h2, h3, h4, fun x h => by cases h⟩

/-- Rows of such: row values us behind v, each with a block of its own. -/
structure Rows8 (w : World) (v : Value) (us : List Value) : Prop where
  row : Row (fun w g n u => w.cell? ⟨g, n, none⟩ = some u) 1 (fun b => ∀ u ∈ us, u.ownBlock ≠ some b) w v us
  cap : ∀ u ∈ us, Cap w u none
  apart : ∀ (i j : Nat) (u u' : Value) (k : Nat), us[i]? = some u → us[j]? = some u' → u.ownBlock = some k → u'.ownBlock = some k → i = j

/-- The byte that is written over row i. -/
def mark (i : Nat) : Value := .int .u8 (IntKind.u8.wrap ((i : Int) + 1))

set_option maxRecDepth 100000 in
set_option maxHeartbeats 1000000 in
theorem owned_walk {w : World} {v : Value} {us : List Value} (h : Rows8 w v us) (hl : us.length ≤ 9223372036854775807) :
    Calls Try.prog 22 #[v] w fun e w' => e = .returned (.bool true) ∧ Ext (fun b => ∃ u ∈ us, u.ownBlock = some b) w w' := by
  obtain ⟨A, c, rfl, hcap, _⟩ := id h.row
  go_enter Try.func22, Try.ntmps22
  go_wp2_with fail
  go_loopw [3] (fun i W => ∃ k : Nat, k ≤ us.length ∧ i = .int .i64 k ∧ Ext (fun b => ∃ u ∈ us, u.ownBlock = some b) w W ∧ (∀ (j : Nat) (u : Value), us[j]? = some u → Cap W u (if j < k then some (mark j) else none)))
    (fun i _ => us.length - (intOf i).toNat)
  case atStart => exact ⟨0, by omega, rfl, Ext.refl _ _, fun j u hu => by simpa using h.cap u (List.mem_of_getElem? hu)⟩
  case round =>
    obtain ⟨k, hk, rfl, hx, hc⟩ := hrel
    by_cases hlt : k < us.length
    · obtain ⟨g, o, c', hav, hD, hcell⟩ := h.row.at hlt
      obtain ⟨rfl, rfl⟩ : A = some ⟨g, o, none⟩ ∧ c = c' := by simpa using hav
      clear hav
      rw [Nat.mul_one] at hcell
      have hcell' := cell_ext hcell hx (by rintro ⟨u, hu, e⟩; exact hD u hu e)
      have hku := hc k us[k] (List.getElem?_eq_getElem hlt)
      rw [if_neg (by omega)] at hku
      have hlt' : (k : Int) < (us.length : Int) := by omega
      generalize hu : us[k] = u at *
      have hnext : ∀ W2 : World, Ext (fun b => u.ownBlock = some b) wr W2 → Cap W2 u (some (mark k)) →
          Ext (fun b => ∃ u ∈ us, u.ownBlock = some b) w W2 ∧ (∀ (j : Nat) (u : Value), us[j]? = some u → Cap W2 u (if j < k + 1 then some (mark j) else none)) := by
        intro W2 hx2 hc2
        refine ⟨hx.trans (hx2.mono fun b _ e => ⟨u, by rw [← hu]; exact List.getElem_mem hlt, e⟩), fun j u' hj => ?_⟩
        by_cases hjk : j = k
        · subst hjk
          rw [List.getElem?_eq_getElem hlt, hu] at hj
          obtain rfl := Option.some.inj hj
          rw [if_pos (by omega)]
          exact hc2
        · have h0 := (hc j u' hj).ext hx2 fun b hb hb' => hjk (h.apart j k u' u b hj (by rw [← hu]; exact List.getElem?_eq_getElem hlt) hb hb')
          by_cases hj2 : j < k
          · rw [if_pos hj2] at h0
            rwa [if_pos (by omega)]
          · rw [if_neg hj2] at h0
            rwa [if_neg (by omega)]
      have Hn := Lib.hid hnext
      have H0 := Lib.hid (And.intro h (And.intro hc (And.intro hx hD)))
      clear hnext hc hx hD hcell h
      rcases hku with rfl | ⟨bg, n, bc, cells, fr, rfl, hg, h1, h2, h3, h4, _⟩
      · go_wp2_with fail
        refine wp_region_mix (Cls [g] _) [] [0, 1, 2, 3, 4, 5, 6, 7, 8, 9, 10] (by kernel_rfl) (by kernel_rfl) (Cls.refl _ _) ?_
        try dsimp only [wpMix, wpSegs, pick, List.getElem?_cons_zero, List.getElem?_cons_succ]
        generalize hz : Act.mk _ _ = z
        repeat (first | (refine wpQuiet_step (fun K hK => ?_); replace hK := Lib.hid hK; subst hz; go_simp; generalize hz : Act.mk _ _ = z; refine hK.out z ?_; clear hK K) | (refine wpQuiet_step (fun K hK => ?_); replace hK := Lib.hid hK; subst hz; refine iteSkip (by kernel_rfl) ?_; go_simp; generalize hz : Act.mk _ _ = z; refine hK.out z ?_; clear hK K))
        refine wpQuiet_nil ?_
        subst hz
        try dsimp only [NoPan]
        go_wp2_with fail
        go_loopw [5] (fun i W => i = .int .i64 0 ∧ Ext (fun _ => False) wr W) (fun _ _ => 0)
        case atStart => exact ⟨rfl, (Ext.refl _ _).drew⟩
        case round =>
          obtain ⟨rfl, hx2⟩ := hrel
          go_wp2_with fail
          obtain ⟨hx3, hc3⟩ := Hn.out _ (hx2.mono fun _ _ => False.elim) (.inl rfl)
          exact ⟨⟨k + 1, by omega, by go_num, hx3, hc3⟩, by simp [intOf]; omega⟩
      · have hbc : (bc : Int) ≤ 9223372036854775807 := by omega
        go_wp2_with fail
        refine wp_region_mix (Cls [g] _) [] [0, 1, 2, 3, 4, 5, 6, 7, 8, 9, 10] (by kernel_rfl) (by kernel_rfl) (Cls.refl _ _) ?_
        try dsimp only [wpMix, wpSegs, pick, List.getElem?_cons_zero, List.getElem?_cons_succ]
        generalize hz : Act.mk _ _ = z
        repeat (first | (refine wpQuiet_step (fun K hK => ?_); replace hK := Lib.hid hK; subst hz; go_simp; generalize hz : Act.mk _ _ = z; refine hK.out z ?_; clear hK K) | (refine wpQuiet_step (fun K hK => ?_); replace hK := Lib.hid hK; subst hz; refine iteSkip (by kernel_rfl) ?_; go_simp; generalize hz : Act.mk _ _ = z; refine hK.out z ?_; clear hK K))
        refine wpQuiet_nil ?_
        subst hz
        try dsimp only [NoPan]
        go_wp2_with fail
        go_loopw [5] (fun i W => ∃ (m : Nat) (cells' : Array Value), m ≤ bc ∧ i = .int .i64 m ∧ Ext (· = bg) wr W ∧ W.heap[bg]? = some (.cells cells' 5 fr) ∧ cells'.size = cells.size ∧ ∀ j, j < m → cells'[j]? = some (mark k)) (fun i _ => bc - (intOf i).toNat)
        case atStart => exact ⟨0, cells, by omega, rfl, (Ext.refl _ _).drew, hg, rfl, fun j hj => by omega⟩
        case round =>
          obtain ⟨m, cells', hm, rfl, hx2, hg2, hs2, hf2⟩ := hrel
          by_cases hm2 : m < bc
          · have hm3 : (m : Int) < (bc : Int) := by omega
            have hf : wr.frozen? ⟨bg, m, none⟩ = false := by
              have := h4 m hm2
              unfold World.frozen?
              simp only [hg2]
              simp at this ⊢
              exact this
            obtain ⟨v0, hc0⟩ : ∃ v0, wr.cell? ⟨bg, m, none⟩ = some v0 := ⟨_, by rw [cells_at hg2, Array.getElem?_eq_getElem (by omega)]⟩
            go_wp2_with fail
            refine ⟨⟨m + 1, cells'.setIfInBounds m (mark k), by omega, by go_num, ?_, ?_, ?_, ?_⟩, by simp [intOf]; omega⟩
            · exact hx2.setCell (.inl rfl) _
            · exact heap_setCell_self hg2
            · simpa using hs2
            · intro j hj
              by_cases hjm : j = m
              · subst hjm
                rw [Array.getElem?_setIfInBounds_self_of_lt (by omega)]
              · rw [Array.getElem?_setIfInBounds_ne (by omega)]
                exact hf2 j (by omega)
          · have hm3 : decide ((m : Int) < (bc : Int)) = false := by simp; omega
            go_wp2_with fail
            obtain ⟨hx3, hc3⟩ := Hn.out _ (hx2.mono fun b _ e => by simp [Value.ownBlock, e]) (.inr ⟨bg, n, bc, cells', fr, rfl, hg2, h1, by omega, h3, h4, fun x hx j hj => by cases hx; exact hf2 j (by omega)⟩)
            exact ⟨⟨k + 1, by omega, by go_num, hx3, hc3⟩, by simp [intOf]; omega⟩
    · have hlt' : decide ((k : Int) < (us.length : Int)) = false := by simp; omega
      have hc' : ∀ (j : Nat) (u : Value), us[j]? = some u → Cap wr u (some (mark j)) := fun j u hu => by
        have := hc j u hu
        rwa [if_pos (by have := (List.getElem?_eq_some_iff.1 hu).1; omega)] at this
      clear hc
      have H0 := Lib.hid (And.intro h (And.intro hc' hx))
      clear h hc' hx
      go_wp2_with fail
      clear hlt' hlt hk
      go_loopw [6] (fun i W => ∃ k : Nat, k ≤ us.length ∧ i = .int .i64 k ∧ Ext (fun b => ∃ u ∈ us, u.ownBlock = some b) w W ∧ (∀ (j : Nat) (u : Value), us[j]? = some u → Cap W u (some (mark j))))
        (fun i _ => us.length - (intOf i).toNat)
      case atStart => exact ⟨0, by omega, rfl, H0.out.2.2, H0.out.2.1⟩
      case round =>
        obtain ⟨k, hk, rfl, hx, hc⟩ := hrel
        have h := H0.out.1
        by_cases hlt : k < us.length
        · obtain ⟨g, o, c', hav, hD, hcell⟩ := h.row.at hlt
          obtain ⟨rfl, rfl⟩ : A = some ⟨g, o, none⟩ ∧ c = c' := by simpa using hav
          clear hav
          rw [Nat.mul_one] at hcell
          have hcell' := cell_ext hcell hx (by rintro ⟨u, hu, e⟩; exact hD u hu e)
          have hku := hc k us[k] (List.getElem?_eq_getElem hlt)
          have hlt' : (k : Int) < (us.length : Int) := by omega
          generalize hu : us[k] = u at *
          have hnext : ∀ W2 : World, Ext (fun _ => False) wr W2 → Ext (fun b => ∃ u ∈ us, u.ownBlock = some b) w W2 ∧ (∀ (j : Nat) (u : Value), us[j]? = some u → Cap W2 u (some (mark j))) :=
            fun W2 hx2 => ⟨hx.trans' hx2 fun _ => False.elim, fun j u hj => (hc j u hj).ext hx2 fun _ _ => id⟩
          have Hn := Lib.hid hnext
          clear hnext hc hx hD hcell h
          rcases hku with rfl | ⟨bg, n, bc, cells, fr, rfl, hg, h1, h2, h3, h4, h5⟩
          · go_wp2_with fail
            refine wp_region_mix (Cls [g] _) [] [0, 1, 2, 3, 4, 5, 6, 7, 8, 9, 10] (by kernel_rfl) (by kernel_rfl) (Cls.refl _ _) ?_
            try dsimp only [wpMix, wpSegs, pick, List.getElem?_cons_zero, List.getElem?_cons_succ]
            generalize hz : Act.mk _ _ = z
            repeat (first | (refine wpQuiet_step (fun K hK => ?_); replace hK := Lib.hid hK; subst hz; go_simp; generalize hz : Act.mk _ _ = z; refine hK.out z ?_; clear hK K) | (refine wpQuiet_step (fun K hK => ?_); replace hK := Lib.hid hK; subst hz; refine iteSkip (by kernel_rfl) ?_; go_simp; generalize hz : Act.mk _ _ = z; refine hK.out z ?_; clear hK K))
            refine wpQuiet_nil ?_
            subst hz
            try dsimp only [NoPan]
            go_wp2_with fail
            go_loopw [8] (fun i W => i = .int .i64 0 ∧ Ext (fun _ => False) wr W) (fun _ _ => 0)
            case atStart => exact ⟨rfl, (Ext.refl _ _).drew⟩
            case round =>
              obtain ⟨rfl, hx2⟩ := hrel
              go_wp2_with fail
              obtain ⟨hx3, hc3⟩ := Hn.out _ hx2
              exact ⟨⟨k + 1, by omega, by go_num, hx3, hc3⟩, by simp [intOf]; omega⟩
          · have hbc : (bc : Int) ≤ 9223372036854775807 := by omega
            go_wp2_with fail
            refine wp_region_mix (Cls [g] _) [] [0, 1, 2, 3, 4, 5, 6, 7, 8, 9, 10] (by kernel_rfl) (by kernel_rfl) (Cls.refl _ _) ?_
            try dsimp only [wpMix, wpSegs, pick, List.getElem?_cons_zero, List.getElem?_cons_succ]
            generalize hz : Act.mk _ _ = z
            repeat (first | (refine wpQuiet_step (fun K hK => ?_); replace hK := Lib.hid hK; subst hz; go_simp; generalize hz : Act.mk _ _ = z; refine hK.out z ?_; clear hK K) | (refine wpQuiet_step (fun K hK => ?_); replace hK := Lib.hid hK; subst hz; refine iteSkip (by kernel_rfl) ?_; go_simp; generalize hz : Act.mk _ _ = z; refine hK.out z ?_; clear hK K))
            refine wpQuiet_nil ?_
            subst hz
            try dsimp only [NoPan]
            go_wp2_with fail
            go_loopw [8] (fun i W => ∃ m : Nat, m ≤ bc ∧ i = .int .i64 m ∧ Ext (fun _ => False) wr W) (fun i _ => bc - (intOf i).toNat)
            case atStart => exact ⟨0, by omega, rfl, (Ext.refl _ _).drew⟩
            case round =>
              obtain ⟨m, hm, rfl, hx2⟩ := hrel
              by_cases hm2 : m < bc
              · have hm3 : (m : Int) < (bc : Int) := by omega
                have hg2 := hx2.heap hg id
                have hc0 : wr.cell? ⟨bg, m, none⟩ = some (mark k) := by rw [cells_at hg2]; exact h5 _ rfl m hm2
                unfold mark at hc0
                go_wp2_with fail
                exact ⟨⟨m + 1, by omega, by go_num, hx2⟩, by simp [intOf]; omega⟩
              · have hm3 : decide ((m : Int) < (bc : Int)) = false := by simp; omega
                go_wp2_with fail
                obtain ⟨hx3, hc3⟩ := Hn.out _ hx2
                exact ⟨⟨k + 1, by omega, by go_num, hx3, hc3⟩, by simp [intOf]; omega⟩
        · have hlt' : decide ((k : Int) < (us.length : Int)) = false := by simp; omega
          have Hx := Lib.hid hx
          go_wp2_with fail
          go_ret
          exact ⟨rfl, Hx.out⟩
end Go.Proofs.Ytcedpdjjjfdbiaa
