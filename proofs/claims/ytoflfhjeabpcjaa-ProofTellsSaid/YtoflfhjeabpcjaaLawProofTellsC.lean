/- Parts of the proof, put together: Owned, ProofBack, RoundReg2, ProofTexts, Mix2, Mix3; no condition. -/
import Derived.Test.YtoflfhjeabpcjaaLent
import Derived.Test.YtoflfhjeabpcjaaLawProofTellsB
import Derived.Test.YtoflfhjeabpcjaaRoundReg
import Derived.Test.YtoflfhjeabpcjaaBase
/- Owned: the owner of rows of bytes may write over all of each; no condition. -/
namespace Go.Proofs.Ytoflfhjeabpcjaa
set_option linter.unusedVariables false
set_option linter.unusedSimpArgs false
open Go.RowKit

/-- A slice value of bytes whose places, spare ones too, may be written; all of them hold x, if all. -/
def Cap (w : World) (u : Value) (all : Option Value) : Prop :=
  u = .slice none 0 0 ∨ ∃ (g n c : Nat) (cells : Array Value) (fr : Nat × Nat), u = .slice (some ⟨g, 0, none⟩) n c ∧ w.heap[g]? = some (.cells cells 5 fr) ∧ n ≤ c ∧ c ≤ cells.size ∧ c ≤ 9223372036854775807 ∧ (∀ i, i < c → ¬ (fr.1 ≤ i ∧ i < fr.2)) ∧
    ∀ x, all = some x → ∀ j, j < c → cells[j]? = some x
theorem OwnB.capA {w : World} {u : Value} {l : Bs} (h : OwnB w u l) : Cap w u none := by
  rcases h with ⟨rfl, _⟩ | ⟨g, c, cells, fr, rfl, hg, h1, h2, h3, h4, _⟩
  · exact .inl rfl
  · exact .inr ⟨g, _, c, cells, fr, rfl, hg, h1, h2, h3, h4, fun x h => by cases h⟩
theorem Cap.ext {F : Nat → Prop} {w w' : World} {u : Value} {x : Option Value} (h : Cap w u x) (he : Ext F w w') (hF : ∀ k, u.ownBlock = some k → ¬ F k) : Cap w' u x := by
  rcases h with h | ⟨g, n, c, cells, fr, rfl, hg, r⟩
  · exact .inl h
  · exact .inr ⟨g, n, c, cells, fr, rfl, he.heap hg (hF g rfl), r⟩
theorem Cap.any {w : World} {u : Value} {x : Option Value} (h : Cap w u x) : Cap w u none := by
  rcases h with h | ⟨g, n, c, cells, fr, rfl, hg, h1, h2, h3, h4, h5⟩
  · exact .inl h
  · exact .inr ⟨g, n, c, cells, fr, rfl, hg, h1, h2, h3, h4, fun x h => by cases h⟩

/-- Rows of such: row values us behind v, each with a block of its own. -/
structure Rows8 (w : World) (v : Value) (us : List Value) : Prop where
  row : Row (fun w g n u => w.cell? ⟨g, n, none⟩ = some u) 1 (fun b => ∀ u ∈ us, u.ownBlock ≠ some b) w v us
  cap : ∀ u ∈ us, Cap w u none
  apart : ∀ (i j : Nat) (u u' : Value) (k : Nat), us[i]? = some u → us[j]? = some u' → u.ownBlock = some k → u'.ownBlock = some k → i = j

/-- The byte that is written over row i. -/
def mark (i : Nat) : Value := .int .u8 (IntKind.u8.wrap ((i : Int) + 1))

set_option maxRecDepth 100000 in
set_option maxHeartbeats 1000000 in
theorem owned_walk {w : World} {v : Value} {us : List Value} (h : Rows8 w v us) (hl : us.length ≤ 9223372036854775807) :
    Calls Try.prog 45 #[v] w fun e w' => e = .returned (.bool true) ∧ Ext (fun b => ∃ u ∈ us, u.ownBlock = some b) w w' := by
  obtain ⟨A, c, rfl, hcap, _⟩ := id h.row
  go_enter Try.func45, Try.ntmps45
  go_wp2_with fail
  go_loopw [3] (fun i W => ∃ k : Nat, k ≤ us.length ∧ i = .int .i64 k ∧ Ext (fun b => ∃ u ∈ us, u.ownBlock = some b) w W ∧ (∀ (j : Nat) (u : Value), us[j]? = some u → Cap W u (if j < k then some (mark j) else none)))
    (fun i _ => us.length - (intOf i).toNat)
  case atStart => exact ⟨0, by omega, rfl, Ext.refl _ _, fun j u hu => by simpa using h.cap u (List.mem_of_getElem? hu)⟩
  case round =>
    obtain ⟨k, hk, rfl, hx, hc⟩ := hrel
    by_cases hlt : k < us.length
    · obtain ⟨g, o, c', hav, hD, hcell⟩ := h.row.at hlt
      obtain ⟨rfl, rfl⟩ : A = some ⟨g, o, none⟩ ∧ c = c' := by simpa using hav
      clear hav
      rw [Nat.mul_one] at hcell
      have hcell' := cell_ext hcell hx (by rintro ⟨u, hu, e⟩; exact hD u hu e)
      have hku := hc k us[k] (List.getElem?_eq_getElem hlt)
      rw [if_neg (by omega)] at hku
      have hlt' : (k : Int) < (us.length : Int) := by omega
      generalize hu : us[k] = u at *
      have hnext : ∀ W2 : World, Ext (fun b => u.ownBlock = some b) wr W2 → Cap W2 u (some (mark k)) →
          Ext (fun b => ∃ u ∈ us, u.ownBlock = some b) w W2 ∧ (∀ (j : Nat) (u : Value), us[j]? = some u → Cap W2 u (if j < k + 1 then some (mark j) else none)) := by
        intro W2 hx2 hc2
        refine ⟨hx.trans (hx2.mono fun b _ e => ⟨u, by rw [← hu]; exact List.getElem_mem hlt, e⟩), fun j u' hj => ?_⟩
        by_cases hjk : j = k
        · subst hjk
          rw [List.getElem?_eq_getElem hlt, hu] at hj
          obtain rfl := Option.some.inj hj
          rw [if_pos (by omega)]
          exact hc2
        · have h0 := (hc j u' hj).ext hx2 fun b hb hb' => hjk (h.apart j k u' u b hj (by rw [← hu]; exact List.getElem?_eq_getElem hlt) hb hb')
          by_cases hj2 : j < k
          · rw [if_pos hj2] at h0
            rwa [if_pos (by omega)]
          · rw [if_neg hj2] at h0
            rwa [if_neg (by omega)]
      have Hn := Lib.hid hnext
      have H0 := Lib.hid (And.intro h (And.intro hc (And.intro hx hD)))
      clear hnext hc hx hD hcell h
      rcases hku with rfl | ⟨bg, n, bc, cells, fr, rfl, hg, h1, h2, h3, h4, _⟩
      · go_wp2_with fail
        refine wp_region_mix (Cls [g] _) [] [0, 1, 2, 3, 4, 5, 6, 7, 8, 9, 10] (by kernel_rfl) (by kernel_rfl) (Cls.refl _ _) ?_
        try dsimp only [wpMix, wpSegs, pick, List.getElem?_cons_zero, List.getElem?_cons_succ]
        generalize hz : Act.mk _ _ = z
        repeat (first | (refine wpQuiet_step (fun K hK => ?_); replace hK := Lib.hid hK; subst hz; go_simp; generalize hz : Act.mk _ _ = z; refine hK.out z ?_; clear hK K) | (refine wpQuiet_step (fun K hK => ?_); replace hK := Lib.hid hK; subst hz; refine iteSkip (by kernel_rfl) ?_; go_simp; generalize hz : Act.mk _ _ = z; refine hK.out z ?_; clear hK K))
        try refine wpQuiet_nil ?_
        subst hz
        try dsimp only [NoPan]
        go_wp2_with fail
        go_loopw [5] (fun i W => i = .int .i64 0 ∧ Ext (fun _ => False) wr W) (fun _ _ => 0)
        case atStart => exact ⟨rfl, (Ext.refl _ _).drew⟩
        case round =>
          obtain ⟨rfl, hx2⟩ := hrel
          go_wp2_with fail
          obtain ⟨hx3, hc3⟩ := Hn.out _ (hx2.mono fun _ _ => False.elim) (.inl rfl)
          exact ⟨⟨k + 1, by omega, by go_num, hx3, hc3⟩, by simp [intOf]; omega⟩
      · have hbc : (bc : Int) ≤ 9223372036854775807 := by omega
        go_wp2_with fail
        refine wp_region_mix (Cls [g] _) [] [0, 1, 2, 3, 4, 5, 6, 7, 8, 9, 10] (by kernel_rfl) (by kernel_rfl) (Cls.refl _ _) ?_
        try dsimp only [wpMix, wpSegs, pick, List.getElem?_cons_zero, List.getElem?_cons_succ]
        generalize hz : Act.mk _ _ = z
        repeat (first | (refine wpQuiet_step (fun K hK => ?_); replace hK := Lib.hid hK; subst hz; go_simp; generalize hz : Act.mk _ _ = z; refine hK.out z ?_; clear hK K) | (refine wpQuiet_step (fun K hK => ?_); replace hK := Lib.hid hK; subst hz; refine iteSkip (by kernel_rfl) ?_; go_simp; generalize hz : Act.mk _ _ = z; refine hK.out z ?_; clear hK K))
        try refine wpQuiet_nil ?_
        subst hz
        try dsimp only [NoPan]
        go_wp2_with fail
        go_loopw [5] (fun i W => ∃ (m : Nat) (cells' : Array Value), m ≤ bc ∧ i = .int .i64 m ∧ Ext (· = bg) wr W ∧ W.heap[bg]? = some (.cells cells' 5 fr) ∧ cells'.size = cells.size ∧ ∀ j, j < m → cells'[j]? = some (mark k)) (fun i _ => bc - (intOf i).toNat)
        case atStart => exact ⟨0, cells, by omega, rfl, (Ext.refl _ _).drew, hg, rfl, fun j hj => by omega⟩
        case round =>
          obtain ⟨m, cells', hm, rfl, hx2, hg2, hs2, hf2⟩ := hrel
          by_cases hm2 : m < bc
          · have hm3 : (m : Int) < (bc : Int) := by omega
            have hf : wr.frozen? ⟨bg, m, none⟩ = false := by
              have := h4 m hm2
              unfold World.frozen?
              simp only [hg2]
              simp at this ⊢
              exact this
            obtain ⟨v0, hc0⟩ : ∃ v0, wr.cell? ⟨bg, m, none⟩ = some v0 := ⟨_, by rw [cells_at hg2, Array.getElem?_eq_getElem (by omega)]⟩
            go_wp2_with fail
            refine ⟨⟨m + 1, cells'.setIfInBounds m (mark k), by omega, by go_num, ?_, ?_, ?_, ?_⟩, by simp [intOf]; omega⟩
            · exact hx2.setCell (.inl rfl) _
            · exact heap_setCell_self hg2
            · simpa using hs2
            · intro j hj
              by_cases hjm : j = m
              · subst hjm
                rw [Array.getElem?_setIfInBounds_self_of_lt (by omega)]
              · rw [Array.getElem?_setIfInBounds_ne (by omega)]
                exact hf2 j (by omega)
          · have hm3 : decide ((m : Int) < (bc : Int)) = false := by simp; omega
            go_wp2_with fail
            obtain ⟨hx3, hc3⟩ := Hn.out _ (hx2.mono fun b _ e => by simp [Value.ownBlock, e]) (.inr ⟨bg, n, bc, cells', fr, rfl, hg2, h1, by omega, h3, h4, fun x hx j hj => by cases hx; exact hf2 j (by omega)⟩)
            exact ⟨⟨k + 1, by omega, by go_num, hx3, hc3⟩, by simp [intOf]; omega⟩
    · have hlt' : decide ((k : Int) < (us.length : Int)) = false := by simp; omega
      have hc' : ∀ (j : Nat) (u : Value), us[j]? = some u → Cap wr u (some (mark j)) := fun j u hu => by
        have := hc j u hu
        rwa [if_pos (by have := (List.getElem?_eq_some_iff.1 hu).1; omega)] at this
      clear hc
      have H0 := Lib.hid (And.intro h (And.intro hc' hx))
      clear h hc' hx
      go_wp2_with fail
      clear hlt' hlt hk
      go_loopw [6] (fun i W => ∃ k : Nat, k ≤ us.length ∧ i = .int .i64 k ∧ Ext (fun b => ∃ u ∈ us, u.ownBlock = some b) w W ∧ (∀ (j : Nat) (u : Value), us[j]? = some u → Cap W u (some (mark j))))
        (fun i _ => us.length - (intOf i).toNat)
      case atStart => exact ⟨0, by omega, rfl, H0.out.2.2, H0.out.2.1⟩
      case round =>
        obtain ⟨k, hk, rfl, hx, hc⟩ := hrel
        have h := H0.out.1
        by_cases hlt : k < us.length
        · obtain ⟨g, o, c', hav, hD, hcell⟩ := h.row.at hlt
          obtain ⟨rfl, rfl⟩ : A = some ⟨g, o, none⟩ ∧ c = c' := by simpa using hav
          clear hav
          rw [Nat.mul_one] at hcell
          have hcell' := cell_ext hcell hx (by rintro ⟨u, hu, e⟩; exact hD u hu e)
          have hku := hc k us[k] (List.getElem?_eq_getElem hlt)
          have hlt' : (k : Int) < (us.length : Int) := by omega
          generalize hu : us[k] = u at *
          have hnext : ∀ W2 : World, Ext (fun _ => False) wr W2 → Ext (fun b => ∃ u ∈ us, u.ownBlock = some b) w W2 ∧ (∀ (j : Nat) (u : Value), us[j]? = some u → Cap W2 u (some (mark j))) :=
            fun W2 hx2 => ⟨hx.trans' hx2 fun _ => False.elim, fun j u hj => (hc j u hj).ext hx2 fun _ _ => id⟩
          have Hn := Lib.hid hnext
          clear hnext hc hx hD hcell h
          rcases hku with rfl | ⟨bg, n, bc, cells, fr, rfl, hg, h1, h2, h3, h4, h5⟩
          · go_wp2_with fail
            refine wp_region_mix (Cls [g] _) [] [0, 1, 2, 3, 4, 5, 6, 7, 8, 9, 10] (by kernel_rfl) (by kernel_rfl) (Cls.refl _ _) ?_
            try dsimp only [wpMix, wpSegs, pick, List.getElem?_cons_zero, List.getElem?_cons_succ]
            generalize hz : Act.mk _ _ = z
            repeat (first | (refine wpQuiet_step (fun K hK => ?_); replace hK := Lib.hid hK; subst hz; go_simp; generalize hz : Act.mk _ _ = z; refine hK.out z ?_; clear hK K) | (refine wpQuiet_step (fun K hK => ?_); replace hK := Lib.hid hK; subst hz; refine iteSkip (by kernel_rfl) ?_; go_simp; generalize hz : Act.mk _ _ = z; refine hK.out z ?_; clear hK K))
            try refine wpQuiet_nil ?_
            subst hz
            try dsimp only [NoPan]
            go_wp2_with fail
            go_loopw [8] (fun i W => i = .int .i64 0 ∧ Ext (fun _ => False) wr W) (fun _ _ => 0)
            case atStart => exact ⟨rfl, (Ext.refl _ _).drew⟩
            case round =>
              obtain ⟨rfl, hx2⟩ := hrel
              go_wp2_with fail
              obtain ⟨hx3, hc3⟩ := Hn.out _ hx2
              exact ⟨⟨k + 1, by omega, by go_num, hx3, hc3⟩, by simp [intOf]; omega⟩
          · have hbc : (bc : Int) ≤ 9223372036854775807 := by omega
            go_wp2_with fail
            refine wp_region_mix (Cls [g] _) [] [0, 1, 2, 3, 4, 5, 6, 7, 8, 9, 10] (by kernel_rfl) (by kernel_rfl) (Cls.refl _ _) ?_
            try dsimp only [wpMix, wpSegs, pick, List.getElem?_cons_zero, List.getElem?_cons_succ]
            generalize hz : Act.mk _ _ = z
            repeat (first | (refine wpQuiet_step (fun K hK => ?_); replace hK := Lib.hid hK; subst hz; go_simp; generalize hz : Act.mk _ _ = z; refine hK.out z ?_; clear hK K) | (refine wpQuiet_step (fun K hK => ?_); replace hK := Lib.hid hK; subst hz; refine iteSkip (by kernel_rfl) ?_; go_simp; generalize hz : Act.mk _ _ = z; refine hK.out z ?_; clear hK K))
            try refine wpQuiet_nil ?_
            subst hz
            try dsimp only [NoPan]
            go_wp2_with fail
            go_loopw [8] (fun i W => ∃ m : Nat, m ≤ bc ∧ i = .int .i64 m ∧ Ext (fun _ => False) wr W) (fun i _ => bc - (intOf i).toNat)
            case atStart => exact ⟨0, by omega, rfl, (Ext.refl _ _).drew⟩
            case round =>
              obtain ⟨m, hm, rfl, hx2⟩ := hrel
              by_cases hm2 : m < bc
              · have hm3 : (m : Int) < (bc : Int) := by omega
                have hg2 := hx2.heap hg id
                have hc0 : wr.cell? ⟨bg, m, none⟩ = some (mark k) := by rw [cells_at hg2]; exact h5 _ rfl m hm2
                unfold mark at hc0
                go_wp2_with fail
                exact ⟨⟨m + 1, by omega, by go_num, hx2⟩, by simp [intOf]; omega⟩
              · have hm3 : decide ((m : Int) < (bc : Int)) = false := by simp; omega
                go_wp2_with fail
                obtain ⟨hx3, hc3⟩ := Hn.out _ hx2
                exact ⟨⟨k + 1, by omega, by go_num, hx3, hc3⟩, by simp [intOf]; omega⟩
        · have hlt' : decide ((k : Int) < (us.length : Int)) = false := by simp; omega
          have Hx := Lib.hid hx
          go_wp2_with fail
          go_ret
          exact ⟨rfl, Hx.out⟩
end Go.Proofs.Ytoflfhjeabpcjaa
/- The steps of a proof, the last one first: slices.Backward; a named row's text; no condition. -/
namespace Go.Proofs.Ytoflfhjeabpcjaa
set_option linter.unusedVariables false
set_option linter.unusedSimpArgs false
open Go.RowKit
attribute [local go_sem] Oper.semAt_some

theorem wpListIn_load_midq {n : Nat} {P : Program} {ops : Array Oper} {rest : List Oper} {o : Oper} {a : Act} {w : World} {Q : Exit → Act → World → Prop} (ty : TypeId) (x : Operand) (ho : o.op = .load ty x) (hw : Region.wanted o (yielded ops a.tmps) = true) (b k : Nat) (hx : a.eval x = .pointer (some ⟨b, k, none⟩)) (cs : List Value) (d : TypeDesc)
    (hC : w.rangeAt b k cs) (hu : P.underlying ty = some d) (hd : d.isRow = true) (hi : (P.info? ty).map (·.size) = some cs.length)
    (h : wpListIn Fence.wide n P ops Q rest (a.put o.dst (.agg cs.toArray)) w) : wpListIn Fence.wide n P ops Q (o :: rest) a w := by
  simp only [wpListIn, hw, if_true]
  refine ⟨fun _ _ => trivial, ?_⟩
  rw [show Fence.wide.round = none from rfl, Oper.semAt_none]
  unfold execOp
  simp only [ho, hx, Instr.loadAt, Instr.sureAddr, Sem.run_bind, Sem.run_pure, Result.andThen_ok, run_loadVar_mid w b k ty cs d hC hu hd hi]
  exact h
theorem wpList_move {P : Program} {ops : Array Oper} {Q : Exit → Act → World → Prop} {a : Act} {w : World} {o : Oper} {rest : List Oper} (hgd : o.guard = none) (x : Operand) (ho : o.op = .move x)
    (h : wpList P ops Q rest (a.put o.dst (a.eval x)) w) : wpList P ops Q (o :: rest) a w := by
  refine wpList_val hgd (w' := w) (v := a.eval x) ?_ h
  unfold execOp
  simp only [ho]
  rfl
def backX (L : List PS) : List (PS × Nat) := L.zipIdx.reverse
theorem backX_len (L : List PS) : (backX L).length = L.length := by simp [backX]
theorem backX_at (L : List PS) {q : Nat} (h : q < L.length) : (backX L)[L.length - 1 - q]? = some (L[q], q) := by
  unfold backX
  rw [List.getElem?_reverse (by simp; omega)]
  rw [List.length_zipIdx, show L.length - 1 - (L.length - 1 - q) = q by omega]
  rw [List.getElem?_zipIdx, List.getElem?_eq_getElem h]
  simp
theorem backX_take (L : List PS) {q : Nat} (h : q < L.length) : (backX L).take (L.length - q) = (backX L).take (L.length - (q + 1)) ++ [(L[q], q)] := by
  rw [show L.length - q = (L.length - (q + 1)) + 1 by omega, List.take_add_one]
  rw [show L.length - (q + 1) = L.length - 1 - q by omega, backX_at L h]
  rfl
set_option maxRecDepth 100000 in
theorem backward_walk (w : World) (sv : Value) (A : Option Addr) (n c : Nat) (hs : sv = .slice A n c) :
    Calls Try.prog 87 #[sv] w fun e w' => e = .returned (.func (.func 109) #[] #[.pointer (some ⟨w.heap.size, 0, none⟩)]) ∧ w'.heap[w.heap.size]? = some (.cells #[sv] 41 (0, 0)) ∧ Ext (fun _ => False) w w' := by
  subst hs
  go_enter Try.func87, Try.ntmps87
  go_wp2_with fail
  go_ret
  exact ⟨rfl, heap_alloc_self _ _, (Ext.refl _ _).alloc _⟩
set_option maxRecDepth 100000 in
set_option maxHeartbeats 400000 in
theorem backward_iter {w : World} {D K : Nat → Prop} {sv : Value} {L : List PS} {box : Nat} (hL : StepsR D w sv L) (hl : L.length ≤ 1099511627776) (hbox : w.heap[box]? = some (.cells #[sv] 41 (0, 0))) (hDK : ∀ b, D b → K b) (hbK : K box) :
    IterC Try.prog 109 #[.pointer (some ⟨box, 0, none⟩)] (fun x : PS × Nat => #[.int .i64 x.2, .agg (stepV x.1).toArray]) (backX L) K w := by
  intro n m l J D0 W hx hJ hJD hY h0
  refine callsIn_wide.2 ?_
  obtain ⟨As, cs, rfl, _, _⟩ := id hL
  have HH := Lib.hid (And.intro hL (And.intro hJ (And.intro hJD (And.intro h0 hbox))))
  have HX := Lib.hid hx
  have HY := Lib.hid hY
  have b0 : W.cell? ⟨box, 0, none⟩ = some (.slice As L.length cs) := cells_at (hx.heap hbox (fun h => h hbK)) 0
  clear hx hJ hJD hY h0 hL hbox
  have hwn : IntKind.i64.wrap ((L.length : Int) - 1) = (L.length : Int) - 1 := IntWalk.i64_in _ (by omega)
  go_enter Try.func109, Try.ntmps109
  go_wp2_with fail
  go_loopw [3] (fun i wr => ∃ q : Nat, q ≤ L.length ∧ i = .int .i64 ((q : Int) - 1) ∧ Ext (fun b => ¬ K b) w wr ∧ W.heap.size ≤ wr.heap.size ∧ ∃ Dc, J Dc ((backX L).take (L.length - q)) wr ∧ ∀ b, Dc b → D0 b ∨ W.heap.size ≤ b) (fun i _ => (intOf i + 1).toNat)
  case atStart =>
    refine ⟨L.length, Nat.le_refl _, rfl, HX.out, Nat.le_refl _, D0, ?_, fun b hb => .inl hb⟩
    rw [Nat.sub_self]
    exact HH.out.2.2.2.1
  case round =>
    obtain ⟨q, hq, rfl, hx, hsz, Dc, hj, hd⟩ := hrel
    cases q with
    | zero =>
      rw [show (((0 : Nat) : Int) - 1) = -1 from rfl]
      have HT := Lib.hid (And.intro hj hd)
      clear hj hd hx
      go_wp2_with fail
      go_end0
      refine ⟨⟨_, rfl⟩, Dc, ?_, HT.out.2⟩
      have := HT.out.1
      rw [Nat.sub_zero, ← backX_len, List.take_length] at this
      exact this
    | succ m' =>
      rw [show (((m' + 1 : Nat) : Int) - 1) = (m' : Int) by omega]
      have hlt : m' < L.length := by omega
      have c0 : wr.cell? ⟨box, 0, none⟩ = some (.slice As L.length cs) := cells_at (hx.heap HH.out.2.2.2.2 (fun h => h hbK)) 0
      obtain ⟨g, o, c', hav, hdb, hst⟩ := HH.out.1.at hlt
      simp only [Value.slice.injEq, true_and] at hav
      obtain ⟨rfl, rfl⟩ := hav
      have hst' := hst.same (hx.heap_eq (World.block_lt_of_cell? _ _ (hst.2 0 _ rfl)) (fun h => h (hDK _ hdb)))
      obtain ⟨fn, tmps, assign, body, hy, hR⟩ := HY.out Dc _ (L[m'], m') wr hj ⟨(backX L).drop (L.length - m'), by rw [← backX_take L hlt, List.take_append_drop]⟩
      rw [← backX_take L hlt] at hR
      have HR := Lib.hid (And.intro hx (And.intro hd (And.intro hsz hj)))
      have HS := Lib.hid (And.intro hy hR)
      have hso := hst'.1
      have hrg := hst'.2
      have hglt : g < wr.heap.size := World.block_lt_of_cell? _ _ (hst'.2 0 _ rfl)
      clear hx hd hsz hj hst hst' b0 hy hR
      have hwm : IntKind.i64.wrap ((m' : Int) - 1) = (m' : Int) - 1 := IntWalk.i64_in _ (by omega)
      refine wp_seq ?_
      refine wp_seq ?_
      refine wp_region_lit ?_
      generalize hQ : Exit.then _ _ = Q1
      go_wp2_with fail
      subst hQ
      simp only [Exit.then]
      refine wp_cond (t := true) rfl ?_
      refine wp_skip ?_
      simp only [Exit.then]
      refine wp_seq ?_
      refine wp_block ?_
      refine wp_seq_region_in (n := n) ?_
      obtain ⟨hy, hR⟩ := HS.out
      gi_wp2_with (refine wpListIn_load_midq 48 (.tmp 15) rfl rfl g (o + m' * 34) rfl (stepV L[m']) _ hrg Try.underlying48 rfl (by rw [stepV_len hso]; exact step_info) ?_)
      refine ⟨fun hh => (by cases hh), (roundIn_any hR).mono ?_⟩
      rintro e W3 ⟨rfl, D3, j4, x4, n4⟩
      gi_wp2
      go_wp2_with fail
      obtain ⟨hx, hd, hsz, hj⟩ := HR.out
      have hDc := fun b => HH.out.2.2.1 _ _ _ b hj
      refine ⟨⟨m', by omega, rfl, hx.trans' x4 (fun b hb => .inl (hDc b hb).2), Nat.le_trans hsz x4.size, D3, j4, fun b hb => ?_⟩, by simp [intOf]⟩
      rcases n4 b hb with h | h
      · exact hd b h
      · exact .inr (Nat.le_trans hsz h)
set_option maxRecDepth 100000 in
/-- A named row's text. -/
theorem ptext_walk {w : World} {D : Nat → Prop} {v : Value} {nm : Bs} {ls : List Bs} (hv : Byts D w v ls) (hl : ls.length ≤ 4096) (hnm : nm.length ≤ 16) :
    Calls Try.prog 86 #[str nm, v] w fun e w' => ∃ v', e = .returned v' ∧ FreshB w (textR nm ls).1 v' w' := by
  have H := Lib.hid (text_walk (nm := nm) hv (by omega) (by omega))
  obtain ⟨A, c, rfl, _, _⟩ := hv
  go_enter Try.func86, Try.ntmps86
  go_wp2_with fail
  refine H.out.mono ?_
  rintro e w2 ⟨v', rfl, h2⟩
  obtain ⟨A', c', rfl⟩ := h2.own.formv
  have H2 := Lib.hid h2
  clear h2
  go_wp2_with fail
  go_ret
  exact ⟨_, rfl, H2.out⟩
end Go.Proofs.Ytoflfhjeabpcjaa
/- A region within a round with one operation more that may come up at once; no condition. -/
namespace Go.Proofs.Ytoflfhjeabpcjaa
set_option linter.unusedVariables false
set_option linter.unusedSimpArgs false
open Go.RowKit
section
variable {n rl : Nat} {P : Program} {Q : Exit → Act → World → Prop}
theorem wpR_region_bar1 {id : Nat} {l : List Oper} {a : Act} {w : World} (C : World → Prop) (i0 : Nat) (segs : List (List Nat × Nat)) (segb : List Nat) (b : Nat) (segs2 : List (List Nat × Nat)) (last2 : List Nat) (hm : P.follows .mixedOrders = true)
    (hp : (Region.noSelect l.toArray && decide ((flat' segs segb ((false, b) :: flat' segs2 last2 [])).length + 1 ≤ l.length) && segs.all (fun x => x.2 != b) && okBar .any l.toArray [b] (flat' segs segb ((false, b) :: flat' segs2 last2 [])) false ((Array.replicate l.length false).setIfInBounds i0 true)) = true)
    (hp0 : ((Region.ready .any l.toArray (Array.replicate l.length false)).contains i0 && Region.free .any l.toArray (Array.replicate l.length false) i0 && (match l.toArray[i0]? with | some o => isVal o | none => false) && (i0 != b)) = true)
    (hd : noDefer l.toArray = true) (hQ : LetsOut Q → False) (hC : C w.drew)
    (h : wpQuiet P l.toArray (fun _ => True) (fun a1 => wpSegs P l.toArray l C (NoPan Q) (fun a' w' => wpList P l.toArray (Exit.then (fun a'' w'' => wpSegs P l.toArray l (fun _ => True) (NoPan Q) (fun a w => NoPan Q .normal a w) segs2 last2 a'' w'') (NoPan Q)) (pick l [b]) a' w') segs segb a1 w.drew) (pick l [i0]) a) :
    (Code.region id l.toArray true).wpIn (Fence.wide.inRound rl) n P Q a w := by
  refine wpIn_mono (Q := NoPan Q) ?_ (fun e a w h => by cases e <;> first | exact h | exact (h : False).elim)
  simp only [Bool.and_eq_true, decide_eq_true_eq, List.all_eq_true, bne_iff_ne] at hp
  obtain ⟨⟨⟨h1, h2⟩, h4⟩, h3⟩ := hp
  have hsome := okBar_some _ _ _ h3
  have hl : ∀ i : Nat, l[i]? = l.toArray[i]? := fun i => by simp
  have hpan : ∀ (K : Act → World → Prop) c a w, Exit.then K (NoPan Q) (.panic c) a w → NoPan Q (.panic c) a w := fun K c a w h => h
  have sub : ∀ (segs : List (List Nat × Nat)) (last : List Nat) (r : List (Bool × Nat)) x, x ∈ r → x ∈ flat' segs last r := by
    intro segs last r x hx
    induction segs with
    | nil => simp [flat', hx]
    | cons p segs ih => obtain ⟨s, e⟩ := p; simp [flat', ih]
  have hT : BarT C false = C := by
    funext w
    simp [BarT]
  have hT' : BarT C true = fun _ => True := by
    funext w
    simp [BarT]
  have hf : ∀ a1, wpSegs P l.toArray l C (NoPan Q) (fun a' w' => wpList P l.toArray (Exit.then (fun a'' w'' => wpSegs P l.toArray l (fun _ => True) (NoPan Q) (fun a w => NoPan Q .normal a w) segs2 last2 a'' w'') (NoPan Q)) (pick l [b]) a' w') segs segb a1 w.drew → wpBar P l.toArray [b] C (NoPan Q) (flat' segs segb ((false, b) :: flat' segs2 last2 [])) false a1 w.drew := by
    intro a1 h
    refine wpBar_of_segs hl (fun K => letsOut_noPan K) hpan segb (K := _) (fun a' w' h' => ?_) segs a1 w.drew hsome (fun x hx => .inr (by simpa using h4 x hx)) (by rw [hT]; exact h)
    simp only [wpBar]
    refine wpOp_of_list hl (fun K => letsOut_noPan K) hpan (hsome (false, b) (sub _ _ _ _ (by simp))) (fun a'' w'' hh => ⟨.inr (.inl (by simp)), ?_⟩) h'
    have hb1 : (false || [b].contains b) = true := by simp
    rw [hb1]
    refine wpBar_of_segs hl (fun K => letsOut_noPan K) hpan last2 (K := fun a w => NoPan Q .normal a w) (rest := []) (fun a' w' h' => h') segs2 a'' w'' (fun x hx => hsome x (sub _ _ _ _ (by simp [hx]))) (fun x _ => .inl rfl) (by rw [hT']; exact hh)
  simp only [Bool.and_eq_true] at hp0
  obtain ⟨⟨⟨p1, p2⟩, p3⟩, p4⟩ := hp0
  obtain ⟨o, ho⟩ : ∃ o, l.toArray[i0]? = some o := by
    cases ho : l.toArray[i0]? with
    | none => rw [ho] at p3; cases p3
    | some o => exact ⟨o, rfl⟩
  rw [ho] at p3
  have hr : i0 ∈ Region.ready .any l.toArray (Array.replicate l.length false) := by simpa using p1
  have hib : i0 ∉ [b] := by simpa using p4
  have hq : qOp P l.toArray (BarT C true) i0 (fun a1 => wpBar P l.toArray [b] C (NoPan Q) (flat' segs segb ((false, b) :: flat' segs2 last2 [])) false a1 w.drew) a := by
    rw [hT']
    rw [show pick l [i0] = [o] by simp only [pick, hl, ho]] at h
    simp only [wpQuiet] at h
    simp only [qOp, ho]
    split
    · rename_i hw
      rw [if_pos hw] at h
      exact Oper.quiet_mono hf h
    · rename_i hw
      rw [if_neg hw] at h
      exact hf _ h
  refine wpR_region_any hd (fun h => hQ (letsOut_np h)) hm (wpAny_of_G (S := BarS [b] C) _ _ _ _ ?_)
  have hsz : l.toArray.size = l.length := by simp
  rw [hsz]
  obtain ⟨v, hy, hK⟩ := yieldsIf_of_qOp (C := BarT C true) (w := w.drew) (.inl rfl) ho p3 hq
  obtain ⟨k, hk⟩ : ∃ k, l.length = k + 1 := ⟨l.length - 1, by omega⟩
  have hcl : Closed .any l.toArray (Array.replicate l.length false) := by
    intro j oj _ hl'
    rw [getD_replicate_false'] at hl'
    cases hl'
  have key := wpAnyG_first (P := P) (md := .any) (Q := NoPan Q) (bs := [b]) (C := C) (past := true) ho (Region.noSelect_spec h1) (fun _ _ _ h => h) hib (fun h => by cases h) k (Array.replicate l.length false) a w.drew hcl (Region.free_spec ho p2) hr hy (.inr hC)
    (wpAnyG_of_bar h1 (fun _ _ _ _ _ h => h) _ _ _ _ _ h3 (by simp) (hcl.set hr) (fun h => by cases h) (.inr hC) hK k (by omega))
  rw [hk] at key ⊢
  exact key
end
end Go.Proofs.Ytoflfhjeabpcjaa
/- What is summed for a proof: proof.Texts; no condition. -/
namespace Go.Proofs.Ytoflfhjeabpcjaa
set_option linter.unusedVariables false
set_option linter.unusedSimpArgs false
open Go.RowKit Go.Shelf
attribute [local go_sem] Oper.semAt_some

theorem ownRows_one {N g : Nat} {w : World} {u : Value} {l : Bs} (hg : w.heap[g]? = some (.cells #[u] 22 (0, 0))) (hN : N ≤ g) (hu : OwnB w u l) (hf : ∀ k, u.ownBlock = some k → N ≤ k) : OwnRows N w (.slice (some ⟨g, 0, none⟩) 1 1) [u] [l] := by
  refine ⟨⟨rfl, .inr ⟨g, 1, _, rfl, hN, hg, Nat.le_refl _, by decide, rfl, rfl⟩⟩, rfl, fun i x y hx hy => ?_, fun i x k hx hk => ?_, fun i j x y k hx hy _ _ => ?_⟩
  · cases i with
    | zero =>
      simp at hx hy
      subst hx hy
      exact hu
    | succ i => simp at hx
  · cases i with
    | zero =>
      simp at hx
      subst hx
      exact hf k hk
    | succ i => simp at hx
  · cases i with
    | zero => cases j with
      | zero => rfl
      | succ j => simp at hy
    | succ i => simp at hx
theorem OwnRows.ext2 {F : Nat → Prop} {N : Nat} {w w' : World} {v : Value} {vs : List Value} {ls : List Bs} (h : OwnRows N w v vs ls) (he : Ext F w w') (h1 : ∀ k, v.ownBlock = some k → ¬ F k) (h2 : ∀ u ∈ vs, ∀ k, u.ownBlock = some k → ¬ F k) : OwnRows N w' v vs ls :=
  ⟨own_ext h.row he h1, h.len, fun i u l hu hl => (h.each i u l hu hl).ext he (h2 u (List.mem_of_getElem? hu)), h.from_, h.apart⟩
theorem OwnRows.snoc2 {N : Nat} {w w2 : World} {v v' u : Value} {vs : List Value} {ls : List Bs} {l : Bs} (h : OwnRows N w v vs ls) (hx : Ext (fun k => v.ownBlock = some k) w w2)
    (hrow : w2.ownsRow N 22 1 v' (ls.length + 1) (vs ++ [u])) (hu : OwnB w2 u l) (hn : ∀ k, u.ownBlock = some k → N ≤ k) (hn2 : ∀ u' ∈ vs, ∀ k, u.ownBlock = some k → u'.ownBlock ≠ some k) : OwnRows N w2 v' (vs ++ [u]) (ls ++ [l]) := by
  have hvt : ∀ (i : Nat) (x : Value) k, vs[i]? = some x → x.ownBlock = some k → v.ownBlock ≠ some k := by
    intro i x k hx1 hk e
    have hi : i < vs.length := (List.getElem?_eq_some_iff.1 hx1).1
    obtain ⟨cs, hcs⟩ := own_ty h.row k e
    obtain ⟨cs', fr, hcs'⟩ := (h.each i x _ hx1 (List.getElem?_eq_getElem (by rw [← h.len]; exact hi))).ty k hk
    rw [hcs] at hcs'
    simp at hcs'
  have split : ∀ (i : Nat) (x : Value), (vs ++ [u])[i]? = some x → (i < vs.length ∧ vs[i]? = some x) ∨ (i = vs.length ∧ x = u) := by
    intro i x hi
    by_cases hlt : i < vs.length
    · rw [List.getElem?_append_left hlt] at hi
      exact .inl ⟨hlt, hi⟩
    · rw [List.getElem?_append_right (by omega)] at hi
      obtain ⟨h1, h2⟩ := List.getElem?_eq_some_iff.1 hi
      simp only [List.length_singleton] at h1
      have : i = vs.length := by omega
      subst this
      exact .inr ⟨rfl, by simpa using h2.symm⟩
  refine ⟨by simpa using hrow, by simp [h.len], fun i x y hi hy => ?_, fun i x k hi hk => ?_, fun i j x x' k hi hj hk hk' => ?_⟩
  · rcases split i x hi with ⟨hlt, hi⟩ | ⟨rfl, rfl⟩
    · rw [List.getElem?_append_left (by rw [← h.len]; exact hlt)] at hy
      exact (h.each i x y hi hy).ext hx fun k hk => hvt i x k hi hk
    · rw [List.getElem?_append_right (by rw [h.len]; omega)] at hy
      simp [h.len] at hy
      subst hy
      exact hu
  · rcases split i x hi with ⟨hlt, hi⟩ | ⟨rfl, rfl⟩
    · exact h.from_ i x k hi hk
    · exact hn k hk
  · rcases split i x hi with ⟨hlt, hi1⟩ | ⟨hie, hxe⟩
    · rcases split j x' hj with ⟨hlt', hj1⟩ | ⟨hje, hxe'⟩
      · exact h.apart i j x x' k hi1 hj1 hk hk'
      · exact absurd hk (hn2 x (List.mem_of_getElem? hi1) k (hxe' ▸ hk'))
    · rcases split j x' hj with ⟨hlt', hj1⟩ | ⟨hje, hxe'⟩
      · exact absurd hk' (hn2 x' (List.mem_of_getElem? hj1) k (hxe ▸ hk))
      · omega
/-- What Texts' own cells hold when some steps have come. -/
structure TxI (t0 : Bs) (bt bo N box : Nat) (w4 : World) (D : Nat → Prop) (pre : List (PS × Nat)) (A : World) (tv ov : Value) (vs : List Value) : Prop where
  tcell : A.heap[bt]? = some (.cells #[tv] 22 (0, 0))
  ocell : A.heap[bo]? = some (.cells #[ov] 68 (0, 0))
  town : OwnB A tv (lastT t0 (pre.map (·.1)))
  rows : OwnRows N A ov vs (scanT t0 (pre.map (·.1)))
  dt : D bt
  do_ : D bo
  tD : ∀ k, tv.ownBlock = some k → D k ∧ k ≠ bt ∧ k ≠ bo
  oD : ∀ k, ov.ownBlock = some k → D k ∧ k ≠ bt ∧ k ≠ bo
  vD : ∀ u ∈ vs, ∀ k, u.ownBlock = some k → D k ∧ k ≠ bt ∧ k ≠ bo
  bound : ∀ b, D b → b < A.heap.size ∧ N ≤ b ∧ b ≠ box
  ext : Ext (fun b => N ≤ b ∧ b ≠ box) w4 A
theorem textR_le4 (nm : Bs) (ls : List Bs) : (textR nm ls).1.length ≤ 4 + (ls.length + 1) * 65540 := by
  unfold textR
  split
  · simp
  · unfold rowR
    split
    · rename_i h
      have := flat_len (nm :: ls) h.2
      simp only [rowB, List.length_append, beB_len, List.length_cons] at this ⊢
      omega
    · simp
theorem nextT_len (t : Bs) (s : PS) : (nextT t s).length ≤ 400000 := by
  unfold nextT
  split <;> (refine Nat.le_trans (textR_le4 _ _) ?_; simp)
theorem lastT_len : ∀ (L : List PS) (t : Bs), t.length ≤ 400000 → (lastT t L).length ≤ 400000
  | [], t, h => h
  | s :: r, t, h => lastT_len r (nextT t s) (nextT_len t s)
theorem ownRows_nil (N : Nat) (w : World) : OwnRows N w (.slice none 0 0) [] [] := OwnRows.nil N w
set_option maxRecDepth 100000 in
set_option maxHeartbeats 1000000 in
theorem texts_walk {D : Nat → Prop} {w : World} {nn : Bool} {kv vv sv : Value} {k v : Bs} {L : List PS} (h : PIs D w kv vv sv k v L) (hD : ∀ b, D b → b < w.heap.size) :
    Calls Try.prog 39 #[.agg #[.bool nn, kv, vv, sv]] w fun e w' => ∃ ov vs, e = .returned ov ∧ OwnRows w.heap.size w' ov vs (textsP nn k v L) ∧ (textsP nn k v L = [] → ov = .slice none 0 0) ∧ Ext (fun _ => False) w w' := by
  have H := Lib.hid h
  obtain ⟨Ak, ck, rfl, hkc, _⟩ := h.key
  obtain ⟨Av, cv, rfl, hvc, _⟩ := h.value
  obtain ⟨As, cs, rfl, hsc, _⟩ := h.steps
  have hsl := h.sl
  clear h
  have hP0 := heap_alloc_self w (.cells #[.bool nn, .slice Ak k.length ck, .slice Av v.length cv, .slice As L.length cs] 43 (0, 0))
  have hx0 := (Ext.refl (fun _ => False) w).alloc (.cells #[.bool nn, .slice Ak k.length ck, .slice Av v.length cv, .slice As L.length cs] 43 (0, 0))
  have H0 := Lib.hid (And.intro hP0 (And.intro hx0 (H.out.same fun b hb => hx0.heap_eq (hD b hb) id)))
  clear hP0 hx0
  refine callsIn_wide.1 (callsIn_of_wp_marks (F := Fence.wide) (n := 0) Try.func39 rfl trivial ?_)
  simp only [Try.ntmps39, List.size_toArray, List.length_cons, List.length_nil, Nat.reduceAdd, Nat.reduceSub, Array.replicate_succ, Array.replicate_zero, List.push_toArray, List.append_toArray, List.nil_append, List.cons_append]
  refine wpIn_wide.2 ?_
  go_wp2_with fail
  refine (may_walk (nn := nn) H0.out.2.2 (fun b hb => Nat.lt_of_lt_of_le (hD b hb) H0.out.2.1.size)).mono ?_
  rintro e w1 ⟨rfl, x1⟩
  have hP1 := x1.heap H0.out.1 id
  have y1 := H0.out.2.1.trans x1
  have hPI := H.out.same fun b hb => y1.heap_eq (hD b hb) id
  have H1 := Lib.hid (And.intro hP1 (And.intro y1 hPI))
  have d0 : w1.cell? ⟨w.heap.size, 0, none⟩ = some (.bool nn) := cells_at hP1 0
  have d1 : w1.cell? ⟨w.heap.size, 1, none⟩ = some (.slice Ak k.length ck) := cells_at hP1 1
  have d2 : w1.cell? ⟨w.heap.size, 2, none⟩ = some (.slice Av v.length cv) := cells_at hP1 2
  have d3 : w1.cell? ⟨w.heap.size, 3, none⟩ = some (.slice As L.length cs) := cells_at hP1 3
  have hl1 := lt_of_heap hP1
  clear x1 hP1 y1 hPI H0
  obtain ⟨mm, hm⟩ : ∃ mm, mm = mayP nn k v L := ⟨_, rfl⟩
  rw [← hm]
  have HM := Lib.hid hm
  clear hm
  cases mm with
  | false =>
    go_wp2_with fail
    refine ⟨_, results_tmp rfl _ _ _, ?_⟩
    have ht : textsP nn k v L = [] := by unfold textsP; rw [← HM.out]; rfl
    rw [ht]
    exact ⟨.slice none 0 0, [], rfl, ownRows_nil _ _, fun _ => rfl, H1.out.2.1⟩
  | true =>
    cases nn with
    | true =>
      go_wp2_with fail
      refine (ptext_walk (nm := [110, 111, 110, 101]) (ls := []) (D := fun _ => True) ⟨_, _, rfl, Nat.le_refl _, fun h => absurd rfl h⟩ (by simp) (by decide)).mono ?_
      rintro e w2 ⟨v2, rfl, h2⟩
      obtain ⟨A2, c2, rfl⟩ := h2.own.formv
      have H2 := Lib.hid h2
      clear h2
      go_wp2_with fail
      have ht : textsP true k v L = [noneT] := by unfold textsP; rw [← HM.out]; rfl
      have hx3 := (Ext.refl (fun _ => False) w2).alloc (.cells #[.slice A2 (textR [110, 111, 110, 101] []).1.length c2] 22 (0, 0))
      have hyy := H1.out.2.1.trans H2.out.ext
      refine ⟨_, results_tmp rfl _ _ _, ?_⟩
      rw [ht]
      exact ⟨_, _, rfl, ownRows_one (heap_alloc_self w2 (.cells #[.slice A2 (textR [110, 111, 110, 101] []).1.length c2] 22 (0, 0))) hyy.size (H2.out.own.ext hx3 fun _ _ => id) (fun q hq => Nat.le_trans H1.out.2.1.size (H2.out.new q hq)), fun h => (by cases h), hyy.trans hx3⟩
    | false =>
      go_wp2_with fail
      have hx2 := (Ext.refl (fun _ => False) w1).alloc (.cells #[.slice Ak k.length ck, .slice Av v.length cv] 22 (0, 0))
      have hbs := byts_lit (D := fun _ => True) (vs := [.slice Ak k.length ck, .slice Av v.length cv]) (ls := [k, v]) (heap_alloc_self w1 (.cells #[.slice Ak k.length ck, .slice Av v.length cv] 22 (0, 0))) rfl trivial (fun i x l hx hl => by
        match i, hx, hl with
        | 0, hx, hl =>
          simp at hx hl
          subst hx hl
          exact (H1.out.2.2.key.mono fun _ _ => trivial).same hx2
        | 1, hx, hl =>
          simp at hx hl
          subst hx hl
          exact (H1.out.2.2.value.mono fun _ _ => trivial).same hx2) 2 rfl
      refine (ptext_walk (nm := [108, 101, 97, 102]) hbs (by simp) (by decide)).mono ?_
      obtain ⟨t0, ht0⟩ : ∃ t0, t0 = (textR [108, 101, 97, 102] [k, v]).1 := ⟨_, rfl⟩
      rw [← ht0]
      rintro e w2 ⟨v2, rfl, h2⟩
      obtain ⟨A2, c2, rfl⟩ := h2.own.formv
      have y2 := H1.out.2.1.trans (hx2.trans h2.ext)
      have hP2 := (hx2.trans h2.ext).heap H1.out.1 id
      have z1 := (Ext.refl (fun _ => False) w2).alloc (.cells #[.slice A2 t0.length c2] 22 (0, 0))
      have z2 := z1.alloc (.cells #[.slice A2 t0.length c2] 22 (0, 0))
      have z3 := z2.alloc (.cells #[.slice (some ⟨w2.heap.size + 1, 0, none⟩) 1 1] 68 (0, 0))
      have g1 : (((w2.alloc (.cells #[.slice A2 t0.length c2] 22 (0, 0))).alloc (.cells #[.slice A2 t0.length c2] 22 (0, 0))).alloc (.cells #[.slice (some ⟨w2.heap.size + 1, 0, none⟩) 1 1] 68 (0, 0))).heap[w2.heap.size]? = some (.cells #[.slice A2 t0.length c2] 22 (0, 0)) := by
        rw [heap_alloc_lt _ _ _ (by simp only [World.size_alloc]; omega), heap_alloc_lt _ _ _ (by simp only [World.size_alloc]; omega)]
        exact heap_alloc_self _ _
      have g2 : (((w2.alloc (.cells #[.slice A2 t0.length c2] 22 (0, 0))).alloc (.cells #[.slice A2 t0.length c2] 22 (0, 0))).alloc (.cells #[.slice (some ⟨w2.heap.size + 1, 0, none⟩) 1 1] 68 (0, 0))).heap[w2.heap.size + 1]? = some (.cells #[.slice A2 t0.length c2] 22 (0, 0)) := by
        rw [heap_alloc_lt _ _ _ (by simp only [World.size_alloc]; omega)]
        exact heap_alloc_at (by simp)
      have g3 : (((w2.alloc (.cells #[.slice A2 t0.length c2] 22 (0, 0))).alloc (.cells #[.slice A2 t0.length c2] 22 (0, 0))).alloc (.cells #[.slice (some ⟨w2.heap.size + 1, 0, none⟩) 1 1] 68 (0, 0))).heap[w2.heap.size + 2]? = some (.cells #[.slice (some ⟨w2.heap.size + 1, 0, none⟩) 1 1] 68 (0, 0)) := heap_alloc_at (by simp)
      have hP3 := z3.heap hP2 id
      have e3 := cells_at hP3 3
      simp only [List.getElem?_toArray, List.getElem?_cons_succ, List.getElem?_cons_zero] at e3
      have H2 := Lib.hid (And.intro h2 (And.intro y2 (And.intro z3 (And.intro g1 (And.intro g2 g3)))))
      have HT0 := Lib.hid ht0
      clear h2 y2 hP2 hbs hx2 d0 d1 d2 d3 ht0 z1 z2 z3 g1 g2 g3 hP3
      go_wp2_with fail
      refine (backward_walk _ _ As L.length cs rfl).mono ?_
      rintro e w4 ⟨rfl, hb4, x4⟩
      have hsz3 : (((w2.alloc (.cells #[.slice A2 t0.length c2] 22 (0, 0))).alloc (.cells #[.slice A2 t0.length c2] 22 (0, 0))).alloc (.cells #[.slice (some ⟨w2.heap.size + 1, 0, none⟩) 1 1] 68 (0, 0))).heap.size = w2.heap.size + 3 := by simp
      have g1 := x4.heap H2.out.2.2.2.1 id
      have g2 := x4.heap H2.out.2.2.2.2.1 id
      have g3 := x4.heap H2.out.2.2.2.2.2 id
      have y24 := H2.out.2.2.1.trans x4
      rw [hsz3] at hb4
      have H4 := Lib.hid (And.intro hb4 (And.intro g1 (And.intro g2 (And.intro g3 y24))))
      have hb4l := lt_of_heap hb4
      clear hb4 g1 g2 g3 y24 x4 e3
      rw [hsz3]
      go_wp2_with fail
      have hww2 : w.heap.size ≤ w2.heap.size := H2.out.2.1.size
      have hw24 : w2.heap.size + 3 < w4.heap.size := hb4l
      have y4 : Ext (fun _ => False) w w4 := H2.out.2.1.trans H4.out.2.2.2.2
      have hST : StepsR D w4 (.slice As L.length cs) L := H.out.steps.same fun b hb => y4.heap_eq (hD b hb) id
      have hSTo : ∀ x ∈ L, x.other.length = 32 := fun x hx => by
        obtain ⟨i, hi⟩ := List.mem_iff_getElem?.1 hx
        obtain ⟨hi1, hi2⟩ := List.getElem?_eq_some_iff.1 hi
        obtain ⟨_, _, _, _, _, h3⟩ := hST.at hi1
        rw [hi2] at h3
        exact h3.1
      have hA2 : ∀ q, (Value.slice A2 t0.length c2).ownBlock = some q → w.heap.size ≤ q ∧ q < w2.heap.size := fun q hq => by
        have h1 := H2.out.1.new q hq
        have h2 := H2.out.1.own.lt q hq
        have h3 := H1.out.2.1.size
        simp only [World.size_alloc] at h1
        exact ⟨by omega, h2⟩
      have ho4 : OwnB w4 (.slice A2 t0.length c2) t0 := H2.out.1.own.ext H4.out.2.2.2.2 fun _ _ => id
      have hor : OwnRows w.heap.size w4 (.slice (some ⟨w2.heap.size + 1, 0, none⟩) 1 1) [.slice A2 t0.length c2] [t0] := ownRows_one H4.out.2.2.1 (by omega) ho4 fun q hq => (hA2 q hq).1
      have HW := Lib.hid (And.intro hSTo (And.intro hA2 (And.intro ho4 (And.intro hor (And.intro y4 hww2)))))
      refine (wpIn_wide (n := 0)).1 ?_
      refine wpIn_range2 (m := 0) (gf := 109) (lb := #[.pointer (some ⟨w2.heap.size + 3, 0, none⟩)]) rfl (enters_of Try.func109 (by kernel_rfl) rfl) (enc := fun x : PS × Nat => .int .i64 x.2) (enc2 := fun x : PS × Nat => .agg (stepV x.1).toArray) (xs := backX L) (K := fun b => b < w4.heap.size ∧ (b < w.heap.size ∨ b = w2.heap.size + 3)) (fun b hb => hb.1)
        (backward_iter (D := D) hST hsl H4.out.1 (fun b hb => ⟨by have := hD b hb; omega, .inl (hD b hb)⟩) ⟨hw24, .inr rfl⟩)
        (fun D' pre A => ∃ tv ov vs, TxI t0 w2.heap.size (w2.heap.size + 2) w.heap.size (w2.heap.size + 3) w4 D' pre A tv ov vs)
        (fun b => b = w2.heap.size ∨ b = w2.heap.size + 2 ∨ b = w2.heap.size + 1 ∨ (Value.slice A2 t0.length c2).ownBlock = some b) ?_ ?_ ?_ ?_ ?_
      · rintro D' pre A B ⟨tv, ov, vs, hi⟩ hx
        refine ⟨tv, ov, vs, hx.heap hi.tcell (fun h => h.1 hi.dt), hx.heap hi.ocell (fun h => h.1 hi.do_), hi.town.ext hx fun k hk hh => hh.1 (hi.tD k hk).1, hi.rows.ext2 hx (fun k hk hh => hh.1 (hi.oD k hk).1) (fun u hu k hk hh => hh.1 (hi.vD u hu k hk).1), hi.dt, hi.do_, hi.tD, hi.oD, hi.vD, fun b hb => ⟨Nat.lt_of_lt_of_le (hi.bound b hb).1 hx.size, (hi.bound b hb).2⟩, hi.ext.trans' hx fun b hb => ?_⟩
        by_cases h1 : b < w4.heap.size
        · refine .inl ⟨Nat.le_of_not_lt fun h2 => hb.2 ⟨h1, .inl h2⟩, fun h2 => hb.2 ⟨h1, .inr h2⟩⟩
        · exact .inr (by omega)
      · rintro D' pre A b ⟨tv, ov, vs, hi⟩ hb
        have h1 := hi.bound b hb
        refine ⟨h1.1, fun h2 => ?_⟩
        rcases h2.2 with h2 | h2
        · omega
        · exact h1.2.2 h2
      · refine ⟨_, _, _, H4.out.2.1, H4.out.2.2.2.1, ho4, hor, .inl rfl, .inr (.inl rfl), fun q hq => ⟨.inr (.inr (.inr hq)), by have := hA2 q hq; omega, by have := hA2 q hq; omega⟩, fun q hq => ?_, fun u hu q hq => ?_, fun b hb => ?_, Ext.refl _ _⟩
        · simp only [Value.ownBlock, Option.some.injEq] at hq
          exact ⟨.inr (.inr (.inl hq.symm)), by omega, by omega⟩
        · simp only [List.mem_singleton] at hu
          subst hu
          exact ⟨.inr (.inr (.inr hq)), by have := hA2 q hq; omega, by have := hA2 q hq; omega⟩
        · rcases hb with rfl | rfl | rfl | hb
          · exact ⟨by omega, by omega, by omega⟩
          · exact ⟨by omega, by omega, by omega⟩
          · exact ⟨by omega, by omega, by omega⟩
          · have := hA2 b hb
            exact ⟨by omega, by omega, by omega⟩
      · rintro l D' pre ⟨x, q⟩ A ⟨tv, ov, vs, hi⟩ hpre hl hl2 hnl
        have hxm : (x, q) ∈ backX L := by obtain ⟨r, hr⟩ := hpre; rw [← hr]; simp
        have hxL : x ∈ L := by
          have h1 := List.mem_reverse.1 hxm
          exact (List.mem_zipIdx' h1).2 ▸ List.getElem_mem _
        have hso := HW.out.1 x hxL
        have hlenp : pre.length + 1 ≤ L.length := by
          obtain ⟨r, hr⟩ := hpre
          have := congrArg List.length hr
          rw [backX_len] at this
          simp at this
          omega
        have ht0l : t0.length ≤ 400000 := by rw [HT0.out]; exact Nat.le_trans (textR_le4 _ _) (by simp)
        have htl := lastT_len (pre.map (·.1)) t0 ht0l
        obtain ⟨At, ct, rfl⟩ := hi.town.formv
        obtain ⟨Ao, co, rfl⟩ := own_slice_form hi.rows.row
        have hbt := lt_of_heap hi.tcell
        have hbo := lt_of_heap hi.ocell
        have hne1 : w2.heap.size ≠ l := fun e => hnl (e ▸ hi.dt)
        have hne2 : w2.heap.size + 2 ≠ l := fun e => hnl (e ▸ hi.do_)
        have HI := Lib.hid (And.intro hi (And.intro hl (And.intro hl2 (And.intro hnl hpre))))
        clear hpre hl hl2 hnl hxm hxL hi hST hSTo ho4 hor
        refine wpR_region_lit (by kernel_rfl) (by rintro ⟨_, _, h⟩; exact h) ?_
        have hnew := heap_alloc_self A (.cells #[.int .i64 0, .bool false, .int .u8 0, .int .u8 0, .int .u8 0, .int .u8 0, .int .u8 0, .int .u8 0, .int .u8 0, .int .u8 0, .int .u8 0, .int .u8 0, .int .u8 0, .int .u8 0, .int .u8 0, .int .u8 0, .int .u8 0, .int .u8 0, .int .u8 0, .int .u8 0, .int .u8 0, .int .u8 0, .int .u8 0, .int .u8 0, .int .u8 0, .int .u8 0, .int .u8 0, .int .u8 0, .int .u8 0, .int .u8 0, .int .u8 0, .int .u8 0, .int .u8 0, .int .u8 0] 48 (0, 0))
        go_wp2_with (refine wpList_store_row rfl 48 (.tmp 6) _ rfl A.heap.size (stepV x).toArray rfl rfl 48 _ hnew (by rw [stepA_size hso]; exact step_info) (by rw [stepA_size hso]; rfl) (stepA_one x) ?_)
        refine ⟨((Ext.refl _ A).alloc _).setRow (.inl (Nat.le_refl _)) _, fun W2 hw2 => ?_⟩
        have g6 := hw2.heap (row_new A).1 (fun e => by have := HI.out.2.1; omega)
        have xA2 : Ext (· = l) A W2 := ((row_new A).2.mono fun _ _ => False.elim).trans hw2
        clear hw2 hnew
        have c0 : W2.cell? ⟨w2.heap.size, 0, none⟩ = some (.slice At (lastT t0 (pre.map (·.1))).length ct) := cells_at (xA2.heap HI.out.1.tcell hne1) 0
        have hA2w := xA2.size
        have ho2 : OwnB W2 (.slice At (lastT t0 (pre.map (·.1))).length ct) (lastT t0 (pre.map (·.1))) := HI.out.1.town.ext xA2 fun k hk e => HI.out.2.2.2.1 (e ▸ (HI.out.1.tD k hk).1)
        have H5 := Lib.hid (And.intro g6 xA2)
        have hbt2 : w2.heap.size < W2.heap.size := by omega
        clear g6 xA2
        generalize hcur : lastT t0 (pre.map (·.1)) = cur at *
        refine wpIn_block ?_
        refine wpIn_seq ?_
        refine wpR_region_lit (by kernel_rfl) (by rintro ⟨_, _, h⟩; exact h) ?_
        go_wp2_with fail
        refine (raw_walk (l := cur) ho2.byt (by omega)).mono ?_
        rintro e w5 ⟨rfl, x5⟩
        rw [sumV_A]
        have H6 := Lib.hid x5
        clear x5
        go_wp2_with (refine wpList_store_row rfl 29 (.tmp 7) _ rfl w5.heap.size (sumA (rawB cur)) rfl rfl 29 _ (heap_alloc_self _ _) (info_sum (rawB_len _)) (by rw [sumA_size (rawB_len _)]; rfl) (sumA_one _) ?_)
        generalize hw7 : (w5.alloc _).setRow _ (sumA (rawB cur)) = w7
        have s7 : w7.heap[w5.heap.size]? = some (.cells (sumA (rawB cur)) 29 (0, 0)) := by rw [← hw7]; exact (sum_new w5).1
        have x27 : Ext (fun _ => False) W2 w7 := by rw [← hw7]; exact H6.out.trans (sum_new w5).2
        clear hw7
        have g67 := x27.heap H5.out.1 id
        have hb6 := lt_of_heap g67
        have hb7 := lt_of_heap s7
        have hw5s : W2.heap.size ≤ w5.heap.size := H6.out.size
        have d0 : w7.cell? ⟨A.heap.size, 0, none⟩ = some (.int .i64 x.bit) := cells_at g67 0
        have H7 := Lib.hid (And.intro s7 (And.intro x27 g67))
        clear s7 x27 g67 c0 ho2 H6
        generalize w5.heap.size = b7 at *
        generalize hb6e : A.heap.size = b6 at *
        refine wpIn_seq ?_
        refine wpR_region_bar (Cls [b6] _) [([0, 1, 3, 4, 5], 2)] [] 6 [] [7] (by kernel_rfl) (by kernel_rfl) (by kernel_rfl) (by rintro ⟨_, _, h⟩; exact h) (Cls.refl _ _) ?_
        try dsimp only [wpMix, wpSegs, pick, List.getElem?_cons_zero, List.getElem?_cons_succ]
        generalize hz : Act.mk _ _ = z
        repeat (first | (refine wpQuiet_step (fun K hK => ?_); replace hK := Lib.hid hK; subst hz; go_simp; generalize hz : Act.mk _ _ = z; refine hK.out z ?_; clear hK K) | (refine wpQuiet_step (fun K hK => ?_); replace hK := Lib.hid hK; subst hz; refine iteSkip (by kernel_rfl) ?_; go_simp; generalize hz : Act.mk _ _ = z; refine hK.out z ?_; clear hK K))
        try refine wpQuiet_nil ?_
        subst hz
        try dsimp only [NoPan]
        go_wp2_with fail
        refine (num_walk _ x.bit).mono ?_
        rintro e w8 ⟨nv, rfl, h8⟩
        obtain ⟨An, cn, rfl⟩ := h8.own.formv
        have H8 := Lib.hid h8
        clear h8
        go_wp2_with fail
        refine ⟨Cls.of_ext H8.out.ext fun q' hq' => ⟨by simp at hq'; subst hq'; exact hb6, id⟩, ?_⟩
        try dsimp only [wpMix, wpSegs, pick, List.getElem?_cons_zero, List.getElem?_cons_succ]
        generalize hz : Act.mk _ _ = z
        repeat (first | (refine wpQuiet_step (fun K hK => ?_); replace hK := Lib.hid hK; subst hz; go_simp; generalize hz : Act.mk _ _ = z; refine hK.out z ?_; clear hK K) | (refine wpQuiet_step (fun K hK => ?_); replace hK := Lib.hid hK; subst hz; refine iteSkip (by kernel_rfl) ?_; go_simp; generalize hz : Act.mk _ _ = z; refine hK.out z ?_; clear hK K))
        try refine wpQuiet_nil ?_
        subst hz
        try dsimp only [NoPan]
        go_wp2_with fail
        try dsimp only [wpMix, wpSegs, pick, List.getElem?_cons_zero, List.getElem?_cons_succ]
        generalize hz : Act.mk _ _ = z
        repeat (first | (refine wpQuiet_step (fun K hK => ?_); replace hK := Lib.hid hK; subst hz; go_simp; generalize hz : Act.mk _ _ = z; refine hK.out z ?_; clear hK K) | (refine wpQuiet_step (fun K hK => ?_); replace hK := Lib.hid hK; subst hz; refine iteSkip (by kernel_rfl) ?_; go_simp; generalize hz : Act.mk _ _ = z; refine hK.out z ?_; clear hK K))
        try refine wpQuiet_nil ?_
        subst hz
        try dsimp only [NoPan]
        have h9 := heap_alloc_self w8 (.cells #[.slice An (beB x.bit 8).length cn, .slice (some ⟨b7, 0, none⟩) 32 32, .slice (some ⟨b6, 2, none⟩) 32 32] 22 (0, 0))
        have x79 := (Ext.refl (fun _ => False) w7).drew.trans (H8.out.ext.alloc (.cells #[.slice An (beB x.bit 8).length cn, .slice (some ⟨b7, 0, none⟩) 32 32, .slice (some ⟨b6, 2, none⟩) 32 32] 22 (0, 0)))
        have on9 := H8.out.own.ext ((Ext.refl (fun _ => False) w8).alloc (.cells #[.slice An (beB x.bit 8).length cn, .slice (some ⟨b7, 0, none⟩) 32 32, .slice (some ⟨b6, 2, none⟩) 32 32] 22 (0, 0))) fun _ _ => id
        generalize (w8.alloc (.cells #[.slice An (beB x.bit 8).length cn, .slice (some ⟨b7, 0, none⟩) 32 32, .slice (some ⟨b6, 2, none⟩) 32 32] 22 (0, 0))) = W9 at *
        have hb9 := lt_of_heap h9
        have hnum : ∀ q', (Value.slice An (beB x.bit 8).length cn).ownBlock = some q' → q' < w8.heap.size ∧ w7.heap.size ≤ q' := fun q' hq' => ⟨H8.out.own.lt q' hq', H8.out.new q' hq'⟩
        have hw78 : w7.heap.size ≤ w8.heap.size := H8.out.ext.size
        generalize w8.heap.size = b9 at *
        have d1 : W9.cell? ⟨b6, 1, none⟩ = some (.bool x.right) := cells_at (x79.heap H7.out.2.2 id) 1
        have d91 : W9.cell? ⟨b9, 1, none⟩ = some (.slice (some ⟨b7, 0, none⟩) 32 32) := cells_at h9 1
        have d92 : W9.cell? ⟨b9, 2, none⟩ = some (.slice (some ⟨b6, 2, none⟩) 32 32) := cells_at h9 2
        have f91 : W9.frozen? ⟨b9, 1, none⟩ = false := by simp [World.frozen?, h9]
        have f92 : W9.frozen? ⟨b9, 2, none⟩ = false := by simp [World.frozen?, h9]
        have H9 := Lib.hid (And.intro h9 (And.intro x79 (And.intro on9 (And.intro hnum hw78))))
        clear h9 x79 on9 hnum d0
        refine wpIn_seq ?_
        refine wpIn_seq ?_
        refine wpR_region_lit (by kernel_rfl) (by rintro ⟨_, _, h⟩; exact h) ?_
        obtain ⟨rt, hrt⟩ : ∃ rt, rt = x.right := ⟨_, rfl⟩
        rw [← hrt] at d1
        have HR := Lib.hid hrt
        clear hrt
        have hbs7 : Byt (fun _ => True) W9 (.slice (some ⟨b7, 0, none⟩) 32 32) (rawB cur) := (sum_slice H7.out.1 (rawB_len _)).same H9.out.2.1
        have hbs6 : Byt (fun _ => True) W9 (.slice (some ⟨b6, 2, none⟩) 32 32) x.other := by
          refine ⟨some ⟨b6, 2, none⟩, 32, by rw [hso], by rw [hso]; exact Nat.le_refl _, fun _ => ⟨⟨b6, 2, none⟩, rfl, trivial, fun j u hu => ?_⟩⟩
          have h1 := cells_at (H9.out.2.1.heap H7.out.2.2 id) (2 + j)
          have ha : (⟨b6, 2, none⟩ : Addr).add j = ⟨b6, 2 + j, none⟩ := by unfold Addr.add; split <;> simp_all
          rw [ha, h1]
          rw [List.getElem?_toArray, show 2 + j = j + 1 + 1 by omega]
          simp only [stepV, List.getElem?_cons_succ, List.getElem?_map, hu, Option.map_some]
          rfl
        have HB := Lib.hid (And.intro hbs7 hbs6)
        clear hbs7 hbs6
        cases rt
        case' false =>
          go_wp2_with fail
          refine wpIn_cond (t := false) rfl ?_
          refine wpIn_skip ?_
          simp only [Exit.then]
          have hV : W9.heap[b9]? = some (.cells #[.slice An (beB x.bit 8).length cn, .slice (some ⟨b7, 0, none⟩) 32 32, .slice (some ⟨b6, 2, none⟩) 32 32] 22 (0, 0)) := H9.out.1
          have hxV : Ext (· = b9) W9 W9 := Ext.refl _ _
          have HV := Lib.hid (show ∃ X Y XB YB, W9.heap[b9]? = some (.cells #[.slice An (beB x.bit 8).length cn, X, Y] 22 (0, 0)) ∧ Byt (fun _ => True) W9 X XB ∧ Byt (fun _ => True) W9 Y YB ∧ nextT cur x = forkT x.bit XB YB ∧ Ext (· = b9) W9 W9 from
            ⟨_, _, _, _, H9.out.1, HB.out.1, HB.out.2, by unfold nextT; rw [← HR.out]; rfl, Ext.refl _ _⟩)
          clear hV hxV d91 d92 f91 f92 d1
          obtain ⟨U, hVe⟩ : ∃ U, U = W9 := ⟨_, rfl⟩
          rw [← hVe]
          rw [show W9.heap[b9]? = U.heap[b9]? by rw [hVe]] at HV
          have HV2 := Lib.hid (show ∃ X Y XB YB, U.heap[b9]? = some (.cells #[.slice An (beB x.bit 8).length cn, X, Y] 22 (0, 0)) ∧ Byt (fun _ => True) U X XB ∧ Byt (fun _ => True) U Y YB ∧ nextT cur x = forkT x.bit XB YB ∧ Ext (· = b9) W9 U by rw [hVe]; obtain ⟨X, Y, XB, YB, h1, h2⟩ := HV.out; exact ⟨X, Y, XB, YB, hVe ▸ h1, h2⟩)
          clear HV hVe
        case' true =>
          go_wp2_with fail
          refine wpIn_cond (t := true) rfl ?_
          refine wpR_region_bar1 (Cls [b9] _) 1 [] [0, 2, 3, 4, 5, 6, 7, 8] 9 [([10], 11)] [] (by kernel_rfl) (by kernel_rfl) (by kernel_rfl) (by kernel_rfl) (by rintro ⟨_, _, h⟩; exact h) (Cls.refl _ _) ?_
          try dsimp only [wpMix, wpSegs, pick, List.getElem?_cons_zero, List.getElem?_cons_succ]
          generalize hz : Act.mk _ _ = z
          repeat (first | (refine wpQuiet_step (fun K hK => ?_); replace hK := Lib.hid hK; subst hz; go_simp; generalize hz : Act.mk _ _ = z; refine hK.out z ?_; clear hK K) | (refine wpQuiet_step (fun K hK => ?_); replace hK := Lib.hid hK; subst hz; refine iteSkip (by kernel_rfl) ?_; go_simp; generalize hz : Act.mk _ _ = z; refine hK.out z ?_; clear hK K))
          try refine wpQuiet_nil ?_
          subst hz
          try dsimp only [NoPan]
          go_wp2_with fail
          try dsimp only [wpMix, wpSegs, pick, List.getElem?_cons_zero, List.getElem?_cons_succ]
          generalize hz : Act.mk _ _ = z
          repeat (first | (refine wpQuiet_step (fun K hK => ?_); replace hK := Lib.hid hK; subst hz; go_simp; generalize hz : Act.mk _ _ = z; refine hK.out z ?_; clear hK K) | (refine wpQuiet_step (fun K hK => ?_); replace hK := Lib.hid hK; subst hz; refine iteSkip (by kernel_rfl) ?_; go_simp; generalize hz : Act.mk _ _ = z; refine hK.out z ?_; clear hK K))
          try refine wpQuiet_nil ?_
          subst hz
          try dsimp only [NoPan]
          go_wp2_with fail
          refine ⟨trivial, ?_⟩
          try dsimp only [wpMix, wpSegs, pick, List.getElem?_cons_zero, List.getElem?_cons_succ]
          generalize hz : Act.mk _ _ = z
          repeat (first | (refine wpQuiet_step (fun K hK => ?_); replace hK := Lib.hid hK; subst hz; go_simp; generalize hz : Act.mk _ _ = z; refine hK.out z ?_; clear hK K) | (refine wpQuiet_step (fun K hK => ?_); replace hK := Lib.hid hK; subst hz; refine iteSkip (by kernel_rfl) ?_; go_simp; generalize hz : Act.mk _ _ = z; refine hK.out z ?_; clear hK K))
          try refine wpQuiet_nil ?_
          subst hz
          try dsimp only [NoPan]
          have hV1 : (W9.setCell ⟨b9, 1, none⟩ (.slice (some ⟨b6, 2, none⟩) 32 32)).heap[b9]? = some (.cells #[.slice An (beB x.bit 8).length cn, .slice (some ⟨b6, 2, none⟩) 32 32, .slice (some ⟨b6, 2, none⟩) 32 32] 22 (0, 0)) := heap_setCell_self H9.out.1
          have hV2 : ((W9.setCell ⟨b9, 1, none⟩ (.slice (some ⟨b6, 2, none⟩) 32 32)).setCell ⟨b9, 2, none⟩ (.slice (some ⟨b7, 0, none⟩) 32 32)).heap[b9]? = some (.cells #[.slice An (beB x.bit 8).length cn, .slice (some ⟨b6, 2, none⟩) 32 32, .slice (some ⟨b7, 0, none⟩) 32 32] 22 (0, 0)) := heap_setCell_self hV1
          have hxV : Ext (· = b9) W9 ((W9.setCell ⟨b9, 1, none⟩ (.slice (some ⟨b6, 2, none⟩) 32 32)).setCell ⟨b9, 2, none⟩ (.slice (some ⟨b7, 0, none⟩) 32 32)) := ((Ext.refl (· = b9) W9).setCell (a := ⟨b9, 1, none⟩) (.inl rfl) _).setCell (a := ⟨b9, 2, none⟩) (.inl rfl) _
          have hxD : ∀ W : World, W = W.drew ∨ True := fun _ => .inr trivial
          generalize ((W9.setCell ⟨b9, 1, none⟩ (.slice (some ⟨b6, 2, none⟩) 32 32)).setCell ⟨b9, 2, none⟩ (.slice (some ⟨b7, 0, none⟩) 32 32)) = V at *
          have HV2 := Lib.hid (show ∃ X Y XB YB, V.drew.heap[b9]? = some (.cells #[.slice An (beB x.bit 8).length cn, X, Y] 22 (0, 0)) ∧ Byt (fun _ => True) V.drew X XB ∧ Byt (fun _ => True) V.drew Y YB ∧ nextT cur x = forkT x.bit XB YB ∧ Ext (· = b9) W9 V.drew from
            ⟨_, _, _, _, hV2, HB.out.2.keep (hxV.drew.heap_eq (by show b6 < _; omega) (by show b6 ≠ _; omega)), HB.out.1.keep (hxV.drew.heap_eq (by show b7 < _; omega) (by show b7 ≠ _; omega)), by unfold nextT; rw [← HR.out]; rfl, hxV.drew⟩)
          clear hV1 hV2 hxV hxD d91 d92 f91 f92 d1
          generalize V.drew = U at *
        all_goals
          obtain ⟨X, Y, XB, YB, v1, v2, v3, v4, v5⟩ := HV2.out
          have hw9V : W9.heap.size ≤ U.heap.size := v5.size
          have hw27 : W2.heap.size ≤ w7.heap.size := H7.out.2.1.size
          have x2V : Ext (fun b => b = b9) W2 U := ((H7.out.2.1.trans H9.out.2.1).mono (F1 := fun b => b = b9) fun _ _ => False.elim).trans v5
          have xAV : Ext (fun b => b = l ∨ b6 ≤ b) A U := (H5.out.2.mono (F1 := fun b => b = l ∨ b6 ≤ b) fun b _ hb => .inl hb).trans' x2V fun b hb => .inl (.inr (by omega))
          have hbl := HI.out.1.bound
          have hDl : ∀ b, D' b → ¬ (b = l ∨ b6 ≤ b) := fun b hb hh => by
            rcases hh with rfl | hh
            · exact HI.out.2.2.2.1 hb
            · have := (hbl b hb).1; omega
          have t4 := xAV.heap HI.out.1.tcell (hDl _ HI.out.1.dt)
          have o4 := xAV.heap HI.out.1.ocell (hDl _ HI.out.1.do_)
          have r4 := HI.out.1.rows.ext2 xAV (fun k hk => hDl k (HI.out.1.oD k hk).1) (fun u hu k hk => hDl k (HI.out.1.vD u hu k hk).1)
          have hbs := byts_lit (D := fun _ => True) (vs := [.slice An (beB x.bit 8).length cn, X, Y]) (ls := [beB x.bit 8, XB, YB]) v1 rfl trivial (fun i y m hy hm => by
            match i with
            | 0 => simp at hy hm; subst hy hm; exact ((H9.out.2.2.1.ext v5 fun k hk e => by have := (H9.out.2.2.2.1 k hk).1; omega).byt.mono fun _ _ => trivial)
            | 1 => simp at hy hm; subst hy hm; exact v2
            | 2 => simp at hy hm; subst hy hm; exact v3
            | j + 3 => simp at hy) 3 rfl
          have HV := Lib.hid (And.intro t4 (And.intro o4 (And.intro r4 (And.intro x2V hDl))))
          clear v1 v2 v3 t4 o4 r4 HV2 xAV hDl
          refine wpIn_seq ?_
          refine wpR_region_lit (by kernel_rfl) (by rintro ⟨_, _, h⟩; exact h) ?_
          go_wp2_with fail
          refine (ptext_walk (nm := [102, 111, 114, 107]) hbs (by simp) (by decide)).mono ?_
          rw [show (textR [102, 111, 114, 107] [beB x.bit 8, XB, YB]).1 = nextT cur x from v4.symm]
          rintro e w10 ⟨v10, rfl, h10⟩
          obtain ⟨A10, c10, rfl⟩ := h10.own.formv
          have t10 := h10.ext.heap HV.out.1 id
          have e0 := cells_at t10 0
          simp only [List.getElem?_toArray, List.getElem?_cons_zero] at e0
          have e0f : w10.frozen? ⟨w2.heap.size, 0, none⟩ = false := by simp [World.frozen?, t10]
          have H10 := Lib.hid (And.intro h10 t10)
          clear h10 t10 hbs v4 v5 x2V hbl
          go_wp2_with fail
          have z10 : Ext (· = w2.heap.size) w10 (w10.setCell ⟨w2.heap.size, 0, none⟩ (.slice A10 (nextT cur x).length c10)) := (Ext.refl (· = w2.heap.size) w10).setCell (a := ⟨w2.heap.size, 0, none⟩) (.inl rfl) _
          have g10 : (w10.setCell ⟨w2.heap.size, 0, none⟩ (.slice A10 (nextT cur x).length c10)).heap[w2.heap.size]? = some (.cells #[.slice A10 (nextT cur x).length c10] 22 (0, 0)) := heap_setCell_self H10.out.2
          generalize (w10.setCell ⟨w2.heap.size, 0, none⟩ (.slice A10 (nextT cur x).length c10)) = W11 at *
          have hbtU : w2.heap.size < U.heap.size := by omega
          have hUw10 : U.heap.size ≤ w10.heap.size := H10.out.1.ext.size
          have o11 := z10.heap (H10.out.1.ext.heap HV.out.2.1 id) (by show ¬ (w2.heap.size + 2 = w2.heap.size); omega)
          have r11 := (HV.out.2.2.1.ext2 H10.out.1.ext (fun _ _ => id) (fun _ _ _ _ => id)).ext2 z10 (fun k hk e => (HI.out.1.oD k hk).2.1 e) (fun u hu k hk e => (HI.out.1.vD u hu k hk).2.1 e)
          have w11o := H10.out.1.own.ext z10 fun k hk e => by have := H10.out.1.new k hk; omega
          have hscl : (scanT t0 (pre.map (·.1))).length = pre.length + 1 := by rw [scanT_len, List.length_map]
          rw [hscl] at o11 r11
          have dO : W11.cell? ⟨w2.heap.size + 1 + 1, 0, none⟩ = some (.slice Ao (pre.length + 1) co) := cells_at o11 0
          have dT : W11.cell? ⟨w2.heap.size, 0, none⟩ = some (.slice A10 (nextT cur x).length c10) := cells_at g10 0
          have hxa := (Ext.refl (fun _ => False) W11).alloc (.cells #[.slice A10 (nextT cur x).length c10] 22 (0, 0))
          have hrow := own_ext r11.row hxa fun _ _ => id
          rw [hscl] at hrow
          have hz10 : w10.heap.size ≤ W11.heap.size := z10.size
          have hboF : ∀ k, (Value.slice Ao (pre.length + 1) co).ownBlock = some k → D' k ∧ k ≠ w2.heap.size ∧ k ≠ w2.heap.size + 2 := fun k hk => HI.out.1.oD k (by rw [hscl]; exact hk)
          have oa := hxa.heap o11 id
          have HZ := Lib.hid (And.intro o11 (And.intro r11 (And.intro w11o (And.intro hxa (And.intro z10 (And.intro g10 hscl))))))
          have hU11 : w.heap.size ≤ W11.heap.size := by omega
          clear o11 r11 w11o e0 e0f z10 g10 hscl
          refine wpR_region_lit (by kernel_rfl) (by rintro ⟨_, _, h⟩; exact h) ?_
          go_wp2_with (refine wpList_append_lit rfl (.tmp 56) (.tmp 58) 68 rfl Try.underlying68 info24 rfl (by decide) (v := .slice Ao (pre.length + 1) co) rfl hrow (by simp only [World.size_alloc]; omega) (m := 1) (cs := [.slice A10 (nextT cur x).length c10]) rfl (heap_alloc_self _ _) rfl (by simp [Value.oneCell']) (by decide) (by omega) (by omega) ?_; intro g12 c12 W12 ho12 hx12 hg12 hl12; have o12 := hx12.heap oa (fun e => (hboF _ e).2.2 rfl); have dO12 : W12.cell? ⟨w2.heap.size + 1 + 1, 0, none⟩ = some (.slice Ao (pre.length + 1) co) := cells_at o12 0; have dO12f : W12.frozen? ⟨w2.heap.size + 1 + 1, 0, none⟩ = false := (by simp [World.frozen?, o12]))
          simp only [roundEnd]
          obtain ⟨o11, r11, w11o, hxa, z10, g10, hscl⟩ := HZ.out
          obtain ⟨hi, hl, hl2, hnl, hpre⟩ := HI.out
          obtain ⟨hvt, hvo, hvr, hx2V, hDl⟩ := HV.out
          have z13 : Ext (· = w2.heap.size + 2) W12 (W12.setCell ⟨w2.heap.size + 1 + 1, 0, none⟩ (.slice (some ⟨g12, 0, none⟩) (pre.length + 1 + 1) c12)) := (Ext.refl (· = w2.heap.size + 2) W12).setCell (a := ⟨w2.heap.size + 1 + 1, 0, none⟩) (.inl rfl) _
          have g13 : (W12.setCell ⟨w2.heap.size + 1 + 1, 0, none⟩ (.slice (some ⟨g12, 0, none⟩) (pre.length + 1 + 1) c12)).heap[w2.heap.size + 2]? = some (.cells #[.slice (some ⟨g12, 0, none⟩) (pre.length + 1 + 1) c12] 68 (0, 0)) := heap_setCell_self o12
          generalize (W12.setCell ⟨w2.heap.size + 1 + 1, 0, none⟩ (.slice (some ⟨g12, 0, none⟩) (pre.length + 1 + 1) c12)) = W13 at *
          have hA4 : w4.heap.size ≤ A.heap.size := hi.ext.size
          have hsx := hxa.size
          have hs12 := hx12.size
          have hs13 := z13.size
          have hDb : ∀ b, D' b → b < b6 ∧ w.heap.size ≤ b ∧ b ≠ w2.heap.size + 3 := fun b hb => by have := hi.bound b hb; exact ⟨by omega, this.2⟩
          have hbo6 := (hDb _ hi.do_).1
          have hnw : ∀ k, (Value.slice A10 (nextT cur x).length c10).ownBlock = some k → U.heap.size ≤ k ∧ k < w10.heap.size := fun k hk => ⟨H10.out.1.new k hk, H10.out.1.own.lt k hk⟩
          have hlast : lastT t0 ((pre ++ [(x, q)]).map (·.1)) = nextT cur x := by rw [List.map_append, List.map_cons, List.map_nil, lastT_snoc, hcur]
          have hscan : scanT t0 ((pre ++ [(x, q)]).map (·.1)) = scanT t0 (pre.map (·.1)) ++ [nextT cur x] := by rw [List.map_append, List.map_cons, List.map_nil, scanT_snoc, hcur]
          have hu12 : OwnB W12 (.slice A10 (nextT cur x).length c10) (nextT cur x) := (w11o.ext hxa fun _ _ => id).ext hx12 fun k hk e => by have h1 := hnw k hk; have h2 := (hDb k (hboF k e).1).1; omega
          have hrr := OwnRows.snoc2 (r11.ext2 hxa (fun _ _ => id) fun _ _ _ _ => id) hx12 (by rw [hscl]; exact ho12) hu12 (fun k hk => by have := hnw k hk; omega) (fun u hu k hk hk' => by have h1 := hnw k hk; have h2 := (hDb k (hi.vD u hu k hk').1).1; omega)
          refine ⟨fun b => D' b ∨ (b6 ≤ b ∧ b < W12.heap.size), ⟨_, _, vs ++ [.slice A10 (nextT cur x).length c10], ⟨z13.heap (hx12.heap (hxa.heap g10 id) (fun e => (hboF _ e).2.1 rfl)) (by omega), g13, ?_, ?_, .inl hi.dt, .inl hi.do_, fun k hk => ?_, fun k hk => ?_, fun u hu k hk => ?_, fun b hb => ?_, ?_⟩⟩, ?_, fun b hb => hb.imp id And.left⟩
          · rw [hlast]
            exact hu12.ext z13 fun k hk e => by have := hnw k hk; omega
          · rw [hscan]
            refine hrr.ext2 z13 (fun k hk e => ?_) (fun u hu k hk e => ?_)
            · simp only [Value.ownBlock, Option.some.injEq] at hk
              rcases hg12 with h | h
              · exact (hboF _ h).2.2 (by omega)
              · have : (W11.alloc (.cells #[.slice A10 (nextT cur x).length c10] 22 (0, 0))).heap.size = W11.heap.size + 1 := by simp
                omega
            · rcases List.mem_append.1 hu with hu | hu
              · exact (hi.vD u hu k hk).2.2 e
              · simp only [List.mem_singleton] at hu
                subst hu
                have := hnw k hk
                omega
          · have := hnw k hk
            exact ⟨.inr ⟨by omega, by omega⟩, by omega, by omega⟩
          · simp only [Value.ownBlock, Option.some.injEq] at hk
            rcases hg12 with h | h
            · have h1 := hboF _ h
              rw [← hk]
              exact ⟨.inl h1.1, h1.2⟩
            · have : (W11.alloc (.cells #[.slice A10 (nextT cur x).length c10] 22 (0, 0))).heap.size = W11.heap.size + 1 := by simp
              exact ⟨.inr ⟨by omega, by omega⟩, by omega, by omega⟩
          · rcases List.mem_append.1 hu with hu | hu
            · have h1 := hi.vD u hu k hk
              exact ⟨.inl h1.1, h1.2⟩
            · simp only [List.mem_singleton] at hu
              subst hu
              have := hnw k hk
              exact ⟨.inr ⟨by omega, by omega⟩, by omega, by omega⟩
          · rcases hb with hb | hb
            · have := hDb b hb
              exact ⟨by omega, this.2⟩
            · exact ⟨by omega, by omega, by omega⟩
          · have u1 := hi.ext.trans' H5.out.2 fun b hb => .inr (by omega)
            have u2 := u1.trans' hx2V fun b hb => .inr (by omega)
            have u3 := u2.trans' H10.out.1.ext fun _ h => h.elim
            have u4 := u3.trans' z10 fun b hb => .inl ⟨by omega, by omega⟩
            have u5 := u4.trans' hxa fun _ h => h.elim
            have u6 := u5.trans' hx12 fun b hb => .inl (hDb b (hboF b hb).1).2
            exact u6.trans' z13 fun b hb => .inl ⟨by omega, by omega⟩
          · have u2 : Ext (fun b => D' b ∨ b6 ≤ b) W2 U := hx2V.mono fun b _ hb => .inr (by omega)
            have u3 := u2.trans' H10.out.1.ext fun _ h => h.elim
            have u4 := u3.trans' z10 fun b hb => .inl (.inl (hb ▸ hi.dt))
            have u5 := u4.trans' hxa fun _ h => h.elim
            have u6 := u5.trans' hx12 fun b hb => .inl (.inl (hboF b hb).1)
            exact u6.trans' z13 fun b hb => .inl (.inl (hb ▸ hi.do_))
      · rintro D' d W hd ⟨tv, ov, vs, hi⟩ hnd hdef
        obtain ⟨Ao, co, rfl⟩ := own_slice_form hi.rows.row
        have e0 : W.cell? ⟨w2.heap.size + 1 + 1, 0, none⟩ = some (.slice Ao (scanT t0 ((backX L).map (·.1))).length co) := cells_at hi.ocell 0
        have HI := Lib.hid (And.intro hi (And.intro hnd (And.intro hdef hd)))
        clear hi hnd hdef hST hSTo ho4 hor
        simp only [Exit.inBlock, Exit.then]
        go_wp2_with fail
        obtain ⟨hi, hnd, hdef, hd⟩ := HI.out
        refine ⟨by simp, .inl ⟨_, _, rfl, run_takeDeferred hdef, ?_⟩⟩
        refine ⟨_, results_tmp rfl _ _ _, ?_⟩
        have z : Ext (· = d) W (W.putObj d (.deferred none)) := (Ext.refl (· = d) W).putObj (.inl rfl) _
        have hbr : (backX L).map (·.1) = L.reverse := by simp [backX]
        have ht : textsP false k v L = scanT t0 ((backX L).map (·.1)) := by
          unfold textsP
          rw [← HM.out, if_pos rfl, if_neg (by decide), hbr, HT0.out]
          rfl
        rw [ht]
        refine ⟨_, vs, rfl, hi.rows.ext2 z (fun k hk e => hnd (e ▸ (hi.oD k hk).1)) (fun u hu k hk e => hnd (e ▸ (hi.vD u hu k hk).1)), fun h => ?_, ?_⟩
        · have h1 := congrArg List.length h
          rw [scanT_len] at h1
          simp at h1
        · exact (HW.out.2.2.2.2.1.trans' hi.ext fun b hb => .inr hb.1).trans' z fun b hb => .inr (by have := HW.out.2.2.2.2.1.size; omega)
end Go.Proofs.Ytoflfhjeabpcjaa
/- A region whose order is drawn, walked with one class of worlds and then a narrower one; no condition. -/
namespace Go.Proofs.Ytoflfhjeabpcjaa
set_option linter.unusedVariables false
set_option linter.unusedSimpArgs false
open Go.RowKit
section
variable {P : Program} {ops : Array Oper} {md : Region.Mode} {C : World → Prop} {Q : Exit → Act → World → Prop}
theorem wpAnyH_sub {S S' : World → Prop} (hs : ∀ w, S' w → S w) : ∀ (fuel : Nat) (listed : Array Bool) (a : Act) (w : World), wpAnyH P md ops Q S' fuel listed a w → wpAnyH P md ops Q S fuel listed a w
  | 0, _, _, _, h => h
  | fuel + 1, _, _, _, h => ⟨h.1, fun i hi => wpOp_mono (fun a' w' h' => ⟨hs w' h'.1, wpAnyH_sub hs fuel _ a' w' h'.2⟩) (h.2 i hi)⟩
theorem wpOp_then {K X X' : Act → World → Prop} {i : Nat} {a : Act} {w : World} (next : ∀ a w, X a w → X' a w) (hlet : LetsOut (Exit.then K Q) → LetsOut Q) (h : wpOp P ops (Exit.then K Q) i X a w) : wpOp P ops Q i X' a w := by
  unfold wpOp at *
  cases ho : ops[i]? with
  | none =>
    rw [ho] at h
    exact next _ _ h
  | some o =>
    rw [ho] at h
    simp only at h ⊢
    split
    · rename_i hw
      rw [if_pos hw] at h
      rcases h with h' | ⟨h1, h2⟩
      · refine .inl ?_
        unfold Oper.wp at *
        generalize (execOp a.eval o).run P w = r at *
        cases r with
        | ok n w' =>
          cases n <;> simp only [Oper.upon] at h' ⊢ <;>
            first
              | exact next _ _ h'
              | exact Calls.mono h' (fun e w'' he => by
                  cases e with
                  | returned v => exact next _ _ he
                  | panicked c => exact he
                  | outgrown => exact hlet he)
              | exact Rows.mono h' (fun _ _ he => next _ _ he)
        | halt x w' =>
          cases x <;> simp only [Oper.upon] at h' ⊢
          exact h'
      · exact .inr ⟨h1, hlet h2⟩
    · rename_i hw
      rw [if_neg hw] at h
      exact next _ _ h
theorem wpAnyH_of_flat2 {K : Act → World → Prop} {p2 : List (Bool × Nat)} (hs : Region.noSelect ops = true) (hQ : ∀ d v c a w, Q (.panic c) (a.put d v) w → Q (.panic c) a w) (hlet : LetsOut (Exit.then K Q) → LetsOut Q)
    (hK : ∀ a w, K a w → ∃ C2 : World → Prop, (∀ w, C2 w → C w) ∧ C2 w ∧ wpFlat P ops C2 Q p2 a w) :
    ∀ (plan : List (Bool × Nat)) (listed : Array Bool) (a : Act) (w : World), okPlan md ops (plan ++ p2) listed = true → C w → wpFlat P ops C (Exit.then K Q) plan a w → ∀ fuel, (plan ++ p2).length ≤ fuel → wpAnyH P md ops Q C fuel listed a w
  | [], listed, a, w, hp, hC, h, fuel, hf => by
    obtain ⟨C2, h1, h2, h3⟩ := hK a w h
    exact wpAnyH_sub h1 _ _ _ _ (wpAnyH_of_flat hs hQ p2 listed a w hp h2 h3 fuel hf)
  | (true, i) :: r, listed, a, w, hp, hC, h, fuel, hf => by
    simp only [List.cons_append, okPlan, Bool.and_eq_true] at hp
    obtain ⟨⟨⟨h1, h2⟩, h3⟩, h4⟩ := hp
    obtain ⟨fuel, rfl⟩ : ∃ k, fuel = k + 1 := ⟨fuel - 1, by simp at hf; omega⟩
    cases ho : ops[i]? with
    | none => rw [ho] at h3; cases h3
    | some o =>
      rw [ho] at h3
      obtain ⟨v, hy, hk⟩ := yieldsIf_of_qOp hC ho h3 h
      exact wpAnyH_take ho hs h2 h1 (fun c a w => hQ _ _ c a w) hy hC (wpAnyH_of_flat2 hs hQ hlet hK r _ _ _ h4 hC hk fuel (by simp at hf ⊢; omega))
  | (false, i) :: r, listed, a, w, hp, hC, h, fuel, hf => by
    simp only [List.cons_append, okPlan, Bool.and_eq_true, decide_eq_true_eq] at hp
    obtain ⟨⟨h1, h2⟩, h4⟩ := hp
    obtain ⟨fuel, rfl⟩ : ∃ k, fuel = k + 1 := ⟨fuel - 1, by simp at hf; omega⟩
    refine wpAnyH_all h1 (by simp) fun j hj => ?_
    obtain rfl : j = i := by simpa using hj
    exact wpOp_then (fun a' w' hh => ⟨hh.1, wpAnyH_of_flat2 hs hQ hlet hK r _ _ _ h4 hh.1 hh.2 fuel (by simp at hf ⊢; omega)⟩) hlet h
theorem wp_region_mix2 {id : Nat} {l : List Oper} {a : Act} {w : World} (C : World → Prop) (segs segs2 : List (List Nat × Nat)) (last : List Nat) (hm : P.follows .mixedOrders = true)
    (hp : (Region.noSelect l.toArray && decide ((flat segs [] ++ flat segs2 last).length ≤ l.length) && okPlan .any l.toArray (flat segs [] ++ flat segs2 last) (Array.replicate l.length false)) = true)
    (hC : C w.drew)
    (h : wpMix P l.toArray l C (Exit.then (fun a w => ∃ C2 : World → Prop, (∀ w, C2 w → C w) ∧ C2 w ∧ wpMix P l.toArray l C2 (NoPan Q) segs2 last a w) (NoPan Q)) segs [] a w.drew) : (Code.region id l.toArray true).wp P Q a w := by
  refine Code.wp_mono (Q := NoPan Q) (fun e a w h => by cases e <;> first | exact h | exact (h : False).elim) ?_
  simp only [Bool.and_eq_true, decide_eq_true_eq] at hp
  obtain ⟨⟨h1, h2⟩, h3⟩ := hp
  refine wp_region_held (S := C) hm ?_
  have hall := okPlan_some _ _ h3
  have hf := wpFlat_of_mix (P := P) (ops := l.toArray) (l := l) (C := C) (Q := Exit.then (fun a w => ∃ C2 : World → Prop, (∀ w, C2 w → C w) ∧ C2 w ∧ wpMix P l.toArray l C2 (NoPan Q) segs2 last a w) (NoPan Q)) (fun i => by simp) (fun K => letsOut_then K) (fun K c a w h => h) [] segs a w.drew (fun x hx => hall x (List.mem_append.2 (.inl hx))) h
  have hsz : l.toArray.size = l.length := by simp
  rw [hsz]
  refine wpAnyH_of_flat2 h1 (fun _ _ _ _ _ h => h) (fun h => letsOut_then _ h) (fun a w ⟨C2, g1, g2, g3⟩ => ⟨C2, g1, g2, ?_⟩) _ _ _ _ h3 hC hf _ h2
  exact wpFlat_of_mix (P := P) (ops := l.toArray) (l := l) (C := C2) (Q := NoPan Q) (fun i => by simp) (fun K => letsOut_then K) (fun K c a w h => h) last segs2 a w (fun x hx => hall x (List.mem_append.2 (.inr hx))) g3
end
theorem Cls.sub {D D2 : List Nat} {w0 w6 w : World} (h : Cls D w0 w6) (hD : ∀ b ∈ D, b ∈ D2) (h2 : Cls D2 w6 w) : Cls D w0 w := by
  obtain ⟨u, rfl⟩ := h
  obtain ⟨v, rfl⟩ := h2
  exact Cls.mk fun b hb => (v.ok b (hD b hb)).trans (u.ok b hb)
end Go.Proofs.Ytoflfhjeabpcjaa
/- A region whose order is drawn, where two operations may come up at once: both orders are walked; no condition. -/
namespace Go.Proofs.Ytoflfhjeabpcjaa
set_option linter.unusedVariables false
set_option linter.unusedSimpArgs false
open Go.RowKit
inductive MPlan where
  | last (seg : List Nat)
  | one (seg : List Nat) (e : Nat) (r : MPlan)
  | two (seg : List Nat) (e : Nat) (r : MPlan) (f : Nat) (s : MPlan)
def takeAll (seg : List Nat) (listed : Array Bool) : Array Bool := seg.foldl (fun m i => m.setIfInBounds i true) listed
section
variable {P : Program} {ops : Array Oper} {md : Region.Mode} {C : World → Prop} {Q : Exit → Act → World → Prop}
def okQ (md : Region.Mode) (ops : Array Oper) : List Nat → Array Bool → (Array Bool → Bool) → Bool
  | [], listed, k => k listed
  | i :: r, listed, k => (Region.ready md ops listed).contains i && Region.free md ops listed i && (match ops[i]? with | some o => isVal o | none => false) && okQ md ops r (listed.setIfInBounds i true) k
def okM (md : Region.Mode) (ops : Array Oper) : MPlan → Array Bool → Nat → Bool
  | .last seg, listed, n => decide (seg.length ≤ n) && okQ md ops seg listed fun m => (Region.ready md ops m).isEmpty
  | .one seg e r, listed, n => decide (seg.length + 1 ≤ n) && okQ md ops seg listed fun m => decide (Region.ready md ops m = [e]) && (ops[e]?).isSome && okM md ops r (m.setIfInBounds e true) (n - seg.length - 1)
  | .two seg e r f s, listed, n => decide (seg.length + 1 ≤ n) && okQ md ops seg listed fun m => decide (Region.ready md ops m = [e, f]) && (ops[e]?).isSome && (ops[f]?).isSome && okM md ops r (m.setIfInBounds e true) (n - seg.length - 1) && okM md ops s (m.setIfInBounds f true) (n - seg.length - 1)
def wpM (P : Program) (ops : Array Oper) (l : List Oper) (C : World → Prop) (Q : Exit → Act → World → Prop) : MPlan → Act → World → Prop
  | .last seg, a, w => wpQuiet P ops C (fun a' => Q .normal a' w) (pick l seg) a
  | .one seg e r, a, w => wpQuiet P ops C (fun a' => wpList P ops (Exit.then (fun a'' w'' => C w'' ∧ wpM P ops l C Q r a'' w'') Q) (pick l [e]) a' w) (pick l seg) a
  | .two seg e r f s, a, w => wpQuiet P ops C (fun a' => wpList P ops (Exit.then (fun a'' w'' => C w'' ∧ wpM P ops l C Q r a'' w'') Q) (pick l [e]) a' w ∧ wpList P ops (Exit.then (fun a'' w'' => C w'' ∧ wpM P ops l C Q s a'' w'') Q) (pick l [f]) a' w) (pick l seg) a

theorem tree_quiet {l : List Oper} (hl : ∀ i : Nat, l[i]? = ops[i]?) (hs : Region.noSelect ops = true) (hQ : ∀ d v c a w, Q (.panic c) (a.put d v) w → Q (.panic c) a w) {K : Act → Prop} {k : Array Bool → Bool} {w : World} (hC : C w) :
    ∀ (seg : List Nat) (listed : Array Bool) (a : Act) (n : Nat), (∀ (m : Array Bool) (a' : Act), k m = true → K a' → ∀ fuel, n - seg.length ≤ fuel → wpAnyH P md ops Q C fuel m a' w) → seg.length ≤ n → okQ md ops seg listed k = true → wpQuiet P ops C K (pick l seg) a → ∀ fuel, n ≤ fuel → wpAnyH P md ops Q C fuel listed a w
  | [], listed, a, n, hK, _, hp, h, fuel, hf => hK listed a hp (by simpa [pick, wpQuiet] using h) fuel (by simpa using hf)
  | i :: seg, listed, a, n, hK, hn, hp, h, fuel, hf => by
    simp only [okQ, Bool.and_eq_true] at hp
    obtain ⟨⟨⟨h1, h2⟩, h3⟩, h4⟩ := hp
    simp only [List.length_cons] at hn
    obtain ⟨fuel, rfl⟩ : ∃ k, fuel = k + 1 := ⟨fuel - 1, by omega⟩
    cases ho : ops[i]? with
    | none => rw [ho] at h3; cases h3
    | some o =>
      rw [ho] at h3
      simp only [pick, hl, ho] at h
      have hq : qOp P ops C i (fun a' => wpQuiet P ops C K (pick l seg) a') a := by
        simp only [qOp, ho]
        simp only [wpQuiet] at h
        exact h
      obtain ⟨v, hy, hk⟩ := yieldsIf_of_qOp hC ho h3 hq
      exact wpAnyH_take ho hs h2 h1 (fun c a w => hQ _ _ c a w) hy hC (tree_quiet hl hs hQ hC seg _ _ (n - 1) (fun m a' hm ha fuel hfu => hK m a' hm ha fuel (by simp only [List.length_cons]; omega)) (by omega) h4 hk fuel (by omega))
theorem tree_op {l : List Oper} (hl : ∀ i : Nat, l[i]? = ops[i]?) {X : Act → World → Prop} {e : Nat} {a : Act} {w : World} (hlet : LetsOut (Exit.then X Q) → LetsOut Q) (he : (ops[e]?).isSome = true)
    (h : wpList P ops (Exit.then X Q) (pick l [e]) a w) : wpOp P ops Q e X a w := by
  obtain ⟨o, ho⟩ := Option.isSome_iff_exists.1 he
  simp only [pick, hl, ho] at h
  refine wpOp_then (K := X) (X := X) (fun a w h => h) hlet ?_
  simp only [wpOp, ho]
  simp only [wpList] at h
  exact h
theorem tree_any {l : List Oper} (hl : ∀ i : Nat, l[i]? = ops[i]?) (hs : Region.noSelect ops = true) (hQ : ∀ d v c a w, Q (.panic c) (a.put d v) w → Q (.panic c) a w) (hlet : ∀ K : Act → World → Prop, LetsOut (Exit.then K Q) → LetsOut Q) :
    ∀ (p : MPlan) (listed : Array Bool) (a : Act) (w : World) (n : Nat), okM md ops p listed n = true → C w → wpM P ops l C Q p a w → ∀ fuel, n ≤ fuel → wpAnyH P md ops Q C fuel listed a w
  | .last seg, listed, a, w, n, hp, hC, h, fuel, hf => by
    simp only [okM, Bool.and_eq_true, decide_eq_true_eq] at hp
    refine tree_quiet hl hs hQ hC seg listed a n (fun m a' hm ha fuel hfu => ?_) hp.1 hp.2 h fuel hf
    exact wpAnyH_done (by simpa using hm) ha fuel
  | .one seg e r, listed, a, w, n, hp, hC, h, fuel, hf => by
    simp only [okM, Bool.and_eq_true, decide_eq_true_eq] at hp
    refine tree_quiet hl hs hQ hC seg listed a n (fun m a' hm ha fuel hfu => ?_) (by omega) hp.2 h fuel hf
    simp only [Bool.and_eq_true, decide_eq_true_eq] at hm
    obtain ⟨⟨h1, h2⟩, h3⟩ := hm
    obtain ⟨fuel, rfl⟩ : ∃ k, fuel = k + 1 := ⟨fuel - 1, by omega⟩
    refine wpAnyH_all h1 (by simp) fun j hj => ?_
    obtain rfl : j = e := by simpa using hj
    refine wpOp_mono (fun a' w' hh => ⟨hh.1, ?_⟩) (tree_op hl (hlet _) h2 ha)
    exact tree_any hl hs hQ hlet r _ _ _ _ h3 hh.1 hh.2 fuel (by omega)
  | .two seg e r f s, listed, a, w, n, hp, hC, h, fuel, hf => by
    simp only [okM, Bool.and_eq_true, decide_eq_true_eq] at hp
    refine tree_quiet hl hs hQ hC seg listed a n (fun m a' hm ha fuel hfu => ?_) (by omega) hp.2 h fuel hf
    simp only [Bool.and_eq_true, decide_eq_true_eq] at hm
    obtain ⟨⟨⟨⟨h1, h2⟩, h2'⟩, h3⟩, h4⟩ := hm
    obtain ⟨fuel, rfl⟩ : ∃ k, fuel = k + 1 := ⟨fuel - 1, by omega⟩
    refine wpAnyH_all h1 (by simp) fun j hj => ?_
    rcases (by simpa using hj : j = e ∨ j = f) with rfl | rfl
    · refine wpOp_mono (fun a' w' hh => ⟨hh.1, ?_⟩) (tree_op hl (hlet _) h2 ha.1)
      exact tree_any hl hs hQ hlet r _ _ _ _ h3 hh.1 hh.2 fuel (by omega)
    · refine wpOp_mono (fun a' w' hh => ⟨hh.1, ?_⟩) (tree_op hl (hlet _) h2' ha.2)
      exact tree_any hl hs hQ hlet s _ _ _ _ h4 hh.1 hh.2 fuel (by omega)
theorem wp_region_tree {id : Nat} {l : List Oper} {a : Act} {w : World} (C : World → Prop) (p : MPlan) (hm : P.follows .mixedOrders = true)
    (hp : (Region.noSelect l.toArray && okM .any l.toArray p (Array.replicate l.length false) l.length) = true)
    (hC : C w.drew) (h : wpM P l.toArray l C (NoPan Q) p a w.drew) : (Code.region id l.toArray true).wp P Q a w := by
  refine Code.wp_mono (Q := NoPan Q) (fun e a w h => by cases e <;> first | exact h | exact (h : False).elim) ?_
  simp only [Bool.and_eq_true] at hp
  refine wp_region_held (S := C) hm ?_
  have hsz : l.toArray.size = l.length := by simp
  rw [hsz]
  exact tree_any (l := l) (fun i => by simp) hp.1 (fun _ _ _ _ _ h => h) (fun K => letsOut_then K) p _ _ _ _ hp.2 hC h _ (Nat.le_refl _)
end
end Go.Proofs.Ytoflfhjeabpcjaa
