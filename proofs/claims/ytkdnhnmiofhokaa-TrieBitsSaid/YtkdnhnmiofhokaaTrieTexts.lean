/- The document's texts and roots; no condition. -/
import Derived.Test.YtkdnhnmiofhokaaTrieSide
import Derived.Test.YtkdnhnmiofhokaaTrieSum
import Derived.Test.YtkdnhnmiofhokaaDigText
import Derived.Test.YtkdnhnmiofhokaaRefSha4
import Derived.Deep.AppendLies
namespace Go.Proofs.Ytkdnhnmiofhokaa
set_option linter.unusedVariables false
set_option linter.unusedSimpArgs false
open Go.RowKit

theorem of_text {nm : Bs} {ls : List Bs} (h : (textR nm ls).2 = 0) : (ofR nm ls).1 = rawB (textR nm ls).1 := by rw [ofR, if_pos h]
set_option maxRecDepth 100000 in
theorem text4_walk {w : World} {D : Nat → Prop} {v : Value} {nm : Bs} {ls : List Bs} (hv : Byts D w v ls) (hl : ls.length ≤ 5864062014634) (hnm : nm.length ≤ 9223372036854775807) :
    Calls Try.prog 64 #[str nm, v] w fun e w' => ∃ v', e = .returned v' ∧ FreshB w (textR nm ls).1 v' w' := by
  have H := Lib.hid (dtext_walk hv hl hnm)
  clear hv
  go_enter Try.func64, Try.ntmps64
  go_wp2_with fail
  refine H.out.mono ?_
  rintro e w2 ⟨v', rfl, hf⟩
  have HF := Lib.hid hf
  clear hf H
  go_wp2_with fail
  go_ret
  exact ⟨_, rfl, HF.out⟩
/-- The digest of a text that the document makes. -/
theorem raw4_walk {w : World} {D : Nat → Prop} {v : Value} {nm : Bs} {ls : List Bs} (hv : Byt D w v (textR nm ls).1) (h0 : (textR nm ls).2 = 0) :
    Calls Try.prog 65 #[v] w fun e w' => e = .returned (.agg (sumA (ofR nm ls).1)) ∧ Ext (fun _ => False) w w' := by
  refine (draw_walk hv (by have := textR_len nm ls; omega)).mono ?_
  rintro e w' ⟨rfl, hx⟩
  rw [sumV_A, of_text h0]
  exact ⟨rfl, hx⟩
set_option maxRecDepth 100000 in
set_option maxHeartbeats 1000000 in
theorem forktext_walk {w : World} {b : Nat} {l r : Tr} :
    Calls Try.prog 66 #[.int .i64 b, .agg (sumA (sumT l)), .agg (sumA (sumT r))] w fun e w' => ∃ v', e = .returned v' ∧ FreshB w (textR [102, 111, 114, 107] [beB (b : Int) 8, sumT l, sumT r]).1 v' w' := by
  go_enter Try.func66, Try.ntmps66
  go_wp2_with fail
  obtain ⟨g1, g2, g3⟩ := alloc2 w (.cells (sumA (sumT l)) 29 (0, 0)) (.cells (sumA (sumT r)) 29 (0, 0))
  generalize ((w.alloc (.cells (sumA (sumT l)) 29 (0, 0))).alloc (.cells (sumA (sumT r)) 29 (0, 0))) = W at *
  have HG := Lib.hid (And.intro (show W.drew.heap[w.heap.size]? = _ from g1) (And.intro (show W.drew.heap[w.heap.size + 1]? = _ from g2) g3.drew))
  have hgl : w.heap.size < W.drew.heap.size := lt_of_heap (show W.drew.heap[w.heap.size]? = _ from g1)
  clear g1 g2 g3
  refine wp_region_bar (Cls [w.heap.size] _) [([0, 2, 3], 1), ([], 4)] [] 5 [] [6] (by kernel_rfl) (by kernel_rfl) (Cls.refl _ _) ?_
  try dsimp only [wpMix, wpSegs, pick, List.getElem?_cons_zero, List.getElem?_cons_succ]
  generalize hz : Act.mk _ _ = z
  repeat (first | (refine wpQuiet_step (fun K hK => ?_); replace hK := Lib.hid hK; subst hz; go_simp; generalize hz : Act.mk _ _ = z; refine hK.out z ?_; clear hK K) | (refine wpQuiet_step (fun K hK => ?_); replace hK := Lib.hid hK; subst hz; refine iteSkip (by kernel_rfl) ?_; go_simp; generalize hz : Act.mk _ _ = z; refine hK.out z ?_; clear hK K))
  try refine wpQuiet_nil ?_
  subst hz
  try dsimp only [NoPan]
  generalize W.drew = V at *
  go_wp2_with fail
  refine (dnum_walk _ b).mono ?_
  rintro e w3 ⟨nv, rfl, f3⟩
  obtain ⟨A3, c3, rfl⟩ := f3.own.formv
  have HF := Lib.hid f3
  clear f3
  go_wp2_with fail
  refine ⟨Cls.of_ext HF.out.ext fun q hq => ⟨by simp at hq; subst hq; exact hgl, id⟩, ?_⟩
  try dsimp only [wpMix, wpSegs, pick, List.getElem?_cons_zero, List.getElem?_cons_succ]
  generalize hz : Act.mk _ _ = z
  repeat (first | (refine wpQuiet_step (fun K hK => ?_); replace hK := Lib.hid hK; subst hz; go_simp; generalize hz : Act.mk _ _ = z; refine hK.out z ?_; clear hK K) | (refine wpQuiet_step (fun K hK => ?_); replace hK := Lib.hid hK; subst hz; refine iteSkip (by kernel_rfl) ?_; go_simp; generalize hz : Act.mk _ _ = z; refine hK.out z ?_; clear hK K))
  try refine wpQuiet_nil ?_
  subst hz
  try dsimp only [NoPan]
  go_wp2_with fail
  generalize hw4 : World.alloc w3 _ = w4
  have g4 : w4.heap[w3.heap.size]? = some (.cells #[.slice A3 (beB b 8).length c3, .slice (some ⟨w.heap.size, 0, none⟩) 32 32, .slice (some ⟨w.heap.size + 1, 0, none⟩) 32 32] 22 (0, 0)) := by rw [← hw4]; exact heap_alloc_self _ _
  have x4 : Ext (fun _ => False) w3 w4 := by rw [← hw4]; exact (Ext.refl _ _).alloc _
  clear hw4
  have y4 := HF.out.ext.trans x4
  refine ⟨Cls.of_ext y4 fun q hq => ⟨by simp at hq; subst hq; exact hgl, id⟩, ?_⟩
  have hbs := byts_lit (D := fun _ => True) (ls := [beB b 8, sumT l, sumT r]) g4 rfl trivial (fun i x m hx hm => by
    match i with
    | 0 => simp at hx hm; subst hx hm; exact (HF.out.own.byt.mono (fun _ _ => trivial)).same x4
    | 1 => simp at hx hm; subst hx hm; exact (sum_slice HG.out.1 (sumT_len _)).same y4
    | 2 => simp at hx hm; subst hx hm; exact (sum_slice HG.out.2.1 (sumT_len _)).same y4
    | n + 3 => simp at hx) 3 rfl
  have H4 := Lib.hid (And.intro hbs y4)
  clear hbs x4 y4 g4
  generalize w3.heap.size = b4 at *
  try dsimp only [wpMix, wpSegs, pick, List.getElem?_cons_zero, List.getElem?_cons_succ]
  generalize hz : Act.mk _ _ = z
  repeat (first | (refine wpQuiet_step (fun K hK => ?_); replace hK := Lib.hid hK; subst hz; go_simp; generalize hz : Act.mk _ _ = z; refine hK.out z ?_; clear hK K) | (refine wpQuiet_step (fun K hK => ?_); replace hK := Lib.hid hK; subst hz; refine iteSkip (by kernel_rfl) ?_; go_simp; generalize hz : Act.mk _ _ = z; refine hK.out z ?_; clear hK K))
  try refine wpQuiet_nil ?_
  subst hz
  try dsimp only [NoPan]
  go_wp2_with fail
  refine (text4_walk (nm := [102, 111, 114, 107]) H4.out.1 (by simp) (by decide)).mono ?_
  rintro e w5 ⟨v5, rfl, f5⟩
  have H5 := Lib.hid (f5.base (HG.out.2.2.trans H4.out.2))
  clear f5
  go_wp2_with fail
  try dsimp only [wpMix, wpSegs, pick, List.getElem?_cons_zero, List.getElem?_cons_succ]
  generalize hz : Act.mk _ _ = z
  repeat (first | (refine wpQuiet_step (fun K hK => ?_); replace hK := Lib.hid hK; subst hz; go_simp; generalize hz : Act.mk _ _ = z; refine hK.out z ?_; clear hK K) | (refine wpQuiet_step (fun K hK => ?_); replace hK := Lib.hid hK; subst hz; refine iteSkip (by kernel_rfl) ?_; go_simp; generalize hz : Act.mk _ _ = z; refine hK.out z ?_; clear hK K))
  try refine wpQuiet_nil ?_
  subst hz
  try dsimp only [NoPan]
  go_wp2_with fail
  go_ret
  exact ⟨_, rfl, H5.out⟩
/-- A row of the call's own, of some values. -/
def OwnV (N : Nat) (w : World) (v : Value) (n : Nat) : Prop := ∃ xs, w.ownsRow N 22 1 v n xs ∧ ∀ u ∈ xs, u.oneCell' = true
theorem OwnV.still {N n : Nat} {w w' : World} {v : Value} (h : OwnV N w v n) (hx : Ext (fun _ => False) w w') : OwnV N w' v n := by
  obtain ⟨xs, h1, h2⟩ := h
  exact ⟨xs, own_ext h1 hx fun _ _ => id, h2⟩
theorem OwnV.less {N N' n : Nat} {w : World} {v : Value} (h : OwnV N w v n) (hN : N' ≤ N) : OwnV N' w v n := by
  obtain ⟨xs, h1, h2⟩ := h
  exact ⟨xs, own_less h1 hN, h2⟩
theorem OwnV.from {N n : Nat} {w : World} {v : Value} (h : OwnV N w v n) : ∀ k, v.ownBlock = some k → N ≤ k ∧ k < w.heap.size := by
  obtain ⟨xs, h1, h2⟩ := h
  exact fun k hk => ⟨own_base h1 k hk, own_below h1 k hk⟩
theorem OwnV.form {N n : Nat} {w : World} {v : Value} (h : OwnV N w v n) : ∃ A c, v = .slice A n c := by
  obtain ⟨xs, h1, h2⟩ := h
  exact own_form h1
theorem OwnV.one {w : World} {N g : Nat} {A : Option Addr} {m c : Nat} (h : w.heap[g]? = some (.cells #[.slice A m c] 22 (0, 0))) (hN : N ≤ g) : OwnV N w (.slice (some ⟨g, 0, none⟩) 1 1) 1 :=
  ⟨[.slice A m c], ⟨rfl, .inr ⟨g, 1, #[.slice A m c], rfl, hN, h, Nat.le_refl _, by unfold maxLen; decide, rfl, rfl⟩⟩, fun u hu => by rw [List.mem_singleton.1 hu]; rfl⟩
theorem info_row24 : (Try.prog.info? 22).map (fun i => (i.zero, i.size, i.bytes)) = some (some (.slice none 0 0), 1, 24) := by kernel_rfl
/-- A row is put behind a row of the call's own. -/
theorem wpList_append_ownv {ops : Array Oper} {rest : List Oper} {o : Oper} {a : Act} {Q : Exit → Act → World → Prop} {w : World} (hgd : o.guard = none) (s x : Operand)
    (ho : o.op = .call { callee := .builtin .append, args := #[s, x], argTypes := #[70, 70] })
    {N N' n m : Nat} {v v' : Value} (hs : a.eval s = v) (hx : a.eval x = v') (h : OwnV N w v n) (h' : OwnV N' w v' m) (hm : 0 < m) (hnm : n + m ≤ 4096) (hN : N ≤ w.heap.size)
    (next : ∀ g cap w', OwnV N w' (.slice (some ⟨g, 0, none⟩) (n + m) cap) (n + m) → Ext (fun k => v.ownBlock = some k) w w' → wpList Try.prog ops Q rest (a.put o.dst (.slice (some ⟨g, 0, none⟩) (n + m) cap)) w') :
    wpList Try.prog ops Q (o :: rest) a w := by
  obtain ⟨xs, h1, h2⟩ := h
  obtain ⟨ys, k1, k2⟩ := h'
  obtain ⟨i, hi1, hi2⟩ := Option.map_eq_some_iff.1 info_row24
  simp only [Prod.mk.injEq] at hi2
  obtain ⟨z1, z2, z3⟩ := hi2
  rcases k1.2 with ⟨_, h0⟩ | ⟨g, cap, cur, hv', hg, hh, hc1, hc2, hsz, htk⟩
  · omega
  have hyl := k1.1
  refine wpList_append_lies w hgd s x 70 ho N 22 i _ 1 24 Try.underlying70 hi1 z1 z2 z3 rfl (by decide) v n xs hs h1 ⟨g, 0, none⟩ m cap ys (by rw [hx, hv']) hyl ?_ k2 hm (by unfold maxLen; omega) (by omega) hN _ rfl ?_
  · intro j u hu
    have ha : (⟨g, 0, none⟩ : Addr).add j = ⟨g, j, none⟩ := by unfold Addr.add; split <;> simp_all
    have hj := (List.getElem?_eq_some_iff.1 hu).1
    rw [ha, cells_at hh]
    rw [← htk, List.getElem?_take_of_lt (by omega)] at hu
    simpa using hu
  · intro g' cap' w' e1 e2 e3 e4
    refine next g' cap' w' ⟨xs ++ ys, e1, fun u hu => (List.mem_append.1 hu).elim (h2 u) (k2 u)⟩ ⟨e2.os, e2.tape, e2.output, e2.size, fun k hk hn => e2.block k hk fun e => hn e.symm⟩
theorem side_l {b : Nat} {l r : Tr} (h : (Tr.fork b l r).ok) : sideL (Tr.fork b l r).ents b false = l.ents := by
  rw [sideL, Tr.ents, List.filter_append]
  rw [List.filter_eq_self.2 (fun e he => by rw [h.2.2.1 e he]; rfl), List.filter_eq_nil_iff.2 (fun e he => by rw [h.2.2.2.1 e he]; decide), List.append_nil]
theorem side_r {b : Nat} {l r : Tr} (h : (Tr.fork b l r).ok) : sideL (Tr.fork b l r).ents b true = r.ents := by
  rw [sideL, Tr.ents, List.filter_append]
  rw [List.filter_eq_nil_iff.2 (fun e he => by rw [h.2.2.1 e he]; decide), List.filter_eq_self.2 (fun e he => by rw [h.2.2.2.1 e he]; rfl), List.nil_append]
end Go.Proofs.Ytkdnhnmiofhokaa
