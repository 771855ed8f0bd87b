/- What makes a node: newLeaf, newFork; no condition. -/
import Derived.Test.YtoflfhjeabpcjaaTrieRep
namespace Go.Proofs.Ytoflfhjeabpcjaa
set_option linter.unusedVariables false
set_option linter.unusedSimpArgs false
open Go.RowKit

def nodeZ (bit : Int) (kv vv lp rp : Value) (n : Int) : Array Value := #[.int .i64 bit, kv, vv, lp, rp, .int .u8 0, .int .u8 0, .int .u8 0, .int .u8 0, .int .u8 0, .int .u8 0, .int .u8 0, .int .u8 0, .int .u8 0, .int .u8 0, .int .u8 0, .int .u8 0, .int .u8 0, .int .u8 0, .int .u8 0, .int .u8 0, .int .u8 0, .int .u8 0, .int .u8 0, .int .u8 0, .int .u8 0, .int .u8 0, .int .u8 0, .int .u8 0, .int .u8 0, .int .u8 0, .int .u8 0, .int .u8 0, .int .u8 0, .int .u8 0, .int .u8 0, .int .u8 0, .int .i64 n]
theorem nodeZ_size (bit : Int) (kv vv lp rp : Value) (n : Int) : (nodeZ bit kv vv lp rp n).size = 38 := rfl
theorem alloc2 (w : World) (X Y : Obj) : ((w.alloc X).alloc Y).heap[w.heap.size]? = some X ∧ ((w.alloc X).alloc Y).heap[w.heap.size + 1]? = some Y ∧ Ext (fun _ => False) w ((w.alloc X).alloc Y) := by
  refine ⟨?_, ?_, ((Ext.refl _ _).alloc _).alloc _⟩
  · exact ((Ext.refl (fun _ => False) _).alloc Y).heap (heap_alloc_self w X) id
  · have := heap_alloc_self (w.alloc X) Y
    rwa [World.size_alloc] at this
/-- The digest of a named row that may be is a digest. -/
theorem sumV_form (s : Bs) : ∃ cs : Array Value, sumV s = .agg cs ∧ cs = (s.map byteV).toArray := ⟨_, sumV_cells s, rfl⟩
set_option maxRecDepth 100000 in
set_option maxHeartbeats 1000000 in
theorem newleaf_walk {w : World} {D D' : Nat → Prop} {kv vv : Value} {k v : Bs} (hk : Byt D w kv k) (hv : Byt D' w vv v) (hkl : k.length ≤ 140737488355328) (hvl : v.length ≤ 140737488355328) :
    Calls Try.prog 58 #[kv, vv] w fun e w' => ∃ p, e = .returned (ptrV p) ∧ NRep (fun b => w.heap.size ≤ b ∧ b < w'.heap.size) w' (.leaf k v) p ∧ Ext (fun _ => False) w w' := by
  have H1 := Lib.hid (clone_walk hk hkl)
  have HB := Lib.hid (And.intro hk hv)
  obtain ⟨A, c, rfl, _, _⟩ := hk
  obtain ⟨A', c', rfl, _, _⟩ := hv
  go_enter Try.func58, Try.ntmps58
  go_wp2_with fail
  refine H1.out.mono ?_
  rintro e w1 ⟨kv', rfl, o1, x1, n1⟩
  obtain ⟨A1, c1, rfl⟩ := o1.formv
  have H2 := Lib.hid (clone_walk (HB.out.2.same x1) hvl)
  have HO := Lib.hid (And.intro o1 (And.intro x1 n1))
  clear o1 x1 n1 H1
  go_wp2_with fail
  refine H2.out.mono ?_
  rintro e w2 ⟨vv', rfl, o2, x2, n2⟩
  obtain ⟨A2, c2, rfl⟩ := o2.formv
  have HO2 := Lib.hid (And.intro o2 (And.intro x2 n2))
  clear o2 x2 n2 H2
  go_wp2_with fail
  obtain ⟨g1, g2, g3⟩ := alloc2 w2 (.cells (nodeZ (-1) (.slice A1 k.length c1) (.slice A2 v.length c2) (.pointer none) (.pointer none) 1) 98 (0, 0)) (.cells #[.slice A k.length c, .slice A' v.length c'] 22 (0, 0))
  have hw2 : w.heap.size ≤ w2.heap.size := Nat.le_trans HO.out.2.1.size HO2.out.2.1.size
  have hxx : Ext (fun _ => False) w _ := (HO.out.2.1.trans HO2.out.2.1).trans g3
  have hbs := byts_lit (D := fun _ => True) (ls := [k, v]) g2 rfl trivial (fun i x l hx hl => by
    match i with
    | 0 => simp at hx hl; subst hx hl; exact (HB.out.1.mono (fun _ _ => trivial)).same hxx
    | 1 => simp at hx hl; subst hx hl; exact (HB.out.2.mono (fun _ _ => trivial)).same hxx
    | n + 2 => simp at hx) 2 rfl
  refine (of_walk (nm := [108, 101, 97, 102]) hbs (by simp) (by decide)).mono ?_
  rintro e w4 ⟨rfl, x4⟩
  obtain ⟨cs, hcs, hce⟩ := sumV_form (ofR [108, 101, 97, 102] [k, v]).1
  rw [hcs]
  have g4 := x4.heap g1 id
  have hsz : cs.size = 32 := by rw [hce]; exact sum_size _ (ofR_len _ _)
  have hone : (cs.all (·.oneCell')) = true := by rw [hce]; exact sum_one _
  have hp4 : w2.heap.size < w4.heap.size := lt_of_heap g4
  have H4 := Lib.hid (And.intro (And.intro g4 (And.intro (g3.trans x4) hw2)) (And.intro hsz (And.intro hone hce)))
  clear g1 g2 g3 hbs hxx x4 g4 hcs hce hone hw2
  go_wp2_with (refine wpList_store_mid rfl 29 _ _ rfl w2.heap.size 5 cs rfl rfl (there_new H4.out.1.1 (by rw [hsz, nodeZ_size]; decide)) (by rw [hsz]; exact sum_info) H4.out.2.2.1 ?_)
  go_ret
  obtain ⟨⟨g4, x4, hw2⟩, hsz, hone, hce⟩ := H4.out
  subst hce
  have hN := node_made g4 (s := (ofR [108, 101, 97, 102] [k, v]).1) (n := 1) (ofR_len _ _) (nodeZ_size _ _ _ _ _ _) rfl rfl rfl rfl rfl rfl
  have hx : Ext (fun _ => False) w2 (w4.setCells w2.heap.size 5 ((ofR [108, 101, 97, 102] [k, v]).1.map byteV)) := x4.setCells _ _ (.inr (Nat.le_refl _))
  have hsz' : (w4.setCells w2.heap.size 5 ((ofR [108, 101, 97, 102] [k, v]).1.map byteV)).heap.size = w4.heap.size := size_setCells _ _ _ _
  have hin : ∀ {v' : Value} {l : Bs}, OwnB (w4.setCells w2.heap.size 5 ((ofR [108, 101, 97, 102] [k, v]).1.map byteV)) v' l → (∀ q, v'.ownBlock = some q → w.heap.size ≤ q) → Byt (fun b => w.heap.size ≤ b ∧ b < (w4.setCells w2.heap.size 5 ((ofR [108, 101, 97, 102] [k, v]).1.map byteV)).heap.size) (w4.setCells w2.heap.size 5 ((ofR [108, 101, 97, 102] [k, v]).1.map byteV)) v' l :=
    fun h hn => h.byt.mono fun b hb => ⟨hn b hb, h.lt b hb⟩
  refine ⟨_, rfl, ⟨⟨hw2, by rw [hsz']; exact hp4⟩, _, _, _, _, hN, hin ((HO.out.1.ext HO2.out.2.1 fun _ _ => id).ext hx fun _ _ => id) HO.out.2.2, hin (HO2.out.1.ext hx fun _ _ => id) (fun q hq => Nat.le_trans HO.out.2.1.size (HO2.out.2.2 q hq))⟩, ?_⟩
  exact (HO.out.2.1.trans HO2.out.2.1).trans hx
set_option maxRecDepth 100000 in
set_option maxHeartbeats 2000000 in
theorem newfork_walk {w : World} {D : Nat → Prop} {l r : Tr} {pl pr : Nat} (hl : NRep D w l pl) (hr : NRep D w r pr) (b : Nat) (hn : l.ents.length + r.ents.length < 9223372036854775808) :
    Calls Try.prog 104 #[.int .i64 b, .agg #[ptrV pl, ptrV pr]] w fun e w' => ∃ p, e = .returned (ptrV p) ∧ NRep (Grown D w w') w' (.fork b l r) p ∧ Ext (fun _ => False) w w' := by
  obtain ⟨bl, kl, vl, ll, rl, hL, dl⟩ := hl.at
  obtain ⟨br, kr, vr, lr, rr, hR, dr⟩ := hr.at
  have hL37 := hL.c37
  have hR37 := hR.c37
  have hLlt := hl.lt
  have hRlt := hr.lt
  have hw : IntKind.i64.wrap ((l.ents.length : Int) + (r.ents.length : Int)) = ((l.ents.length + r.ents.length : Nat) : Int) := by
    rw [Int.natCast_add]
    exact IntWalk.i64_in _ (by omega)
  have HLR := Lib.hid (And.intro (And.intro hl hr) (And.intro trivial (And.intro hL.c5 (And.intro hR.c5 (And.intro dl dr)))))
  clear hL hR hl hr dl dr
  go_enter Try.func104, Try.ntmps104
  go_wp2_with fail
  refine wp_region_bar (Cls [pl, pr, w.heap.size] _) [] [0, 1, 2, 3, 4, 5, 6, 7, 8, 9, 10, 11, 12, 13] 14 [] [15] (by kernel_rfl) (by kernel_rfl) (Cls.refl _ _) ?_
  try dsimp only [wpMix, wpSegs, pick, List.getElem?_cons_zero, List.getElem?_cons_succ]
  generalize hz : Act.mk _ _ = z
  repeat (first | (refine wpQuiet_step (fun K hK => ?_); replace hK := Lib.hid hK; subst hz; go_simp; generalize hz : Act.mk _ _ = z; refine hK.out z ?_; clear hK K) | (refine wpQuiet_step (fun K hK => ?_); replace hK := Lib.hid hK; subst hz; refine iteSkip (by kernel_rfl) ?_; go_simp; generalize hz : Act.mk _ _ = z; refine hK.out z ?_; clear hK K))
  try refine wpQuiet_nil ?_
  subst hz
  try dsimp only [NoPan]
  go_wp2_with fail
  try dsimp only [wpMix, wpSegs, pick, List.getElem?_cons_zero, List.getElem?_cons_succ]
  generalize hz : Act.mk _ _ = z
  repeat (first | (refine wpQuiet_step (fun K hK => ?_); replace hK := Lib.hid hK; subst hz; go_simp; generalize hz : Act.mk _ _ = z; refine hK.out z ?_; clear hK K) | (refine wpQuiet_step (fun K hK => ?_); replace hK := Lib.hid hK; subst hz; refine iteSkip (by kernel_rfl) ?_; go_simp; generalize hz : Act.mk _ _ = z; refine hK.out z ?_; clear hK K))
  try refine wpQuiet_nil ?_
  subst hz
  try dsimp only [NoPan]
  go_wp2_with fail
  obtain ⟨g1, g2, g3⟩ := alloc2 w (.cells #[ptrV pl, ptrV pr] 96 (0, 0)) (.cells #[.int .i64 b, .slice none 0 0, .slice none 0 0, ptrV pl, ptrV pr, .int .u8 0, .int .u8 0, .int .u8 0, .int .u8 0, .int .u8 0, .int .u8 0, .int .u8 0, .int .u8 0, .int .u8 0, .int .u8 0, .int .u8 0, .int .u8 0, .int .u8 0, .int .u8 0, .int .u8 0, .int .u8 0, .int .u8 0, .int .u8 0, .int .u8 0, .int .u8 0, .int .u8 0, .int .u8 0, .int .u8 0, .int .u8 0, .int .u8 0, .int .u8 0, .int .u8 0, .int .u8 0, .int .u8 0, .int .u8 0, .int .u8 0, .int .u8 0, .int .i64 ((l.ents.length : Int) + (r.ents.length : Int))] 98 (0, 0))
  generalize hW : ((w.alloc (.cells #[ptrV pl, ptrV pr] 96 (0, 0))).alloc (.cells #[.int .i64 b, .slice none 0 0, .slice none 0 0, ptrV pl, ptrV pr, .int .u8 0, .int .u8 0, .int .u8 0, .int .u8 0, .int .u8 0, .int .u8 0, .int .u8 0, .int .u8 0, .int .u8 0, .int .u8 0, .int .u8 0, .int .u8 0, .int .u8 0, .int .u8 0, .int .u8 0, .int .u8 0, .int .u8 0, .int .u8 0, .int .u8 0, .int .u8 0, .int .u8 0, .int .u8 0, .int .u8 0, .int .u8 0, .int .u8 0, .int .u8 0, .int .u8 0, .int .u8 0, .int .u8 0, .int .u8 0, .int .u8 0, .int .u8 0, .int .i64 ((l.ents.length : Int) + (r.ents.length : Int))] 98 (0, 0))) = W at *
  replace g2 : W.drew.heap[w.heap.size + 1]? = some (.cells (nodeZ b (.slice none 0 0) (.slice none 0 0) (ptrV pl) (ptrV pr) ((l.ents.length + r.ents.length : Nat) : Int)) 98 (0, 0)) := by rw [Int.natCast_add]; exact g2
  replace g1 : W.drew.heap[w.heap.size]? = some (.cells #[ptrV pl, ptrV pr] 96 (0, 0)) := g1
  replace g3 : Ext (fun _ => False) w W.drew := g3.drew
  clear hW
  generalize W.drew = V at *
  have d0 : V.cell? ⟨w.heap.size, 0, none⟩ = some (ptrV pl) := cells_at g1 0
  have d1 : V.cell? ⟨w.heap.size, 1, none⟩ = some (ptrV pr) := cells_at g1 1
  have hgl := lt_of_heap g1
  have HG := Lib.hid (And.intro g2 g3)
  clear g1 g2 g3 hL37 hR37 hw
  refine wp_region_mix (Cls [w.heap.size] _) [([0, 1, 3, 4, 5, 6, 7, 8, 9, 10, 11, 12], 2), ([], 13), ([], 14), ([15, 16, 17, 18, 19], 20)] [] (by kernel_rfl) (by kernel_rfl) (Cls.refl _ _) ?_
  try dsimp only [wpMix, wpSegs, pick, List.getElem?_cons_zero, List.getElem?_cons_succ]
  generalize hz : Act.mk _ _ = z
  repeat (first | (refine wpQuiet_step (fun K hK => ?_); replace hK := Lib.hid hK; subst hz; go_simp; generalize hz : Act.mk _ _ = z; refine hK.out z ?_; clear hK K) | (refine wpQuiet_step (fun K hK => ?_); replace hK := Lib.hid hK; subst hz; refine iteSkip (by kernel_rfl) ?_; go_simp; generalize hz : Act.mk _ _ = z; refine hK.out z ?_; clear hK K))
  try refine wpQuiet_nil ?_
  subst hz
  try dsimp only [NoPan]
  go_wp2_with fail
  refine (num_walk _ b).mono ?_
  rintro e w3 ⟨nv, rfl, f3⟩
  obtain ⟨A3, c3, rfl⟩ := f3.own.formv
  have HF := Lib.hid f3
  clear f3
  go_wp2_with fail
  refine ⟨Cls.of_ext HF.out.ext fun q hq => ⟨by simp at hq; subst hq; exact hgl, id⟩, ?_⟩
  try dsimp only [wpMix, wpSegs, pick, List.getElem?_cons_zero, List.getElem?_cons_succ]
  generalize hz : Act.mk _ _ = z
  repeat (first | (refine wpQuiet_step (fun K hK => ?_); replace hK := Lib.hid hK; subst hz; go_simp; generalize hz : Act.mk _ _ = z; refine hK.out z ?_; clear hK K) | (refine wpQuiet_step (fun K hK => ?_); replace hK := Lib.hid hK; subst hz; refine iteSkip (by kernel_rfl) ?_; go_simp; generalize hz : Act.mk _ _ = z; refine hK.out z ?_; clear hK K))
  try refine wpQuiet_nil ?_
  subst hz
  try dsimp only [NoPan]
  go_wp2_with fail
  have hx4 : Ext (fun _ => False) w (w3.alloc (.cells #[.slice A3 (beB b 8).length c3, .slice (some ⟨pl, 5, none⟩) 32 32, .slice (some ⟨pr, 5, none⟩) 32 32] 22 (0, 0))) := (HG.out.2.trans ((Ext.refl _ _).drew.trans HF.out.ext)).trans ((Ext.refl _ _).alloc _)
  have hx3 : Ext (fun _ => False) V.drew (w3.alloc (.cells #[.slice A3 (beB b 8).length c3, .slice (some ⟨pl, 5, none⟩) 32 32, .slice (some ⟨pr, 5, none⟩) 32 32] 22 (0, 0))) := HF.out.ext.trans ((Ext.refl _ _).alloc _)
  have hbs := byts_lit (D := fun _ => True) (ls := [beB b 8, sumT l, sumT r]) (heap_alloc_self w3 (.cells #[.slice A3 (beB b 8).length c3, .slice (some ⟨pl, 5, none⟩) 32 32, .slice (some ⟨pr, 5, none⟩) 32 32] 22 (0, 0))) rfl trivial (fun i x m hx hm => by
    match i with
    | 0 => simp at hx hm; subst hx hm; exact (HF.out.own.byt.mono (fun _ _ => trivial)).same ((Ext.refl _ _).alloc _)
    | 1 => simp at hx hm; subst hx hm; exact ((sum_byt (D := fun _ => True) HLR.out.2.2.1 trivial (sumT_len _))).same hx4
    | 2 => simp at hx hm; subst hx hm; exact ((sum_byt (D := fun _ => True) HLR.out.2.2.2.1 trivial (sumT_len _))).same hx4
    | n + 3 => simp at hx) 3 rfl
  refine ⟨Cls.of_ext hx3 fun q hq => ⟨by simp at hq; subst hq; exact hgl, id⟩, ?_⟩
  have H4 := Lib.hid (And.intro hbs (And.intro hx3 hx4))
  clear hbs hx3 hx4
  generalize (w3.alloc (.cells #[.slice A3 (beB b 8).length c3, .slice (some ⟨pl, 5, none⟩) 32 32, .slice (some ⟨pr, 5, none⟩) 32 32] 22 (0, 0))) = w4 at *
  try dsimp only [wpMix, wpSegs, pick, List.getElem?_cons_zero, List.getElem?_cons_succ]
  generalize hz : Act.mk _ _ = z
  repeat (first | (refine wpQuiet_step (fun K hK => ?_); replace hK := Lib.hid hK; subst hz; go_simp; generalize hz : Act.mk _ _ = z; refine hK.out z ?_; clear hK K) | (refine wpQuiet_step (fun K hK => ?_); replace hK := Lib.hid hK; subst hz; refine iteSkip (by kernel_rfl) ?_; go_simp; generalize hz : Act.mk _ _ = z; refine hK.out z ?_; clear hK K))
  try refine wpQuiet_nil ?_
  subst hz
  try dsimp only [NoPan]
  go_wp2_with fail
  refine (of_walk (nm := [102, 111, 114, 107]) H4.out.1 (by simp) (by decide)).mono ?_
  rintro e w5 ⟨rfl, x5⟩
  obtain ⟨cs, hcs, hce⟩ := sumV_form (ofR [102, 111, 114, 107] [beB b 8, sumT l, sumT r]).1
  rw [hcs]
  have g5 : w5.heap[w.heap.size + 1]? = some (.cells (nodeZ b (.slice none 0 0) (.slice none 0 0) (ptrV pl) (ptrV pr) ((l.ents.length + r.ents.length : Nat) : Int)) 98 (0, 0)) := (H4.out.2.1.trans x5).heap HG.out.1 id
  have hsz : cs.size = 32 := by rw [hce]; exact sum_size _ (ofR_len _ _)
  have hone : (cs.all (·.oneCell')) = true := by rw [hce]; exact sum_one _
  have H5 := Lib.hid (And.intro (And.intro g5 (And.intro (H4.out.2.1.trans x5) (H4.out.2.2.trans x5))) (And.intro hsz (And.intro hone hce)))
  clear x5 g5 hcs hce hone
  go_wp2_with fail
  refine ⟨Cls.of_ext H5.out.1.2.1 fun q hq => ⟨by simp at hq; subst hq; exact hgl, id⟩, ?_⟩
  try dsimp only [wpMix, wpSegs, pick, List.getElem?_cons_zero, List.getElem?_cons_succ]
  generalize hz : Act.mk _ _ = z
  repeat (first | (refine wpQuiet_step (fun K hK => ?_); replace hK := Lib.hid hK; subst hz; go_simp; generalize hz : Act.mk _ _ = z; refine hK.out z ?_; clear hK K) | (refine wpQuiet_step (fun K hK => ?_); replace hK := Lib.hid hK; subst hz; refine iteSkip (by kernel_rfl) ?_; go_simp; generalize hz : Act.mk _ _ = z; refine hK.out z ?_; clear hK K))
  try refine wpQuiet_nil ?_
  subst hz
  try dsimp only [NoPan]
  go_wp2_with (refine wpList_store_mid rfl 29 _ _ rfl (w.heap.size + 1) 5 cs rfl rfl (there_new H5.out.1.1 (by rw [hsz, nodeZ_size]; decide)) (by rw [hsz]; exact sum_info) H5.out.2.2.1 ?_)
  have hcl : Ext (· = w.heap.size + 1) V.drew (w5.setCells (w.heap.size + 1) 5 cs.toList) := ((Ext.refl (· = w.heap.size + 1) V.drew).trans' H5.out.1.2.1 fun b hb => hb.elim).setCells _ _ (.inl rfl)
  refine ⟨Cls.of_ext hcl fun q hq => ⟨by simp at hq; subst hq; exact hgl, by simp at hq; subst hq; omega⟩, ?_⟩
  clear hcl
  try dsimp only [wpMix, wpSegs, pick, List.getElem?_cons_zero, List.getElem?_cons_succ]
  generalize hz : Act.mk _ _ = z
  repeat (first | (refine wpQuiet_step (fun K hK => ?_); replace hK := Lib.hid hK; subst hz; go_simp; generalize hz : Act.mk _ _ = z; refine hK.out z ?_; clear hK K) | (refine wpQuiet_step (fun K hK => ?_); replace hK := Lib.hid hK; subst hz; refine iteSkip (by kernel_rfl) ?_; go_simp; generalize hz : Act.mk _ _ = z; refine hK.out z ?_; clear hK K))
  try refine wpQuiet_nil ?_
  subst hz
  try dsimp only [NoPan]
  go_wp2_with fail
  go_ret
  obtain ⟨⟨g5, x5, y5⟩, hsz, hone, hce⟩ := H5.out
  subst hce
  have hN := node_made g5 (s := (ofR [102, 111, 114, 107] [beB b 8, sumT l, sumT r]).1) (n := l.ents.length + r.ents.length) (ofR_len _ _) (nodeZ_size _ _ _ _ _ _) rfl rfl rfl rfl rfl rfl
  have hx : Ext (fun _ => False) w (w5.setCells (w.heap.size + 1) 5 ((ofR [102, 111, 114, 107] [beB b 8, sumT l, sumT r]).1.map byteV)) := y5.setCells _ _ (.inr (by omega))
  have hp5 : w.heap.size + 1 < w5.heap.size := lt_of_heap g5
  have hsz' : (w5.setCells (w.heap.size + 1) 5 ((ofR [102, 111, 114, 107] [beB b 8, sumT l, sumT r]).1.map byteV)).heap.size = w5.heap.size := size_setCells _ _ _ _
  refine ⟨_, rfl, ⟨.inr ⟨by omega, by rw [hsz']; exact hp5⟩, _, _, _, _, hN, ?_, ?_⟩, hx⟩
  · exact (HLR.out.1.1.still hx).mono fun k hk => .inl hk
  · exact (HLR.out.1.2.still hx).mono fun k hk => .inl hk
end Go.Proofs.Ytoflfhjeabpcjaa
