/- The entries of a tree, one after another: what the iterator of trie.node.entries promises; no condition. -/
import Derived.Test.YtoflfhjeabpcjaaTrieIter
import Derived.Test.YtoflfhjeabpcjaaTriePath
import Derived.Test.YtoflfhjeabpcjaaRangeLaw
namespace Go.Proofs.Ytoflfhjeabpcjaa
set_option linter.unusedVariables false
set_option linter.unusedSimpArgs false
open Go.RowKit
attribute [local go_sem] Oper.semAt_some

structure EntV where
  kv : Value
  vv : Value
  k : Bs
  v : Bs
def EntV.enc (x : EntV) : Value := .agg #[x.kv, x.vv]
def EntV.kvs (x : EntV) : Bs × Bs := (x.k, x.v)
/-- What a tree in memory yields. -/
def YR (D : Nat → Prop) (w : World) : Tr → Nat → List EntV → Prop
  | .leaf k v, p, L => D p ∧ ∃ kv vv lp rp, NodeAt w p (-1) kv vv lp rp (sumT (.leaf k v)) 1 ∧ Byt D w kv k ∧ Byt D w vv v ∧ L = [⟨kv, vv, k, v⟩]
  | .fork b l r, p, L => D p ∧ ∃ kv vv pl pr Ll Lr, NodeAt w p b kv vv (ptrV pl) (ptrV pr) (sumT (.fork b l r)) (l.ents.length + r.ents.length) ∧ YR D w l pl Ll ∧ YR D w r pr Lr ∧ L = Ll ++ Lr
theorem YR.of {D : Nat → Prop} {w : World} : ∀ {t : Tr} {p : Nat}, NRep D w t p → ∃ L, YR D w t p L ∧ L.map EntV.kvs = t.ents ∧ ∀ x ∈ L, Byt D w x.kv x.k ∧ Byt D w x.vv x.v
  | .leaf k v, p, ⟨hd, kv, vv, lp, rp, h, h1, h2⟩ => ⟨_, ⟨hd, kv, vv, lp, rp, h, h1, h2, rfl⟩, rfl, by simp; exact ⟨h1, h2⟩⟩
  | .fork b l r, p, ⟨hd, kv, vv, pl, pr, h, h1, h2⟩ => by
    obtain ⟨Ll, a1, a2, a3⟩ := YR.of h1
    obtain ⟨Lr, b1, b2, b3⟩ := YR.of h2
    refine ⟨_, ⟨hd, kv, vv, pl, pr, Ll, Lr, h, a1, b1, rfl⟩, by rw [List.map_append, a2, b2]; rfl, ?_⟩
    intro x hx
    exact (List.mem_append.1 hx).elim (a3 x) (b3 x)
theorem YR.heaps {D : Nat → Prop} {w w' : World} (hk : ∀ k, D k → w'.heap[k]? = w.heap[k]?) : ∀ {t : Tr} {p : Nat} {L : List EntV}, YR D w t p L → YR D w' t p L
  | .leaf k v, p, L, ⟨hd, kv, vv, lp, rp, h, h1, h2, h3⟩ => ⟨hd, kv, vv, lp, rp, h.same (hk p hd), h1.heaps hk, h2.heaps hk, h3⟩
  | .fork b l r, p, L, ⟨hd, kv, vv, pl, pr, Ll, Lr, h, h1, h2, h3⟩ => ⟨hd, kv, vv, pl, pr, Ll, Lr, h.same (hk p hd), YR.heaps hk h1, YR.heaps hk h2, h3⟩
theorem info_nodep : (Try.prog.info? 92).map (fun i => (i.zero, i.size, i.bytes)) = some (some (.pointer none), 1, 8) := by kernel_rfl
/-- The stack: trees with what each still yields. -/
abbrev Stk := List (Tr × Nat × List EntV)
def Stk.left (S : Stk) : List EntV := S.reverse.flatMap fun x => x.2.2
theorem YR.pos {D : Nat → Prop} {w : World} : ∀ {t : Tr} {p : Nat} {L : List EntV}, YR D w t p L → 1 ≤ L.length
  | .leaf k v, p, L, ⟨hd, kv, vv, lp, rp, h, h1, h2, h3⟩ => by rw [h3]; exact Nat.le_refl _
  | .fork b l r, p, L, ⟨hd, kv, vv, pl, pr, Ll, Lr, h, h1, h2, h3⟩ => by
    have := YR.pos h1
    rw [h3, List.length_append]
    omega
theorem Stk.left_snoc (S : Stk) (x : Tr × Nat × List EntV) : Stk.left (S ++ [x]) = x.2.2 ++ Stk.left S := by simp [Stk.left]
theorem len_le_flatMap {α β : Type} {f : α → List β} : ∀ (l : List α), (∀ x ∈ l, 1 ≤ (f x).length) → l.length ≤ (l.flatMap f).length
  | [], _ => Nat.le_refl _
  | x :: l, h => by
    have h1 := len_le_flatMap l fun y hy => h y (List.mem_cons_of_mem _ hy)
    have h2 := h x (List.mem_cons_self ..)
    simp only [List.length_cons, List.flatMap_cons, List.length_append]
    omega
theorem Stk.len_left (S : Stk) (h : ∀ x ∈ S, 1 ≤ x.2.2.length) : S.length ≤ (Stk.left S).length := by
  have h1 := len_le_flatMap (f := fun x : Tr × Nat × List EntV => x.2.2) S.reverse (fun x hx => h x (List.mem_reverse.1 hx))
  rw [List.length_reverse] at h1
  exact h1
structure IterI (D K : Nat → Prop) (D0 : Nat → Prop) (J : (Nat → Prop) → List EntV → World → Prop) (xs : List EntV) (w W : World) (S : Stk) (pre : List EntV) (g c : Nat) (wr : World) : Prop where
  row : wr.ownsRow W.heap.size 92 1 (.slice (some ⟨g, 0, none⟩) S.length c) S.length (S.map fun x => ptrV x.2.1)
  yrs : ∀ x ∈ S, YR D w x.1 x.2.1 x.2.2
  all : xs = pre ++ S.left
  ext : Ext (fun b => ¬ K b) w wr
  js : ∃ Dc, J Dc pre wr ∧ ¬ Dc g ∧ ∀ b, Dc b → D0 b ∨ W.heap.size ≤ b
  size : W.heap.size ≤ wr.heap.size
set_option maxRecDepth 100000 in
set_option maxHeartbeats 400000 in
theorem entries_iter {w : World} {D K : Nat → Prop} {t : Tr} {p box : Nat} {xs : List EntV} (hN : YR D w t p xs) (hbox : w.heap[box]? = some (.cells #[ptrV p] 92 (0, 0))) (hDK : ∀ b, D b → K b) (hbK : K box) (hKw : ∀ b, K b → b < w.heap.size) (hxs : xs.length ≤ 1099511627776) :
    IterC Try.prog 108 #[.pointer (some ⟨box, 0, none⟩)] (fun x => #[EntV.enc x]) xs K w := by
  intro n m l J D0 W hx hJ hJD hY h0
  refine callsIn_wide.2 ?_
  have hb1 : W.cell? ⟨box, 0, none⟩ = some (ptrV p) := cells_at (hx.heap hbox (fun h => h hbK)) 0
  have HH := Lib.hid (And.intro hN (And.intro hJ (And.intro hJD h0)))
  have HX := Lib.hid hx
  have HY := Lib.hid hY
  clear hx hJ hJD hY h0 hN
  go_enter Try.func108, Try.ntmps108
  go_wp2_with fail
  go_loopg [3] (stackN (([(t, p, xs)] : Stk).map (·.1))) (fun n sv wr => ∃ S pre g c, n = stackN (S.map (·.1)) ∧ sv = .slice (some ⟨g, 0, none⟩) S.length c ∧ IterI D K D0 J xs w W S pre g c wr)
  case atStart =>
    refine ⟨[(t, p, xs)], [], W.heap.size, 1, rfl, rfl, ?_⟩
    refine ⟨⟨rfl, .inr ⟨_, 1, _, rfl, Nat.le_refl _, heap_alloc_self _ _, Nat.le_refl _, by decide, rfl, rfl⟩⟩, ?_, by simp [Stk.left], HX.out.alloc _, ⟨D0, ?_, ?_, fun b hb => .inl hb⟩, by simp⟩
    · intro x hx
      simp only [List.mem_singleton] at hx
      rw [hx]
      exact HH.out.1
    · exact HH.out.2.1 _ _ _ _ HH.out.2.2.2 ((Ext.refl _ W).alloc _)
    · intro hd
      have := (HH.out.2.2.1 _ _ _ _ HH.out.2.2.2 hd).1
      omega
  case round =>
    obtain ⟨S, pre, g, c, rfl, rfl, hI⟩ := hrel
    rcases List.eq_nil_or_concat S with rfl | ⟨S', ⟨u, q, L⟩, rfl⟩
    · have HI := Lib.hid hI
      clear hI
      go_wp2_with fail
      go_end0
      refine ⟨⟨_, rfl⟩, ?_⟩
      obtain ⟨Dc, j1, j2, j3⟩ := HI.out.js
      have ha := HI.out.all
      simp [Stk.left] at ha
      subst ha
      exact ⟨Dc, j1, j3⟩
    · rw [List.concat_eq_append] at hI ⊢
      have hlen : S'.length + 1 ≤ xs.length := by
        have h1 := Stk.len_left _ (fun x hx => (hI.yrs x hx).pos)
        have h2 := congrArg List.length hI.all
        simp only [List.length_append, List.length_cons, List.length_nil] at h1 h2
        omega
      obtain ⟨_, hrow⟩ := hI.row
      rcases hrow with ⟨h, _⟩ | ⟨g', cap', cur, hv, hbg, hg, hnc, hcm, hcs, htk⟩
      · cases h
      · simp only [Value.slice.injEq, Option.some.injEq, Addr.mk.injEq, true_and, and_true] at hv
        obtain ⟨rfl, rfl⟩ := hv
        have htop : wr.cell? ⟨g, S'.length, none⟩ = some (ptrV q) := by
          rw [cells_at hg]
          have h1 := congrArg (fun l => l[S'.length]?) htk
          simp only [List.map_append, List.map_cons, List.map_nil] at h1
          rw [List.getElem?_take_of_lt (by simp)] at h1
          rw [← Array.getElem?_toList, h1, List.getElem?_append_right (by simp)]
          simp
        have hpop : wr.ownsRow W.heap.size 92 1 (.slice (some ⟨g, 0, none⟩) S'.length c) S'.length (S'.map fun x => ptrV x.2.1) := by
          refine ⟨by simp, .inr ⟨g, c, cur, rfl, hbg, hg, ?_, hcm, hcs, ?_⟩⟩
          · rw [List.length_append] at hnc
            exact Nat.le_trans (Nat.le_add_right _ _) hnc
          · have h1 := congrArg (List.take S'.length) htk
            rw [List.take_take, List.map_append, List.take_append_of_le_length (by simp)] at h1
            rw [show min S'.length ((S' ++ [(u, q, L)]).length * 1) = S'.length * 1 by simp] at h1
            rw [h1]
            exact List.take_of_length_le (by simp)
        rw [List.length_append, List.length_singleton] at hnc
        rw [show (S' ++ [(u, q, L)]).length = S'.length + 1 by simp]
        have hY1 := hI.yrs (u, q, L) (by simp)
        have hS1 : ∀ x ∈ S', YR D w x.1 x.2.1 x.2.2 := fun x hx => hI.yrs x (by simp [hx])
        have hall := hI.all
        rw [Stk.left_snoc] at hall
        have hglt := lt_of_heap hg
        have hm : S'.length ≤ 1099511627776 := by omega
        obtain ⟨Dc, j1, j2, j3⟩ := hI.js
        have hm1 : IntKind.i64.wrap (S'.length : Int) = (S'.length : Int) := IntWalk.i64_in _ (by omega)
        have hpos : decide (0 < (S'.length : Int) + 1) = true := by first | (simp; done) | (simp; omega)
        have hpos2 : 0 < S'.length + 1 := by omega
        cases u with
        | leaf k v =>
          obtain ⟨hd, kv, vv, lp, rp, hN, hk, hv, hL⟩ := id hY1
          simp only at hL hall
          have hNw := hN.same (hI.ext.heap_eq (World.block_lt_of_cell? _ _ hN.c0) (fun h => h (hDK _ hd)))
          have k0 := hNw.c0
          have k1 := hNw.c1
          have k2 := hNw.c2
          obtain ⟨fn, tmps, assign, body, hy, hR⟩ := HY.out Dc pre ⟨kv, vv, k, v⟩ wr j1 ⟨Stk.left S', by rw [hall, hL, List.append_assoc]⟩
          dsimp only [EntV.enc] at hy
          have hmeas := stackN_leaf (S'.map (·.1)) k v
          have HL := Lib.hid (And.intro hI (And.intro hpop (And.intro hS1 (And.intro hL (And.intro j2 (And.intro j3 (And.intro hall j1)))))))
          have HM := Lib.hid hmeas
          have HR := Lib.hid (And.intro hy hR)
          have hq := World.block_lt_of_cell? _ _ k0
          clear hI hpop hS1 hL j2 j3 hall hN hNw hg htk hY1 hk hv j1 hmeas hy hR hcs hcm hbg hlen hd
          have HS : ∃ m, m = S'.length := ⟨_, rfl⟩
          obtain ⟨m, hmS⟩ := HS
          rw [← hmS] at htop hnc hm hm1 hpos hpos2 ⊢
          have HMS := Lib.hid hmS
          clear hmS
          go_wp2_with (refine wpList_nilCheck rfl (.tmp 21) rfl rfl ?_; rename_i ax; have HAx := Lib.hid ax; clear ax)
          refine HAx.out _ _ ?_
          clear HAx
          refine wp_cond (t := false) rfl ?_
          refine wp_seq_region_in (n := n) ?_
          obtain ⟨hy, hR⟩ := HR.out
          gi_wp2
          refine ⟨fun hh => (by cases hh), (roundIn_any hR).mono ?_⟩
          rintro e W3 ⟨rfl, D3, j4, x4, n4⟩
          gi_wp2
          go_wp2_with fail
          go_roundg (stackN (S'.map (·.1)))
          case measure =>
            have := HM.out
            simpa [List.concat_eq_append] using this
          case rel =>
            obtain ⟨hI, hpop, hS1, hL, j2, j3, hall, j1⟩ := HL.out
            have hDc := fun b => HH.out.2.2.1 _ _ _ b j1
            refine ⟨S', pre ++ [⟨kv, vv, k, v⟩], g, c, rfl, by rw [← HMS.out], ?_⟩
            refine ⟨own_ext hpop x4 (fun k' hk' => ?_), hS1, by rw [hall, hL, List.append_assoc], hI.ext.trans' x4 (fun b hb => .inl (hDc b hb).2), ⟨D3, j4, fun hg3 => ?_, fun b hb => ?_⟩, Nat.le_trans hI.size x4.size⟩
            · simp only [Value.ownBlock, Option.some.injEq] at hk'
              rw [← hk']
              exact j2
            · rcases n4 g hg3 with h | h
              · exact j2 h
              · omega
            · rcases n4 b hb with h | h
              · exact j3 b h
              · exact .inr (Nat.le_trans hI.size h)
        | fork b l r =>
          obtain ⟨hd, kv, vv, pl, pr, Ll, Lr, hN, hl, hr, hL⟩ := id hY1
          simp only at hL hall
          have hNw := hN.same (hI.ext.heap_eq (World.block_lt_of_cell? _ _ hN.c0) (fun h => h (hDK _ hd)))
          have k0 := hNw.c0
          have k3 := hNw.c3
          have k4 := hNw.c4
          have cb' : ((b : Int) != -1) = true := by simp
          have cb : ((b : Int) == -1) = false := by simp
          have hmeas := stackN_fork (S'.map (·.1)) b l r
          have HL := Lib.hid (And.intro hI (And.intro hpop (And.intro hS1 (And.intro hL (And.intro j2 (And.intro j3 (And.intro hall (And.intro j1 (And.intro hl (And.intro hr hY1))))))))))
          have HM := Lib.hid hmeas
          have hq := World.block_lt_of_cell? _ _ k0
          have HQ := Lib.hid (And.intro hcm (And.intro hlen hd))
          clear hI hpop hS1 hL j2 j3 hall hN hNw hg htk hY1 hl hr j1 hmeas hcs hcm hbg hlen hd
          have HS : ∃ m, m = S'.length := ⟨_, rfl⟩
          obtain ⟨m, hmS⟩ := HS
          rw [← hmS] at htop hnc hm hm1 hpos hpos2 ⊢
          have HMS := Lib.hid hmS
          clear hmS
          go_wp2_with fail
          have hz0 : IntKind.i64.wrap 0 = 0 := IntWalk.i64_in _ (by omega)
          have hz1 : IntKind.i64.wrap 1 = 1 := IntWalk.i64_in _ (by omega)
          refine wp_region_bar (Cls [q] _) [([0, 1, 2, 3, 4, 5, 6, 7, 8, 9, 10], 11)] [] 12 [] [13] (by kernel_rfl) (by kernel_rfl) (Cls.refl _ _) ?_
          try dsimp only [wpMix, wpSegs, pick, List.getElem?_cons_zero, List.getElem?_cons_succ]
          generalize hz : Act.mk _ _ = z
          repeat (first | (refine wpQuiet_step (fun K hK => ?_); replace hK := Lib.hid hK; subst hz; go_simp; generalize hz : Act.mk _ _ = z; refine hK.out z ?_; clear hK K) | (refine wpQuiet_step (fun K hK => ?_); replace hK := Lib.hid hK; subst hz; refine iteSkip (by kernel_rfl) ?_; go_simp; generalize hz : Act.mk _ _ = z; refine hK.out z ?_; clear hK K))
          try refine wpQuiet_nil ?_
          subst hz
          try dsimp only [NoPan]
          go_wp2_with fail
          have hxd : ∀ o : Obj, Ext (fun _ => False) wr.drew (wr.alloc o).drew := fun o => (Ext.refl (fun _ => False) wr.drew).alloc o
          have hxe : ∀ o : Obj, Ext (fun _ => False) wr (wr.alloc o).drew := fun o => ((Ext.refl (fun _ => False) wr).alloc o).drew
          have hrow : wr.ownsRow W.heap.size 92 1 (.slice (some ⟨g, 0, none⟩) m c) m (S'.map fun x => ptrV x.2.1) := by rw [HMS.out]; exact HL.out.2.1
          refine ⟨(Cls.refl _ _).old (hxd _) (by simp; exact hq), ?_⟩
          try dsimp only [wpMix, wpSegs, pick, List.getElem?_cons_zero, List.getElem?_cons_succ]
          generalize hz : Act.mk _ _ = z
          repeat (first | (refine wpQuiet_step (fun K hK => ?_); replace hK := Lib.hid hK; subst hz; go_simp; generalize hz : Act.mk _ _ = z; refine hK.out z ?_; clear hK K) | (refine wpQuiet_step (fun K hK => ?_); replace hK := Lib.hid hK; subst hz; refine iteSkip (by kernel_rfl) ?_; go_simp; generalize hz : Act.mk _ _ = z; refine hK.out z ?_; clear hK K))
          try refine wpQuiet_nil ?_
          subst hz
          try dsimp only [NoPan]
          refine wpList_append_lit rfl _ _ 147 rfl Try.underlying147 info_nodep rfl (by decide) (v := .slice (some ⟨g, 0, none⟩) m c) rfl (own_ext hrow (hxe _) fun _ _ => id) (Nat.le_trans HL.out.1.size (hxe _).size) (m := 2) (cs := [ptrV pr, ptrV pl]) rfl (heap_alloc_self _ _) rfl (by simp [ptrV, Value.oneCell']) (by decide) (by omega) (by omega) ?_
          intro g2 c2 W2 ho2 hx2 hg2 hl2
          apply wpList_nil
          simp only [Exit.then]
          have x4 : Ext (· = g) wr W2 := ((hxe _).mono fun _ _ => False.elim).trans (hx2.mono fun k' _ hk' => by simpa [Value.ownBlock] using hk'.symm)
          have h2 := Lib.hid (And.intro ho2 (And.intro x4 hg2))
          clear ho2 hx2 x4 hxd hxe hrow k0 k3 k4 htop
          try dsimp only [wpMix, wpSegs, pick, List.getElem?_cons_zero, List.getElem?_cons_succ]
          generalize hz : Act.mk _ _ = z
          repeat (first | (refine wpQuiet_step (fun K hK => ?_); replace hK := Lib.hid hK; subst hz; go_simp; generalize hz : Act.mk _ _ = z; refine hK.out z ?_; clear hK K) | (refine wpQuiet_step (fun K hK => ?_); replace hK := Lib.hid hK; subst hz; refine iteSkip (by kernel_rfl) ?_; go_simp; generalize hz : Act.mk _ _ = z; refine hK.out z ?_; clear hK K))
          try refine wpQuiet_nil ?_
          subst hz
          try dsimp only [NoPan]
          go_wp2_with fail
          go_roundg (stackN ((S'.map (·.1)) ++ [r, l]))
          case measure =>
            have := HM.out
            simpa [List.concat_eq_append] using this
          case rel =>
            obtain ⟨hI, hpop, hS1, hL, j2, j3, hall, j1, hl, hr, hY1⟩ := HL.out
            obtain ⟨ho2, x4, hg2⟩ := h2.out
            refine ⟨S' ++ [(r, pr, Lr), (l, pl, Ll)], pre, g2, c2, by simp, by simp [← HMS.out], ?_⟩
            have hDc := fun b => HH.out.2.2.1 _ _ _ b j1
            have hgW : w.heap.size ≤ g := Nat.le_trans HX.out.size (own_base hpop g rfl)
            have hKg : ∀ b, b = g → ¬ K b ∨ w.heap.size ≤ b := fun b hb => .inr (hb ▸ hgW)
            refine ⟨by simpa [HMS.out] using ho2, fun x hx => ?_, ?_, hI.ext.trans' x4 hKg, ⟨Dc, HH.out.2.1 _ _ _ _ j1 (x4.mono fun b hb hg => ?_), ?_, j3⟩, Nat.le_trans hI.size x4.size⟩
            · simp only [List.mem_append, List.mem_cons, List.not_mem_nil, or_false] at hx
              rcases hx with hx | rfl | rfl
              · exact hS1 x hx
              · exact hr
              · exact hl
            · rw [hall, hL]
              simp [Stk.left]
            · subst hg
              refine ⟨j2, fun h => ?_⟩
              have := hKw _ h
              omega
            · intro hd2
              rcases hg2 with h | h
              · simp only [Value.ownBlock, Option.some.injEq] at h
                rw [← h] at hd2
                exact j2 hd2
              · have h3 := (hDc _ hd2).1
                have h4 : (wr.alloc (.cells #[ptrV pr, ptrV pl] 92)).drew.heap.size = wr.heap.size + 1 := by simp
                omega
end Go.Proofs.Ytoflfhjeabpcjaa
