/- The document's registry: it does what the registry does; no condition. -/
import Derived.Test.YtcedpdjjjfdbiaaRegFill
namespace Go.Proofs.Ytcedpdjjjfdbiaa
set_option linter.unusedVariables false
set_option linter.unusedSimpArgs false
open Go.RowKit

structure RgAt (F : Nat → Prop) (w : World) (a : Nat) (ov : Value) (L : List (Int × Bs)) : Prop where
  obj : w.heap[a]? = some (.cells #[ov] 61 (0, 0))
  order : w.ownsRow 0 90 2 ov L.length (L.flatMap prC)
  fa : F a
  fo : ∀ k, ov.ownBlock = some k → F k
  lt : ∀ k, F k → k < w.heap.size
def RgRep (F : Nat → Prop) (w : World) (a : Nat) (L : List (Int × Bs)) : Prop := ∃ ov, RgAt F w a ov L
def RgPost (F : Nat → Prop) (w : World) (a : Nat) (L : List (Int × Bs)) (w' : World) : Prop := ∃ F', RgRep F' w' a L ∧ Ext F w w' ∧ ∀ k, F' k → F k ∨ w.heap.size ≤ k

theorem RgAt.keep {F F1 : Nat → Prop} {w w' : World} {a : Nat} {ov : Value} {L : List (Int × Bs)} (h : RgAt F w a ov L) (he : Ext F1 w w') (hF : ∀ k, F k → ¬ F1 k) : RgAt F w' a ov L :=
  { obj := he.heap h.obj (hF _ h.fa), order := own_ext h.order he fun k hk => hF k (h.fo k hk), fa := h.fa, fo := h.fo, lt := fun k hk => Nat.lt_of_lt_of_le (h.lt k hk) he.size }
theorem RgRep.keep {F F1 : Nat → Prop} {w w' : World} {a : Nat} {L : List (Int × Bs)} (h : RgRep F w a L) (he : Ext F1 w w') (hF : ∀ k, F k → ¬ F1 k) : RgRep F w' a L := by
  obtain ⟨ov, h⟩ := h
  exact ⟨ov, h.keep he hF⟩
theorem RgRep.lt {F : Nat → Prop} {w : World} {a : Nat} {L : List (Int × Bs)} (h : RgRep F w a L) : ∀ k, F k → k < w.heap.size := by
  obtain ⟨ov, h⟩ := h
  exact h.lt
theorem RgAt.va {F : Nat → Prop} {w : World} {a : Nat} {ov : Value} {L : List (Int × Bs)} (h : RgAt F w a ov L) : ov.ownBlock ≠ some a := by
  intro e
  obtain ⟨cs, hc⟩ := own_ty h.order _ e
  exact ne_of_obj hc h.obj (by simp) rfl
theorem RgAt.pairs {F : Nat → Prop} {w : World} {a : Nat} {ov : Value} {L : List (Int × Bs)} (h : RgAt F w a ov L) :
    ∃ A c, ov = .slice A L.length c ∧ (L ≠ [] → ∃ g, A = some ⟨g, 0, none⟩ ∧ F g ∧ ∀ i p, L[i]? = some p → w.cell? ⟨g, i * 2, none⟩ = some (.int .i64 p.1) ∧ w.cell? ⟨g, i * 2 + 1, none⟩ = some (str p.2)) := by
  rcases h.order.2 with ⟨h1, h2⟩ | ⟨g, cap, cur, h1, _, h3, h4, _, _, h6⟩
  · refine ⟨none, 0, by rw [h1, h2], fun hne => ?_⟩
    exact absurd (List.eq_nil_of_length_eq_zero h2) hne
  · refine ⟨_, _, h1, fun _ => ⟨g, rfl, h.fo g (by rw [h1]; rfl), fun i p hp => ?_⟩⟩
    obtain ⟨k1, k2⟩ := flat_get L i p hp
    have hlt : i < L.length := (List.getElem?_eq_some_iff.1 hp).1
    have h7 := congrArg (fun l => l[2 * i]?) h6
    have h8 := congrArg (fun l => l[2 * i + 1]?) h6
    simp only [k1, k2] at h7 h8
    rw [List.getElem?_take_of_lt (by omega)] at h7 h8
    rw [cells_at h3, cells_at h3, show i * 2 = 2 * i by omega]
    exact ⟨by simpa using h7, by simpa using h8⟩

theorem rg_new (w : World) : Calls Try.prog 18 #[] w fun e w' => ∃ a F, e = .returned (.pointer (some ⟨a, 0, none⟩)) ∧ RgRep F w' a [] ∧ Ext (fun _ => False) w w' ∧ ∀ k, F k → w.heap.size ≤ k := by
  go_enter Try.func18, Try.ntmps18
  go_wp2_with fail
  go_ret
  refine ⟨w.heap.size, fun k => k = w.heap.size, rfl, ⟨.slice none 0 0, ?_⟩, (Ext.refl _ _).alloc _, fun k hk => by omega⟩
  exact { obj := heap_alloc_self _ _, order := ⟨rfl, .inl ⟨rfl, rfl⟩⟩, fa := rfl, fo := fun k hk => by simp [Value.ownBlock] at hk, lt := fun k hk => by subst hk; simp }

set_option maxRecDepth 100000 in
theorem rg_knows {F : Nat → Prop} {w : World} {a : Nat} {L : List (Int × Bs)} (h : RgRep F w a L) (hL : L.length ≤ 9223372036854775807) (who : Int) {D : Nat → Prop} {v : Value} {s : Bs} (hv : Byt D w v s) :
    Calls Try.prog 40 #[.pointer (some ⟨a, 0, none⟩), .int .i64 who, v] w fun e w' => e = .returned (.bool (decide ((who, s) ∈ L))) ∧ Ext (fun _ => False) w w' := by
  obtain ⟨ov, h⟩ := h
  obtain ⟨A, c, rfl, hp⟩ := h.pairs
  have c0 : w.cell? ⟨a, 0, none⟩ = some (.slice A L.length c) := cells_at h.obj 0
  have hal := lt_of_heap h.obj
  have hlt := h.lt
  clear h
  go_enter Try.func40, Try.ntmps40
  go_wp2_with fail
  go_loopw [7] (fun i W => ∃ k : Nat, k ≤ L.length ∧ i = .int .i64 k ∧ Ext (fun _ => False) w W ∧ (who, s) ∉ L.take k) (fun i _ => L.length - (intOf i).toNat)
  case atStart => exact ⟨0, by omega, rfl, Ext.refl _ _, by simp⟩
  case round =>
    obtain ⟨k, hk, rfl, hx, hnot⟩ := hrel
    have c0r := cell_same c0 hx
    have hvr := hv.same hx
    have hxs := hx.size
    have halr : a < wr.heap.size := by omega
    by_cases hkl : k < L.length
    · obtain ⟨g, rfl, hFg, hg⟩ := hp (by rintro rfl; simp at hkl)
      obtain ⟨e0, e1⟩ := hg k _ (List.getElem?_eq_getElem hkl)
      have e0 := cell_same e0 hx
      have e1 := cell_same e1 hx
      have hgl := hlt g hFg
      have hgl' : g < wr.heap.size := by omega
      have hkl' : (k : Int) < (L.length : Int) := by omega
      have hcv := hvr.conv 33 5 9 Try.underlying33 Try.underlying5 Try.underlying9
      have hmem : (who, s) ∈ L.take (k + 1) ↔ L[k] = (who, s) := by
        rw [List.take_succ_eq_append_getElem hkl, List.mem_append]
        simp [hnot, eq_comm]
      have hin : L[k] = (who, s) → (who, s) ∈ L := fun e => e ▸ List.getElem_mem hkl
      generalize L[k] = p at *
      obtain ⟨pw, ps⟩ := p
      simp only at e0 e1
      have HM := Lib.hid (And.intro hmem (And.intro hin hx))
      obtain ⟨vA, vc, rfl, _, _⟩ := id hvr
      clear hmem hin hx hvr hnot hg
      by_cases hw : pw = who
      · have hw' : (pw == who) = true := by simpa using hw
        by_cases hs : ps = s
        · have hs' : (ps == s) = true := by simpa using hs
          have Hws := Lib.hid (And.intro hw hs)
          clear hw hs
          go_wp2_with fail
          refine wp_region_mix (Cls [a, g, blk (.slice vA s.length vc)] _) [] [0, 1, 2, 3, 4, 5, 6, 7, 8, 9, 10, 11, 12, 13, 14, 15, 16, 17, 18, 19, 20, 21, 22] (by kernel_rfl) (by kernel_rfl) (Cls.refl _ _) ?_
          try dsimp only [wpMix, wpSegs, pick, List.getElem?_cons_zero, List.getElem?_cons_succ]
          generalize hz : Act.mk _ _ = z
          repeat (first | (refine wpQuiet_step (fun K hK => ?_); replace hK := Lib.hid hK; subst hz; go_simp; generalize hz : Act.mk _ _ = z; refine hK.out z ?_; clear hK K) | (refine wpQuiet_step (fun K hK => ?_); replace hK := Lib.hid hK; subst hz; refine iteSkip (by kernel_rfl) ?_; go_simp; generalize hz : Act.mk _ _ = z; refine hK.out z ?_; clear hK K))
          refine wpQuiet_nil ?_
          subst hz
          try dsimp only [NoPan]
          go_wp2_with fail
          go_ret
          exact ⟨by rw [decide_eq_true (HM.out.2.1 (by rw [Hws.out.1, Hws.out.2]))]; rfl, HM.out.2.2.drew⟩
        · have hs' : (ps == s) = false := by simpa using hs
          have Hws := Lib.hid hs
          clear hw hs
          go_wp2_with fail
          refine wp_region_mix (Cls [a, g, blk (.slice vA s.length vc)] _) [] [0, 1, 2, 3, 4, 5, 6, 7, 8, 9, 10, 11, 12, 13, 14, 15, 16, 17, 18, 19, 20, 21, 22] (by kernel_rfl) (by kernel_rfl) (Cls.refl _ _) ?_
          try dsimp only [wpMix, wpSegs, pick, List.getElem?_cons_zero, List.getElem?_cons_succ]
          generalize hz : Act.mk _ _ = z
          repeat (first | (refine wpQuiet_step (fun K hK => ?_); replace hK := Lib.hid hK; subst hz; go_simp; generalize hz : Act.mk _ _ = z; refine hK.out z ?_; clear hK K) | (refine wpQuiet_step (fun K hK => ?_); replace hK := Lib.hid hK; subst hz; refine iteSkip (by kernel_rfl) ?_; go_simp; generalize hz : Act.mk _ _ = z; refine hK.out z ?_; clear hK K))
          refine wpQuiet_nil ?_
          subst hz
          try dsimp only [NoPan]
          go_wp2_with fail
          exact ⟨⟨k + 1, by omega, by go_num, HM.out.2.2.drew, fun h => Hws.out (by have := HM.out.1.1 h; simpa using congrArg Prod.snd this)⟩, by simp [intOf]; omega⟩
      · have hw' : (pw == who) = false := by simpa using hw
        have Hws := Lib.hid hw
        clear hw
        go_wp2_with fail
        refine wp_region_mix (Cls [a, g, blk (.slice vA s.length vc)] _) [] [0, 1, 2, 3, 4, 5, 6, 7, 8, 9, 10, 11, 12, 13, 14, 15, 16, 17, 18, 19, 20, 21, 22] (by kernel_rfl) (by kernel_rfl) (Cls.refl _ _) ?_
        try dsimp only [wpMix, wpSegs, pick, List.getElem?_cons_zero, List.getElem?_cons_succ]
        generalize hz : Act.mk _ _ = z
        repeat (first | (refine wpQuiet_step (fun K hK => ?_); replace hK := Lib.hid hK; subst hz; go_simp; generalize hz : Act.mk _ _ = z; refine hK.out z ?_; clear hK K) | (refine wpQuiet_step (fun K hK => ?_); replace hK := Lib.hid hK; subst hz; refine iteSkip (by kernel_rfl) ?_; go_simp; generalize hz : Act.mk _ _ = z; refine hK.out z ?_; clear hK K))
        refine wpQuiet_nil ?_
        subst hz
        try dsimp only [NoPan]
        go_wp2_with fail
        exact ⟨⟨k + 1, by omega, by go_num, HM.out.2.2.drew, fun h => Hws.out (by have := HM.out.1.1 h; simpa using congrArg Prod.fst this)⟩, by simp [intOf]; omega⟩
    · have : k = L.length := by omega
      subst this
      rw [List.take_length] at hnot
      have hkl' : decide ((L.length : Int) < (L.length : Int)) = false := by simp
      have Hx := Lib.hid (And.intro hx hnot)
      clear hx hnot hvr
      go_wp2_with fail
      go_ret
      exact ⟨by rw [decide_eq_false Hx.out.2]; rfl, Hx.out.1⟩

/-- Where a conversion of bytes looks. -/
theorem Byt.convAt {P : Program} {D : Nat → Prop} {w : World} {v : Value} {l : Bs} (h : Byt D w v l) {a : Nat} (ha : a < w.heap.size) (src e dst : TypeId) (hs : P.underlying src = some (.slice e)) (he : P.underlying e = some (.int .u8))
    (hd : P.underlying dst = some .string) : ∃ bb, bb < w.heap.size ∧ (bb = a ∨ D bb) ∧ ∀ W : World, W.heap[bb]? = w.heap[bb]? → (convert src dst v).run P W = .ok (str l) W := by
  by_cases hl : l = []
  · subst hl
    refine ⟨a, ha, .inl rfl, fun W _ => ?_⟩
    obtain ⟨A, c, rfl, hc, h⟩ := h
    exact run_convert_byt (D := D) (w := W) ⟨A, c, rfl, hc, fun hne => absurd rfl hne⟩ src e dst hs he hd
  · have hcv := h.conv src e dst hs he hd
    obtain ⟨A, c, rfl, hc, h⟩ := h
    obtain ⟨ad, rfl, hd, hcell⟩ := h hl
    refine ⟨ad.block, ?_, .inr hd, hcv⟩
    have := World.block_lt_of_cell? _ _ (hcell 0 _ (List.getElem?_eq_getElem (List.length_pos_iff.2 hl)))
    rwa [block_add] at this

theorem info_rpair : (Try.prog.info? 90).map (fun i => (i.zero, i.size, i.bytes)) = some (some (.agg #[.int .i64 0, .string ByteArray.empty]), 2, 24) := by kernel_rfl

set_option maxRecDepth 100000 in
theorem rg_sign {F : Nat → Prop} {w : World} {a : Nat} {L : List (Int × Bs)} (h : RgRep F w a L) (hlen : L.length < 1073741824) (who : Int) {D : Nat → Prop} {v : Value} {s : Bs} (hv : Byt D w v s) (hD : ∀ k, D k → ¬ F k) :
    Calls Try.prog 23 #[.pointer (some ⟨a, 0, none⟩), .int .i64 who, v] w fun e w' => e = .returned (.int .i64 (signE who s)) ∧ RgPost F w a (signL who s L) w' := by
  have hkn := rg_knows h (by omega) who hv
  have stay : ∀ w', Ext (fun _ => False) w w' → signL who s L = L → RgPost F w a (signL who s L) w' := fun w' hx e =>
    ⟨F, by rw [e]; exact h.keep hx fun _ _ => id, hx.mono fun _ _ => False.elim, fun k hk => .inl hk⟩
  have Hst := Lib.hid stay
  have Hkn := Lib.hid hkn
  clear stay hkn
  obtain ⟨vA, vc, rfl, _, _⟩ := id hv
  by_cases h1 : who < 1
  · have h1' : decide (who < 1) = true := by simpa using h1
    have he : signE who s = 1 := by simp [signE, h1]
    rw [he]
    have Hs := Lib.hid (Hst.out _ (Ext.refl _ _) (by rw [signL, if_neg (by rw [he]; decide)]))
    clear h he
    go_enter Try.func23, Try.ntmps23
    go_wp2_with fail
    go_ret
    exact ⟨rfl, Hs.out⟩
  have h1' : decide (who < 1) = false := by simpa using h1
  by_cases h2 : who > 64
  · have h2' : decide (64 < who) = true := by simpa using h2
    have he : signE who s = 1 := by simp [signE, h2]
    rw [he]
    have Hs := Lib.hid (Hst.out _ (Ext.refl _ _) (by rw [signL, if_neg (by rw [he]; decide)]))
    clear h he
    go_enter Try.func23, Try.ntmps23
    go_wp2_with fail
    go_ret
    exact ⟨rfl, Hs.out⟩
  have h2' : decide (64 < who) = false := by simpa using h2
  by_cases h3 : s.length > 65536
  · have h3' : decide ((65536 : Int) < (s.length : Int)) = true := by simp; omega
    have h3'' : decide (65536 < s.length) = true := by simpa using h3
    have he : signE who s = 2 := by simp [signE, h1, h2, h3]
    rw [he]
    have Hs := Lib.hid (Hst.out _ (Ext.refl _ _) (by rw [signL, if_neg (by rw [he]; decide)]))
    clear h he
    go_enter Try.func23, Try.ntmps23
    go_wp2_with fail
    go_ret
    exact ⟨rfl, Hs.out⟩
  have h3' : decide ((65536 : Int) < (s.length : Int)) = false := by simp; omega
  have h3'' : decide (65536 < s.length) = false := by simpa using h3
  have he : signE who s = 0 := by simp [signE, h1, h2, h3]
  rw [he]
  by_cases hin : (who, s) ∈ L
  · have hr : signL who s L = L := by rw [signL, if_pos he, addL, if_pos hin]
    rw [decide_eq_true hin] at Hkn
    have Hs := Lib.hid (fun w' hx => Hst.out w' hx hr)
    clear h he hr hin
    go_enter Try.func23, Try.ntmps23
    go_wp2_with fail
    refine Hkn.out.mono ?_
    rintro e w1 ⟨rfl, hx1⟩
    go_wp2_with fail
    go_ret
    exact ⟨rfl, Hs.out _ hx1⟩
  · have hr : signL who s L = L ++ [(who, s)] := by rw [signL, if_pos he, addL, if_neg hin]
    rw [decide_eq_false hin] at Hkn
    rw [hr]
    clear he hr hin
    obtain ⟨ov, h⟩ := h
    obtain ⟨A, c, rfl, _⟩ := h.pairs
    go_enter Try.func23, Try.ntmps23
    go_wp2_with fail
    refine Hkn.out.mono ?_
    rintro e w1 ⟨rfl, hx1⟩
    have h1 := h.keep hx1 fun _ _ => id
    have c0 : w1.cell? ⟨a, 0, none⟩ = some (.slice A L.length c) := cells_at h1.obj 0
    have hal := lt_of_heap h1.obj
    obtain ⟨bb, hbb, hbD, hcv⟩ := (hv.same hx1).convAt hal 33 5 9 Try.underlying33 Try.underlying5 Try.underlying9
    have H1 := Lib.hid h1
    have Hx1 := Lib.hid hx1
    clear h h1 hv hx1
    go_wp2_with fail
    refine wp_region_bar (Cls [a, bb] _) [([0, 1, 2, 3, 4, 5, 6, 7, 8], 9), ([], 10)] [11, 12] 13 [] [] (by kernel_rfl) (by kernel_rfl) (Cls.refl _ _) ?_
    try dsimp only [wpMix, wpSegs, pick, List.getElem?_cons_zero, List.getElem?_cons_succ]
    generalize hz : Act.mk _ _ = z
    repeat (first | (refine wpQuiet_step (fun K hK => ?_); replace hK := Lib.hid hK; subst hz; go_simp; generalize hz : Act.mk _ _ = z; refine hK.out z ?_; clear hK K) | (refine wpQuiet_step (fun K hK => ?_); replace hK := Lib.hid hK; subst hz; refine iteSkip (by kernel_rfl) ?_; go_simp; generalize hz : Act.mk _ _ = z; refine hK.out z ?_; clear hK K))
    refine wpQuiet_nil ?_
    subst hz
    try dsimp only [NoPan]
    go_wp2_with fail
    have hxa : Ext (fun _ => False) w1.drew (w1.alloc (Obj.cells #[Value.int IntKind.i64 who, str s] 90)).drew := (Ext.refl _ _).alloc _
    have hxb : Ext (fun _ => False) w1 (w1.alloc (Obj.cells #[Value.int IntKind.i64 who, str s] 90)).drew := ((Ext.refl _ _).alloc _).drew
    refine ⟨(Cls.refl _ _).old hxa (by simp; exact ⟨hal, hbb⟩), ?_⟩
    try dsimp only [wpMix, wpSegs, pick, List.getElem?_cons_zero, List.getElem?_cons_succ]
    generalize hz : Act.mk _ _ = z
    repeat (first | (refine wpQuiet_step (fun K hK => ?_); replace hK := Lib.hid hK; subst hz; go_simp; generalize hz : Act.mk _ _ = z; refine hK.out z ?_; clear hK K) | (refine wpQuiet_step (fun K hK => ?_); replace hK := Lib.hid hK; subst hz; refine iteSkip (by kernel_rfl) ?_; go_simp; generalize hz : Act.mk _ _ = z; refine hK.out z ?_; clear hK K))
    refine wpQuiet_nil ?_
    subst hz
    try dsimp only [NoPan]
    have ho3 := own_ext H1.out.order hxb fun _ _ => id
    refine wpList_append_lit rfl _ _ 59 rfl Try.underlying59 info_rpair rfl (by decide) (v := .slice A L.length c) rfl ho3 (Nat.zero_le _) rfl (heap_alloc_self _ _) rfl (by simp [Value.oneCell']) (by decide) (by omega) (by omega) ?_
    intro g2 c2 W2 ho4 hx4 hg2 hl2
    apply wpList_nil
    simp only [Exit.then]
    have h1 := H1.out
    have hob : ∀ k, (Value.slice A L.length c).ownBlock = some k → k ≠ a ∧ k ≠ bb ∧ k < w1.heap.size := by
      intro k hk
      have hka : k ≠ a := fun e => h1.va (e ▸ hk)
      refine ⟨hka, fun e => ?_, own_below h1.order k hk⟩
      rcases hbD with hb | hb
      · exact hka (e.trans hb)
      · exact hD bb hb (e ▸ h1.fo k hk)
    refine ⟨((Cls.refl _ _).old (w := w1.drew) hxa (by simp; exact ⟨hal, hbb⟩)).step hx4 (by simp; exact ⟨⟨by omega, fun e => (hob _ e).1 rfl⟩, ⟨by omega, fun e => (hob _ e).2.1 rfl⟩⟩), ?_⟩
    have hx24 : Ext (fun k => (Value.slice A L.length c).ownBlock = some k) w1 W2 := (hxb.mono fun _ _ => False.elim).trans hx4
    have hao2 : W2.heap[a]? = _ := hx24.heap h1.obj fun e => (hob _ e).1 rfl
    have d2 : W2.cell? ⟨a, 0, none⟩ = some (.slice A L.length c) := cells_at hao2 0
    have d2f : W2.frozen? ⟨a, 0, none⟩ = false := by simp [World.frozen?, hao2]
    have hal2 := lt_of_heap hao2
    have hfin : RgPost F w a (L ++ [(who, s)]) (W2.setCell ⟨a, 0, none⟩ (.slice (some ⟨g2, 0, none⟩) (L.length + 1) c2)) := by
      have hxs : Ext (· = a) W2 (W2.setCell ⟨a, 0, none⟩ (.slice (some ⟨g2, 0, none⟩) (L.length + 1) c2)) := (Ext.refl (· = a) _).setCell (a := ⟨a, 0, none⟩) (.inl rfl) _
      have hg2' : (Value.slice A L.length c).ownBlock = some g2 ∨ g2 = w1.heap.size + 1 := by simpa using hg2
      have hg2a : g2 ≠ a := by
        rcases hg2' with e | e
        · exact (hob g2 e).1
        · omega
      have hxall : Ext F w (W2.setCell ⟨a, 0, none⟩ (.slice (some ⟨g2, 0, none⟩) (L.length + 1) c2)) :=
        ((Hx1.out.mono fun _ _ => False.elim).trans (hx24.mono fun b _ e => h1.fo b e)).trans' hxs fun b hb => .inl (by rw [hb]; exact h1.fa)
      refine ⟨fun k => F k ∨ k = g2, ⟨.slice (some ⟨g2, 0, none⟩) (L.length + 1) c2, ?_⟩, hxall, fun k hk => ?_⟩
      · exact { obj := by rw [heap_setCell_self hao2]; rfl
                order := by
                  have := own_ext ho4 hxs fun k hk e => by simp [Value.ownBlock] at hk; exact hg2a (hk.trans e)
                  rw [List.length_append, List.flatMap_append]
                  simpa [prC] using this
                fa := .inl h1.fa, fo := fun k hk => by simp [Value.ownBlock] at hk; exact .inr hk.symm
                lt := fun k hk => by
                  have : (W2.setCell ⟨a, 0, none⟩ (.slice (some ⟨g2, 0, none⟩) (L.length + 1) c2)).heap.size = W2.heap.size := by simp
                  rw [this]
                  rcases hk with hk | hk
                  · exact Nat.lt_of_lt_of_le (h1.lt k hk) hx24.size
                  · rw [hk]; exact hl2 }
      · rcases hk with hk | hk
        · exact .inl hk
        · rcases hg2' with e | e
          · exact .inl (hk ▸ h1.fo g2 e)
          · have := Hx1.out.size; exact .inr (by omega)
    have HF := Lib.hid hfin
    clear hg2 hx4 hxa hxb ho3 hob hao2 hx24 h1 hfin c0
    try dsimp only [wpMix, wpSegs, pick, List.getElem?_cons_zero, List.getElem?_cons_succ]
    generalize hz : Act.mk _ _ = z
    repeat (first | (refine wpQuiet_step (fun K hK => ?_); replace hK := Lib.hid hK; subst hz; go_simp; generalize hz : Act.mk _ _ = z; refine hK.out z ?_; clear hK K) | (refine wpQuiet_step (fun K hK => ?_); replace hK := Lib.hid hK; subst hz; refine iteSkip (by kernel_rfl) ?_; go_simp; generalize hz : Act.mk _ _ = z; refine hK.out z ?_; clear hK K))
    refine wpQuiet_nil ?_
    subst hz
    try dsimp only [NoPan]
    go_wp2_with fail
    try dsimp only [wpMix, wpSegs, pick, List.getElem?_cons_zero, List.getElem?_cons_succ]
    generalize hz : Act.mk _ _ = z
    repeat (first | (refine wpQuiet_step (fun K hK => ?_); replace hK := Lib.hid hK; subst hz; go_simp; generalize hz : Act.mk _ _ = z; refine hK.out z ?_; clear hK K) | (refine wpQuiet_step (fun K hK => ?_); replace hK := Lib.hid hK; subst hz; refine iteSkip (by kernel_rfl) ?_; go_simp; generalize hz : Act.mk _ _ = z; refine hK.out z ?_; clear hK K))
    refine wpQuiet_nil ?_
    subst hz
    try dsimp only [NoPan]
    go_wp2_with fail
    go_ret
    exact ⟨rfl, HF.out⟩
end Go.Proofs.Ytcedpdjjjfdbiaa
