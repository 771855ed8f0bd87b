/- The document's client; no condition. -/
import Derived.Test.YtcedpdjjjfdbiaaCliRes2
import Derived.Test.YtcedpdjjjfdbiaaRefReg2
namespace Go.Proofs.Ytcedpdjjjfdbiaa
set_option linter.unusedVariables false
set_option linter.unusedSimpArgs false
open Go.RowKit

def dcliO (r : Nat) (n id st : Int) : Obj := .cells #[.pointer (some ⟨r, 0, none⟩), .int .i64 n, .int .i64 id, .int .i64 st] 58 (0, 0)
theorem dcli_new (w : World) (r : Nat) (n id : Int) : Calls Try.prog 19 #[.pointer (some ⟨r, 0, none⟩), .int .i64 n, .int .i64 id] w fun e w' => Ext (fun _ => False) w w' ∧
    ((newOk n id ∧ e = .returned (.tuple #[.pointer (some ⟨w.heap.size, 0, none⟩), .int .i64 0]) ∧ w'.heap[w.heap.size]? = some (dcliO r n id 0)) ∨
    (¬ newOk n id ∧ e = .returned (.tuple #[.pointer none, .int .i64 1]))) := by
  have HM := Lib.hid (ref_most n w)
  have hm := most_zero n
  by_cases h1 : okN n
  case neg =>
    have h1' : (mostQ n == 0) = true := by rw [hm]; simpa using h1
    clear hm
    generalize mostQ n = q at *
    go_enter Try.func19, Try.ntmps19
    go_wp2_with fail
    refine HM.out.mono ?_
    rintro e _ ⟨rfl, rfl⟩
    go_wp2_with fail
    refine bodyPost_ret (results_tmp2 rfl _ _ _) rfl ?_
    exact ⟨Ext.refl _ _, .inr ⟨fun h => h1 h.1, rfl⟩⟩
  have h1' : (mostQ n == 0) = false := by rw [hm]; simpa using h1
  clear hm
  generalize mostQ n = q at *
  by_cases h2 : 1 ≤ id
  case neg =>
    have h2' : decide (id < 1) = true := by simp; omega
    go_enter Try.func19, Try.ntmps19
    go_wp2_with fail
    refine HM.out.mono ?_
    rintro e _ ⟨rfl, rfl⟩
    go_wp2_with fail
    refine bodyPost_ret (results_tmp2 rfl _ _ _) rfl ?_
    exact ⟨Ext.refl _ _, .inr ⟨fun h => by have := h.2.1; omega, rfl⟩⟩
  have h2' : decide (id < 1) = false := by simp; omega
  by_cases h3 : id ≤ 8
  case neg =>
    have h3' : decide (8 < id) = true := by simp; omega
    go_enter Try.func19, Try.ntmps19
    go_wp2_with fail
    refine HM.out.mono ?_
    rintro e _ ⟨rfl, rfl⟩
    go_wp2_with fail
    refine bodyPost_ret (results_tmp2 rfl _ _ _) rfl ?_
    exact ⟨Ext.refl _ _, .inr ⟨fun h => by have := h.2.2; omega, rfl⟩⟩
  have h3' : decide (8 < id) = false := by simp; omega
  go_enter Try.func19, Try.ntmps19
  go_wp2_with fail
  refine HM.out.mono ?_
  rintro e _ ⟨rfl, rfl⟩
  go_wp2_with fail
  refine bodyPost_ret (results_tmp2 rfl _ _ _) rfl ?_
  exact ⟨(Ext.refl _ _).alloc _, .inl ⟨⟨h1, h2, h3⟩, rfl, heap_alloc_self _ _⟩⟩
/-- The document's client and its registry. -/
structure DCt (F : Nat → Prop) (w : World) (a r : Nat) (n id : Int) (st : Nat) (L : List (Int × Bs)) : Prop where
  reg : RgRep F w r L
  obj : w.heap[a]? = some (dcliO r n id st)
  out : ¬ F a
theorem DCt.ext {F : Nat → Prop} {w w' : World} {a r : Nat} {n id : Int} {st : Nat} {L : List (Int × Bs)} (h : DCt F w a r n id st L) (hx : Ext (fun _ => False) w w') : DCt F w' a r n id st L :=
  ⟨h.reg.keep hx fun _ _ => _root_.id, hx.heap h.obj _root_.id, h.out⟩
def DAskedPost (F : Nat → Prop) (w : World) (a r : Nat) (n id : Int) (st : Nat) (L : List (Int × Bs)) (txt : Bs) (e : Ending) (w' : World) : Prop :=
  if rightQ id (st + 1) txt = true then
    ∃ F' v', e = .returned (.tuple #[v', .int .i64 0]) ∧ DCt F' w' a r n id (st + 1) (signL (16 + id) (askB id (st + 1) txt) L) ∧ Ext (fun k => F k ∨ k = a) w w' ∧ (∀ k, F' k → F k ∨ w.heap.size ≤ k) ∧ OwnB w' v' (askB id (st + 1) txt) ∧ ∀ k, v'.ownBlock = some k → w.heap.size ≤ k ∧ ¬ F' k
  else e = .returned (.tuple #[.slice none 0 0, .int .i64 1]) ∧ Ext (fun _ => False) w w'
set_option maxRecDepth 100000 in
set_option maxHeartbeats 1000000 in
theorem dcli_ask {F : Nat → Prop} {w : World} {a r : Nat} {n id : Int} {st : Nat} {L : List (Int × Bs)} (h : DCt F w a r n id st L) (txt : Bs) (hst : st < 1099511627776) (hid : 1 ≤ id ∧ id ≤ 8) (hlen : L.length < 1073741823) :
    Calls Try.prog 21 #[.pointer (some ⟨a, 0, none⟩), str txt] w (DAskedPost F w a r n id st L txt) := by
  have c0 : w.cell? ⟨a, 0, none⟩ = some (.pointer (some ⟨r, 0, none⟩)) := cells_at h.obj 0
  have c2 : w.cell? ⟨a, 2, none⟩ = some (.int .i64 id) := cells_at h.obj 2
  have c3 : w.cell? ⟨a, 3, none⟩ = some (.int .i64 st) := cells_at h.obj 3
  have hal := lt_of_heap h.obj
  have H := Lib.hid h
  have HT := fun w => Lib.hid (dtext_walk (w := w) id (st + 1) txt)
  have HR := fun w => Lib.hid (dright_walk (w := w) id (st + 1) txt)
  clear h
  unfold DAskedPost
  cases hq : rightQ id (st + 1) txt with
  | false =>
    rw [hq] at HT HR
    go_enter Try.func21, Try.ntmps21
    go_wp2_with fail
    refine wp_region_bar (Cls [a] _) [([0, 1, 2, 3, 4, 5, 6, 7, 8, 9, 10], 11)] [] 12 [] [] (by kernel_rfl) (by kernel_rfl) (Cls.refl _ _) ?_
    try dsimp only [wpMix, wpSegs, pick, List.getElem?_cons_zero, List.getElem?_cons_succ]
    generalize hz : Act.mk _ _ = z
    repeat (first | (refine wpQuiet_step (fun K hK => ?_); replace hK := Lib.hid hK; subst hz; go_simp; generalize hz : Act.mk _ _ = z; refine hK.out z ?_; clear hK K) | (refine wpQuiet_step (fun K hK => ?_); replace hK := Lib.hid hK; subst hz; refine iteSkip (by kernel_rfl) ?_; go_simp; generalize hz : Act.mk _ _ = z; refine hK.out z ?_; clear hK K))
    refine wpQuiet_nil ?_
    subst hz
    try dsimp only [NoPan]
    go_wp2_with fail
    refine ⟨Cls.of_ext ((Ext.refl (fun _ => False) w.drew).alloc _) fun b hb => ⟨by simp at hb; subst hb; exact hal, _root_.id⟩, ?_⟩
    try dsimp only [wpMix, wpSegs, pick, List.getElem?_cons_zero, List.getElem?_cons_succ]
    generalize hz : Act.mk _ _ = z
    repeat (first | (refine wpQuiet_step (fun K hK => ?_); replace hK := Lib.hid hK; subst hz; go_simp; generalize hz : Act.mk _ _ = z; refine hK.out z ?_; clear hK K) | (refine wpQuiet_step (fun K hK => ?_); replace hK := Lib.hid hK; subst hz; refine iteSkip (by kernel_rfl) ?_; go_simp; generalize hz : Act.mk _ _ = z; refine hK.out z ?_; clear hK K))
    refine wpQuiet_nil ?_
    subst hz
    try dsimp only [NoPan]
    go_wp2_with fail
    try dsimp only [wpMix, wpSegs, pick, List.getElem?_cons_zero, List.getElem?_cons_succ]
    generalize hz : Act.mk _ _ = z
    repeat (first | (refine wpQuiet_step (fun K hK => ?_); replace hK := Lib.hid hK; subst hz; go_simp; generalize hz : Act.mk _ _ = z; refine hK.out z ?_; clear hK K) | (refine wpQuiet_step (fun K hK => ?_); replace hK := Lib.hid hK; subst hz; refine iteSkip (by kernel_rfl) ?_; go_simp; generalize hz : Act.mk _ _ = z; refine hK.out z ?_; clear hK K))
    refine wpQuiet_nil ?_
    subst hz
    try dsimp only [NoPan]
    go_wp2_with fail
    have hx1 : Ext (fun _ => False) w (w.alloc (Obj.cells #[.int .i64 id, .int .i64 ((st : Int) + 1), str txt] 65)).drew := ((Ext.refl _ _).alloc _).drew
    have ho1 : (w.alloc (Obj.cells #[.int .i64 id, .int .i64 ((st : Int) + 1), str txt] 65)).drew.heap[w.heap.size]? = _ := heap_alloc_self w _
    generalize (w.alloc (Obj.cells #[.int .i64 id, .int .i64 ((st : Int) + 1), str txt] 65)).drew = W1 at *
    refine (HR _).out.mono ?_
    rintro e w2 ⟨rfl, hx2⟩
    have H2 := Lib.hid (hx1.trans hx2)
    clear hx1 ho1 hx2
    go_wp2_with fail
    refine bodyPost_ret (results_tmp2 rfl _ _ _) rfl ?_
    exact ⟨rfl, H2.out⟩
  | true =>
    rw [hq] at HT HR
    have hst' : decide ((1099511627776 : Int) ≤ (st : Int)) = false := by simp; omega
    have hstn : decide (1099511627776 ≤ st) = false := by simp; omega
    go_enter Try.func21, Try.ntmps21
    go_wp2_with fail
    refine wp_region_bar (Cls [a] _) [([0, 1, 2, 3, 4, 5, 6, 7, 8, 9, 10], 11)] [] 12 [] [] (by kernel_rfl) (by kernel_rfl) (Cls.refl _ _) ?_
    try dsimp only [wpMix, wpSegs, pick, List.getElem?_cons_zero, List.getElem?_cons_succ]
    generalize hz : Act.mk _ _ = z
    repeat (first | (refine wpQuiet_step (fun K hK => ?_); replace hK := Lib.hid hK; subst hz; go_simp; generalize hz : Act.mk _ _ = z; refine hK.out z ?_; clear hK K) | (refine wpQuiet_step (fun K hK => ?_); replace hK := Lib.hid hK; subst hz; refine iteSkip (by kernel_rfl) ?_; go_simp; generalize hz : Act.mk _ _ = z; refine hK.out z ?_; clear hK K))
    refine wpQuiet_nil ?_
    subst hz
    try dsimp only [NoPan]
    go_wp2_with fail
    refine ⟨Cls.of_ext ((Ext.refl (fun _ => False) w.drew).alloc _) fun b hb => ⟨by simp at hb; subst hb; exact hal, _root_.id⟩, ?_⟩
    try dsimp only [wpMix, wpSegs, pick, List.getElem?_cons_zero, List.getElem?_cons_succ]
    generalize hz : Act.mk _ _ = z
    repeat (first | (refine wpQuiet_step (fun K hK => ?_); replace hK := Lib.hid hK; subst hz; go_simp; generalize hz : Act.mk _ _ = z; refine hK.out z ?_; clear hK K) | (refine wpQuiet_step (fun K hK => ?_); replace hK := Lib.hid hK; subst hz; refine iteSkip (by kernel_rfl) ?_; go_simp; generalize hz : Act.mk _ _ = z; refine hK.out z ?_; clear hK K))
    refine wpQuiet_nil ?_
    subst hz
    try dsimp only [NoPan]
    go_wp2_with fail
    try dsimp only [wpMix, wpSegs, pick, List.getElem?_cons_zero, List.getElem?_cons_succ]
    generalize hz : Act.mk _ _ = z
    repeat (first | (refine wpQuiet_step (fun K hK => ?_); replace hK := Lib.hid hK; subst hz; go_simp; generalize hz : Act.mk _ _ = z; refine hK.out z ?_; clear hK K) | (refine wpQuiet_step (fun K hK => ?_); replace hK := Lib.hid hK; subst hz; refine iteSkip (by kernel_rfl) ?_; go_simp; generalize hz : Act.mk _ _ = z; refine hK.out z ?_; clear hK K))
    refine wpQuiet_nil ?_
    subst hz
    try dsimp only [NoPan]
    go_wp2_with fail
    have hx1 : Ext (fun _ => False) w (w.alloc (Obj.cells #[.int .i64 id, .int .i64 ((st : Int) + 1), str txt] 65)).drew := ((Ext.refl _ _).alloc _).drew
    have ho1 : (w.alloc (Obj.cells #[.int .i64 id, .int .i64 ((st : Int) + 1), str txt] 65)).drew.heap[w.heap.size]? = _ := heap_alloc_self w _
    generalize (w.alloc (Obj.cells #[.int .i64 id, .int .i64 ((st : Int) + 1), str txt] 65)).drew = W1 at *
    refine (HR _).out.mono ?_
    rintro e w2 ⟨rfl, hx2⟩
    have ho2 := hx2.heap ho1 _root_.id
    have q0 : w2.cell? ⟨w.heap.size, 0, none⟩ = some (.int .i64 id) := cells_at ho2 0
    have q1 : w2.cell? ⟨w.heap.size, 1, none⟩ = some (.int .i64 ((st : Int) + 1)) := cells_at ho2 1
    have q2 : w2.cell? ⟨w.heap.size, 2, none⟩ = some (str txt) := cells_at ho2 2
    have e3 : w2.cell? ⟨a, 3, none⟩ = some (.int .i64 st) := cell_same c3 (hx1.trans hx2)
    have H2 := Lib.hid (hx1.trans hx2)
    clear hx1 ho1 hx2 ho2 c0 c2 c3
    go_wp2_with fail
    refine (HT _).out.mono ?_
    rintro e w3 ⟨v, rfl, h3⟩
    obtain ⟨A1, c1, hf1, _, _⟩ := h3.own.formP
    subst hf1
    have hC := H.out.ext (H2.out.trans h3.ext)
    have e0 : w3.cell? ⟨a, 0, none⟩ = some (.pointer (some ⟨r, 0, none⟩)) := cells_at hC.obj 0
    have e2 : w3.cell? ⟨a, 2, none⟩ = some (.int .i64 id) := cells_at hC.obj 2
    have hal3 := lt_of_heap hC.obj
    have hs02 := H2.out.size
    have hnv : ∀ k, (Value.slice A1 (askB id (st + 1) txt).length c1).ownBlock = some k → w.heap.size ≤ k ∧ k < w3.heap.size := fun k hk => ⟨by have := h3.new k hk; omega, h3.own.lt k hk⟩
    have hlt := H.out.reg.lt
    have hnf : ∀ k, (Value.slice A1 (askB id (st + 1) txt).length c1).ownBlock = some k → ¬ F k := fun k hk hf => by
      have := (hnv k hk).1
      have := hlt k hf
      omega
    have HS := Lib.hid (rg_sign (hC.reg.keep ((Ext.refl (fun _ => False) w3).drew) fun _ _ => _root_.id) (by omega) (16 + id) (h3.own.ext ((Ext.refl (fun _ => False) w3).drew) fun _ _ => _root_.id).byt hnf)
    have H3 := Lib.hid (And.intro h3 hC)
    clear h3 hC q0 q1 q2 e3
    go_wp2_with fail
    refine wp_region_bar (Cls [a] _) [] [0, 1, 2, 3, 4, 5, 6, 7, 8, 9] 10 [] [] (by kernel_rfl) (by kernel_rfl) (Cls.refl _ _) ?_
    try dsimp only [wpMix, wpSegs, pick, List.getElem?_cons_zero, List.getElem?_cons_succ]
    generalize hz : Act.mk _ _ = z
    repeat (first | (refine wpQuiet_step (fun K hK => ?_); replace hK := Lib.hid hK; subst hz; go_simp; generalize hz : Act.mk _ _ = z; refine hK.out z ?_; clear hK K) | (refine wpQuiet_step (fun K hK => ?_); replace hK := Lib.hid hK; subst hz; refine iteSkip (by kernel_rfl) ?_; go_simp; generalize hz : Act.mk _ _ = z; refine hK.out z ?_; clear hK K))
    refine wpQuiet_nil ?_
    subst hz
    try dsimp only [NoPan]
    go_wp2_with fail
    refine HS.out.mono ?_
    rintro e w4 ⟨rfl, F4, hR4, hx4, hn4⟩
    have hx34 := (Ext.refl F w3).drew.trans hx4
    have ho4 := hx34.heap H3.out.2.obj H.out.out
    have g3 : w4.cell? ⟨a, 3, none⟩ = some (.int .i64 st) := cells_at ho4 3
    have f3 : w4.frozen? ⟨a, 3, none⟩ = false := by simp [World.frozen?, ho4, dcliO]
    have H4 := Lib.hid (And.intro hR4 (And.intro hx34 (And.intro hn4 ho4)))
    clear hR4 hx4 hn4 hx34 ho4
    go_wp2_with fail
    try dsimp only [wpMix, wpSegs, pick, List.getElem?_cons_zero, List.getElem?_cons_succ]
    generalize hz : Act.mk _ _ = z
    repeat (first | (refine wpQuiet_step (fun K hK => ?_); replace hK := Lib.hid hK; subst hz; go_simp; generalize hz : Act.mk _ _ = z; refine hK.out z ?_; clear hK K) | (refine wpQuiet_step (fun K hK => ?_); replace hK := Lib.hid hK; subst hz; refine iteSkip (by kernel_rfl) ?_; go_simp; generalize hz : Act.mk _ _ = z; refine hK.out z ?_; clear hK K))
    refine wpQuiet_nil ?_
    subst hz
    try dsimp only [NoPan]
    go_wp2_with fail
    refine bodyPost_ret (results_tmp2 rfl _ _ _) rfl ?_
    have hx02 := H2.out.trans H3.out.1.ext
    have hs23 := H3.out.1.ext.size
    have hs34 := H4.out.2.1.size
    have hx5 : Ext (· = a) w4 (w4.setCell ⟨a, 3, none⟩ (.int .i64 ((st : Int) + 1))) := (Ext.refl (· = a) w4).setCell (a := ⟨a, 3, none⟩) (.inl rfl) _
    have hna4 : ¬ F4 a := fun hf => by
      rcases H4.out.2.2.1 a hf with h | h
      · exact H.out.out h
      · have : w3.heap.size ≤ a := h
        omega
    refine ⟨F4, _, rfl, ⟨H4.out.1.keep hx5 fun k hk e => hna4 (e ▸ hk), ?_, hna4⟩, ?_, ?_, (H3.out.1.own.ext H4.out.2.1 hnf).ext hx5 (fun k hk e => by have := (hnv k hk).1; omega), fun k hk => ⟨(hnv k hk).1, fun hf => ?_⟩⟩
    · rw [heap_setCell_self H4.out.2.2.2]
      simp
      rfl
    · exact ((hx02.mono fun _ _ => False.elim).trans (H4.out.2.1.mono fun _ _ h => .inl h)).trans (hx5.mono fun _ _ h => .inr h)
    · intro k hk
      rcases H4.out.2.2.1 k hk with h | h
      · exact .inl h
      · have : w3.heap.size ≤ k := h
        exact .inr (by omega)
    · rcases H4.out.2.2.1 k hf with h | h
      · exact hnf k hk h
      · have : w3.heap.size ≤ k := h
        have := (hnv k hk).2
        omega
end Go.Proofs.Ytcedpdjjjfdbiaa
