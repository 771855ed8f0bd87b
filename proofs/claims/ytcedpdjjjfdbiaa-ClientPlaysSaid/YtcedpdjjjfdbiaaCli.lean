/- A client: new, asking, its stamp, what it reads; no condition. -/
import Derived.Test.YtcedpdjjjfdbiaaCliText
import Derived.Test.YtcedpdjjjfdbiaaReg3
import Derived.Test.YtcedpdjjjfdbiaaAgree
namespace Go.Proofs.Ytcedpdjjjfdbiaa
set_option linter.unusedVariables false
set_option linter.unusedSimpArgs false
open Go.RowKit

theorem equal_walk {w : World} {D D' : Nat → Prop} {v v' : Value} {l l' : Bs} (h : Byt D w v l) (h' : Byt D' w v' l') : Calls Try.prog 48 #[v, v'] w fun e w' => e = .returned (.bool (decide (l = l'))) ∧ w = w' := by
  have hc := h.conv 33 5 9 Try.underlying33 Try.underlying5 Try.underlying9 w rfl
  have hc' := h'.conv 33 5 9 Try.underlying33 Try.underlying5 Try.underlying9 w rfl
  have he := str_eq l l'
  clear h h'
  go_enter Try.func48, Try.ntmps48
  go_wp2_with fail
  go_ret
  refine ⟨?_, rfl⟩
  show Ending.returned (.bool (l == l')) = _
  rw [show (l == l') = decide (l = l') from by rw [Bool.eq_iff_iff]; simp]

def cliO (r : Nat) (n id st : Int) : Obj := .cells #[.pointer (some ⟨r, 0, none⟩), .int .i64 n, .int .i64 id, .int .i64 st] 75 (0, 0)
theorem most_zero (n : Int) : (mostQ n == 0) = decide (¬ okN n) := by
  unfold mostQ
  by_cases h : okN n
  · rw [if_pos h]
    have : 4 ≤ n := h.1
    simp [h]
    omega
  · rw [if_neg h]
    simp [h]
def newOk (n id : Int) : Prop := okN n ∧ 1 ≤ id ∧ id ≤ 8
instance (n id : Int) : Decidable (newOk n id) := by unfold newOk; exact inferInstance
theorem cli_new (w : World) (r : Nat) (n id : Int) : Calls Try.prog 10 #[.pointer (some ⟨r, 0, none⟩), .int .i64 n, .int .i64 id] w fun e w' => Ext (fun _ => False) w w' ∧
    ((newOk n id ∧ e = .returned (.tuple #[.pointer (some ⟨w.heap.size, 0, none⟩), .int .i64 0]) ∧ w'.heap[w.heap.size]? = some (cliO r n id 0)) ∨
    (¬ newOk n id ∧ e = .returned (.tuple #[.pointer none, .int .i64 1]))) := by
  have HM := Lib.hid (quo_most n w)
  have hm := most_zero n
  by_cases h1 : okN n
  case neg =>
    have h1' : (mostQ n == 0) = true := by rw [hm]; simpa using h1
    clear hm
    generalize mostQ n = q at *
    go_enter Try.func10, Try.ntmps10
    go_wp2_with fail
    refine HM.out.mono ?_
    rintro e _ ⟨rfl, rfl⟩
    go_wp2_with fail
    refine bodyPost_ret (results_tmp2 rfl _ _ _) rfl ?_
    exact ⟨Ext.refl _ _, .inr ⟨fun h => h1 h.1, rfl⟩⟩
  have h1' : (mostQ n == 0) = false := by rw [hm]; simpa using h1
  clear hm
  generalize mostQ n = q at *
  by_cases h2 : 1 ≤ id
  case neg =>
    have h2' : decide (id < 1) = true := by simp; omega
    go_enter Try.func10, Try.ntmps10
    go_wp2_with fail
    refine HM.out.mono ?_
    rintro e _ ⟨rfl, rfl⟩
    go_wp2_with fail
    refine bodyPost_ret (results_tmp2 rfl _ _ _) rfl ?_
    exact ⟨Ext.refl _ _, .inr ⟨fun h => by have := h.2.1; omega, rfl⟩⟩
  have h2' : decide (id < 1) = false := by simp; omega
  by_cases h3 : id ≤ 8
  case neg =>
    have h3' : decide (8 < id) = true := by simp; omega
    go_enter Try.func10, Try.ntmps10
    go_wp2_with fail
    refine HM.out.mono ?_
    rintro e _ ⟨rfl, rfl⟩
    go_wp2_with fail
    refine bodyPost_ret (results_tmp2 rfl _ _ _) rfl ?_
    exact ⟨Ext.refl _ _, .inr ⟨fun h => by have := h.2.2; omega, rfl⟩⟩
  have h3' : decide (8 < id) = false := by simp; omega
  go_enter Try.func10, Try.ntmps10
  go_wp2_with fail
  refine HM.out.mono ?_
  rintro e _ ⟨rfl, rfl⟩
  go_wp2_with fail
  refine bodyPost_ret (results_tmp2 rfl _ _ _) rfl ?_
  exact ⟨(Ext.refl _ _).alloc _, .inl ⟨⟨h1, h2, h3⟩, rfl, heap_alloc_self _ _⟩⟩
theorem cli_stamp {w : World} {a r : Nat} {n id st : Int} (h : w.heap[a]? = some (cliO r n id st)) : Calls Try.prog 25 #[.pointer (some ⟨a, 0, none⟩)] w fun e w' => e = .returned (.int .i64 st) ∧ w = w' := by
  have c3 : w.cell? ⟨a, 3, none⟩ = some (.int .i64 st) := cells_at h 3
  clear h
  go_enter Try.func25, Try.ntmps25
  go_wp2_with fail
  go_ret
  exact ⟨rfl, rfl⟩
/-- A client and its registry. -/
structure CAt (F : Nat → Prop) (w : World) (a r : Nat) (n id : Int) (st : Nat) (L : List (Int × Bs)) : Prop where
  reg : RegRep F w r L
  obj : w.heap[a]? = some (cliO r n id st)
  out : ¬ F a
theorem CAt.ext {F : Nat → Prop} {w w' : World} {a r : Nat} {n id : Int} {st : Nat} {L : List (Int × Bs)} (h : CAt F w a r n id st L) (hx : Ext (fun _ => False) w w') : CAt F w' a r n id st L :=
  ⟨h.reg.keep hx fun _ _ => _root_.id, hx.heap h.obj _root_.id, h.out⟩
def AskedPost (F : Nat → Prop) (w : World) (a r : Nat) (n id : Int) (st : Nat) (L : List (Int × Bs)) (txt : Bs) (e : Ending) (w' : World) : Prop :=
  if rightQ id (st + 1) txt = true then
    ∃ F' v', e = .returned (.tuple #[v', .int .i64 0]) ∧ CAt F' w' a r n id (st + 1) (signL (16 + id) (askB id (st + 1) txt) L) ∧ Ext (fun k => F k ∨ k = a) w w' ∧ (∀ k, F' k → F k ∨ w.heap.size ≤ k) ∧ OwnB w' v' (askB id (st + 1) txt) ∧ ∀ k, v'.ownBlock = some k → w.heap.size ≤ k ∧ ¬ F' k
  else e = .returned (.tuple #[.slice none 0 0, .int .i64 1]) ∧ Ext (fun _ => False) w w'
set_option maxRecDepth 100000 in
set_option maxHeartbeats 1000000 in
theorem cli_ask {F : Nat → Prop} {w : World} {a r : Nat} {n id : Int} {st : Nat} {L : List (Int × Bs)} (h : CAt F w a r n id st L) (txt : Bs) (hst : st ≤ 1099511627776) (hid : 1 ≤ id ∧ id ≤ 8) (hlen : L.length < 1073741823) :
    Calls Try.prog 20 #[.pointer (some ⟨a, 0, none⟩), str txt] w (AskedPost F w a r n id st L txt) := by
  have c0 : w.cell? ⟨a, 0, none⟩ = some (.pointer (some ⟨r, 0, none⟩)) := cells_at h.obj 0
  have c2 : w.cell? ⟨a, 2, none⟩ = some (.int .i64 id) := cells_at h.obj 2
  have c3 : w.cell? ⟨a, 3, none⟩ = some (.int .i64 st) := cells_at h.obj 3
  have hal := lt_of_heap h.obj
  have H := Lib.hid h
  have HT := fun w => Lib.hid (text_walk (w := w) id (st + 1) txt)
  clear h
  unfold AskedPost
  cases hq : rightQ id (st + 1) txt with
  | false =>
    rw [hq] at HT
    go_enter Try.func20, Try.ntmps20
    go_wp2_with fail
    refine wp_region_bar (Cls [a] _) [] [0, 1, 2, 3, 4, 5, 6, 7, 8, 9, 10] 11 [] [12, 13, 14, 15, 16] (by kernel_rfl) (by kernel_rfl) (Cls.refl _ _) ?_
    try dsimp only [wpMix, wpSegs, pick, List.getElem?_cons_zero, List.getElem?_cons_succ]
    generalize hz : Act.mk _ _ = z
    repeat (first | (refine wpQuiet_step (fun K hK => ?_); replace hK := Lib.hid hK; subst hz; go_simp; generalize hz : Act.mk _ _ = z; refine hK.out z ?_; clear hK K) | (refine wpQuiet_step (fun K hK => ?_); replace hK := Lib.hid hK; subst hz; refine iteSkip (by kernel_rfl) ?_; go_simp; generalize hz : Act.mk _ _ = z; refine hK.out z ?_; clear hK K))
    refine wpQuiet_nil ?_
    subst hz
    try dsimp only [NoPan]
    go_wp2_with fail
    refine (HT _).out.mono ?_
    rintro e w2 ⟨rfl, hx2⟩
    have H2 := Lib.hid ((Ext.refl _ w).drew.trans hx2)
    clear hx2
    go_wp2_with fail
    try dsimp only [wpMix, wpSegs, pick, List.getElem?_cons_zero, List.getElem?_cons_succ]
    generalize hz : Act.mk _ _ = z
    repeat (first | (refine wpQuiet_step (fun K hK => ?_); replace hK := Lib.hid hK; subst hz; go_simp; generalize hz : Act.mk _ _ = z; refine hK.out z ?_; clear hK K) | (refine wpQuiet_step (fun K hK => ?_); replace hK := Lib.hid hK; subst hz; refine iteSkip (by kernel_rfl) ?_; go_simp; generalize hz : Act.mk _ _ = z; refine hK.out z ?_; clear hK K))
    refine wpQuiet_nil ?_
    subst hz
    try dsimp only [NoPan]
    go_wp2_with fail
    refine bodyPost_ret (results_tmp2 rfl _ _ _) rfl ?_
    exact ⟨rfl, H2.out⟩
  | true =>
    rw [hq] at HT
    go_enter Try.func20, Try.ntmps20
    go_wp2_with fail
    refine wp_region_bar (Cls [a] _) [] [0, 1, 2, 3, 4, 5, 6, 7, 8, 9, 10] 11 [] [12, 13, 14, 15, 16] (by kernel_rfl) (by kernel_rfl) (Cls.refl _ _) ?_
    try dsimp only [wpMix, wpSegs, pick, List.getElem?_cons_zero, List.getElem?_cons_succ]
    generalize hz : Act.mk _ _ = z
    repeat (first | (refine wpQuiet_step (fun K hK => ?_); replace hK := Lib.hid hK; subst hz; go_simp; generalize hz : Act.mk _ _ = z; refine hK.out z ?_; clear hK K) | (refine wpQuiet_step (fun K hK => ?_); replace hK := Lib.hid hK; subst hz; refine iteSkip (by kernel_rfl) ?_; go_simp; generalize hz : Act.mk _ _ = z; refine hK.out z ?_; clear hK K))
    refine wpQuiet_nil ?_
    subst hz
    try dsimp only [NoPan]
    go_wp2_with fail
    refine (HT _).out.mono ?_
    rintro e w2 ⟨v, rfl, h2⟩
    obtain ⟨A1, c1, hf1, _, _⟩ := h2.own.formP
    subst hf1
    have hC := H.out.ext ((Ext.refl (fun _ => False) w).drew.trans h2.ext)
    have e0 : w2.cell? ⟨a, 0, none⟩ = some (.pointer (some ⟨r, 0, none⟩)) := cells_at hC.obj 0
    have e2 : w2.cell? ⟨a, 2, none⟩ = some (.int .i64 id) := cells_at hC.obj 2
    have e3 : w2.cell? ⟨a, 3, none⟩ = some (.int .i64 st) := cells_at hC.obj 3
    have f3 : w2.frozen? ⟨a, 3, none⟩ = false := by simp [World.frozen?, hC.obj, cliO]
    have H2 := Lib.hid (And.intro h2 hC)
    clear h2 hC c0 c2 c3
    go_wp2_with fail
    try dsimp only [wpMix, wpSegs, pick, List.getElem?_cons_zero, List.getElem?_cons_succ]
    generalize hz : Act.mk _ _ = z
    repeat (first | (refine wpQuiet_step (fun K hK => ?_); replace hK := Lib.hid hK; subst hz; go_simp; generalize hz : Act.mk _ _ = z; refine hK.out z ?_; clear hK K) | (refine wpQuiet_step (fun K hK => ?_); replace hK := Lib.hid hK; subst hz; refine iteSkip (by kernel_rfl) ?_; go_simp; generalize hz : Act.mk _ _ = z; refine hK.out z ?_; clear hK K))
    refine wpQuiet_nil ?_
    subst hz
    try dsimp only [NoPan]
    go_wp2_with fail
    have hx3 : Ext (· = a) w2 (w2.setCell ⟨a, 3, none⟩ (.int .i64 ((st : Int) + 1))) := (Ext.refl (· = a) w2).setCell (a := ⟨a, 3, none⟩) (.inl rfl) _
    have ho3 : (w2.setCell ⟨a, 3, none⟩ (.int .i64 ((st : Int) + 1))).heap[a]? = some (cliO r n id ((st : Int) + 1)) := by
      rw [heap_setCell_self H2.out.2.obj]; rfl
    generalize w2.setCell ⟨a, 3, none⟩ (.int .i64 ((st : Int) + 1)) = w3 at *
    have hne : ∀ k, F k → k ≠ a := fun k hk e => H.out.out (e ▸ hk)
    have hreg := H2.out.2.reg.keep hx3 hne
    have hnv : ∀ k, (Value.slice A1 (askB id (st + 1) txt).length c1).ownBlock = some k → w.heap.size ≤ k ∧ k < w2.heap.size := fun k hk => ⟨H2.out.1.new k hk, H2.out.1.own.lt k hk⟩
    have hv3 := H2.out.1.own.ext hx3 fun k hk e => by have := (hnv k hk).1; omega
    have hal3 := lt_of_heap ho3
    have g0 : w3.cell? ⟨a, 0, none⟩ = some (.pointer (some ⟨r, 0, none⟩)) := cells_at ho3 0
    have g2 : w3.cell? ⟨a, 2, none⟩ = some (.int .i64 id) := cells_at ho3 2
    have hS := reg_sign (hreg.keep ((Ext.refl (fun _ => False) w3).drew) fun _ _ => _root_.id) (16 + id) (hv3.ext ((Ext.refl (fun _ => False) w3).drew) fun _ _ => _root_.id).byt (by omega)
    have H3 := Lib.hid (And.intro hx3 (And.intro ho3 (And.intro hreg (And.intro hv3 hS))))
    clear hx3 ho3 hreg hv3 hS e0 e2 e3
    go_wp2_with fail
    refine wp_region_bar (Cls [a] _) [] [0, 1, 2, 3, 4, 5, 6, 7, 8, 9] 10 [] [] (by kernel_rfl) (by kernel_rfl) (Cls.refl _ _) ?_
    try dsimp only [wpMix, wpSegs, pick, List.getElem?_cons_zero, List.getElem?_cons_succ]
    generalize hz : Act.mk _ _ = z
    repeat (first | (refine wpQuiet_step (fun K hK => ?_); replace hK := Lib.hid hK; subst hz; go_simp; generalize hz : Act.mk _ _ = z; refine hK.out z ?_; clear hK K) | (refine wpQuiet_step (fun K hK => ?_); replace hK := Lib.hid hK; subst hz; refine iteSkip (by kernel_rfl) ?_; go_simp; generalize hz : Act.mk _ _ = z; refine hK.out z ?_; clear hK K))
    refine wpQuiet_nil ?_
    subst hz
    try dsimp only [NoPan]
    go_wp2_with fail
    refine H3.out.2.2.2.2.mono ?_
    rintro e w4 ⟨rfl, F4, hR4, hx4, hn4⟩
    have H4 := Lib.hid (And.intro hR4 (And.intro ((Ext.refl F w3).drew.trans hx4) hn4))
    clear hR4 hx4 hn4
    go_wp2_with fail
    try dsimp only [wpMix, wpSegs, pick, List.getElem?_cons_zero, List.getElem?_cons_succ]
    generalize hz : Act.mk _ _ = z
    repeat (first | (refine wpQuiet_step (fun K hK => ?_); replace hK := Lib.hid hK; subst hz; go_simp; generalize hz : Act.mk _ _ = z; refine hK.out z ?_; clear hK K) | (refine wpQuiet_step (fun K hK => ?_); replace hK := Lib.hid hK; subst hz; refine iteSkip (by kernel_rfl) ?_; go_simp; generalize hz : Act.mk _ _ = z; refine hK.out z ?_; clear hK K))
    refine wpQuiet_nil ?_
    subst hz
    try dsimp only [NoPan]
    go_wp2_with fail
    refine bodyPost_ret (results_tmp2 rfl _ _ _) rfl ?_
    have hlt := H.out.reg.lt
    have hx02 := (Ext.refl (fun _ => False) w).drew.trans H2.out.1.ext
    have hs02 := hx02.size
    have hs23 := H3.out.1.size
    have hnf : ∀ k, (Value.slice A1 (askB id (st + 1) txt).length c1).ownBlock = some k → ¬ F k := fun k hk hf => by
      have := (hnv k hk).1
      have := hlt k hf
      omega
    refine ⟨F4, _, rfl, ⟨H4.out.1, ?_, ?_⟩, ?_, ?_, H3.out.2.2.2.1.ext H4.out.2.1 hnf, fun k hk => ⟨(hnv k hk).1, fun hf => ?_⟩⟩
    · rw [H4.out.2.1.heap H3.out.2.1 H.out.out]
      simp
    · intro hf
      rcases H4.out.2.2 a hf with h | h
      · exact H.out.out h
      · have : w3.heap.size ≤ a := h
        omega
    · exact ((hx02.mono fun _ _ => False.elim).trans (H3.out.1.mono fun _ _ h => .inr h)).trans (H4.out.2.1.mono fun _ _ h => .inl h)
    · intro k hk
      rcases H4.out.2.2 k hk with h | h
      · exact .inl h
      · have : w3.heap.size ≤ k := h
        exact .inr (by omega)
    · rcases H4.out.2.2 k hf with h | h
      · exact hnf k hk h
      · have : w3.heap.size ≤ k := h
        have := (hnv k hk).2
        omega
end Go.Proofs.Ytcedpdjjjfdbiaa
