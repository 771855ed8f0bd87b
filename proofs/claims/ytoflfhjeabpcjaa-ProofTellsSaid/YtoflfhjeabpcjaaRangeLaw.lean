/- A range over a function: the caller's blocks are named as a set, the iterator may write any others; no condition. -/
import Derived.Test.YtoflfhjeabpcjaaRoundReg
namespace Go.Proofs.Ytoflfhjeabpcjaa
set_option linter.unusedVariables false
set_option linter.unusedSimpArgs false
open Go.RowKit

theorem Ext.putObj {F : Nat → Prop} {w w' : World} (h : Ext F w w') {l : Nat} (hl : F l ∨ w.heap.size ≤ l) (o : Obj) : Ext F w (w'.putObj l o) :=
  h.grown (grownBy_putObj' w' l o) (fun k e => by cases e; exact hl)

/-- What an iterator promises: it yields xs in turn; of the blocks K it only reads; of the caller's blocks D it writes none. -/
def IterC {α : Type} (P : Program) (gf : Nat) (lb : Array Value) (encs : α → Array Value) (xs : List α) (K : Nat → Prop) (w0 : World) : Prop :=
  ∀ (n m l : Nat) (J : (Nat → Prop) → List α → World → Prop) (D : Nat → Prop) (W : World), Ext (fun b => ¬ K b) w0 W →
    (∀ D pre A B, J D pre A → Ext (fun b => ¬ D b ∧ ¬ K b) A B → J D pre B) →
    (∀ D pre A b, J D pre A → D b → b < A.heap.size ∧ ¬ K b) →
    (∀ D pre x A, J D pre A → (pre ++ [x]) <+: xs → YieldAt Fence.wide m P l (encs x) A fun e A' => e = .returned (.bool true) ∧ ∃ D', J D' (pre ++ [x]) A' ∧ Ext D A A' ∧ ∀ b, D' b → D b ∨ A.heap.size ≤ b) →
    J D [] W →
    CallsIn Fence.wide n P gf (#[.func (.yield l) #[] #[]] ++ lb) W fun e W' => (∃ v, e = .returned v) ∧ ∃ D', J D' xs W' ∧ ∀ b, D' b → D b ∨ W.heap.size ≤ b

variable {P : Program}
/-- How the body of a round is left: by its end. -/
def roundEnd (R : World → Prop) : Exit → Act → World → Prop
  | .normal, _, W' => R W'
  | _, _, _ => False
theorem wpIn_range {α : Type} {n m : Nat} {g : Operand} {ps : Array Tmp} {assign body : Code} {Q : Exit → Act → World → Prop} {a : Act} {w : World} {gf : Nat} {lb : Array Value}
    (hg : a.eval g = .func (.func gf) #[] lb) (eg : ∀ args w, (callFunc gf args).run P w = .ok (.enter gf args) w)
    {encs : α → Array Value} {xs : List α} {K : Nat → Prop} (hK : ∀ b, K b → b < w.heap.size) (hseq : IterC P gf lb encs xs K w) (hps : ∀ x, (encs x).size = ps.size)
    (I : (Nat → Prop) → List α → World → Prop) (D0 : Nat → Prop)
    (hI : ∀ D pre A B, I D pre A → Ext (fun b => ¬ D b ∧ ¬ K b) A B → I D pre B)
    (hD : ∀ D pre A b, I D pre A → D b → b < A.heap.size ∧ ¬ K b) (h0 : I D0 [] w)
    (hround : ∀ (l : Nat) (D : Nat → Prop) (pre : List α) (x : α) (A : World), I D pre A → (pre ++ [x]) <+: xs → l < A.heap.size → w.heap.size ≤ l → ¬ D l →
      assign.wpIn (Fence.wide.inRound l) m P (Exit.then (fun a1 A1 => (Ext (fun b => A.heap.size ≤ b) A A1) ∧ ∀ A2, Ext (fun b => b = l) A1 A2 →
        body.wpIn (Fence.wide.inRound l) m P (roundEnd (fun A' => ∃ D', I D' (pre ++ [x]) A' ∧ Ext (fun b => D b ∨ A.heap.size ≤ b) A2 A' ∧ ∀ b, D' b → D b ∨ A.heap.size ≤ b)) a1 A2) (fun _ _ _ => False))
        { tmps := (ps.zip (encs x)).foldl (fun t (p, v) => t.setIfInBounds p v) a.tmps, defers := [] } A)
    (hdone : ∀ (D : Nat → Prop) (d : Nat) (W : World), w.heap.size ≤ d → I D xs W → ¬ D d → W.heap[d]? = some (.deferred (some [])) → Q .normal { a with defers := { target := .collected d, args := #[] } :: a.defers } W) :
    (Code.rangeFunc g ps assign body).wpIn Fence.wide n P Q a w := by
  refine wpIn_rangeFunc ?_
  intro fn _
  rw [show Fence.wide.round = none from rfl]
  obtain ⟨rec, hrec⟩ : ∃ rec : LoopState → Option Code → Loop, rec = fun st pe => { state := st, pending := pe, fn, tmps := a.tmps, params := ps, assign, body, defers := w.heap.size } := ⟨_, rfl⟩
  obtain ⟨W1, hW1⟩ : ∃ W1, (w.alloc (.deferred (some []))).alloc (.loop (rec .ready none)) = W1 := ⟨_, rfl⟩
  have hL1 : W1.heap[w.heap.size + 1]? = some (.loop (rec .ready none)) := by
    rw [← hW1]; have := World.alloc_heap_new (w.alloc (.deferred (some []))) (.loop (rec .ready none)); rwa [World.size_alloc] at this
  have hK1 : W1.heap[w.heap.size]? = some (.deferred (some [])) := by
    rw [← hW1]; exact (Below.heap_alloc _ _ _ (by simp)).trans (World.alloc_heap_new w _)
  have hx1 : ∀ F, Ext F w W1 := fun F => by rw [← hW1]; exact ((Ext.refl _ w).alloc _).alloc _
  have hI1 : I D0 [] W1 := hI _ _ _ _ h0 (hx1 _)
  have nK : ¬ K (w.heap.size + 1) := fun hk => by have := hK _ hk; omega
  have hN0 : ∀ b, D0 b → b < w.heap.size := fun b hb => (hD _ _ _ b h0 hb).1
  refine ⟨w.heap.size + 1, [{ target := .collected w.heap.size, args := #[] }], W1, { target := .fn (.func gf) lb, args := #[.func (.yield (w.heap.size + 1)) #[] #[]] }, W1, gf,
    #[.func (.yield (w.heap.size + 1)) #[] #[]] ++ lb, W1, ?_, ?_, fun _ _ => trivial, ?_, fun hh => (by cases hh), ?_⟩
  · rw [← hW1, hrec]; exact run_enterLoop_outer _ _ _ _ _
  · simp only [resolve, hg]
    simp [go_sem]
  · simp [invoke, go_sem, eg]
  · refine (hseq (n - 1) m (w.heap.size + 1)
      (fun D pre W => ∃ D', I D' pre W ∧ ¬ D' (w.heap.size + 1) ∧ ¬ D' w.heap.size ∧ (∀ b, D b ↔ D' b ∨ b = w.heap.size + 1 ∨ b = w.heap.size) ∧ W.heap[w.heap.size + 1]? = some (.loop (rec .ready none)) ∧ W.heap[w.heap.size]? = some (.deferred (some [])))
      (fun b => D0 b ∨ b = w.heap.size + 1 ∨ b = w.heap.size) W1 (hx1 _) ?_ ?_ ?_ ⟨D0, hI1, fun h => by have := hN0 _ h; omega, fun h => by have := hN0 _ h; omega, fun b => Iff.rfl, hL1, hK1⟩).mono ?_
    · rintro D pre A B ⟨D', h1, h2, h3, h4, h5, h6⟩ hx
      exact ⟨D', hI _ _ _ _ h1 (hx.mono fun b _ hb => ⟨fun hd => hb.1 ((h4 b).2 (.inl hd)), hb.2⟩), h2, h3, h4, hx.heap h5 (fun hn => hn.1 ((h4 _).2 (.inr (.inl rfl)))), hx.heap h6 (fun hn => hn.1 ((h4 _).2 (.inr (.inr rfl))))⟩
    · rintro D pre A b ⟨D', h1, h2, h3, h4, h5, h6⟩ hb
      rcases (h4 b).1 hb with hb | rfl | rfl
      · exact hD _ _ _ b h1 hb
      · exact ⟨lt_of_heap h5, fun hk => by have := hK _ hk; omega⟩
      · exact ⟨lt_of_heap h6, fun hk => by have := hK _ hk; omega⟩
    · rintro D pre x A ⟨D', h1, h2, h3, h4, h5, h6⟩ hpre
      have hlt := lt_of_heap h5
      have hy := run_yield (P := P) (args := encs x) h5 (by rw [hrec]; exact hps x)
      rw [hrec] at hy
      refine ⟨fn, _, assign, body, hy, roundIn_of_wpIn trivial (wpIn_mono (hround (w.heap.size + 1) D' pre x A h1 hpre hlt (by omega) h2) ?_)⟩
      rintro e a1 A1 hq
      cases e with
      | normal =>
        obtain ⟨hxa, hq⟩ := hq
        have h5' := hxa.heap h5 (by omega)
        have h6' := hxa.heap h6 (by have := lt_of_heap h6; omega)
        have hlt' := lt_of_heap h5'
        refine ⟨_, run_beginRound h5' (by rw [hrec]), ?_⟩
        have g5 : (A1.putObj (w.heap.size + 1) (.loop { rec .ready none with state := .busy })).heap[w.heap.size + 1]? = some (.loop { rec .ready none with state := .busy }) := World.putObj_heap_same hlt'
        have g6 : (A1.putObj (w.heap.size + 1) (.loop { rec .ready none with state := .busy })).heap[w.heap.size]? = some (.deferred (some [])) := (World.putObj_heap_other (by omega)).trans h6'
        refine wpIn_mono (hq _ ((Ext.refl (fun b => b = w.heap.size + 1) A1).putObj (.inl rfl) _)) ?_
        rintro e a3 A3 hp
        cases e <;> first | exact (hp : False).elim | skip
        obtain ⟨D3, i3, x3, n3⟩ := hp
        have k5 := x3.heap g5 (fun hh => hh.elim h2 (by omega))
        have k6 := x3.heap g6 (fun hh => hh.elim h3 (by have := lt_of_heap h6; omega))
        have hend := run_endRound (P := P) none k5
        refine ⟨_, _, hend, ?_⟩
        have n3l : ¬ D3 (w.heap.size + 1) := fun hh => (n3 _ hh).elim h2 (by omega)
        have n3d : ¬ D3 w.heap.size := fun hh => (n3 _ hh).elim h3 (by have := lt_of_heap h6; omega)
        refine ⟨rfl, fun b => D3 b ∨ b = w.heap.size + 1 ∨ b = w.heap.size, ⟨D3, hI _ _ _ _ i3 ((Ext.refl _ A3).putObj (.inl ⟨n3l, nK⟩) _), n3l, n3d, fun b => Iff.rfl, ?_, ?_⟩, ?_, ?_⟩
        · rw [World.putObj_heap_same (lt_of_heap k5), hrec]
          rfl
        · exact (World.putObj_heap_other (by omega)).trans k6
        · have y1 : Ext D A A1 := hxa.mono fun b hb hh => by omega
          have y2 : Ext D A (A1.putObj (w.heap.size + 1) (.loop { rec .ready none with state := .busy })) := y1.putObj (.inl ((h4 _).2 (.inr (.inl rfl)))) _
          exact (y2.trans' x3 fun b hb => hb.elim (fun hb => .inl ((h4 b).2 (.inl hb))) .inr).putObj (.inl ((h4 _).2 (.inr (.inl rfl)))) _
        · intro b hb
          rcases hb with hb | rfl | rfl
          · exact (n3 b hb).elim (fun hb => .inl ((h4 b).2 (.inl hb))) .inr
          · exact .inl ((h4 _).2 (.inr (.inl rfl)))
          · exact .inl ((h4 _).2 (.inr (.inr rfl)))
      | exit id => exact hq.elim
      | goto t => exact hq.elim
      | ret => exact hq.elim
      | panic c => exact hq.elim
      | outgrown => exact hq.elim
    · rintro e W2 ⟨⟨v, rfl⟩, D2, ⟨D', h1, h2, h3, h4, h5, h6⟩, _⟩
      refine ⟨none, _, by have := run_endLoop (P := P) h5 (by rw [hrec]; simp); rw [hrec] at this; exact this, ?_⟩
      exact hdone D' w.heap.size _ (Nat.le_refl _) (hI _ _ _ _ h1 ((Ext.refl _ W2).putObj (.inl ⟨h2, nK⟩) _)) h3 ((World.putObj_heap_other (by omega)).trans h6)
theorem wpIn_range1 {α : Type} {n m : Nat} {g : Operand} {t1 : Tmp} {assign body : Code} {Q : Exit → Act → World → Prop} {a : Act} {w : World} {gf : Nat} {lb : Array Value}
    (hg : a.eval g = .func (.func gf) #[] lb) (eg : ∀ args w, (callFunc gf args).run P w = .ok (.enter gf args) w)
    {enc : α → Value} {xs : List α} {K : Nat → Prop} (hK : ∀ b, K b → b < w.heap.size) (hseq : IterC P gf lb (fun x => #[enc x]) xs K w)
    (I : (Nat → Prop) → List α → World → Prop) (D0 : Nat → Prop)
    (hI : ∀ D pre A B, I D pre A → Ext (fun b => ¬ D b ∧ ¬ K b) A B → I D pre B)
    (hD : ∀ D pre A b, I D pre A → D b → b < A.heap.size ∧ ¬ K b) (h0 : I D0 [] w)
    (hround : ∀ (l : Nat) (D : Nat → Prop) (pre : List α) (x : α) (A : World), I D pre A → (pre ++ [x]) <+: xs → l < A.heap.size → w.heap.size ≤ l → ¬ D l →
      assign.wpIn (Fence.wide.inRound l) m P (Exit.then (fun a1 A1 => (Ext (fun b => A.heap.size ≤ b) A A1) ∧ ∀ A2, Ext (fun b => b = l) A1 A2 →
        body.wpIn (Fence.wide.inRound l) m P (roundEnd (fun A' => ∃ D', I D' (pre ++ [x]) A' ∧ Ext (fun b => D b ∨ A.heap.size ≤ b) A2 A' ∧ ∀ b, D' b → D b ∨ A.heap.size ≤ b)) a1 A2) (fun _ _ _ => False))
        { tmps := a.tmps.setIfInBounds t1 (enc x), defers := [] } A)
    (hdone : ∀ (D : Nat → Prop) (d : Nat) (W : World), w.heap.size ≤ d → I D xs W → ¬ D d → W.heap[d]? = some (.deferred (some [])) → Q .normal { a with defers := { target := .collected d, args := #[] } :: a.defers } W) :
    (Code.rangeFunc g #[t1] assign body).wpIn Fence.wide n P Q a w := by
  refine wpIn_range (m := m) hg eg hK hseq (fun _ => rfl) I D0 hI hD h0 (fun l D pre x A h1 h2 h3 h4 h5 => ?_) hdone
  have := hround l D pre x A h1 h2 h3 h4 h5
  simpa [Array.zip, Array.foldl_toList] using this
theorem wpIn_range2 {α : Type} {n m : Nat} {g : Operand} {t1 t2 : Tmp} {assign body : Code} {Q : Exit → Act → World → Prop} {a : Act} {w : World} {gf : Nat} {lb : Array Value}
    (hg : a.eval g = .func (.func gf) #[] lb) (eg : ∀ args w, (callFunc gf args).run P w = .ok (.enter gf args) w)
    {enc enc2 : α → Value} {xs : List α} {K : Nat → Prop} (hK : ∀ b, K b → b < w.heap.size) (hseq : IterC P gf lb (fun x => #[enc x, enc2 x]) xs K w)
    (I : (Nat → Prop) → List α → World → Prop) (D0 : Nat → Prop)
    (hI : ∀ D pre A B, I D pre A → Ext (fun b => ¬ D b ∧ ¬ K b) A B → I D pre B)
    (hD : ∀ D pre A b, I D pre A → D b → b < A.heap.size ∧ ¬ K b) (h0 : I D0 [] w)
    (hround : ∀ (l : Nat) (D : Nat → Prop) (pre : List α) (x : α) (A : World), I D pre A → (pre ++ [x]) <+: xs → l < A.heap.size → w.heap.size ≤ l → ¬ D l →
      assign.wpIn (Fence.wide.inRound l) m P (Exit.then (fun a1 A1 => (Ext (fun b => A.heap.size ≤ b) A A1) ∧ ∀ A2, Ext (fun b => b = l) A1 A2 →
        body.wpIn (Fence.wide.inRound l) m P (roundEnd (fun A' => ∃ D', I D' (pre ++ [x]) A' ∧ Ext (fun b => D b ∨ A.heap.size ≤ b) A2 A' ∧ ∀ b, D' b → D b ∨ A.heap.size ≤ b)) a1 A2) (fun _ _ _ => False))
        { tmps := (a.tmps.setIfInBounds t1 (enc x)).setIfInBounds t2 (enc2 x), defers := [] } A)
    (hdone : ∀ (D : Nat → Prop) (d : Nat) (W : World), w.heap.size ≤ d → I D xs W → ¬ D d → W.heap[d]? = some (.deferred (some [])) → Q .normal { a with defers := { target := .collected d, args := #[] } :: a.defers } W) :
    (Code.rangeFunc g #[t1, t2] assign body).wpIn Fence.wide n P Q a w := by
  refine wpIn_range (m := m) hg eg hK hseq (fun _ => rfl) I D0 hI hD h0 (fun l D pre x A h1 h2 h3 h4 h5 => ?_) hdone
  have := hround l D pre x A h1 h2 h3 h4 h5
  simpa [Array.zip, Array.foldl_toList] using this
theorem wp_region_in {id n : Nat} {l : List Oper} {Q : Exit → Act → World → Prop} {a : Act} {w : World} (h : wpListIn Fence.wide n P l.toArray Q l a w) : (Code.region id l.toArray false).wp P Q a w :=
  (wpIn_wide (n := n)).1 (wpIn_region_lit h)
theorem wp_seq_region_in {id n : Nat} {l : List Oper} {y : Code} {Q : Exit → Act → World → Prop} {a : Act} {w : World} (h : wpListIn Fence.wide n P l.toArray (Exit.then (y.wp P Q) Q) l a w) : (Code.seq (Code.region id l.toArray false) y).wp P Q a w :=
  wp_seq (wp_region_in h)
theorem roundIn_any {m k l : Nat} {f : FuncId} {tmps : Array Value} {assign body : Code} {w : World} {R : Ending → World → Prop} (h : RoundIn Fence.wide m P l f tmps assign body w R) : RoundIn Fence.wide k P l f tmps assign body w R :=
  ⟨trivial, fun c cs _ => h.2 c cs (room_wide _)⟩
theorem wpList_nilCheck {ops : Array Oper} {Q : Exit → Act → World → Prop} {a : Act} {w : World} {o : Oper} {rest : List Oper} (hgd : o.guard = none) (x : Operand) (ho : o.op = .nilCheck x) {ad : Addr} (hx : a.eval x = .pointer (some ad))
    (h : wpList P ops Q rest (a.put o.dst (.pointer (some ad))) w) : wpList P ops Q (o :: rest) a w := by
  refine wpList_plain hgd fun K hK => ?_
  unfold Oper.wp execOp
  simp only [ho, hx]
  simp [go_sem]
  exact hK _ _ h
end Go.Proofs.Ytoflfhjeabpcjaa
