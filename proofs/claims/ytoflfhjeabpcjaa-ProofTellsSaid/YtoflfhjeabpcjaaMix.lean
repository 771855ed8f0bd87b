/- A region whose order is drawn is walked once: operations that only read are taken as early as they may come up, the others in their one order; no condition. -/
import Derived.OrdersHeld
import Derived.Deep.QuietTactic
import Derived.BigQuiet
import Derived.WalkKit
namespace Go.Proofs.Ytoflfhjeabpcjaa
set_option linter.unusedVariables false
set_option linter.unusedSimpArgs false
section
variable {P : Program} {ops : Array Oper} {md : Region.Mode} {C : World → Prop} {Q : Exit → Act → World → Prop}

/-- An operation that yields a value or halts. -/
def isVal (o : Oper) : Bool :=
  match o.op with
  | .move _ | .assign _ | .pick .. | .load .. | .nilCheck _ | .binOp .. | .unOp .. | .convert .. | .fieldAddr .. | .field .. | .indexAddr .. | .index .. | .lookup .. | .slice ..
  | .extract .. | .build .. => true
  | .call { callee := .builtin .len, .. } | .call { callee := .builtin .cap, .. } | .call { callee := .builtin .max, .. } | .call { callee := .builtin .min, .. } => true
  | _ => false

def okVal : Result Next → Prop
  | .ok (.value _) _ => True
  | .ok _ _ => False
  | .halt _ _ => True

theorem okVal_v (s : Sem Value) (w : World) : okVal ((do pure (.value (← s)) : Sem Next).run P w) := by
  simp only [Sem.run_bind]
  generalize s.run P w = r
  cases r <;> simp [Result.andThen, okVal]

theorem okVal_halt (h : Halt) (w : World) : okVal ((.halt h : Sem Next).run P w) := by simp [Sem.run, okVal]

theorem okVal_panic (e : RuntimeError) (w : World) : okVal ((runtimePanic e : Sem Next).run P w) := by
  unfold runtimePanic
  simp only [Sem.run_bind]
  generalize program.run P w = r
  cases r with
  | halt h w' => simp [Result.andThen, okVal]
  | ok p w' =>
    cases e <;> simp [Result.andThen, goPanic, Sem.run, okVal]
    all_goals
      generalize Sem.run P _ _ = r
      cases r with
      | halt h w' => simp [okVal]
      | ok p w' =>
        simp
        first
          | (generalize Sem.run P _ _ = r
             cases r <;> simp [okVal])
          | simp [okVal]

theorem isVal_ok {o : Oper} (h : isVal o = true) (ρ : Operand → Value) (w : World) : okVal ((execOp ρ o).run P w) := by
  obtain ⟨dst, op, type, pos, after, guard⟩ := o
  unfold isVal at h
  cases op <;> first
    | (exact absurd h Bool.false_ne_true)
    | exact okVal_v _ _
    | (simp [execOp, okVal]; done)
    | (simp only [execOp, Sem.run_bind]
       generalize (asBool _).run P w = r
       cases r <;> simp [Result.andThen, okVal]; done)
    | (simp only [execOp]
       split
       · exact okVal_panic _ _
       · exact okVal_panic _ _
       · exact okVal_panic _ _
       · split
         · exact okVal_panic _ _
         · simp only [Sem.run_bind]
           generalize program.run P w = r
           cases r with
           | halt h w' => simp [Result.andThen, okVal]
           | ok p w' =>
             simp only [Result.andThen_ok]
             generalize (nilAhead _ _ _ _).run P w' = r
             cases r with
             | halt h w' => simp [Result.andThen, okVal]
             | ok p w' =>
               simp only [Result.andThen_ok]
               split
               · simp [unsupported, Sem.run, Result.andThen, okVal]
               · simp [okVal]
         · simp [okVal]
       · simp [okVal]
       done)
    | skip
  rename_i c
  obtain ⟨callee, args, argTypes⟩ := c
  cases callee <;> first
    | (exact absurd h Bool.false_ne_true)
    | skip
  rename_i b
  cases b <;> first
    | (exact absurd h Bool.false_ne_true)
    | (simp only [execOp, resolve, Sem.run_bind, Sem.run_pure, Result.andThen_ok, invoke, builtin]
       generalize Sem.run P _ w = r
       cases r <;> simp [Result.andThen, okVal]; done)

/-- May the steps be taken so? 'true': it is taken as early as it may come up; 'false': it alone may come up. -/
def okPlan (md : Region.Mode) (ops : Array Oper) : List (Bool × Nat) → Array Bool → Bool
  | [], listed => (Region.ready md ops listed).isEmpty
  | (true, i) :: r, listed => (Region.ready md ops listed).contains i && Region.free md ops listed i && (match ops[i]? with | some o => isVal o | none => false) && okPlan md ops r (listed.setIfInBounds i true)
  | (false, i) :: r, listed => decide (Region.ready md ops listed = [i]) && (ops[i]?).isSome && okPlan md ops r (listed.setIfInBounds i true)

def wpFlat (P : Program) (ops : Array Oper) (C : World → Prop) (Q : Exit → Act → World → Prop) : List (Bool × Nat) → Act → World → Prop
  | [], a, w => Q .normal a w
  | (true, i) :: r, a, w => qOp P ops C i (fun a' => wpFlat P ops C Q r a' w) a
  | (false, i) :: r, a, w => wpOp P ops Q i (fun a' w' => C w' ∧ wpFlat P ops C Q r a' w') a w

theorem yieldsIf_of_qOp {i : Nat} {o : Oper} {a : Act} {K : Act → Prop} {w : World} (hC : C w) (hi : ops[i]? = some o) (hv : isVal o = true) (h : qOp P ops C i K a) : ∃ v, YieldsIf P ops C o v a ∧ K (a.put o.dst v) := by
  obtain ⟨v, hy, hK⟩ := yieldsIn_of_qOp hi h
  refine ⟨v, ?_, hK⟩
  rcases hy with ⟨h1, h2⟩ | hy
  · refine .inl ⟨h1, fun w' hw' => ?_⟩
    have h3 := h2 w' hw'
    have h4 := isVal_ok (P := P) hv a.eval w'
    unfold Oper.quietAt at h3
    generalize (execOp a.eval o).run P w' = r at *
    cases r with
    | halt x w'' => simp only [Oper.quietUpon] at h3
    | ok n w'' =>
      cases n <;> simp only [okVal] at h4
      simp only [Oper.quietUpon] at h3
      obtain ⟨e1, e2⟩ := h3
      rw [e1, e2]
  · exact .inr hy

theorem wpAnyH_of_flat (hs : Region.noSelect ops = true) (hQ : ∀ d v c a w, Q (.panic c) (a.put d v) w → Q (.panic c) a w) :
    ∀ (plan : List (Bool × Nat)) (listed : Array Bool) (a : Act) (w : World), okPlan md ops plan listed = true → C w → wpFlat P ops C Q plan a w → ∀ fuel, plan.length ≤ fuel → wpAnyH P md ops Q C fuel listed a w
  | [], listed, a, w, hp, hC, h, fuel, _ => by
    simp only [okPlan, List.isEmpty_iff] at hp
    exact wpAnyH_done hp h fuel
  | (true, i) :: r, listed, a, w, hp, hC, h, fuel, hf => by
    simp only [okPlan, Bool.and_eq_true] at hp
    obtain ⟨⟨⟨h1, h2⟩, h3⟩, h4⟩ := hp
    obtain ⟨fuel, rfl⟩ : ∃ k, fuel = k + 1 := ⟨fuel - 1, by simp at hf; omega⟩
    cases ho : ops[i]? with
    | none => rw [ho] at h3; cases h3
    | some o =>
      rw [ho] at h3
      obtain ⟨v, hy, hK⟩ := yieldsIf_of_qOp hC ho h3 h
      exact wpAnyH_take ho hs h2 h1 (fun c a w => hQ _ _ c a w) hy hC (wpAnyH_of_flat hs hQ r _ _ _ h4 hC hK fuel (by simp at hf; omega))
  | (false, i) :: r, listed, a, w, hp, hC, h, fuel, hf => by
    simp only [okPlan, Bool.and_eq_true, decide_eq_true_eq] at hp
    obtain ⟨⟨h1, h2⟩, h4⟩ := hp
    obtain ⟨fuel, rfl⟩ : ∃ k, fuel = k + 1 := ⟨fuel - 1, by simp at hf; omega⟩
    refine wpAnyH_all h1 (by simp) fun j hj => ?_
    obtain rfl : j = i := by simpa using hj
    exact wpOp_mono (fun a' w' hh => ⟨hh.1, wpAnyH_of_flat hs hQ r _ _ _ h4 hh.1 hh.2 fuel (by simp at hf; omega)⟩) h

/-- The steps in segments: what only reads, then one that does not. -/
def flat : List (List Nat × Nat) → List Nat → List (Bool × Nat)
  | [], last => last.map fun i => (true, i)
  | (seg, e) :: more, last => (seg.map fun i => (true, i)) ++ (false, e) :: flat more last

def pick (l : List Oper) : List Nat → List Oper
  | [] => []
  | i :: r => match l[i]? with | some o => o :: pick l r | none => pick l r

def wpMix (P : Program) (ops : Array Oper) (l : List Oper) (C : World → Prop) (Q : Exit → Act → World → Prop) : List (List Nat × Nat) → List Nat → Act → World → Prop
  | [], last, a, w => wpQuiet P ops C (fun a' => Q .normal a' w) (pick l last) a
  | (seg, e) :: more, last, a, w =>
    wpQuiet P ops C (fun a' => wpList P ops (Exit.then (fun a'' w'' => C w'' ∧ wpMix P ops l C Q more last a'' w'') Q) (pick l [e]) a' w) (pick l seg) a

theorem wpFlat_of_quiet {l : List Oper} (hl : ∀ i : Nat, l[i]? = ops[i]?) {K : Act → Prop} {w : World} {rest : List (Bool × Nat)} (hK : ∀ a, K a → wpFlat P ops C Q rest a w) :
    ∀ (seg : List Nat) (a : Act), (∀ i ∈ seg, (ops[i]?).isSome) → wpQuiet P ops C K (pick l seg) a → wpFlat P ops C Q ((seg.map fun i => (true, i)) ++ rest) a w
  | [], a, _, h => hK _ (by simpa [pick, wpQuiet] using h)
  | i :: seg, a, hs, h => by
    have hi := hs i (by simp)
    obtain ⟨o, ho⟩ := Option.isSome_iff_exists.1 hi
    simp only [pick, hl, ho] at h
    simp only [List.map_cons, List.cons_append, wpFlat, qOp, ho]
    simp only [wpQuiet] at h
    have next := fun a' h' => wpFlat_of_quiet hl hK seg a' (fun j hj => hs j (by simp [hj])) h'
    split
    · rename_i hw
      rw [if_pos hw] at h
      exact Oper.quiet_mono next h
    · rename_i hw
      rw [if_neg hw] at h
      exact next _ h

theorem okPlan_some : ∀ (plan : List (Bool × Nat)) (listed : Array Bool), okPlan md ops plan listed = true → ∀ x ∈ plan, (ops[x.2]?).isSome
  | [], _, _, x, hx => by cases hx
  | (true, i) :: r, listed, hp, x, hx => by
    simp only [okPlan, Bool.and_eq_true] at hp
    obtain ⟨⟨⟨h1, h2⟩, h3⟩, h4⟩ := hp
    rcases List.mem_cons.1 hx with rfl | hx
    · show (ops[i]?).isSome = true
      cases ho : ops[i]? with
      | none => rw [ho] at h3; cases h3
      | some o => rfl
    · exact okPlan_some r _ h4 x hx
  | (false, i) :: r, listed, hp, x, hx => by
    simp only [okPlan, Bool.and_eq_true] at hp
    rcases List.mem_cons.1 hx with rfl | hx
    · exact hp.1.2
    · exact okPlan_some r _ hp.2 x hx

theorem wpFlat_of_mix {l : List Oper} (hl : ∀ i : Nat, l[i]? = ops[i]?) (hlet : ∀ K : Act → World → Prop, LetsOut (Exit.then K Q) → LetsOut Q) (hpan : ∀ (K : Act → World → Prop) c a w, Exit.then K Q (.panic c) a w → Q (.panic c) a w) (last : List Nat) :
    ∀ (segs : List (List Nat × Nat)) (a : Act) (w : World), (∀ x ∈ flat segs last, (ops[x.2]?).isSome) → wpMix P ops l C Q segs last a w → wpFlat P ops C Q (flat segs last) a w
  | [], a, w, hs, h => by
    have := wpFlat_of_quiet (rest := []) hl (K := fun a' => Q .normal a' w) (fun a' h' => h') last a (fun i hi => hs (true, i) (by simp [flat, hi])) h
    simpa [flat] using this
  | (seg, e) :: more, a, w, hs, h => by
    simp only [flat]
    refine wpFlat_of_quiet hl (K := _) (fun a' h' => ?_) seg a (fun i hi => hs (true, i) (by simp [flat, hi])) h
    have he := hs (false, e) (by simp [flat])
    obtain ⟨o, ho⟩ := Option.isSome_iff_exists.1 he
    simp only [pick, hl, ho] at h'
    simp only [wpFlat, wpOp, ho]
    simp only [wpList] at h'
    have next : ∀ a'' w'', (C w'' ∧ wpMix P ops l C Q more last a'' w'') → (C w'' ∧ wpFlat P ops C Q (flat more last) a'' w'') :=
      fun a'' w'' hh => ⟨hh.1, wpFlat_of_mix hl hlet hpan last more a'' w'' (fun x hx => hs x (by simp [flat, hx])) hh.2⟩
    split
    · rename_i hw
      rw [if_pos hw] at h'
      rcases h' with h' | ⟨h1, h2⟩
      · refine .inl ?_
        unfold Oper.wp at *
        generalize (execOp a'.eval o).run P w = r at *
        cases r with
        | ok n w' =>
          cases n <;> simp only [Oper.upon] at h' ⊢ <;>
            first
              | exact next _ _ h'
              | exact Calls.mono h' (fun e w'' he => by
                  cases e with
                  | returned v => exact next _ _ he
                  | panicked c => exact hpan _ _ _ _ he
                  | outgrown => exact hlet _ he)
              | exact Rows.mono h' (fun _ _ he => next _ _ he)
        | halt x w' =>
          cases x <;> simp only [Oper.upon] at h' ⊢
          exact hpan _ _ _ _ h'
      · exact .inr ⟨h1, hlet _ h2⟩
    · rename_i hw
      rw [if_neg hw] at h'
      exact next _ _ h'

theorem letsOut_then (K : Act → World → Prop) (h : LetsOut (Exit.then K Q)) : LetsOut Q := by
  obtain ⟨a, w, h⟩ := h
  exact ⟨a, w, h⟩

/-! ### A barrier: an operation for which all others that stand ahead of it in the plan must have come up: behind it nothing is asked of the memory any more. -/

def BarS (bs : List Nat) (C : World → Prop) (listed : Array Bool) (w : World) : Prop := bs.any (fun b => listed.getD b false) = true ∨ C w

def wpAnyG (P : Program) (md : Region.Mode) (ops : Array Oper) (Q : Exit → Act → World → Prop) (S : Array Bool → World → Prop) : Nat → Array Bool → Act → World → Prop
  | 0, listed, a, w => Region.ready md ops listed = [] ∧ Q .normal a w
  | fuel + 1, listed, a, w =>
    (Region.ready md ops listed = [] → Q .normal a w) ∧
    ∀ i ∈ Region.ready md ops listed, wpOp P ops Q i (fun a' w' => S (listed.setIfInBounds i true) w' ∧ wpAnyG P md ops Q S fuel (listed.setIfInBounds i true) a' w') a w
theorem wpAny_of_G {S : Array Bool → World → Prop} : ∀ (fuel : Nat) (listed : Array Bool) (a : Act) (w : World), wpAnyG P md ops Q S fuel listed a w → wpAny P md ops Q fuel listed a w
  | 0, _, _, _, h => h
  | fuel + 1, _, _, _, h => ⟨h.1, fun i hi => wpOp_mono (fun a' w' h' => wpAny_of_G fuel _ a' w' h'.2) (h.2 i hi)⟩

def Closed (md : Region.Mode) (ops : Array Oper) (listed : Array Bool) : Prop :=
  ∀ j oj, ops[j]? = some oj → listed.getD j false = true → ∀ e ∈ oj.after, Region.binds md e = true → listed.getD e.on false = true
theorem Closed.set {listed : Array Bool} {i : Nat} (h : Closed md ops listed) (hi : i ∈ Region.ready md ops listed) : Closed md ops (listed.setIfInBounds i true) := by
  obtain ⟨_, oi, hoi, hall⟩ := mem_ready.1 hi
  intro j oj hj hl e he hb
  by_cases hij : i = j
  · subst hij
    have : oj = oi := Option.some.inj (hj.symm.trans hoi)
    subst this
    exact getD_set_true (hall e he hb)
  · rw [getD_set_ne false hij] at hl
    exact getD_set_true (h j oj hj hl e he hb)
def waitsN (md : Region.Mode) (ops : Array Oper) : Nat → Nat → Nat → Bool
  | 0, _, _ => false
  | n + 1, j, i =>
    match ops[j]? with
    | some oj => oj.after.any fun e => Region.binds md e && (e.on == i || waitsN md ops n e.on i)
    | none => false
def markAll (md : Region.Mode) : List Edge → Array Bool → Array Bool
  | [], m => m
  | e :: r, m => markAll md r (if Region.binds md e then m.setIfInBounds e.on true else m)
def markAt (md : Region.Mode) (ops : Array Oper) (m : Array Bool) (j : Nat) : Array Bool :=
  if m.getD j false then (match ops[j]? with | some oj => markAll md oj.after.toList m | none => m) else m
/-- All that an operation waits for, near or far. -/
def behindAll (md : Region.Mode) (ops : Array Oper) (b : Nat) : Array Bool := (List.range ops.size).reverse.foldl (markAt md ops) ((Array.replicate ops.size false).setIfInBounds b true)
def waits (md : Region.Mode) (ops : Array Oper) (j i : Nat) : Bool := waitsN md ops 1 j i || waitsN md ops 2 j i || waitsN md ops 3 j i || (behindAll md ops j).getD i false
theorem Closed.waitsN {listed : Array Bool} (h : Closed md ops listed) : ∀ (n j i : Nat), waitsN md ops n j i = true → listed.getD j false = true → listed.getD i false = true
  | 0, _, _, hw, _ => by cases hw
  | n + 1, j, i, hw, hj => by
    unfold Go.Proofs.Ytoflfhjeabpcjaa.waitsN at hw
    split at hw
    · rename_i oj ho
      obtain ⟨e, he, hb⟩ := Array.any_eq_true'.1 hw
      simp only [Bool.and_eq_true, beq_iff_eq, Bool.or_eq_true] at hb
      have := h j oj ho hj e he hb.1
      rcases hb.2 with hb | hb
      · rwa [hb] at this
      · exact Closed.waitsN h n e.on i hb this
    · cases hw
theorem markAll_ok {listed : Array Bool} : ∀ (r : List Edge) (m : Array Bool), (∀ e ∈ r, Region.binds md e = true → listed.getD e.on false = true) → (∀ i, m.getD i false = true → listed.getD i false = true) → ∀ i, (markAll md r m).getD i false = true → listed.getD i false = true
  | [], _, _, hm, i, h => hm i h
  | e :: r, m, hr, hm, i, h => by
    refine markAll_ok r _ (fun e' he' => hr e' (List.mem_cons_of_mem _ he')) (fun j hj => ?_) i h
    split at hj
    · rename_i hb
      by_cases hje : j = e.on
      · subst hje
        exact hr e (List.mem_cons_self ..) hb
      · refine hm j ?_
        rw [Array.getD_eq_getD_getElem?, Array.getElem?_setIfInBounds_ne (Ne.symm hje)] at hj
        rw [Array.getD_eq_getD_getElem?]
        exact hj
    · exact hm j hj
theorem markAt_ok {listed : Array Bool} (h : Closed md ops listed) (m : Array Bool) (j : Nat) (hm : ∀ i, m.getD i false = true → listed.getD i false = true) : ∀ i, (markAt md ops m j).getD i false = true → listed.getD i false = true := by
  intro i hi
  unfold markAt at hi
  split at hi
  · rename_i hmj
    split at hi
    · rename_i oj ho
      exact markAll_ok _ m (fun e he hb => h j oj ho (hm j hmj) e (Array.mem_toList_iff.1 he) hb) hm i hi
    · exact hm i hi
  · exact hm i hi
theorem Closed.behindAll {listed : Array Bool} (h : Closed md ops listed) {b : Nat} (hb : listed.getD b false = true) : ∀ i, (behindAll md ops b).getD i false = true → listed.getD i false = true := by
  have key : ∀ (l : List Nat) (m : Array Bool), (∀ i, m.getD i false = true → listed.getD i false = true) → ∀ i, (l.foldl (markAt md ops) m).getD i false = true → listed.getD i false = true := by
    intro l
    induction l with
    | nil => intro m hm i hi; exact hm i hi
    | cons j l ih => intro m hm i hi; exact ih _ (markAt_ok h m j hm) i hi
  refine key _ _ fun i hi => ?_
  by_cases hib : i = b
  · subst hib; exact hb
  · rw [Array.getD_eq_getD_getElem?, Array.getElem?_setIfInBounds_ne (Ne.symm hib)] at hi
    rw [Array.getElem?_replicate] at hi
    split at hi <;> simp at hi
theorem Closed.waits {listed : Array Bool} {i j : Nat} (h : Closed md ops listed) (hw : waits md ops j i = true) (hj : listed.getD j false = true) : listed.getD i false = true := by
  unfold Go.Proofs.Ytoflfhjeabpcjaa.waits at hw
  simp only [Bool.or_eq_true] at hw
  rcases hw with ((hw | hw) | hw) | hw
  · exact h.waitsN _ _ _ hw hj
  · exact h.waitsN _ _ _ hw hj
  · exact h.waitsN _ _ _ hw hj
  · exact h.behindAll hj i hw

theorem getD_both' {listed : Array Bool} {i : Nat} (h : listed.getD i true = false) : listed.getD i false = false := by
  rcases Nat.lt_or_ge i listed.size with h' | h'
  · simp [h'] at h ⊢; exact h
  · simp [Array.getElem?_eq_none h'] at h

theorem getD_replicate_false' (m j : Nat) : (Array.replicate m false).getD j false = false := by
  rcases Nat.lt_or_ge j m with h | h
  · simp [h]
  · simp [h]

theorem any_set_ne {i : Nat} {listed : Array Bool} : ∀ {bs : List Nat}, i ∉ bs → bs.any (fun b => (listed.setIfInBounds i true).getD b false) = bs.any (fun b => listed.getD b false)
  | [], _ => rfl
  | b :: bs, hi => by
    simp only [List.mem_cons, not_or] at hi
    simp only [List.any_cons, any_set_ne hi.2, getD_set_ne false hi.1]

theorem BarS.set_ne {bs : List Nat} {listed : Array Bool} {w : World} {i : Nat} (hi : i ∉ bs) : BarS bs C (listed.setIfInBounds i true) w ↔ BarS bs C listed w := by
  unfold BarS
  rw [any_set_ne hi]

/-- The class in which a quiet operation is looked at: C ahead of the barrier, any world behind it. -/
def BarT (C : World → Prop) (past : Bool) (w : World) : Prop := past = true ∨ C w

theorem wpAnyG_first {bs : List Nat} {past : Bool} {i : Nat} {oi : Oper} {v : Value} (hi : ops[i]? = some oi) (hsel : ∀ (j : Nat) (o : Oper) cs b, ops[j]? = some o → o.op ≠ .select cs b)
    (hQ : ∀ c a w, Q (.panic c) (a.put oi.dst v) w → Q (.panic c) a w) (hib : i ∉ bs) (hw : past = false → ∀ b ∈ bs, waits md ops b i = true) :
    ∀ (fuel : Nat) (listed : Array Bool) (a : Act) (w : World), Closed md ops listed →
      (∀ j oj, ops[j]? = some oj → j ≠ i → listed.getD j true = false → (∀ e ∈ oj.after, Region.binds md e = true → e.on ≠ i) → oi.apart ops oj = true) →
      i ∈ Region.ready md ops listed → YieldsIf P ops (BarT C past) oi v a → BarS bs C listed w →
      wpAnyG P md ops Q (BarS bs C) fuel (listed.setIfInBounds i true) (a.put oi.dst v) w → wpAnyG P md ops Q (BarS bs C) (fuel + 1) listed a w := by
  have toT : ∀ (listed : Array Bool) (w : World), Closed md ops listed → listed.getD i true = false → BarS bs C listed w → BarT C past w := by
    intro listed w hcl hun hS
    cases hp : past with
    | true => exact .inl rfl
    | false =>
      rcases hS with hS | hS
      · obtain ⟨b, hb, hbl⟩ := List.any_eq_true.1 hS
        have := hcl.waits (hw hp b hb) hbl
        rw [getD_both' hun] at this
        cases this
      · exact .inr hS
  intro fuel
  induction fuel with
  | zero =>
    intro listed a w hcl _ hr hy hS H
    refine ⟨fun h => (by rw [h] at hr; cases hr), fun j hj => ?_⟩
    by_cases hji : j = i
    · subst hji; exact hy.wpOp hi (toT _ _ hcl (mem_ready.1 hr).1 hS) ⟨(BarS.set_ne hib).2 hS, H⟩
    · have := ready_mono hj hji
      rw [H.1] at this
      cases this
  | succ fuel ih =>
    intro listed a w hcl hfree hr hy hS H
    refine ⟨fun h => (by rw [h] at hr; cases hr), fun j hj => ?_⟩
    by_cases hji : j = i
    · subst hji; exact hy.wpOp hi (toT _ _ hcl (mem_ready.1 hr).1 hS) ⟨(BarS.set_ne hib).2 hS, H⟩
    · have h1 := H.2 j (ready_mono hj hji)
      obtain ⟨hjun, oj, hoj, hall⟩ := mem_ready.1 hj
      have hnot : ∀ e ∈ oj.after, Region.binds md e = true → e.on ≠ i := fun e he hb heq => by
        have h1 := hall e he hb
        rw [heq, getD_both' (mem_ready.1 hr).1] at h1
        cases h1
      have h2 := wpOp_putIf hoj (hfree j oj hoj hji hjun hnot) (fun cs b => hsel i oi cs b hi) (fun cs b => hsel j oj cs b hoj) hQ hy h1
      have hfree' : ∀ k ok, ops[k]? = some ok → k ≠ i → (listed.setIfInBounds j true).getD k true = false →
          (∀ e ∈ ok.after, Region.binds md e = true → e.on ≠ i) → oi.apart ops ok = true := fun k ok hk hki hun hno => by
        refine hfree k ok hk hki ?_ hno
        by_cases hjk : j = k
        · subst hjk; exact hjun
        · rw [getD_set_ne true hjk] at hun; exact hun
      refine wpOp_mono (fun a' w' h3 => ?_) h2
      have hS' : BarS bs C (listed.setIfInBounds j true) w' := by
        have := h3.2.1
        rw [Array.setIfInBounds_comm _ _ (Ne.symm hji)] at this
        exact (BarS.set_ne hib).1 this
      refine ⟨hS', ih (listed.setIfInBounds j true) a' w' (hcl.set hj) hfree' (ready_mono hr (Ne.symm hji)) h3.1 hS' ?_⟩
      rw [Array.setIfInBounds_comm _ _ hji]
      exact h3.2.2

/-- The plan: quiet ones, others; 'bs' the barrier (one at most); 'past': it has come up. -/
def okBar (md : Region.Mode) (ops : Array Oper) (bs : List Nat) : List (Bool × Nat) → Bool → Array Bool → Bool
  | [], _, listed => (Region.ready md ops listed).isEmpty
  | (true, i) :: r, past, listed => (Region.ready md ops listed).contains i && Region.free md ops listed i && (match ops[i]? with | some o => isVal o | none => false) && !(bs.contains i) && (past || bs.all fun b => waits md ops b i) && okBar md ops bs r past (listed.setIfInBounds i true)
  | (false, i) :: r, past, listed => decide (Region.ready md ops listed = [i]) && (ops[i]?).isSome && okBar md ops bs r (past || bs.contains i) (listed.setIfInBounds i true)

def wpBar (P : Program) (ops : Array Oper) (bs : List Nat) (C : World → Prop) (Q : Exit → Act → World → Prop) : List (Bool × Nat) → Bool → Act → World → Prop
  | [], _, a, w => Q .normal a w
  | (true, i) :: r, past, a, w => qOp P ops (BarT C past) i (fun a' => wpBar P ops bs C Q r past a' w) a
  | (false, i) :: r, past, a, w => wpOp P ops Q i (fun a' w' => (past = true ∨ bs.contains i = true ∨ C w') ∧ wpBar P ops bs C Q r (past || bs.contains i) a' w') a w

theorem wpAnyG_of_bar {bs : List Nat} (hs : Region.noSelect ops = true) (hQ : ∀ d v c a w, Q (.panic c) (a.put d v) w → Q (.panic c) a w) :
    ∀ (plan : List (Bool × Nat)) (past : Bool) (listed : Array Bool) (a : Act) (w : World), okBar md ops bs plan past listed = true → listed.size = ops.size → Closed md ops listed →
      (past = true → bs.any (fun b => listed.getD b false) = true) → BarS bs C listed w →
      wpBar P ops bs C Q plan past a w → ∀ fuel, plan.length ≤ fuel → wpAnyG P md ops Q (BarS bs C) fuel listed a w
  | [], past, listed, a, w, hp, hsz, hcl, hpast, hC, h, fuel, _ => by
    simp only [okBar, List.isEmpty_iff] at hp
    cases fuel with
    | zero => exact ⟨hp, h⟩
    | succ fuel => exact ⟨fun _ => h, by rw [hp]; simp⟩
  | (true, i) :: r, past, listed, a, w, hp, hsz, hcl, hpast, hC, h, fuel, hf => by
    simp only [okBar, Bool.and_eq_true, Bool.not_eq_true', Bool.or_eq_true] at hp
    obtain ⟨⟨⟨⟨⟨h1, h2⟩, h3⟩, h5⟩, h6⟩, h4⟩ := hp
    obtain ⟨fuel, rfl⟩ : ∃ k, fuel = k + 1 := ⟨fuel - 1, by simp at hf; omega⟩
    cases ho : ops[i]? with
    | none => rw [ho] at h3; cases h3
    | some o =>
      rw [ho] at h3
      have hib : i ∉ bs := by simpa using h5
      have hw : past = false → ∀ b ∈ bs, waits md ops b i = true := by
        intro hp b hb
        rcases h6 with h6 | h6
        · rw [hp] at h6; cases h6
        · exact List.all_eq_true.1 h6 b hb
      have hr : i ∈ Region.ready md ops listed := by simpa using h1
      have hT : BarT C past w := by
        cases hp : past with
        | true => exact .inl rfl
        | false =>
          rcases hC with hC | hC
          · obtain ⟨b, hb, hbl⟩ := List.any_eq_true.1 hC
            have := hcl.waits (hw hp b hb) hbl
            rw [getD_both' (mem_ready.1 hr).1] at this
            cases this
          · exact .inr hC
      obtain ⟨v, hy, hK⟩ := yieldsIf_of_qOp hT ho h3 h
      have hany := any_set_ne (listed := listed) hib
      exact wpAnyG_first ho (Region.noSelect_spec hs) (fun c a w => hQ _ _ c a w) hib hw fuel listed a w hcl (Region.free_spec ho h2) hr hy hC
        (wpAnyG_of_bar hs hQ r past _ _ _ h4 (by simp [hsz]) (hcl.set hr) (fun hp => by rw [hany]; exact hpast hp) ((BarS.set_ne hib).2 hC) hK fuel (by simp at hf; omega))
  | (false, i) :: r, past, listed, a, w, hp, hsz, hcl, hpast, hC, h, fuel, hf => by
    simp only [okBar, Bool.and_eq_true, decide_eq_true_eq] at hp
    obtain ⟨⟨h1, h2⟩, h4⟩ := hp
    obtain ⟨fuel, rfl⟩ : ∃ k, fuel = k + 1 := ⟨fuel - 1, by simp at hf; omega⟩
    refine ⟨fun h0 => by rw [h0] at h1; simp at h1, fun j hj => ?_⟩
    rw [h1] at hj
    obtain rfl : j = i := by simpa using hj
    have hlt : j < listed.size := by
      rw [hsz]
      obtain ⟨o, ho⟩ := Option.isSome_iff_exists.1 h2
      exact (Array.getElem?_eq_some_iff.1 ho).1
    have hself : (listed.setIfInBounds j true).getD j false = true := by simp [Array.getD, hlt]
    have hkeep : ∀ b, listed.getD b false = true → (listed.setIfInBounds j true).getD b false = true := fun b hb => getD_set_true hb
    refine wpOp_mono (fun a' w' hh => ?_) h
    have hS : BarS bs C (listed.setIfInBounds j true) w' := by
      rcases hh.1 with hp | hp | hp
      · refine .inl ?_
        obtain ⟨b, hb, hbl⟩ := List.any_eq_true.1 (hpast hp)
        exact List.any_eq_true.2 ⟨b, hb, hkeep b hbl⟩
      · exact .inl (List.any_eq_true.2 ⟨j, by simpa using hp, hself⟩)
      · exact .inr hp
    refine ⟨hS, wpAnyG_of_bar hs hQ r _ _ _ _ h4 (by simp [hsz]) (hcl.set (by rw [h1]; simp)) (fun hp => ?_) hS hh.2 fuel (by simp at hf; omega)⟩
    rcases Bool.or_eq_true_iff.1 hp with hp | hp
    · obtain ⟨b, hb, hbl⟩ := List.any_eq_true.1 (hpast hp)
      exact List.any_eq_true.2 ⟨b, hb, hkeep b hbl⟩
    · exact List.any_eq_true.2 ⟨j, by simpa using hp, hself⟩

/-- Q, but nothing serves at a panic. -/
def NoPan (Q : Exit → Act → World → Prop) : Exit → Act → World → Prop
  | .panic _, _, _ => False
  | e, a, w => Q e a w

/-- Segments under C, then K. -/
def wpSegs (P : Program) (ops : Array Oper) (l : List Oper) (C : World → Prop) (Q : Exit → Act → World → Prop) (K : Act → World → Prop) : List (List Nat × Nat) → List Nat → Act → World → Prop
  | [], last, a, w => wpQuiet P ops C (fun a' => K a' w) (pick l last) a
  | (seg, e) :: more, last, a, w =>
    wpQuiet P ops C (fun a' => wpList P ops (Exit.then (fun a'' w'' => C w'' ∧ wpSegs P ops l C Q K more last a'' w'') Q) (pick l [e]) a' w) (pick l seg) a

def flat' : List (List Nat × Nat) → List Nat → List (Bool × Nat) → List (Bool × Nat)
  | [], last, r => (last.map fun i => (true, i)) ++ r
  | (seg, e) :: more, last, r => (seg.map fun i => (true, i)) ++ (false, e) :: flat' more last r

theorem wpBar_of_quiet {bs : List Nat} {past : Bool} {l : List Oper} (hl : ∀ i : Nat, l[i]? = ops[i]?) {K : Act → Prop} {w : World} {rest : List (Bool × Nat)} (hK : ∀ a, K a → wpBar P ops bs C Q rest past a w) :
    ∀ (seg : List Nat) (a : Act), (∀ i ∈ seg, (ops[i]?).isSome) → wpQuiet P ops (BarT C past) K (pick l seg) a → wpBar P ops bs C Q ((seg.map fun i => (true, i)) ++ rest) past a w
  | [], a, _, h => hK _ (by simpa [pick, wpQuiet] using h)
  | i :: seg, a, hs, h => by
    have hi := hs i (by simp)
    obtain ⟨o, ho⟩ := Option.isSome_iff_exists.1 hi
    simp only [pick, hl, ho] at h
    simp only [List.map_cons, List.cons_append, wpBar, qOp, ho]
    simp only [wpQuiet] at h
    have next := fun a' h' => wpBar_of_quiet hl hK seg a' (fun j hj => hs j (by simp [hj])) h'
    split
    · rename_i hw
      rw [if_pos hw] at h
      exact Oper.quiet_mono next h
    · rename_i hw
      rw [if_neg hw] at h
      exact next _ h

theorem wpOp_of_list {l : List Oper} (hl : ∀ i : Nat, l[i]? = ops[i]?) (hlet : ∀ K : Act → World → Prop, LetsOut (Exit.then K Q) → LetsOut Q) (hpan : ∀ (K : Act → World → Prop) c a w, Exit.then K Q (.panic c) a w → Q (.panic c) a w)
    {e : Nat} (he : (ops[e]?).isSome) {K K' : Act → World → Prop} (hK : ∀ a w, K a w → K' a w) {a : Act} {w : World} (h : wpList P ops (Exit.then K Q) (pick l [e]) a w) : wpOp P ops Q e K' a w := by
  obtain ⟨o, ho⟩ := Option.isSome_iff_exists.1 he
  simp only [pick, hl, ho] at h
  simp only [wpOp, ho]
  simp only [wpList] at h
  split
  · rename_i hw
    rw [if_pos hw] at h
    rcases h with h | ⟨h1, h2⟩
    · refine .inl ?_
      unfold Oper.wp at *
      generalize (execOp a.eval o).run P w = r at *
      cases r with
      | ok n w' =>
        cases n <;> simp only [Oper.upon] at h ⊢ <;>
          first
            | exact hK _ _ h
            | exact Calls.mono h (fun e w'' he => by
                cases e with
                | returned v => exact hK _ _ he
                | panicked c => exact hpan _ _ _ _ he
                | outgrown => exact hlet _ he)
            | exact Rows.mono h (fun _ _ he => hK _ _ he)
      | halt x w' =>
        cases x <;> simp only [Oper.upon] at h ⊢
        exact hpan _ _ _ _ h
    · exact .inr ⟨h1, hlet _ h2⟩
  · rename_i hw
    rw [if_neg hw] at h
    exact hK _ _ h

theorem wpBar_of_segs {bs : List Nat} {past : Bool} {l : List Oper} (hl : ∀ i : Nat, l[i]? = ops[i]?) (hlet : ∀ K : Act → World → Prop, LetsOut (Exit.then K Q) → LetsOut Q) (hpan : ∀ (K : Act → World → Prop) c a w, Exit.then K Q (.panic c) a w → Q (.panic c) a w)
    (last : List Nat) {K : Act → World → Prop} {rest : List (Bool × Nat)} (hK : ∀ a w, K a w → wpBar P ops bs C Q rest past a w) :
    ∀ (segs : List (List Nat × Nat)) (a : Act) (w : World), (∀ x ∈ flat' segs last rest, (ops[x.2]?).isSome) → (∀ x ∈ segs, past = true ∨ x.2 ∉ bs) →
      wpSegs P ops l (BarT C past) Q K segs last a w → wpBar P ops bs C Q (flat' segs last rest) past a w
  | [], a, w, hs, _, h => wpBar_of_quiet (rest := rest) hl (fun a' h' => hK _ _ h') last a (fun i hi => hs (true, i) (by simp [flat', hi])) h
  | (seg, e) :: more, a, w, hs, hb, h => by
    simp only [flat']
    refine wpBar_of_quiet hl (K := _) (fun a' h' => ?_) seg a (fun i hi => hs (true, i) (by simp [flat', hi])) h
    have he := hs (false, e) (by simp [flat'])
    simp only [wpBar]
    refine wpOp_of_list hl hlet hpan he (fun a'' w'' hh => ?_) h'
    have hp : (past || bs.contains e) = past := by
      rcases hb (seg, e) (by simp) with hp | hp
      · simp [hp]
      · have : bs.contains e = false := by simpa using hp
        rw [this, Bool.or_false]
    rw [hp]
    refine ⟨?_, wpBar_of_segs hl hlet hpan last hK more a'' w'' (fun x hx => hs x (by simp [flat', hx])) (fun x hx => hb x (by simp [hx])) hh.2⟩
    rcases hh.1 with h1 | h1
    · exact .inl h1
    · exact .inr (.inr h1)

theorem okBar_some {bs : List Nat} : ∀ (plan : List (Bool × Nat)) (past : Bool) (listed : Array Bool), okBar md ops bs plan past listed = true → ∀ x ∈ plan, (ops[x.2]?).isSome
  | [], _, _, _, x, hx => by cases hx
  | (true, i) :: r, past, listed, hp, x, hx => by
    simp only [okBar, Bool.and_eq_true] at hp
    obtain ⟨⟨⟨⟨⟨h1, h2⟩, h3⟩, h5⟩, h6⟩, h4⟩ := hp
    rcases List.mem_cons.1 hx with rfl | hx
    · show (ops[i]?).isSome = true
      cases ho : ops[i]? with
      | none => rw [ho] at h3; cases h3
      | some o => rfl
    · exact okBar_some r _ _ h4 x hx
  | (false, i) :: r, past, listed, hp, x, hx => by
    simp only [okBar, Bool.and_eq_true] at hp
    rcases List.mem_cons.1 hx with rfl | hx
    · exact hp.1.2
    · exact okBar_some r _ _ hp.2 x hx

/-- THE LAW. C: what of the memory stays as it is in the region; segs, last: the order in which it is walked. -/
theorem wp_region_mix {id : Nat} {l : List Oper} {a : Act} {w : World} (C : World → Prop) (segs : List (List Nat × Nat)) (last : List Nat) (hm : P.follows .mixedOrders = true)
    (hp : (Region.noSelect l.toArray && decide ((flat segs last).length ≤ l.length) && okPlan .any l.toArray (flat segs last) (Array.replicate l.length false)) = true)
    (hC : C w.drew)
    (h : wpMix P l.toArray l C (NoPan Q) segs last a w.drew) : (Code.region id l.toArray true).wp P Q a w := by
  refine Code.wp_mono (Q := NoPan Q) (fun e a w h => by cases e <;> first | exact h | exact (h : False).elim) ?_
  simp only [Bool.and_eq_true, decide_eq_true_eq] at hp
  obtain ⟨⟨h1, h2⟩, h3⟩ := hp
  refine wp_region_held (S := C) hm ?_
  have hf := wpFlat_of_mix (P := P) (ops := l.toArray) (l := l) (C := C) (Q := NoPan Q) (fun i => by simp) (fun K => letsOut_then K) (fun K c a w h => h) last segs a w.drew (fun x hx => okPlan_some _ _ h3 x hx) h
  have hsz : l.toArray.size = l.length := by simp
  rw [hsz]
  exact wpAnyH_of_flat h1 (fun _ _ _ _ _ h => h) _ _ _ _ h3 hC hf _ h2

theorem letsOut_noPan (K : Act → World → Prop) (h : LetsOut (Exit.then K (NoPan Q))) : LetsOut (NoPan Q) := by
  obtain ⟨a, w, h⟩ := h
  exact ⟨a, w, h⟩

/-- THE LAW WITH A BARRIER b: what of the memory stays as it is (C) is asked for ahead of the barrier alone. -/
theorem wp_region_bar {id : Nat} {l : List Oper} {a : Act} {w : World} (C : World → Prop) (segs : List (List Nat × Nat)) (segb : List Nat) (b : Nat) (segs2 : List (List Nat × Nat)) (last2 : List Nat) (hm : P.follows .mixedOrders = true)
    (hp : (Region.noSelect l.toArray && decide ((flat' segs segb ((false, b) :: flat' segs2 last2 [])).length ≤ l.length) && segs.all (fun x => x.2 != b) && okBar .any l.toArray [b] (flat' segs segb ((false, b) :: flat' segs2 last2 [])) false (Array.replicate l.length false)) = true)
    (hC : C w.drew)
    (h : wpSegs P l.toArray l C (NoPan Q) (fun a' w' => wpList P l.toArray (Exit.then (fun a'' w'' => wpSegs P l.toArray l (fun _ => True) (NoPan Q) (fun a w => NoPan Q .normal a w) segs2 last2 a'' w'') (NoPan Q)) (pick l [b]) a' w') segs segb a w.drew) :
    (Code.region id l.toArray true).wp P Q a w := by
  refine Code.wp_mono (Q := NoPan Q) (fun e a w h => by cases e <;> first | exact h | exact (h : False).elim) ?_
  simp only [Bool.and_eq_true, decide_eq_true_eq, List.all_eq_true, bne_iff_ne] at hp
  obtain ⟨⟨⟨h1, h2⟩, h4⟩, h3⟩ := hp
  have hsome := okBar_some _ _ _ h3
  have hl : ∀ i : Nat, l[i]? = l.toArray[i]? := fun i => by simp
  have hpan : ∀ (K : Act → World → Prop) c a w, Exit.then K (NoPan Q) (.panic c) a w → NoPan Q (.panic c) a w := fun K c a w h => h
  have sub : ∀ (segs : List (List Nat × Nat)) (last : List Nat) (r : List (Bool × Nat)) x, x ∈ r → x ∈ flat' segs last r := by
    intro segs last r x hx
    induction segs with
    | nil => simp [flat', hx]
    | cons p segs ih => obtain ⟨s, e⟩ := p; simp [flat', ih]
  have hT : BarT C false = C := by
    funext w
    simp [BarT]
  have hT' : BarT C true = fun _ => True := by
    funext w
    simp [BarT]
  have hf : wpBar P l.toArray [b] C (NoPan Q) (flat' segs segb ((false, b) :: flat' segs2 last2 [])) false a w.drew := by
    refine wpBar_of_segs hl (fun K => letsOut_noPan K) hpan segb (K := _) (fun a' w' h' => ?_) segs a w.drew hsome (fun x hx => .inr (by simpa using h4 x hx)) (by rw [hT]; exact h)
    simp only [wpBar]
    refine wpOp_of_list hl (fun K => letsOut_noPan K) hpan (hsome (false, b) (sub _ _ _ _ (by simp))) (fun a'' w'' hh => ⟨.inr (.inl (by simp)), ?_⟩) h'
    have hb1 : (false || [b].contains b) = true := by simp
    rw [hb1]
    refine wpBar_of_segs hl (fun K => letsOut_noPan K) hpan last2 (K := fun a w => NoPan Q .normal a w) (rest := []) (fun a' w' h' => h') segs2 a'' w'' (fun x hx => hsome x (sub _ _ _ _ (by simp [hx]))) (fun x _ => .inl rfl) (by rw [hT']; exact hh)
  refine wp_region_any hm (wpAny_of_G (S := BarS [b] C) _ _ _ _ ?_)
  have hsz : l.toArray.size = l.length := by simp
  rw [hsz]
  refine wpAnyG_of_bar h1 (fun _ _ _ _ _ h => h) _ _ _ _ _ h3 (by simp) ?_ (fun h => by cases h) (.inr hC) hf _ h2
  intro j oj _ hl' 
  rw [getD_replicate_false'] at hl'
  cases hl'
end
end Go.Proofs.Ytoflfhjeabpcjaa
