/- Regions within a round of a range over a function are walked as anywhere; no condition. -/
import Derived.Test.YtoflfhjeabpcjaaBase
import Derived.RangeFuncNested
import Derived.RangeFuncCalls
import Derived.RangeFuncLeaves
import Derived.TacticsIn
import Derived.TacticsInMore
import Derived.OwnWalkIn
import Derived.Shelf.Abstract
namespace Go.Proofs.Ytoflfhjeabpcjaa
set_option linter.unusedVariables false
set_option linter.unusedSimpArgs false
open Go.RowKit

def noDefer (ops : Array Oper) : Bool := ops.all fun o => match o.op with | .defer _ => false | _ => true
theorem noDefer_at {ops : Array Oper} (h : noDefer ops = true) {i : Nat} {o : Oper} (ho : ops[i]? = some o) : ∀ c, o.op ≠ .defer c := by
  intro c hc
  obtain ⟨hi, he⟩ := Array.getElem?_eq_some_iff.1 ho
  have h1 := (Array.all_eq_true.1 h) i hi
  rw [he, hc] at h1
  cases h1
section
variable {n rl : Nat} {P : Program} {Q : Exit → Act → World → Prop}
theorem rowsIn_round {row : String} {args : Array Value} {w : World} {R : Value → World → Prop} (h : Rows P row args w R) : RowsIn (Fence.wide.inRound rl) n P row args w R :=
  fun c cs _ => let ⟨v, w', r, s⟩ := h c cs; ⟨v, w', r, stepsIn_wide.2 s⟩
theorem upon_round {o : Oper} {a : Act} {K : Act → World → Prop} {K' : Act → World → Prop} (hK : ∀ a w, K a w → K' a w) {r : Result Next} (h : o.upon P a K Q r) : o.uponIn (Fence.wide.inRound rl) n P a K' Q r := by
  cases r with
  | ok x w' =>
    cases x <;> simp only [Oper.upon, Oper.uponIn] at h ⊢ <;>
      first
        | exact hK _ _ h
        | exact ⟨fun hh => (by cases hh), CallsIn.inRound rl (callsIn_wide.2 (Calls.mono h (fun e w'' he => by cases e <;> first | exact hK _ _ he | exact he)))⟩
        | exact ⟨fun hh => (by cases hh), RowsIn.mono (rowsIn_round h) (fun _ _ he => hK _ _ he)⟩
  | halt x w' => cases x <;> simp only [Oper.upon, Oper.uponIn] at h ⊢ <;> exact h
theorem wpOpsIn_of_wpOps {ops : Array Oper} (hd : noDefer ops = true) (hQ : LetsOut Q → False) : ∀ (is : List Nat) (a : Act) (w : World), wpOps P ops Q is a w → wpOpsIn (Fence.wide.inRound rl) n P ops Q is a w
  | [], _, _, h => h
  | i :: is, a, w, h => by
    simp only [wpOps] at h
    simp only [wpOpsIn]
    cases ho : ops[i]? with
    | none =>
      rw [ho] at h
      exact wpOpsIn_of_wpOps hd hQ is a w h
    | some o =>
      rw [ho] at h
      simp only at h ⊢
      split
      · rename_i hw
        rw [if_pos hw] at h
        rcases h with h | ⟨_, h⟩
        · refine ⟨fun _ _ => trivial, ?_⟩
          rw [Oper.semAt_eq _ _ _ (noDefer_at hd ho)]
          exact upon_round (wpOpsIn_of_wpOps hd hQ is) h
        · exact (hQ h).elim
      · rename_i hw
        rw [if_neg hw] at h
        exact ⟨fun _ _ => trivial, wpOpsIn_of_wpOps hd hQ is _ _ h⟩
theorem wpR_region_lit {id : Nat} {l : List Oper} {a : Act} {w : World} (hd : noDefer l.toArray = true) (hQ : LetsOut Q → False) (h : wpList P l.toArray Q l a w) : (Code.region id l.toArray false).wpIn (Fence.wide.inRound rl) n P Q a w := by
  refine wpIn_region (wpOpsIn_of_wpOps hd hQ _ _ _ ?_)
  have e := wpOps_eq_wpList (P := P) (ops := l.toArray) (Q := Q) l 0 (fun j => by simp)
  rw [List.range_eq_range']
  simp only [List.size_toArray]
  rw [e]
  exact h
theorem wpR_region_any {ops : Array Oper} {id : Nat} {a : Act} {w : World} (hd : noDefer ops = true) (hQ : LetsOut Q → False) (hm : P.follows .mixedOrders = true)
    (h : wpAny P .any ops Q ops.size (Array.replicate ops.size false) a { w with drawn := w.drawn + 1 }) : (Code.region id ops true).wpIn (Fence.wide.inRound rl) n P Q a w :=
  wpIn_region_draw fun t => by
    simp only [Region.schedule, hm, Bool.true_or, if_true]
    exact wpOpsIn_of_wpOps hd hQ _ _ _ (wpAny_sound ops.size t _ a _ h)
theorem letsOut_np (h : LetsOut (NoPan Q)) : LetsOut Q := by
  obtain ⟨a, w, h⟩ := h
  exact ⟨a, w, h⟩
variable {C : World → Prop}
theorem wpR_region_mix {id : Nat} {l : List Oper} {a : Act} {w : World} (C : World → Prop) (segs : List (List Nat × Nat)) (last : List Nat) (hm : P.follows .mixedOrders = true)
    (hp : (Region.noSelect l.toArray && decide ((flat segs last).length ≤ l.length) && okPlan .any l.toArray (flat segs last) (Array.replicate l.length false)) = true)
    (hd : noDefer l.toArray = true) (hQ : LetsOut Q → False) (hC : C w.drew)
    (h : wpMix P l.toArray l C (NoPan Q) segs last a w.drew) : (Code.region id l.toArray true).wpIn (Fence.wide.inRound rl) n P Q a w := by
  refine wpIn_mono (Q := NoPan Q) ?_ (fun e a w h => by cases e <;> first | exact h | exact (h : False).elim)
  simp only [Bool.and_eq_true, decide_eq_true_eq] at hp
  obtain ⟨⟨h1, h2⟩, h3⟩ := hp
  refine wpR_region_any hd (fun h => hQ (letsOut_np h)) hm (wpAny_of_held (S := C) _ _ _ _ ?_)
  have hf := wpFlat_of_mix (P := P) (ops := l.toArray) (l := l) (C := C) (Q := NoPan Q) (fun i => by simp) (fun K => letsOut_then K) (fun K c a w h => h) last segs a w.drew (fun x hx => okPlan_some _ _ h3 x hx) h
  have hsz : l.toArray.size = l.length := by simp
  rw [hsz]
  exact wpAnyH_of_flat h1 (fun _ _ _ _ _ h => h) _ _ _ _ h3 hC hf _ h2
theorem wpR_region_bar {id : Nat} {l : List Oper} {a : Act} {w : World} (C : World → Prop) (segs : List (List Nat × Nat)) (segb : List Nat) (b : Nat) (segs2 : List (List Nat × Nat)) (last2 : List Nat) (hm : P.follows .mixedOrders = true)
    (hp : (Region.noSelect l.toArray && decide ((flat' segs segb ((false, b) :: flat' segs2 last2 [])).length ≤ l.length) && segs.all (fun x => x.2 != b) && okBar .any l.toArray [b] (flat' segs segb ((false, b) :: flat' segs2 last2 [])) false (Array.replicate l.length false)) = true)
    (hd : noDefer l.toArray = true) (hQ : LetsOut Q → False) (hC : C w.drew)
    (h : wpSegs P l.toArray l C (NoPan Q) (fun a' w' => wpList P l.toArray (Exit.then (fun a'' w'' => wpSegs P l.toArray l (fun _ => True) (NoPan Q) (fun a w => NoPan Q .normal a w) segs2 last2 a'' w'') (NoPan Q)) (pick l [b]) a' w') segs segb a w.drew) :
    (Code.region id l.toArray true).wpIn (Fence.wide.inRound rl) n P Q a w := by
  refine wpIn_mono (Q := NoPan Q) ?_ (fun e a w h => by cases e <;> first | exact h | exact (h : False).elim)
  simp only [Bool.and_eq_true, decide_eq_true_eq, List.all_eq_true, bne_iff_ne] at hp
  obtain ⟨⟨⟨h1, h2⟩, h4⟩, h3⟩ := hp
  have hsome := okBar_some _ _ _ h3
  have hl : ∀ i : Nat, l[i]? = l.toArray[i]? := fun i => by simp
  have hpan : ∀ (K : Act → World → Prop) c a w, Exit.then K (NoPan Q) (.panic c) a w → NoPan Q (.panic c) a w := fun K c a w h => h
  have sub : ∀ (segs : List (List Nat × Nat)) (last : List Nat) (r : List (Bool × Nat)) x, x ∈ r → x ∈ flat' segs last r := by
    intro segs last r x hx
    induction segs with
    | nil => simp [flat', hx]
    | cons p segs ih => obtain ⟨s, e⟩ := p; simp [flat', ih]
  have hT : BarT C false = C := by
    funext w
    simp [BarT]
  have hT' : BarT C true = fun _ => True := by
    funext w
    simp [BarT]
  have hf : wpBar P l.toArray [b] C (NoPan Q) (flat' segs segb ((false, b) :: flat' segs2 last2 [])) false a w.drew := by
    refine wpBar_of_segs hl (fun K => letsOut_noPan K) hpan segb (K := _) (fun a' w' h' => ?_) segs a w.drew hsome (fun x hx => .inr (by simpa using h4 x hx)) (by rw [hT]; exact h)
    simp only [wpBar]
    refine wpOp_of_list hl (fun K => letsOut_noPan K) hpan (hsome (false, b) (sub _ _ _ _ (by simp))) (fun a'' w'' hh => ⟨.inr (.inl (by simp)), ?_⟩) h'
    have hb1 : (false || [b].contains b) = true := by simp
    rw [hb1]
    refine wpBar_of_segs hl (fun K => letsOut_noPan K) hpan last2 (K := fun a w => NoPan Q .normal a w) (rest := []) (fun a' w' h' => h') segs2 a'' w'' (fun x hx => hsome x (sub _ _ _ _ (by simp [hx]))) (fun x _ => .inl rfl) (by rw [hT']; exact hh)
  refine wpR_region_any hd (fun h => hQ (letsOut_np h)) hm (wpAny_of_G (S := BarS [b] C) _ _ _ _ ?_)
  have hsz : l.toArray.size = l.length := by simp
  rw [hsz]
  refine wpAnyG_of_bar h1 (fun _ _ _ _ _ h => h) _ _ _ _ _ h3 (by simp) ?_ (fun h => by cases h) (.inr hC) hf _ h2
  intro j oj _ hl' 
  rw [getD_replicate_false'] at hl'
  cases hl'
end
end Go.Proofs.Ytoflfhjeabpcjaa
