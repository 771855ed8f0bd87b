/- A tree that was made since a world; no condition. -/
import Derived.Test.YtoflfhjeabpcjaaTriePath
namespace Go.Proofs.Ytoflfhjeabpcjaa
set_option linter.unusedVariables false
set_option linter.unusedSimpArgs false
open Go.RowKit

def pathO : Option Tr → Bs → List (Nat × Bool × Tr)
  | none, _ => []
  | some t, k => t.path k
def endO : Option Tr → Bs → Bs × Bs
  | none, _ => ([], [])
  | some t, k => t.last k
set_option maxRecDepth 100000 in
theorem path_none {D : Nat → Prop} {w : World} {c : Nat} {kv : Value} (h : TI D w c none) :
    Calls Try.prog 22 #[ptrV c, kv] w fun e w' => e = .returned (.agg #[.bool true, .slice none 0 0, .slice none 0 0, .slice none 0 0]) ∧ Ext (fun _ => False) w w' := by
  obtain ⟨r, hc, hr⟩ := h.root
  simp only [RootV] at hr
  subst hr
  have c0 : w.cell? ⟨c, 0, none⟩ = some (.pointer none) := (cells_at hc 0).trans rfl
  have hcl := h.lt
  clear h hc
  go_enter Try.func22, Try.ntmps22
  go_wp2_with fail
  have hg := heap_alloc_self w (.cells #[.bool true, .slice none 0 0, .slice none 0 0, .slice none 0 0] 43 (0, 0))
  refine bodyPost_ret (results_cell_row rfl _ _ w.heap.size 43 _ (0, 0) _ rfl hg Try.underlying43 rfl (by kernel_rfl)) rfl ?_
  exact ⟨rfl, (Ext.refl _ _).alloc _⟩
theorem path_walk {D Dk : Nat → Prop} {w : World} {c : Nat} {o : Option Tr} {kv : Value} {k : Bs} (h : TI D w c o) (hk : Byt Dk w kv k) (hkl : k.length ≤ 140737488355328) (hn : (Tr.entsO o).length ≤ 1099511627776) :
    Calls Try.prog 22 #[ptrV c, kv] w fun e w' => ∃ ka va sv, e = .returned (.agg #[.bool o.isNone, ka, va, sv]) ∧ OwnB w' ka (endO o k).1 ∧ OwnB w' va (endO o k).2 ∧ (∀ q, ka.ownBlock = some q → w.heap.size ≤ q) ∧ (∀ q, va.ownBlock = some q → w.heap.size ≤ q ∧ ka.ownBlock ≠ some q) ∧ w'.ownsRow w.heap.size 48 34 sv (pathO o k).length ((pathO o k).flatMap stC) ∧ Ext (fun _ => False) w w' := by
  cases o with
  | none =>
    refine (path_none h).mono ?_
    rintro e w' ⟨rfl, hx⟩
    exact ⟨_, _, _, rfl, .inl ⟨rfl, rfl⟩, .inl ⟨rfl, rfl⟩, fun q hq => by simp [Value.ownBlock] at hq, fun q hq => by simp [Value.ownBlock] at hq, ⟨rfl, .inl ⟨rfl, rfl⟩⟩, hx⟩
  | some t => exact path_some h hk hkl hn
/-- What Put makes of a tree, whatever is put. -/
def PutO (k v : Bs) (o o' : Option Tr) : Prop := if k.length ≤ 120 ∧ v.length ≤ 1200 then ∃ t', o' = some t' ∧ PutOf k v o t' else o' = o
def putE (k v : Bs) : Int := if k.length ≤ 120 ∧ v.length ≤ 1200 then 0 else 2
theorem tput_walk {D Dk Dv : Nat → Prop} {w : World} {c : Nat} {o : Option Tr} {kv vv : Value} {k v : Bs} (h : TI D w c o) (hk : Byt Dk w kv k) (hv : Byt Dv w vv v) (hn : (Tr.entsO o).length < 9223372036854775807) :
    Calls Try.prog 17 #[ptrV c, kv, vv] w fun e w' => ∃ o', e = .returned (.int .i64 (putE k v)) ∧ PutO k v o o' ∧ TI (Grown D w w') w' c o' ∧ Ext (· = c) w w' := by
  unfold PutO putE
  by_cases hl : k.length ≤ 120 ∧ v.length ≤ 1200
  · simp only [if_pos hl]
    cases o with
    | none =>
      refine (put_none h hk hv hl.1 hl.2).mono ?_
      rintro e w' ⟨rfl, h1, h2⟩
      exact ⟨_, rfl, ⟨_, rfl, h1.ok, fun e => by simp [Tr.ents, Tr.entsO], by simp [Tr.ents, Tr.entsO]⟩, h1, h2⟩
    | some t =>
      refine (put_some h hk hv hl.1 hl.2 hn).mono ?_
      rintro e w' ⟨t', rfl, hp, h1, h2⟩
      exact ⟨_, rfl, ⟨t', rfl, hp⟩, h1, h2⟩
  · simp only [if_neg hl]
    refine (put_long hk hv hl).mono ?_
    rintro e w' ⟨rfl, rfl⟩
    exact ⟨o, rfl, rfl, h.grow (Ext.refl _ _), Ext.refl _ _⟩
/-- A tree that was made since w0. -/
def TM (w0 w : World) (c : Nat) (o : Option Tr) : Prop := (∃ D, TI D w c o ∧ ∀ b, D b → w0.heap.size ≤ b) ∧ w0.heap.size ≤ c ∧ Ext (fun _ => False) w0 w
theorem TM.still {w0 w w' : World} {c : Nat} {o : Option Tr} (h : TM w0 w c o) (hx : Ext (fun _ => False) w w') : TM w0 w' c o := by
  obtain ⟨⟨D, h1, h2⟩, h3, h4⟩ := h
  exact ⟨⟨D, h1.ext hx (fun _ _ => id) id, h2⟩, h3, h4.trans hx⟩
theorem TM.next {w0 w w' : World} {c : Nat} {o o' : Option Tr} (h : TM w0 w c o) (h' : ∀ D, TI D w c o → (∀ b, D b → w0.heap.size ≤ b) → TI (Grown D w w') w' c o') (hx : Ext (· = c) w w') : TM w0 w' c o' := by
  obtain ⟨⟨D, h1, h2⟩, h3, h4⟩ := h
  refine ⟨⟨_, h' D h1 h2, ?_⟩, h3, h4.trans' hx fun k hk => .inr (by omega)⟩
  rintro b (hb | ⟨hb, _⟩)
  · exact h2 b hb
  · exact Nat.le_trans h4.size hb
theorem TM.far {w0 w w' w'' : World} {c : Nat} {o : Option Tr} {F : Nat → Prop} (h : TM w0 w c o) (hx : Ext (fun _ => False) w w') (hy : Ext F w' w'') (hF : ∀ k, F k → w.heap.size ≤ k) : TM w0 w'' c o := by
  obtain ⟨⟨D, h1, h2⟩, h3, h4⟩ := h
  have hlt := h1.lt
  refine ⟨⟨D, (h1.ext hx (fun _ _ => id) id).ext hy (fun k hk hf => ?_) fun hf => ?_, h2⟩, h3, (h4.trans hx).trans' hy fun k hk => .inr (Nat.le_trans h4.size (hF k hk))⟩
  · have := h1.below k hk; have := hF k hf; omega
  · have := hF c hf; omega
theorem tm_new {w0 w : World} (hx : Ext (fun _ => False) w0 w) : Calls Try.prog 14 #[] w fun e w' => e = .returned (ptrV w.heap.size) ∧ TM w0 w' w.heap.size none := by
  refine (new_walk w).mono ?_
  rintro e w' ⟨rfl, h1, h2⟩
  exact ⟨rfl, ⟨_, h1, fun _ => False.elim⟩, hx.size, hx.trans h2⟩
theorem tm_put {w0 w : World} {Dk Dv : Nat → Prop} {c : Nat} {o : Option Tr} {kv vv : Value} {k v : Bs} (h : TM w0 w c o) (hk : Byt Dk w kv k) (hv : Byt Dv w vv v) (hn : (Tr.entsO o).length < 9223372036854775807) :
    Calls Try.prog 17 #[ptrV c, kv, vv] w fun e w' => ∃ o', e = .returned (.int .i64 (putE k v)) ∧ PutO k v o o' ∧ TM w0 w' c o' ∧ Ext (· = c) w w' := by
  obtain ⟨⟨D, h1, h2⟩, h3, h4⟩ := id h
  refine (tput_walk h1 hk hv hn).mono ?_
  rintro e w' ⟨o', rfl, hp, h5, h6⟩
  refine ⟨o', rfl, hp, ⟨⟨_, h5, ?_⟩, h3, h4.trans' h6 fun k hk => .inr (by omega)⟩, h6⟩
  rintro b (hb | ⟨hb, _⟩)
  · exact h2 b hb
  · exact Nat.le_trans h4.size hb
theorem tm_delete {w0 w : World} {Dk : Nat → Prop} {c : Nat} {o : Option Tr} {kv : Value} {k : Bs} (h : TM w0 w c o) (hk : Byt Dk w kv k) (hkl : k.length ≤ 140737488355328) (hn : (Tr.entsO o).length < 9223372036854775807) :
    Calls Try.prog 33 #[ptrV c, kv] w fun e w' => ∃ o', e = .returned (.bool (Tr.get o k).isSome) ∧ DelOf k o o' ∧ TM w0 w' c o' ∧ Ext (· = c) w w' := by
  obtain ⟨⟨D, h1, h2⟩, h3, h4⟩ := id h
  refine (delete_walk h1 hk hkl hn).mono ?_
  rintro e w' ⟨o', rfl, hp, h5, h6⟩
  refine ⟨o', rfl, hp, ⟨⟨_, h5, ?_⟩, h3, h4.trans' h6 fun k hk => .inr (by omega)⟩, h6⟩
  rintro b (hb | ⟨hb, _⟩)
  · exact h2 b hb
  · exact Nat.le_trans h4.size hb
theorem tm_get {w0 w : World} {Dk : Nat → Prop} {c : Nat} {o : Option Tr} {kv : Value} {k : Bs} (h : TM w0 w c o) (hk : Byt Dk w kv k) (hkl : k.length ≤ 140737488355328) :
    Calls Try.prog 23 #[ptrV c, kv] w fun e w' => ∃ v, e = .returned (.tuple #[v, .bool (Tr.get o k).isSome]) ∧ OwnB w' v (gotB (Tr.get o k)) ∧ (∀ q, v.ownBlock = some q → w.heap.size ≤ q) ∧ TM w0 w' c o ∧ Ext (fun _ => False) w w' := by
  obtain ⟨⟨D, h1, h2⟩, h3, h4⟩ := id h
  refine (get_walk h1 hk hkl).mono ?_
  rintro e w' ⟨v, rfl, h5, h6, h7⟩
  exact ⟨v, rfl, h5, h6, h.still h7, h7⟩
theorem tm_count {w0 w : World} {c : Nat} {o : Option Tr} (h : TM w0 w c o) : Calls Try.prog 20 #[ptrV c] w fun e w' => e = .returned (.int .i64 (Tr.entsO o).length) ∧ w' = w := by
  obtain ⟨⟨D, h1, h2⟩, h3, h4⟩ := h
  exact count_walk h1
theorem tm_root {w0 w : World} {c : Nat} {o : Option Tr} (h : TM w0 w c o) : Calls Try.prog 16 #[ptrV c] w fun e w' => e = .returned (sumV (rootS o)) ∧ TM w0 w' c o ∧ Ext (fun _ => False) w w' := by
  obtain ⟨⟨D, h1, h2⟩, h3, h4⟩ := id h
  refine (root_walk h1).mono ?_
  rintro e w' ⟨rfl, h5⟩
  exact ⟨rfl, h.still h5, h5⟩
theorem tm_path {w0 w : World} {Dk : Nat → Prop} {c : Nat} {o : Option Tr} {kv : Value} {k : Bs} (h : TM w0 w c o) (hk : Byt Dk w kv k) (hkl : k.length ≤ 140737488355328) (hn : (Tr.entsO o).length ≤ 1099511627776) :
    Calls Try.prog 22 #[ptrV c, kv] w fun e w' => ∃ ka va sv, e = .returned (.agg #[.bool o.isNone, ka, va, sv]) ∧ OwnB w' ka (endO o k).1 ∧ OwnB w' va (endO o k).2 ∧ (∀ q, ka.ownBlock = some q → w.heap.size ≤ q) ∧ (∀ q, va.ownBlock = some q → w.heap.size ≤ q ∧ ka.ownBlock ≠ some q) ∧ w'.ownsRow w.heap.size 48 34 sv (pathO o k).length ((pathO o k).flatMap stC) ∧ TM w0 w' c o ∧ Ext (fun _ => False) w w' := by
  obtain ⟨⟨D, h1, h2⟩, h3, h4⟩ := id h
  refine (path_walk h1 hk hkl hn).mono ?_
  rintro e w' ⟨ka, va, sv, rfl, a1, a2, a3, a4, a5, a6⟩
  exact ⟨ka, va, sv, rfl, a1, a2, a3, a4, a5, h.still a6, a6⟩
/-- Two keys, two values. -/
theorem small_tree {o1 o2 : Option Tr} (h1 : PutO [97] [49] none o1) (h2 : PutO [98] [50] o1 o2) : o2 = some (.fork 7 (.leaf [97] [49]) (.leaf [98] [50])) := by
  unfold PutO at h1 h2
  rw [if_pos (by decide)] at h1 h2
  obtain ⟨t1, rfl, k1, k2, _⟩ := h1
  obtain ⟨t2, rfl, k3, k4, _⟩ := h2
  congr 1
  refine Tr.canon k3 ⟨⟨by decide, by decide⟩, ⟨by decide, by decide⟩, ?_, ?_, ?_⟩ fun e => ?_
  · intro e he
    rw [List.mem_singleton.1 he]; decide
  · intro e he
    rw [List.mem_singleton.1 he]; decide
  · intro e he f hf i hi
    rw [List.mem_singleton.1 he, List.mem_singleton.1 hf]
    revert i
    decide
  · rw [k4]
    simp only [Tr.entsO, k2, Tr.ents, List.not_mem_nil, false_and, or_false, List.cons_append, List.nil_append, List.mem_cons]
    constructor
    · rintro (rfl | ⟨rfl, _⟩)
      · exact .inr rfl
      · exact .inl rfl
    · rintro (rfl | rfl)
      · exact .inr ⟨rfl, by decide⟩
      · exact .inl rfl
theorem flatMap_at {α : Type} {f : α → List Value} {m : Nat} (hf : ∀ s, (f s).length = m) : ∀ (L : List α) (i j : Nat) (s : α), j < m → L[i]? = some s → (L.flatMap f)[m * i + j]? = (f s)[j]?
  | [], _, _, _, _, h => by simp at h
  | x :: L, 0, j, s, hj, h => by
    simp only [List.getElem?_cons_zero, Option.some.injEq] at h
    subst h
    rw [List.flatMap_cons, Nat.mul_zero, Nat.zero_add, List.getElem?_append_left (by rw [hf]; exact hj)]
  | x :: L, i + 1, j, s, hj, h => by
    rw [List.flatMap_cons, List.getElem?_append_right (by rw [hf, Nat.mul_succ]; omega), hf, show m * (i + 1) + j - m = m * i + j by rw [Nat.mul_succ]; omega]
    exact flatMap_at hf L i j s hj (by simpa using h)
theorem stC_len (s : Nat × Bool × Tr) : (stC s).length = 34 := by simp [stC, sumT_len]
/-- A step of a path, in memory. -/
theorem steps_at {w : World} {b : Nat} {v : Value} {L : List (Nat × Bool × Tr)} (h : w.ownsRow b 48 34 v L.length (L.flatMap stC)) {i : Nat} {s : Nat × Bool × Tr} (hi : L[i]? = some s) :
    ∃ g cap, v = .slice (some ⟨g, 0, none⟩) L.length cap ∧ b ≤ g ∧ L.length ≤ cap ∧ g < w.heap.size ∧ w.cell? ⟨g, 34 * i, none⟩ = some (.int .i64 s.1) ∧ w.cell? ⟨g, 34 * i + 1, none⟩ = some (.bool s.2.1) ∧ w.rangeAt g (34 * i + 2) ((sumT s.2.2).map byteV) := by
  have hlt := (List.getElem?_eq_some_iff.1 hi).1
  rcases h.2 with ⟨_, h0⟩ | ⟨g, cap, cur, rfl, hg, hh, h1, _, hsz, htk⟩
  · omega
  · have hat : ∀ j, j < 34 → w.cell? ⟨g, 34 * i + j, none⟩ = (stC s)[j]? := by
      intro j hj
      rw [cells_at hh, ← flatMap_at stC_len L i j s hj hi, ← htk, List.getElem?_take_of_lt (by omega)]
      simp
    refine ⟨g, cap, rfl, hg, h1, lt_of_heap hh, hat 0 (by decide), hat 1 (by decide), fun j v hv => ?_⟩
    have hj : j < 32 := by have := (List.getElem?_eq_some_iff.1 hv).1; simpa [sumT_len] using this
    rw [show 34 * i + 2 + j = 34 * i + (j + 2) by omega, hat (j + 2) (by omega)]
    simpa [stC] using hv
end Go.Proofs.Ytoflfhjeabpcjaa
