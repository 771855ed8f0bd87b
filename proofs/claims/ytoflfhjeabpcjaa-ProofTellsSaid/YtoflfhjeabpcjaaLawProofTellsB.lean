/- Parts of the proof, put together: TrieRoot4, TrieAll2, ProofLaw, ProofAgr, ProofMay, TrieSame, ProofSame, TrieRoot5, TrieAt, TrieDGet, TrieApp, ProofSteps; no condition. -/
import Derived.Test.YtoflfhjeabpcjaaLawProofTellsA
import Derived.Test.YtoflfhjeabpcjaaTrieSide
import Derived.Maps.AppendAt
/- The document's Root, RootOf; no condition. -/
namespace Go.Proofs.Ytoflfhjeabpcjaa
set_option linter.unusedVariables false
set_option linter.unusedSimpArgs false
open Go.RowKit

theorem eq_of_sorted : ∀ {l m : List (Bs × Bs)}, l.Pairwise (fun e f => e.1 < f.1) → m.Pairwise (fun e f => e.1 < f.1) → (∀ e, e ∈ l ↔ e ∈ m) → l = m
  | [], [], _, _, _ => rfl
  | [], y :: m, _, _, h => absurd ((h y).2 (List.mem_cons_self ..)) (by simp)
  | x :: l, [], _, _, h => absurd ((h x).1 (List.mem_cons_self ..)) (by simp)
  | x :: l, y :: m, hl, hm, h => by
    obtain ⟨l1, l2⟩ := List.pairwise_cons.1 hl
    obtain ⟨m1, m2⟩ := List.pairwise_cons.1 hm
    have hxy : x = y := by
      rcases List.mem_cons.1 ((h x).1 (List.mem_cons_self ..)) with e | hx
      · exact e
      · rcases List.mem_cons.1 ((h y).2 (List.mem_cons_self ..)) with e | hy
        · exact e.symm
        · exact absurd (List.lt_trans (m1 x hx) (l1 y hy)) (List.lt_irrefl _)
    subst hxy
    rw [eq_of_sorted l2 m2 fun e => ?_]
    have he := h e
    simp only [List.mem_cons] at he
    constructor
    · intro hel
      rcases he.1 (.inr hel) with rfl | h'
      · exact absurd (l1 _ hel) (List.lt_irrefl _)
      · exact h'
    · intro hem
      rcases he.2 (.inr hem) with rfl | h'
      · exact absurd (m1 _ hem) (List.lt_irrefl _)
      · exact h'
theorem put_exists {o : Option Tr} (ho : Tr.okO o) {k v : Bs} (hk : k.length ≤ 120) (hv : v.length ≤ 1200) : ∃ t', PutOf k v o t' := by
  cases o with
  | none => exact ⟨.leaf k v, ⟨hk, hv⟩, fun e => by simp [Tr.ents, Tr.entsO], by simp [Tr.ents, Tr.entsO]⟩
  | some t =>
    by_cases hak : (t.last k).1 = k
    · obtain ⟨h1, h2⟩ := Tr.ins_none hk hv ho hak
      exact ⟨_, h1, h2, ins_len k v none t⟩
    · obtain ⟨i, h1, h2, _⟩ := first_apart hak
      obtain ⟨p1, p2⟩ := Tr.ins_some hk hv ho h2 h1
      refine ⟨_, p1, fun e => ?_, ins_len k v (some i) t⟩
      rw [p2 e]
      constructor
      · rintro (h | h)
        · exact .inl h
        · refine .inr ⟨h, fun he => hak ?_⟩
          have := Tr.last_of ho e h
          rw [he] at this
          rw [this]
          exact he
      · rintro (h | h)
        · exact .inl h
        · exact .inr h.1
theorem inv_exists {l : List (Bs × Bs)} (hf : ∀ e ∈ l, FitE e) : ∀ k, k ≤ l.length → ∃ o, Tr.okO o ∧ PutInv l k o
  | 0, _ => ⟨none, trivial, PutInv.zero l⟩
  | k + 1, hk => by
    obtain ⟨o, ho, hi⟩ := inv_exists hf k (by omega)
    have hx : l[k]? = some l[k] := List.getElem?_eq_getElem (by omega)
    have hfit := hf l[k] (List.getElem_mem _)
    obtain ⟨t', ht⟩ := put_exists ho hfit.1 hfit.2
    refine ⟨some t', ht.1, hi.next hx hfit ?_⟩
    unfold PutO
    rw [if_pos (show l[k].1.length ≤ 120 ∧ l[k].2.length ≤ 1200 from hfit)]
    exact ⟨t', rfl, ht⟩
theorem entsO_sorted {o : Option Tr} (ho : Tr.okO o) : (Tr.entsO o).Pairwise (fun e f => e.1 < f.1) := by
  cases o with
  | none => exact List.Pairwise.nil
  | some t => exact Tr.sorted ho
/-- A rising row of entries is a tree's. -/
theorem exists_tree {l : List (Bs × Bs)} (hf : ∀ e ∈ l, FitE e) (hr : Rising l) : ∃ o, Tr.okO o ∧ Tr.entsO o = l := by
  obtain ⟨o, ho, hi⟩ := inv_exists hf l.length (Nat.le_refl _)
  have h1 := hi.sub
  have h2 := hi.sup
  rw [List.take_length] at h1 h2
  refine ⟨o, ho, eq_of_sorted (entsO_sorted ho) hr.pair fun e => ⟨h1 e, h2 (hr.pair.imp fun h => fun e => by rw [e] at h; exact List.lt_irrefl _ h) e⟩⟩
theorem RootOfR.one {l : List (Bs × Bs)} {s s' : Bs} {e e' : Int} (h : RootOfR l s e) (h' : RootOfR l s' e') : s = s' ∧ e = e' := by
  rcases h with ⟨a1, a2, a3⟩ | ⟨a0, a1, a2, a3⟩ | ⟨a0, a1, a2, o, a3, a4, a5⟩ <;> rcases h' with ⟨b1, b2, b3⟩ | ⟨b0, b1, b2, b3⟩ | ⟨b0, b1, b2, o', b3, b4, b5⟩
  · exact ⟨by rw [a2, b2], by rw [a3, b3]⟩
  · exact absurd b0 a1
  · exact absurd b0 a1
  · exact absurd a0 b1
  · exact ⟨by rw [a2, b2], by rw [a3, b3]⟩
  · exact absurd b1 a1
  · exact absurd a0 b1
  · exact absurd a1 b1
  · refine ⟨?_, by rw [a2, b2]⟩
    rw [a5, b5, Tr.canonO a3 b3 fun e => by rw [a4, b4]]
theorem texts_any {o : Option Tr} (ho : Tr.okO o) {w : World} {lv : Value} (hL : Ents w lv (Tr.entsO o)) (hn : (Tr.entsO o).length ≤ 64) : Calls Try.prog 49 #[lv] w (TextsPost w (rootS o) 128) := by
  cases o with
  | none =>
    refine (dtexts_none hL).mono ?_
    rintro e w' ⟨v3, n, a1, a2, a3, a4, a5⟩
    exact ⟨v3, n, a1, a2, a3, by omega, a5⟩
  | some t =>
    refine (dtexts_walk t ho hL hn).mono ?_
    rintro e w' ⟨v3, n, a1, a2, a3, a4, a5⟩
    have hn' : t.ents.length ≤ 64 := hn
    exact ⟨v3, n, a1, a2, a3, by omega, a5⟩
set_option maxRecDepth 100000 in
set_option maxHeartbeats 2000000 in
theorem droot_walk {o : Option Tr} (ho : Tr.okO o) {w : World} {lv : Value} (hL : Ents w lv (Tr.entsO o)) (hn : (Tr.entsO o).length ≤ 64) : Calls Try.prog 29 #[lv] w fun e w' => e = .returned (.agg (sumA (rootS o))) ∧ Ext (fun _ => False) w w' := by
  have hs1 := heap_alloc_self w (.cells ((List.replicate 32 (0 : UInt8)).map byteV).toArray 29 (0, 0))
  have hx1 : Ext (fun _ => False) w (w.alloc (.cells ((List.replicate 32 (0 : UInt8)).map byteV).toArray 29 (0, 0))) := (Ext.refl _ _).alloc _
  have hE := hL.still hx1
  obtain ⟨A, cp, rfl, _, _⟩ := id hL
  have H1 := Lib.hid (And.intro hs1 (And.intro hx1 hE))
  clear hs1 hx1 hE hL
  go_enter Try.func29, Try.ntmps29
  go_wp2_with fail
  refine (texts_any ho H1.out.2.2 hn).mono ?_
  rintro e w3 ⟨v3, n3, rfl, o3, p3, q3, x3⟩
  obtain ⟨A3, c3, rfl⟩ := o3.form
  have s3 := x3.heap H1.out.1 id
  have y3 := H1.out.2.1.trans x3
  have hn3 := lt_of_heap s3
  have H3 := Lib.hid (And.intro s3 y3)
  clear s3 y3 x3 o3 H1
  have hW4 : ((w3.alloc (.cells ((List.replicate 32 (0 : UInt8)).map byteV).toArray 29 (0, 0))).setRow w3.heap.size (sumA (rootS o))).heap[w3.heap.size]? = some (.cells (sumA (rootS o)) 29 (0, 0)) := setRow_heap _ _ _ _ _ _ (heap_alloc_self _ _)
  have hR4 : ((w3.alloc (.cells ((List.replicate 32 (0 : UInt8)).map byteV).toArray 29 (0, 0))).setRow w3.heap.size (sumA (rootS o))).heap[w.heap.size]? = some (.cells ((List.replicate 32 (0 : UInt8)).map byteV).toArray 29 (0, 0)) := by
    rw [setRow_other _ _ _ _ (by omega)]
    exact ((Ext.refl (fun _ => False) w3).alloc _).heap H3.out.1 id
  have hx4 : Ext (fun _ => False) w ((w3.alloc (.cells ((List.replicate 32 (0 : UInt8)).map byteV).toArray 29 (0, 0))).setRow w3.heap.size (sumA (rootS o))) := (H3.out.2.alloc _).setRow (.inr (by omega)) _
  have H4 := Lib.hid (And.intro hW4 (And.intro hR4 hx4))
  clear hW4 hR4 hx4
  go_wp2_with (first
    | refine wpList_load_row rfl 29 (.tmp 3) rfl w3.heap.size rfl 29 (sumA (rootS o)) (0, 0) _ H4.out.1 Try.underlying29 rfl (info_sum (rootS_len _)) ?_
    | refine wpList_store_row rfl 29 (.tmp 2) _ rfl w.heap.size (sumA (rootS o)) rfl rfl 29 _ H4.out.2.1 (info_sum (rootS_len _)) (by rw [sumA_size (rootS_len _)]; rfl) (sumA_one _) ?_
    | refine wpList_store_row rfl 29 (.tmp 3) _ rfl w3.heap.size (sumA (rootS o)) rfl rfl 29 _ (heap_alloc_self _ _) (info_sum (rootS_len _)) (by rw [sumA_size (rootS_len _)]; rfl) (sumA_one _) ?_)
  refine bodyPost_ret (results_cell_row rfl _ _ w.heap.size 29 (sumA (rootS o)) (0, 0) _ rfl (setRow_heap _ _ _ _ _ _ H4.out.2.1) Try.underlying29 rfl (info_sum (rootS_len _))) rfl ?_
  exact ⟨rfl, H4.out.2.2.setRow (.inr (Nat.le_refl _)) _⟩
end Go.Proofs.Ytoflfhjeabpcjaa
/- What All hands back, read as a row of entries; the root of it; no condition. -/
namespace Go.Proofs.Ytoflfhjeabpcjaa
set_option linter.unusedVariables false
set_option linter.unusedSimpArgs false
open Go.RowKit

theorem OwnF.ents {N : Nat} {D : Nat → Prop} {w : World} {ov : Value} {vs : List (Value × Value)} {l : List (Bs × Bs)} (h : OwnF N D w ov vs l) (hl : ∀ e ∈ l, e.1.length ≤ 120 ∧ e.2.length ≤ 1200) : Ents w ov l := by
  rcases h.row.2 with ⟨rfl, h0⟩ | ⟨g, cap, cur, rfl, hg, hh, h1, _, hsz, htk⟩
  · have : l = [] := List.eq_nil_of_length_eq_zero h0
    subst this
    exact ⟨none, 0, rfl, Nat.le_refl _, fun h => absurd rfl h⟩
  · refine ⟨_, cap, rfl, h1, fun _ => ⟨g, 0, rfl, lt_of_heap hh, fun i e hi => ?_⟩⟩
    have hlt := (List.getElem?_eq_some_iff.1 hi).1
    have hvl := h.len
    have hvi : vs[i]? = some vs[i] := List.getElem?_eq_getElem (by omega)
    obtain ⟨b1, b2⟩ := h.ent i _ e hvi hi
    obtain ⟨l1, l2⟩ := hl e (List.mem_of_getElem? hi)
    have hat : ∀ j, j < 2 → w.cell? ⟨g, 2 * i + j, none⟩ = [vs[i].1, vs[i].2][j]? := by
      intro j hj
      rw [cells_at hh, ← flatMap_at (f := fun p : Value × Value => [p.1, p.2]) (m := 2) (fun _ => rfl) vs i j _ hj hvi, ← htk, List.getElem?_take_of_lt (by omega)]
      simp
    refine ⟨⟨_, _, ?_, ?_, b1.byt.mono fun k hk => b1.lt k hk, b2.byt.mono fun k hk => b2.lt k hk⟩, by omega, by omega⟩
    · have := hat 0 (by decide)
      rw [Nat.zero_add, Nat.mul_comm]
      exact this
    · have := hat 1 (by decide)
      rw [Nat.zero_add, Nat.mul_comm]
      exact this
theorem TM.fit {w0 w : World} {c : Nat} {o : Option Tr} (h : TM w0 w c o) : ∀ e ∈ Tr.entsO o, e.1.length ≤ 120 ∧ e.2.length ≤ 1200 := by
  obtain ⟨⟨D, h1, _⟩, _⟩ := h
  exact h1.ents
theorem TM.okO {w0 w : World} {c : Nat} {o : Option Tr} (h : TM w0 w c o) : Tr.okO o := by
  obtain ⟨⟨D, h1, _⟩, _⟩ := h
  exact h1.ok
theorem tm_all {w0 w : World} {c : Nat} {o : Option Tr} (h : TM w0 w c o) (hn : (Tr.entsO o).length ≤ 1048576) :
    Calls Try.prog 30 #[ptrV c] w fun e w' => ∃ ov vs D', e = .returned ov ∧ OwnF w.heap.size D' w' ov vs (Tr.entsO o) ∧ (∀ b, D' b → w.heap.size ≤ b) ∧ TM w0 w' c o ∧ Ext (fun _ => False) w w' := by
  obtain ⟨⟨D, h1, h2⟩, h3, h4⟩ := id h
  refine (all_walk h1 hn).mono ?_
  rintro e w' ⟨ov, vs, D', rfl, a1, a2, a3⟩
  exact ⟨ov, vs, D', rfl, a1, a2, h.still a3, a3⟩
theorem rising_of_pair : ∀ {l : List (Bs × Bs)}, l.Pairwise (fun e f => e.1 < f.1) → Rising l := by
  intro l h i hi
  exact List.pairwise_iff_getElem.1 h i (i + 1) (by omega) hi (by omega)
theorem rootOfR_of {o : Option Tr} {s : Bs} {err : Int} (ho : Tr.okO o) (hf : ∀ e ∈ Tr.entsO o, FitE e) (h : RootOfR (Tr.entsO o) s err) : err = 0 ∧ s = rootS o := by
  rcases h with ⟨h, _⟩ | ⟨_, h, _⟩ | ⟨_, _, h1, o', h2, h3, h4⟩
  · exact absurd hf h
  · exact absurd (rising_of_pair (entsO_sorted ho)) h
  · refine ⟨h1, ?_⟩
    rw [h4, Tr.canonO h2 ho h3]
/-- All put, in whatever order. -/
theorem PutInv.all {l m : List (Bs × Bs)} {o o' : Option Tr} (h : PutInv m m.length o') (hm : ∀ e, e ∈ m ↔ e ∈ l) (hd : m.Pairwise (fun e f => e.1 ≠ f.1)) (ho : Tr.okO o) (ho' : Tr.okO o') (hl : l = Tr.entsO o) : o' = o := by
  refine Tr.canonO ho' ho fun e => ?_
  rw [← hl, ← hm]
  refine ⟨fun he => ?_, fun he => h.sup (by rw [List.take_length]; exact hd) e (by rw [List.take_length]; exact he)⟩
  have := h.sub e he
  rwa [List.take_length] at this
theorem wpList_load_rowg {P : Program} {ops : Array Oper} {rest : List Oper} {o : Oper} {a : Act} {w : World} {Q : Exit → Act → World → Prop} (ty : TypeId) (x : Operand) (ho : o.op = .load ty x) (hw : Region.wanted o (yielded ops a.tmps) = true)
    (g : Nat) (hx : a.eval x = .pointer (some ⟨g, 0, none⟩)) (t : TypeId) (cs : Array Value) (fr : Nat × Nat) (d : TypeDesc) (hg : w.heap[g]? = some (.cells cs t fr))
    (hu : P.underlying ty = some d) (hd : (match d with | .struct _ | .array _ _ => true | _ => false) = true) (hi : (P.info? ty).map (·.size) = some cs.size)
    (h : wpList P ops Q rest (a.put o.dst (.agg cs)) w) : wpList P ops Q (o :: rest) a w := by
  simp only [wpList, hw, if_true]
  exact .inl (wp_load_row ty x ho g hx t cs fr d hg hu hd hi h)
theorem wpQuiet_load_rowq {P : Program} {ops : Array Oper} {rest : List Oper} {o : Oper} {a : Act} {C : World → Prop} {Q : Act → Prop} (ty : TypeId) (x : Operand) (ho : o.op = .load ty x) (hw : Region.wanted o (yielded ops a.tmps) = true) (g : Nat) (hx : a.eval x = .pointer (some ⟨g, 0, none⟩)) (t : TypeId) (cs : Array Value) (fr : Nat × Nat) (d : TypeDesc)
    (hC : ∀ w, C w → w.heap[g]? = some (.cells cs t fr)) (hu : P.underlying ty = some d) (hd : (match d with | .struct _ | .array _ _ => true | _ => false) = true) (hi : (P.info? ty).map (·.size) = some cs.size)
    (h : wpQuiet P ops C Q rest (a.put o.dst (.agg cs))) : wpQuiet P ops C Q (o :: rest) a := by
  simp only [wpQuiet, hw, if_true]
  refine ⟨.agg cs, fun w hw => ?_, h⟩
  unfold Oper.quietAt execOp
  simp only [ho, hx, Instr.loadAt, Instr.sureAddr, Sem.run_bind, Sem.run_pure, Result.andThen_ok, run_loadVar_row w g t ty cs fr d (hC w hw) hu hd hi]
  exact ⟨rfl, rfl⟩
theorem cls_heapq {D : List Nat} {w0 : World} {b : Nat} {ob : Obj} (hb : b ∈ D) (h : w0.heap[b]? = some ob) : ∀ w, Cls D w0 w → w.heap[b]? = some ob := by
  rintro w ⟨u, rfl⟩
  rw [u.obj b hb]
  exact h
end Go.Proofs.Ytoflfhjeabpcjaa
/- What a proof is in plain words: steps, texts, what it tells; no condition. -/
namespace Go.Proofs.Ytoflfhjeabpcjaa
set_option linter.unusedVariables false
set_option linter.unusedSimpArgs false
open Go.RowKit

structure PS where
  bit : Int
  right : Bool
  other : Bs
def stepV (s : PS) : List Value := .int .i64 s.bit :: .bool s.right :: s.other.map byteV
theorem stepV_len {s : PS} (h : s.other.length = 32) : (stepV s).length = 34 := by simp [stepV, h]
def agreesP (k : Bs) (L : List PS) : Bool := L.all fun s => bitI k s.bit == s.right
def risesP (n : Nat) : Int → List PS → Bool
  | _, [] => true
  | last, s :: r => decide (last < s.bit) && decide (s.bit ≤ 9 * n) && risesP n s.bit r
def mayP (nn : Bool) (k v : Bs) (L : List PS) : Bool :=
  if nn then k.length + L.length == 0 && v.length == 0 else risesP k.length (-1) L && (decide (k.length ≤ 120) && decide (v.length ≤ 1200) && agreesP k L)
def noneT : Bs := (textR [110, 111, 110, 101] []).1
def leafT (k v : Bs) : Bs := (textR [108, 101, 97, 102] [k, v]).1
def forkT (b : Int) (x y : Bs) : Bs := (textR [102, 111, 114, 107] [beB b 8, x, y]).1
def nextT (t : Bs) (s : PS) : Bs := if s.right then forkT s.bit s.other (rawB t) else forkT s.bit (rawB t) s.other
def scanT : Bs → List PS → List Bs
  | t, [] => [t]
  | t, s :: r => t :: scanT (nextT t s) r
def lastT (t : Bs) (L : List PS) : Bs := L.foldl nextT t
theorem scanT_last : ∀ (L : List PS) (t : Bs), (scanT t L).getLast? = some (lastT t L)
  | [], t => rfl
  | s :: r, t => by
    have h := scanT_last r (nextT t s)
    rw [scanT, lastT, List.foldl_cons, List.getLast?_cons, h]
    rfl
theorem scanT_len : ∀ (L : List PS) (t : Bs), (scanT t L).length = L.length + 1
  | [], t => rfl
  | s :: r, t => by rw [scanT, List.length_cons, scanT_len r, List.length_cons]
theorem scanT_snoc : ∀ (L : List PS) (t : Bs) (s : PS), scanT t (L ++ [s]) = scanT t L ++ [nextT (lastT t L) s]
  | [], t, s => rfl
  | a :: r, t, s => by
    rw [List.cons_append, scanT, scanT_snoc r, scanT]
    rfl
theorem lastT_snoc (L : List PS) (t : Bs) (s : PS) : lastT t (L ++ [s]) = nextT (lastT t L) s := by simp [lastT]
def textsP (nn : Bool) (k v : Bs) (L : List PS) : List Bs :=
  if mayP nn k v L then (if nn then [noneT] else scanT (leafT k v) L.reverse) else []
/-- What Check answers: the value, whether there is one, the error. -/
def checkP (root key : Bs) (nn : Bool) (k v : Bs) (L : List PS) : Bs × Bool × Int :=
  match (textsP nn k v L).getLast? with
  | none => ([], false, 5)
  | some t => if rawB t ≠ root ∨ agreesP key L = false then ([], false, 5) else if nn = true ∨ k ≠ key then ([], false, 0) else (v, true, 0)

/-! ### StepsR in memory -/
def StepAt (w : World) (g n : Nat) (s : PS) : Prop := s.other.length = 32 ∧ w.rangeAt g n (stepV s)
theorem StepAt.same {w w' : World} {g n : Nat} {s : PS} (h : StepAt w g n s) (he : w'.heap[g]? = w.heap[g]?) : StepAt w' g n s :=
  ⟨h.1, fun j v hv => (cell_of_heap (a := ⟨g, n + j, none⟩) he).trans (h.2 j v hv)⟩
def StepsR (D : Nat → Prop) (w : World) (v : Value) (L : List PS) : Prop := Row StepAt 34 D w v L
theorem StepsR.same {D : Nat → Prop} {w w' : World} {v : Value} {L : List PS} (h : StepsR D w v L) (hD : ∀ b, D b → w'.heap[b]? = w.heap[b]?) : StepsR D w' v L := by
  obtain ⟨A, c, rfl, hc, h⟩ := h
  refine ⟨A, c, rfl, hc, fun hl => ?_⟩
  obtain ⟨g, o, rfl, hd, hx⟩ := h hl
  exact ⟨g, o, rfl, hd, fun i x hi => (hx i x hi).same (hD g hd)⟩
end Go.Proofs.Ytoflfhjeabpcjaa
/- Whether a key leads where steps go: proof.agrees; no condition. -/
namespace Go.Proofs.Ytoflfhjeabpcjaa
set_option linter.unusedVariables false
set_option linter.unusedSimpArgs false
open Go.RowKit

theorem step_info : (Try.prog.info? 48).map (·.size) = some 34 := by kernel_rfl
theorem stepV_one (s : PS) : (stepV s).all (·.oneCell') = true := by
  simp only [stepV, List.all_cons, List.all_eq_true, Bool.and_eq_true, List.mem_map]
  refine ⟨rfl, rfl, ?_⟩
  rintro _ ⟨c, _, rfl⟩
  rfl
theorem wpList_load_midq {P : Program} {ops : Array Oper} {rest : List Oper} {o : Oper} {a : Act} {w : World} {Q : Exit → Act → World → Prop} (ty : TypeId) (x : Operand) (hgd : o.guard = none) (ho : o.op = .load ty x) (b k : Nat) (hx : a.eval x = .pointer (some ⟨b, k, none⟩)) (cs : List Value) (d : TypeDesc)
    (hC : w.rangeAt b k cs) (hu : P.underlying ty = some d) (hd : d.isRow = true) (hi : (P.info? ty).map (·.size) = some cs.length)
    (h : wpList P ops Q rest (a.put o.dst (.agg cs.toArray)) w) : wpList P ops Q (o :: rest) a w := by
  refine wpList_val hgd (w' := w) (v := .agg cs.toArray) ?_ h
  unfold execOp
  simp only [ho, hx, Instr.loadAt, Instr.sureAddr, Sem.run_bind, Sem.run_pure, Result.andThen_ok, run_loadVar_mid w b k ty cs d hC hu hd hi]
set_option maxRecDepth 100000 in
set_option maxHeartbeats 400000 in
theorem agr1_walk {w : World} {s : PS} {b : Nat} {kv : Value} {k : Bs} (hs : s.other.length = 32) (hb : w.heap[b]? = some (.cells #[kv] 22 (0, 0))) (hk : Byt (fun _ => True) w kv k) (hkl : k.length ≤ 140737488351232) :
    Calls Try.prog 111 #[.agg (stepV s).toArray, .pointer (some ⟨b, 0, none⟩)] w fun e w' => e = .returned (.bool (bitI k s.bit != s.right)) ∧ Ext (fun _ => False) w w' := by
  have H := Lib.hid hk
  obtain ⟨A, c, rfl, _, _⟩ := hk
  have c0 : w.cell? ⟨b, 0, none⟩ = some (.slice A k.length c) := cells_at hb 0
  have hbl := lt_of_heap hb
  clear hb
  go_enter Try.func111, Try.ntmps111
  go_wp2_with fail
  have hn := heap_alloc_self w (.cells (stepV s).toArray 48 (0, 0))
  have hx := (Ext.refl (fun _ => False) w).alloc (.cells (stepV s).toArray 48 (0, 0))
  generalize (w.alloc (.cells (stepV s).toArray 48 (0, 0))) = W at *
  have d0 : W.cell? ⟨w.heap.size, 0, none⟩ = some (.int .i64 s.bit) := cells_at hn 0
  have d1 : W.cell? ⟨w.heap.size, 1, none⟩ = some (.bool s.right) := cells_at hn 1
  have e0 := cell_same c0 hx
  have hnl := lt_of_heap hn
  have hbl' := Nat.lt_of_lt_of_le hbl hx.size
  have HX := Lib.hid (And.intro hn hx)
  clear hn hx
  refine wp_region_mix (Cls [b, w.heap.size] _) [([0, 1, 2, 4, 5], 3)] [6, 7] (by kernel_rfl) (by kernel_rfl) (Cls.refl _ _) ?_
  try dsimp only [wpMix, wpSegs, pick, List.getElem?_cons_zero, List.getElem?_cons_succ]
  generalize hz : Act.mk _ _ = z
  repeat (first | (refine wpQuiet_step (fun K hK => ?_); replace hK := Lib.hid hK; subst hz; go_simp; generalize hz : Act.mk _ _ = z; refine hK.out z ?_; clear hK K) | (refine wpQuiet_step (fun K hK => ?_); replace hK := Lib.hid hK; subst hz; refine iteSkip (by kernel_rfl) ?_; go_simp; generalize hz : Act.mk _ _ = z; refine hK.out z ?_; clear hK K))
  try refine wpQuiet_nil ?_
  subst hz
  try dsimp only [NoPan]
  go_wp2_with fail
  refine (bit_walk (H.out.same HX.out.2.drew) (by omega) s.bit).mono ?_
  rintro e _ ⟨rfl, rfl⟩
  go_wp2_with fail
  refine ⟨Cls.refl _ _, ?_⟩
  try dsimp only [wpMix, wpSegs, pick, List.getElem?_cons_zero, List.getElem?_cons_succ]
  generalize hz : Act.mk _ _ = z
  repeat (first | (refine wpQuiet_step (fun K hK => ?_); replace hK := Lib.hid hK; subst hz; go_simp; generalize hz : Act.mk _ _ = z; refine hK.out z ?_; clear hK K) | (refine wpQuiet_step (fun K hK => ?_); replace hK := Lib.hid hK; subst hz; refine iteSkip (by kernel_rfl) ?_; go_simp; generalize hz : Act.mk _ _ = z; refine hK.out z ?_; clear hK K))
  try refine wpQuiet_nil ?_
  subst hz
  try dsimp only [NoPan]
  go_wp2_with fail
  go_ret
  exact ⟨rfl, HX.out.2.drew⟩
set_option maxRecDepth 100000 in
set_option maxHeartbeats 1000000 in
theorem index_walk {w : World} {D : Nat → Prop} {sv : Value} {L : List PS} {b : Nat} {kv : Value} {k : Bs} (hL : StepsR D w sv L) (hl : L.length ≤ 1099511627776) (hb : w.heap[b]? = some (.cells #[kv] 22 (0, 0))) (hk : Byt (fun _ => True) w kv k) (hkl : k.length ≤ 140737488351232) :
    Calls Try.prog 124 #[sv, .func (.func 111) #[] #[.pointer (some ⟨b, 0, none⟩)]] w fun e w' => ∃ r : Int, e = .returned (.int .i64 r) ∧ decide (0 ≤ r) = !agreesP k L ∧ Ext (fun _ => False) w w' := by
  have H := Lib.hid (And.intro hL (And.intro hb hk))
  obtain ⟨A, c, rfl, hc, _⟩ := hL
  clear hb hk
  go_enter Try.func124, Try.ntmps124
  go_wp2_with fail
  go_loopw [8] (fun i W => ∃ q : Nat, q ≤ L.length ∧ i = .int .i64 q ∧ agreesP k (L.take q) = true ∧ Ext (fun _ => False) w W) (fun i _ => L.length - (intOf i).toNat)
  case atStart => exact ⟨0, Nat.zero_le _, rfl, rfl, Ext.refl _ _⟩
  case round =>
    obtain ⟨q, hq, rfl, ha, hx⟩ := hrel
    by_cases hlt : q < L.length
    · have hql : decide ((q : Int) < (L.length : Int)) = true := by simp; omega
      obtain ⟨g, o, c', hav, hdb, hst⟩ := H.out.1.at hlt
      simp only [Value.slice.injEq, true_and] at hav
      obtain ⟨rfl, rfl⟩ := hav
      have HA := Lib.hid (And.intro ha (And.intro hx hst))
      have hx0 : L[q]? = some L[q] := List.getElem?_eq_getElem hlt
      have HX := Lib.hid hx0
      clear ha hx hst hx0
      generalize L[q] = x at *
      have hso := HA.out.2.2.1
      have hrg : wr.rangeAt g (o + q * 34) (stepV x) := fun j v hv => cell_same (HA.out.2.2.2 j v hv) HA.out.2.1
      go_wp2_with (first | refine wpList_load_midq 48 (.tmp 14) rfl rfl g (o + q * 34) rfl (stepV x) _ hrg Try.underlying48 rfl (by rw [stepV_len hso]; exact step_info) ?_)
      refine (agr1_walk (k := k) hso (HA.out.2.1.heap H.out.2.1 id) (H.out.2.2.same HA.out.2.1) hkl).mono ?_
      rintro e w2 ⟨rfl, x2⟩
      have H2 := Lib.hid (HA.out.2.1.trans x2)
      have hbm : (x.bit, x.right) = (x.bit, x.right) := rfl
      obtain ⟨bb, hbb⟩ : ∃ bb, bb = (bitI k x.bit != x.right) := ⟨_, rfl⟩
      rw [← hbb]
      have HB := Lib.hid hbb
      clear x2 hbb hbm hrg
      cases bb with
      | true =>
        go_wp2_with fail
        go_ret
        refine ⟨q, rfl, ?_, H2.out⟩
        have hf : agreesP k L = false := by
          unfold agreesP
          rw [List.all_eq_false]
          refine ⟨x, List.mem_of_getElem? HX.out, ?_⟩
          have := HB.out
          simpa [bne] using this
        rw [hf]
        simp
      | false =>
        go_wp2_with fail
        refine ⟨⟨q + 1, by omega, by go_num, ?_, H2.out⟩, by simp [intOf]; omega⟩
        have ha := HA.out.1
        unfold agreesP at ha ⊢
        rw [List.take_add_one, HX.out, List.all_append, ha]
        have := HB.out
        simpa [bne] using this
    · have hql : decide ((q : Int) < (L.length : Int)) = false := by simp; omega
      have hqe : L.take q = L := List.take_of_length_le (by omega)
      rw [hqe] at ha
      have HA := Lib.hid (And.intro ha hx)
      clear ha hx hqe
      go_wp2_with fail
      go_ret
      exact ⟨-1, rfl, by rw [HA.out.1]; rfl, HA.out.2⟩
set_option maxRecDepth 100000 in
theorem contains_walk {w : World} {D : Nat → Prop} {sv : Value} {L : List PS} {b : Nat} {kv : Value} {k : Bs} (hL : StepsR D w sv L) (hl : L.length ≤ 1099511627776) (hb : w.heap[b]? = some (.cells #[kv] 22 (0, 0))) (hk : Byt (fun _ => True) w kv k) (hkl : k.length ≤ 140737488351232) :
    Calls Try.prog 110 #[sv, .func (.func 111) #[] #[.pointer (some ⟨b, 0, none⟩)]] w fun e w' => e = .returned (.bool (!agreesP k L)) ∧ Ext (fun _ => False) w w' := by
  have H := Lib.hid (index_walk hL hl hb hk hkl)
  obtain ⟨A, c, rfl, hc, _⟩ := hL
  clear hb hk hc
  go_enter Try.func110, Try.ntmps110
  go_wp2_with fail
  refine H.out.mono ?_
  rintro e w2 ⟨r, rfl, hr, x2⟩
  have H2 := Lib.hid (And.intro hr x2)
  clear hr x2
  go_wp2_with fail
  go_ret
  exact ⟨by rw [← H2.out.1]; rfl, H2.out.2⟩
set_option maxRecDepth 100000 in
theorem agrees_walk {w : World} {D D' : Nat → Prop} {sv : Value} {L : List PS} {kv : Value} {k : Bs} (hL : StepsR D w sv L) (hl : L.length ≤ 1099511627776) (hk : Byt D' w kv k) (hkl : k.length ≤ 140737488351232) :
    Calls Try.prog 88 #[kv, sv] w fun e w' => e = .returned (.bool (agreesP k L)) ∧ Ext (fun _ => False) w w' := by
  obtain ⟨A', c', rfl, hc', _⟩ := id hk
  obtain ⟨A, c, rfl, hc, _⟩ := id hL
  have hx := (Ext.refl (fun _ => False) w).alloc (.cells #[.slice A' k.length c'] 22 (0, 0))
  have hst : StepsR (fun b => b < w.heap.size) w (.slice A L.length c) L := by
    obtain ⟨A1, c1, e1, h1, h2⟩ := hL
    refine ⟨A1, c1, e1, h1, fun hl => ?_⟩
    obtain ⟨g, o, rfl, hd, h3⟩ := h2 hl
    refine ⟨g, o, rfl, ?_, h3⟩
    obtain ⟨x, hx⟩ := List.exists_mem_of_ne_nil _ hl
    obtain ⟨i, hi⟩ := List.mem_iff_getElem?.1 hx
    exact World.block_lt_of_cell? _ _ ((h3 i x hi).2 0 _ rfl)
  have HW := Lib.hid (contains_walk (k := k) (hst.same fun b hb => hx.heap_eq hb id) hl (heap_alloc_self _ _) ((hk.mono fun _ _ => trivial).same hx) hkl)
  have HX := Lib.hid hx
  clear hx hst hL hk hc hc'
  go_enter Try.func88, Try.ntmps88
  go_wp2_with fail
  refine HW.out.mono ?_
  rintro e w2 ⟨rfl, x2⟩
  have H2 := Lib.hid (HX.out.trans x2)
  clear x2
  go_wp2_with fail
  go_ret
  exact ⟨by simp, H2.out⟩
end Go.Proofs.Ytoflfhjeabpcjaa
/- Whether a proof may be: proof.may; no condition. -/
namespace Go.Proofs.Ytoflfhjeabpcjaa
set_option linter.unusedVariables false
set_option linter.unusedSimpArgs false
open Go.RowKit

/-- A proof that comes in. -/
structure PIs (D : Nat → Prop) (w : World) (kv vv sv : Value) (k v : Bs) (L : List PS) : Prop where
  key : Byt D w kv k
  value : Byt D w vv v
  steps : StepsR D w sv L
  kl : k.length ≤ 140737488351232
  vl : v.length ≤ 140737488351232
  sl : L.length ≤ 1099511627776
theorem PIs.same {D : Nat → Prop} {w w' : World} {kv vv sv : Value} {k v : Bs} {L : List PS} (h : PIs D w kv vv sv k v L) (hx : ∀ b, D b → w'.heap[b]? = w.heap[b]?) : PIs D w' kv vv sv k v L :=
  ⟨h.key.heaps hx, h.value.heaps hx, h.steps.same hx, h.kl, h.vl, h.sl⟩
theorem stepA_size {s : PS} (h : s.other.length = 32) : (stepV s).toArray.size = 34 := by rw [List.size_toArray, stepV_len h]
theorem stepA_one (s : PS) : (stepV s).toArray.all (·.oneCell') = true := by
  have h := stepV_one s
  rw [List.all_eq_true] at h
  rw [Array.all_eq_true]
  intro i hi
  exact h _ (by simp)
theorem row_new (w : World) {A : Array Value} {t : TypeId} {cs : Array Value} : ((w.alloc (.cells cs t (0, 0))).setRow w.heap.size A).heap[w.heap.size]? = some (.cells A t (0, 0)) ∧ Ext (fun _ => False) w ((w.alloc (.cells cs t (0, 0))).setRow w.heap.size A) :=
  ⟨setRow_heap _ _ _ _ _ _ (heap_alloc_self _ _), ((Ext.refl _ w).alloc _).setRow (.inr (Nat.le_refl _)) _⟩
theorem risesP_cons {n : Nat} {last : Int} {x : PS} {r : List PS} : risesP n last (x :: r) = (decide (last < x.bit) && decide (x.bit ≤ 9 * n) && risesP n x.bit r) := rfl
set_option maxRecDepth 100000 in
set_option maxHeartbeats 1000000 in
theorem may_walk {D : Nat → Prop} {w : World} {nn : Bool} {kv vv sv : Value} {k v : Bs} {L : List PS} (h : PIs D w kv vv sv k v L) (hD : ∀ b, D b → b < w.heap.size) :
    Calls Try.prog 85 #[.agg #[.bool nn, kv, vv, sv]] w fun e w' => e = .returned (.bool (mayP nn k v L)) ∧ Ext (fun _ => False) w w' := by
  have H := Lib.hid h
  obtain ⟨Ak, ck, rfl, hkc, _⟩ := h.key
  obtain ⟨Av, cv, rfl, hvc, _⟩ := h.value
  obtain ⟨As, cs, rfl, hsc, _⟩ := h.steps
  have hkl := h.kl
  have hvl := h.vl
  have hsl := h.sl
  clear h
  cases nn with
  | true =>
    have hwr : IntKind.i64.wrap ((k.length : Int) + (L.length : Int)) = (k.length : Int) + (L.length : Int) := IntWalk.i64_in _ (by omega)
    by_cases h0 : k.length + L.length = 0
    · have hz : (((k.length : Int) + (L.length : Int)) == 0) = true := by rw [beq_iff_eq]; omega
      by_cases h1 : v.length = 0
      · have hz1 : ((v.length : Int) == 0) = true := by rw [beq_iff_eq]; omega
        have hm : mayP true k v L = true := by unfold mayP; rw [if_pos rfl]; simp [h0, h1]
        rw [hm]
        clear h0 h1 hm
        go_enter Try.func85, Try.ntmps85
        go_wp2_with fail
        go_ret
        exact ⟨rfl, (Ext.refl _ _).alloc _⟩
      · have hz1 : ((v.length : Int) == 0) = false := by rw [beq_eq_false_iff_ne]; omega
        have hm : mayP true k v L = false := by unfold mayP; rw [if_pos rfl]; simp [h1]
        rw [hm]
        clear h0 h1 hm
        go_enter Try.func85, Try.ntmps85
        go_wp2_with fail
        go_ret
        exact ⟨rfl, (Ext.refl _ _).alloc _⟩
    · have hz : (((k.length : Int) + (L.length : Int)) == 0) = false := by rw [beq_eq_false_iff_ne]; omega
      have hm : mayP true k v L = false := by
        unfold mayP
        rw [if_pos rfl, show (k.length + L.length == 0) = false by rw [beq_eq_false_iff_ne]; exact h0]
        rfl
      rw [hm]
      clear h0 hm
      go_enter Try.func85, Try.ntmps85
      go_wp2_with fail
      go_ret
      exact ⟨rfl, (Ext.refl _ _).alloc _⟩
  | false =>
    have hP0 := heap_alloc_self w (.cells #[.bool false, .slice Ak k.length ck, .slice Av v.length cv, .slice As L.length cs] 43 (0, 0))
    have hx0 := (Ext.refl (fun _ => False) w).alloc (.cells #[.bool false, .slice Ak k.length ck, .slice Av v.length cv, .slice As L.length cs] 43 (0, 0))
    have H0 := Lib.hid (And.intro hP0 hx0)
    clear hP0 hx0
    have hw9 : IntKind.i64.wrap (9 * (k.length : Int)) = 9 * (k.length : Int) := IntWalk.i64_in _ (by omega)
    have hmn : IntKind.i64.wrap (-1) = -1 := IntWalk.i64_in _ (by omega)
    have hmd : mayP false k v L = (risesP k.length (-1) L && (decide (k.length ≤ 120) && decide (v.length ≤ 1200) && agreesP k L)) := by unfold mayP; rw [if_neg (by decide)]
    have HMD := Lib.hid hmd
    clear hmd
    go_enter Try.func85, Try.ntmps85
    go_wp2_with fail
    go_loopw [4, 29] (fun a i W => ∃ (q : Nat) (last : Int), q ≤ L.length ∧ i = .int .i64 q ∧ a = .int .i64 last ∧ risesP k.length (-1) L = risesP k.length last (L.drop q) ∧ Ext (fun _ => False) (w.alloc (.cells #[.bool false, .slice Ak k.length ck, .slice Av v.length cv, .slice As L.length cs] 43 (0, 0))) W) (fun _ i _ => L.length - (intOf i).toNat)
    case atStart => exact ⟨0, -1, Nat.zero_le _, rfl, rfl, rfl, Ext.refl _ _⟩
    case round =>
      obtain ⟨q, last, hq, rfl, rfl, hr, hx⟩ := hrel
      have hP := hx.heap H0.out.1 id
      have hxw : Ext (fun _ => False) w wr := H0.out.2.trans hx
      have d1 : wr.cell? ⟨w.heap.size, 1, none⟩ = some (.slice Ak k.length ck) := cells_at hP 1
      have d2 : wr.cell? ⟨w.heap.size, 2, none⟩ = some (.slice Av v.length cv) := cells_at hP 2
      have d3 : wr.cell? ⟨w.heap.size, 3, none⟩ = some (.slice As L.length cs) := cells_at hP 3
      by_cases hlt : q < L.length
      · have hql : decide ((q : Int) < (L.length : Int)) = true := by simp; omega
        obtain ⟨g, o, c', hav, hdb, hst⟩ := H.out.steps.at hlt
        simp only [Value.slice.injEq, true_and] at hav
        obtain ⟨rfl, rfl⟩ := hav
        rw [List.drop_eq_getElem_cons hlt] at hr
        have HR := Lib.hid (And.intro hr (And.intro hx (And.intro hst hxw)))
        clear hr hx hst hxw hP d1 d2 d3
        generalize L[q] = x at *
        have hso := HR.out.2.2.1.1
        have hrg : wr.rangeAt g (o + q * 34) (stepV x) := fun j v hv => cell_same (HR.out.2.2.1.2 j v hv) HR.out.2.2.2
        have hxc : ∃ xc, xc = (stepV x).toArray := ⟨_, rfl⟩
        obtain ⟨xc, hxc⟩ := hxc
        go_wp2_with (first | (refine wpList_load_midq 48 (.tmp 31) rfl rfl g (o + q * 34) rfl (stepV x) _ hrg Try.underlying48 rfl (by rw [stepV_len hso]; exact step_info) ?_) | (refine wpList_store_row rfl 48 (.tmp 6) _ rfl wr.heap.size (stepV x).toArray rfl rfl 48 _ (heap_alloc_self _ _) (by rw [stepA_size hso]; exact step_info) (by rw [stepA_size hso]; rfl) (stepA_one x) ?_; rename_i ax; have HAx := Lib.hid ax; clear ax))
        refine HAx.out _ _ ?_
        clear HAx hxc hrg
        generalize hw3 : (wr.alloc _).setRow _ (stepV x).toArray = w3
        have s3 : w3.heap[wr.heap.size]? = some (.cells (stepV x).toArray 48 (0, 0)) := by rw [← hw3]; exact (row_new wr).1
        have x3 : Ext (fun _ => False) wr w3 := by rw [← hw3]; exact (row_new wr).2
        clear hw3
        have b0 : w3.cell? ⟨wr.heap.size, 0, none⟩ = some (.int .i64 x.bit) := cells_at s3 0
        have hxx := HR.out.2.1.trans x3
        have H3 := Lib.hid (And.intro hxx (H0.out.2.trans hxx))
        clear s3 x3 hxx
        by_cases h1 : x.bit ≤ last
        · have h1' : decide (x.bit ≤ last) = true := by simpa using h1
          have hf : risesP k.length (-1) L = false := by
            rw [HR.out.1, risesP_cons, show decide (last < x.bit) = false by rw [decide_eq_false_iff_not]; omega]
            rfl
          have HF := Lib.hid (show mayP false k v L = false by rw [HMD.out, hf, Bool.false_and])
          clear h1 hf
          go_wp2_with fail
          go_ret
          exact ⟨by rw [HF.out]; rfl, H3.out.2⟩
        · have h1' : decide (x.bit ≤ last) = false := by simpa using h1
          by_cases h2 : 9 * (k.length : Int) < x.bit
          · have h2' : decide (9 * (k.length : Int) < x.bit) = true := by simpa using h2
            have hf : risesP k.length (-1) L = false := by
              rw [HR.out.1, risesP_cons, show decide (x.bit ≤ 9 * (k.length : Int)) = false by rw [decide_eq_false_iff_not]; omega]
              simp
            have HF := Lib.hid (show mayP false k v L = false by rw [HMD.out, hf, Bool.false_and])
            clear h1 h2 hf
            go_wp2_with fail
            go_ret
            exact ⟨by rw [HF.out]; rfl, H3.out.2⟩
          · have h2' : decide (9 * (k.length : Int) < x.bit) = false := by simpa using h2
            have hf : risesP k.length (-1) L = risesP k.length x.bit (L.drop (q + 1)) := by
              rw [HR.out.1, risesP_cons, show decide (x.bit ≤ 9 * (k.length : Int)) = true by rw [decide_eq_true_iff]; omega, show decide (last < x.bit) = true by rw [decide_eq_true_iff]; omega]
              rfl
            have HF := Lib.hid hf
            clear h1 h2 hf
            go_wp2_with fail
            exact ⟨⟨q + 1, x.bit, by omega, by go_num, rfl, HF.out, H3.out.1⟩, by simp [intOf]; omega⟩
      · have hql : decide ((q : Int) < (L.length : Int)) = false := by simp; omega
        have hf : risesP k.length (-1) L = true := by rw [hr, List.drop_eq_nil_of_le (by omega)]; rfl
        have hM : mayP false k v L = (decide (k.length ≤ 120) && decide (v.length ≤ 1200) && agreesP k L) := by rw [HMD.out, hf, Bool.true_and]
        have HX := Lib.hid hxw
        clear hr hx hxw hP hf
        by_cases h1 : k.length ≤ 120
        · have h1' : decide ((k.length : Int) ≤ 120) = true := by simp; omega
          rw [show decide (k.length ≤ 120) = true by simpa using h1, Bool.true_and] at hM
          by_cases h2 : v.length ≤ 1200
          · have h2' : decide ((v.length : Int) ≤ 1200) = true := by simp; omega
            rw [show decide (v.length ≤ 1200) = true by simpa using h2, Bool.true_and] at hM
            have HM := Lib.hid hM
            clear hM
            have hD' : ∀ b, D b → wr.heap[b]? = w.heap[b]? := fun b hb => HX.out.heap_eq (hD b hb) id
            have HS := Lib.hid (H.out.same hD')
            clear h1 h2 hD'
            go_wp2_with fail
            refine (agrees_walk HS.out.steps hsl HS.out.key hkl).mono ?_
            rintro e w5 ⟨rfl, x5⟩
            have H5 := Lib.hid (HX.out.trans x5)
            clear x5
            go_wp2_with fail
            go_ret
            exact ⟨by rw [HM.out]; rfl, H5.out⟩
          · have h2' : decide ((v.length : Int) ≤ 1200) = false := by simp; omega
            rw [show decide (v.length ≤ 1200) = false by simpa using h2, Bool.false_and] at hM
            have HM := Lib.hid hM
            clear h1 h2 hM
            go_wp2_with fail
            go_ret
            exact ⟨by rw [HM.out]; rfl, HX.out⟩
        · have h1' : decide ((k.length : Int) ≤ 120) = false := by simp; omega
          rw [show decide (k.length ≤ 120) = false by simpa using h1, Bool.false_and, Bool.false_and] at hM
          have HM := Lib.hid hM
          clear h1 hM
          go_wp2_with fail
          go_ret
          exact ⟨by rw [HM.out]; rfl, HX.out⟩
end Go.Proofs.Ytoflfhjeabpcjaa
/- The document's Same, of the same rows; no condition. -/
namespace Go.Proofs.Ytoflfhjeabpcjaa
set_option linter.unusedVariables false
set_option linter.unusedSimpArgs false
open Go.RowKit

theorem Ents.atS {w : World} {v : Value} {l : List (Bs × Bs)} (h : Ents w v l) {i : Nat} (hi : i < l.length) : ∃ g off c, v = .slice (some ⟨g, off, none⟩) l.length c ∧ g < w.heap.size ∧ EntryIs (· < w.heap.size) w g (off + i * 2) l[i] := by
  obtain ⟨A, c, rfl, hc, h⟩ := h
  have hne : l ≠ [] := by rintro rfl; simp at hi
  obtain ⟨g, o, rfl, hd, hr⟩ := h hne
  exact ⟨g, o, c, rfl, hd, hr i _ (List.getElem?_eq_getElem hi)⟩
theorem Byt.convS {P : Program} {D : Nat → Prop} {w : World} {v : Value} {l : Bs} (h : Byt D w v l) {a : Nat} (ha : a < w.heap.size) (src e dst : TypeId) (hs : P.underlying src = some (.slice e)) (he : P.underlying e = some (.int .u8))
    (hd : P.underlying dst = some .string) : ∃ bb, bb < w.heap.size ∧ ∀ W : World, W.heap[bb]? = w.heap[bb]? → (convert src dst v).run P W = .ok (str l) W := by
  by_cases hl : l = []
  · subst hl
    refine ⟨a, ha, fun W _ => ?_⟩
    obtain ⟨A, c, rfl, hc, h⟩ := h
    exact run_convert_byt (D := D) (w := W) ⟨A, c, rfl, hc, fun hne => absurd rfl hne⟩ src e dst hs he hd
  · have hcv := h.conv src e dst hs he hd
    obtain ⟨A, c, rfl, hc, h⟩ := h
    obtain ⟨ad, rfl, hd, hcell⟩ := h hl
    refine ⟨ad.block, ?_, hcv⟩
    have := World.block_lt_of_cell? _ _ (hcell 0 _ (List.getElem?_eq_getElem (List.length_pos_iff.2 hl)))
    rwa [block_add] at this
set_option maxRecDepth 100000 in
set_option maxHeartbeats 2000000 in
theorem same4_walk {w : World} {v v' : Value} {l : List (Bs × Bs)} (hL : Ents w v l) (hM : Ents w v' l) (hl : l.length ≤ 1099511627776) :
    Calls Try.prog 31 #[v, v'] w fun e w' => e = .returned (.bool true) ∧ Ext (fun _ => False) w w' := by
  have H := Lib.hid (And.intro hL hM)
  obtain ⟨A, cp, rfl, _, _⟩ := hL
  obtain ⟨A', cp', rfl, _, _⟩ := hM
  go_enter Try.func31, Try.ntmps31
  go_wp2_with fail
  go_loopw [5] (fun i W => ∃ k : Nat, k ≤ l.length ∧ i = .int .i64 k ∧ Ext (fun _ => False) w W) (fun i _ => l.length - (intOf i).toNat)
  case atStart => exact ⟨0, Nat.zero_le _, rfl, Ext.refl _ _⟩
  case round =>
    obtain ⟨k, hk, rfl, hx⟩ := hrel
    by_cases hlt : k < l.length
    · obtain ⟨g, off, c, hav, hgl, ⟨⟨a, b, c0, c1, ha, hb⟩, _, _⟩⟩ := H.out.1.atS hlt
      simp only [Value.slice.injEq, true_and] at hav
      obtain ⟨rfl, rfl⟩ := hav
      obtain ⟨g', off', c', hav', hgl', ⟨⟨a', b', e0, e1, ha', hb'⟩, _, _⟩⟩ := H.out.2.atS hlt
      simp only [Value.slice.injEq, true_and] at hav'
      obtain ⟨rfl, rfl⟩ := hav'
      have hkl : decide ((k : Int) < (l.length : Int)) = true := by simp; omega
      have d0 := cell_same c0 hx
      have d1 := cell_same c1 hx
      have f0 := cell_same e0 hx
      have f1 := cell_same e1 hx
      have hg1 : g < wr.heap.size := Nat.lt_of_lt_of_le hgl hx.size
      have hg2 : g' < wr.heap.size := Nat.lt_of_lt_of_le hgl' hx.size
      obtain ⟨b1, hb1, hc1⟩ := (ha.same hx).convS hg1 22 5 9 Try.underlying22 Try.underlying5 Try.underlying9
      obtain ⟨b2, hb2, hc2⟩ := (hb.same hx).convS hg1 22 5 9 Try.underlying22 Try.underlying5 Try.underlying9
      obtain ⟨b3, hb3, hc3⟩ := (ha'.same hx).convS hg1 22 5 9 Try.underlying22 Try.underlying5 Try.underlying9
      obtain ⟨b4, hb4, hc4⟩ := (hb'.same hx).convS hg1 22 5 9 Try.underlying22 Try.underlying5 Try.underlying9
      have HX := Lib.hid hx
      clear hx ha hb ha' hb' c0 c1 e0 e1
      go_wp2_with fail
      refine wp_region_mix (Cls [g, g', b1, b2, b3, b4] _) [] [0, 1, 2, 3, 4, 5, 6, 7, 8, 9, 10, 11, 12, 13, 14, 15, 16, 17, 18, 19, 20, 21, 22, 23, 24, 25, 26, 27] (by kernel_rfl) (by kernel_rfl) (Cls.refl _ _) ?_
      try dsimp only [wpMix, wpSegs, pick, List.getElem?_cons_zero, List.getElem?_cons_succ]
      generalize hz : Act.mk _ _ = z
      repeat (first | (refine wpQuiet_step (fun K hK => ?_); replace hK := Lib.hid hK; subst hz; go_simp; generalize hz : Act.mk _ _ = z; refine hK.out z ?_; clear hK K) | (refine wpQuiet_step (fun K hK => ?_); replace hK := Lib.hid hK; subst hz; refine iteSkip (by kernel_rfl) ?_; go_simp; generalize hz : Act.mk _ _ = z; refine hK.out z ?_; clear hK K))
      try refine wpQuiet_nil ?_
      subst hz
      try dsimp only [NoPan]
      go_wp2_with fail
      exact ⟨⟨k + 1, by omega, by go_num, HX.out.drew⟩, by simp [intOf]; omega⟩
    · have hkl : decide ((k : Int) < (l.length : Int)) = false := by simp; omega
      have HX := Lib.hid hx
      clear hx
      go_wp2_with fail
      go_ret
      exact ⟨rfl, HX.out⟩
end Go.Proofs.Ytoflfhjeabpcjaa
/- The document's SameProof, of two proofs that say the same; no condition. -/
namespace Go.Proofs.Ytoflfhjeabpcjaa
set_option linter.unusedVariables false
set_option linter.unusedSimpArgs false
open Go.RowKit

theorem fields_step : Try.prog.fieldsOf 48 = #[{ name := "Bit", type := 3, offset := 0, embedded := false, tag := "", pkgPath := "", byteOffset := 0 }, { name := "Right", type := 4, offset := 1, embedded := false, tag := "", pkgPath := "", byteOffset := 8 }, { name := "Other", type := 29, offset := 2, embedded := false, tag := "", pkgPath := "", byteOffset := 9 }] := by kernel_rfl
theorem sum_self (d : Nat) (s : Bs) (hs : s.length = 32) (w : World) : (Op.equalIn (d + 3) 29 (.agg (s.map byteV).toArray) (.agg (s.map byteV).toArray)).run Try.prog w = .ok true w := by
  have h := run_equalIn_array (P := Try.prog) w (d + 2) (s.map byteV).toArray (s.map byteV).toArray Try.underlying29 (i := (Try.prog.info? 5).getD default) (by kernel_rfl)
  rw [show Try.prog.cellsOf 5 = 1 by kernel_rfl, run_items (d + 1) s s (List.range 32) (fun i hi => by rw [List.mem_range] at hi; omega), items_all s s hs hs] at h
  rw [h]
  simp
theorem part_sum {x : PS} (hx : x.other.length = 32) (w : World) : (Go.part 29 (stepV x).toArray 2).run Try.prog w = .ok (.agg (x.other.map byteV).toArray) w := by
  have hz : (sizeOf 29).run Try.prog w = .ok 32 w := by
    have := run_sizeOf (P := Try.prog) w (t := 29) (i := (Try.prog.info? 29).getD default) (by kernel_rfl)
    rwa [show Try.prog.cellsOf 29 = 32 by kernel_rfl] at this
  have he : (stepV x).toArray.extract 2 34 = (x.other.map byteV).toArray := by
    rw [List.extract_toArray]
    have h1 : List.take 32 (x.other.map byteV) = x.other.map byteV := List.take_of_length_le (by simp [hx])
    simpa [stepV] using h1
  have h1 : List.take 32 (x.other.map byteV) = x.other.map byteV := List.take_of_length_le (by simp [hx])
  simp [Go.part, isAgg, run_underlying Try.underlying29, hz, stepV, h1]
theorem step_neq {x : PS} (hx : x.other.length = 32) (W : World) : (binOp .neq 48 (.agg (stepV x).toArray) (.agg (stepV x).toArray)).run Try.prog W = .ok (.bool false) W := by
  have hs : Try.prog.stoodInHeld 48 = false := by kernel_rfl
  have h := run_equalIn_struct (P := Try.prog) W 9999 48 (stepV x).toArray (stepV x).toArray (by rw [fields_step]; exact Try.underlying48) hs
  have hi : ∀ (a b : Int) (W : World), (Op.equalIn 9999 3 (.int .i64 a) (.int .i64 b)).run Try.prog W = .ok (a == b) W := fun a b W => run_equalIn_int (P := Try.prog) W 9998 3 .i64 .i64 a b Try.underlying3
  have hb : ∀ (a b : Bool) (W : World), (Op.equalIn 9999 4 (.bool a) (.bool b)).run Try.prog W = .ok (a == b) W := fun a b W => run_equalIn_bool' (P := Try.prog) W 9998 4 a b Try.underlying4
  have ho := fun W => sum_self 9996 x.other hx W
  have p0 : ∀ W, (Go.part 3 (stepV x).toArray 0).run Try.prog W = .ok (.int .i64 x.bit) W := fun W => run_part_plain W (by kernel_rfl) (by simp [stepV])
  have p1 : ∀ W, (Go.part 4 (stepV x).toArray 1).run Try.prog W = .ok (.bool x.right) W := fun W => run_part_plain W (by kernel_rfl) (by simp [stepV])
  have p2 := fun W => part_sum hx W
  rw [run_neq_struct, h, fields_step]
  simp [Op.eqFields, p0, p1, p2, hi, hb, ho]
theorem wpQuiet_load_midq {P : Program} {ops : Array Oper} {rest : List Oper} {o : Oper} {a : Act} {C : World → Prop} {Q : Act → Prop} (ty : TypeId) (x : Operand) (ho : o.op = .load ty x) (hw : Region.wanted o (yielded ops a.tmps) = true) (b k : Nat) (hx : a.eval x = .pointer (some ⟨b, k, none⟩)) (cs : List Value) (d : TypeDesc)
    (hC : ∀ w, C w → w.rangeAt b k cs) (hu : P.underlying ty = some d) (hd : d.isRow = true) (hi : (P.info? ty).map (·.size) = some cs.length)
    (h : wpQuiet P ops C Q rest (a.put o.dst (.agg cs.toArray))) : wpQuiet P ops C Q (o :: rest) a := by
  simp only [wpQuiet, hw, if_true]
  refine ⟨.agg cs.toArray, fun w hw => ?_, h⟩
  unfold Oper.quietAt execOp
  simp only [ho, hx, Instr.loadAt, Instr.sureAddr, Sem.run_bind, Sem.run_pure, Result.andThen_ok, run_loadVar_mid w b k ty cs d (hC w hw) hu hd hi]
  exact ⟨rfl, rfl⟩
theorem cls_step {D : List Nat} {w0 : World} {g n : Nat} {x : PS} (hb : g ∈ D) (h : w0.rangeAt g n (stepV x)) : ∀ w, Cls D w0 w → w.rangeAt g n (stepV x) := by
  rintro w ⟨u, rfl⟩ j v hv
  exact (cell_of_heap (a := ⟨g, n + j, none⟩) (u.obj g hb)).trans (h j v hv)
theorem ents_one {w : World} {g : Nat} {kv vv : Value} {k v : Bs} {t : TypeId} {fr : Nat × Nat} {D : Nat → Prop} (hg : w.heap[g]? = some (.cells #[kv, vv] t fr)) (hk : Byt D w kv k) (hv : Byt D w vv v) (hD : ∀ b, D b → b < w.heap.size)
    (lk : k.length ≤ 140737488351232) (lv : v.length ≤ 140737488351232) : Ents w (.slice (some ⟨g, 0, none⟩) 1 1) [(k, v)] := by
  refine ⟨_, 1, rfl, Nat.le_refl _, fun _ => ⟨g, 0, rfl, lt_of_heap hg, fun i x hi => ?_⟩⟩
  match i, hi with
  | 0, hi =>
    simp only [List.getElem?_cons_zero, Option.some.injEq] at hi
    subst hi
    exact ⟨⟨kv, vv, cells_at hg 0, cells_at hg 1, hk.mono hD, hv.mono hD⟩, lk, lv⟩
set_option maxRecDepth 100000 in
set_option maxHeartbeats 2000000 in
theorem psame_walk {D D' : Nat → Prop} {w : World} {nn : Bool} {kv vv sv kv' vv' sv' : Value} {k v : Bs} {L : List PS} (h : PIs D w kv vv sv k v L) (h' : PIs D' w kv' vv' sv' k v L) (hD : ∀ b, D b → b < w.heap.size) (hD' : ∀ b, D' b → b < w.heap.size) :
    Calls Try.prog 41 #[.agg #[.bool nn, kv, vv, sv], .agg #[.bool nn, kv', vv', sv']] w fun e w' => e = .returned (.bool true) ∧ Ext (fun _ => False) w w' := by
  have H := Lib.hid (And.intro h h')
  obtain ⟨Ak, ck, rfl, hkc, _⟩ := h.key
  obtain ⟨Av, cv, rfl, hvc, _⟩ := h.value
  obtain ⟨As, cs, rfl, hsc, _⟩ := h.steps
  obtain ⟨Ak', ck', rfl, hkc', _⟩ := h'.key
  obtain ⟨Av', cv', rfl, hvc', _⟩ := h'.value
  obtain ⟨As', cs', rfl, hsc', _⟩ := h'.steps
  have hsl := h.sl
  clear h h'
  have hP1 := heap_alloc_self w (.cells #[.bool nn, .slice Ak k.length ck, .slice Av v.length cv, .slice As L.length cs] 43 (0, 0))
  have hP2 := heap_alloc_self (w.alloc (.cells #[.bool nn, .slice Ak k.length ck, .slice Av v.length cv, .slice As L.length cs] 43 (0, 0))) (.cells #[.bool nn, .slice Ak' k.length ck', .slice Av' v.length cv', .slice As' L.length cs'] 43 (0, 0))
  rw [show (w.alloc (.cells #[.bool nn, .slice Ak k.length ck, .slice Av v.length cv, .slice As L.length cs] 43 (0, 0))).heap.size = w.heap.size + 1 by simp] at hP2
  have xa := fun (V : World) (o : Obj) => (Ext.refl (fun _ => False) V).alloc o
  have HP := Lib.hid (And.intro hP1 hP2)
  clear hP1 hP2
  go_enter Try.func41, Try.ntmps41
  go_wp2_with fail
  obtain ⟨p1, q1⟩ := HP.out
  generalize hW1 : ((w.alloc (.cells #[.bool nn, .slice Ak k.length ck, .slice Av v.length cv, .slice As L.length cs] 43 (0, 0))).alloc (.cells #[.bool nn, .slice Ak' k.length ck', .slice Av' v.length cv', .slice As' L.length cs'] 43 (0, 0))) = W1 at *
  have x1 : Ext (fun _ => False) w W1 := by rw [← hW1]; exact (xa _ _).alloc _
  have p1' : W1.heap[w.heap.size]? = some (.cells #[.bool nn, .slice Ak k.length ck, .slice Av v.length cv, .slice As L.length cs] 43 (0, 0)) := by rw [← hW1]; exact (xa _ _).heap p1 id
  have hsz : W1.heap.size = w.heap.size + 1 + 1 := by rw [← hW1]; simp
  rw [← hsz]
  have x2 := (xa W1 (.cells #[.slice Ak k.length ck, .slice Av v.length cv] 24 (0, 0)))
  have x3 := x2.alloc (.cells #[.slice Ak' k.length ck', .slice Av' v.length cv'] 24 (0, 0))
  have g2 := x3.heap (q1) id
  have g1 := x3.heap p1' id
  have e1 := ((xa _ (.cells #[.slice Ak' k.length ck', .slice Av' v.length cv'] 24 (0, 0)))).heap (heap_alloc_self W1 (.cells #[.slice Ak k.length ck, .slice Av v.length cv] 24 (0, 0))) id
  have e2 := heap_alloc_self (W1.alloc (.cells #[.slice Ak k.length ck, .slice Av v.length cv] 24 (0, 0))) (.cells #[.slice Ak' k.length ck', .slice Av' v.length cv'] 24 (0, 0))
  rw [show (W1.alloc (.cells #[.slice Ak k.length ck, .slice Av v.length cv] 24 (0, 0))).heap.size = W1.heap.size + 1 by simp] at e2
  have y3 := x1.trans x3
  generalize ((W1.alloc (.cells #[.slice Ak k.length ck, .slice Av v.length cv] 24 (0, 0))).alloc (.cells #[.slice Ak' k.length ck', .slice Av' v.length cv'] 24 (0, 0))) = W3 at *
  clear x2 x3 hW1 p1 p1' q1 x1
  refine (same4_walk (l := [(k, v)]) (ents_one e1 (H.out.1.key.same y3) (H.out.1.value.same y3) (fun b hb => Nat.lt_of_lt_of_le (hD b hb) y3.size) H.out.1.kl H.out.1.vl) (ents_one e2 (H.out.2.key.same y3) (H.out.2.value.same y3) (fun b hb => Nat.lt_of_lt_of_le (hD' b hb) y3.size) H.out.1.kl H.out.1.vl) (by simp)).mono ?_
  rintro e w1 ⟨rfl, x4⟩
  have g1 := x4.heap g1 id
  have g2 := x4.heap g2 id
  have d0 : w1.cell? ⟨w.heap.size, 0, none⟩ = some (.bool nn) := cells_at g1 0
  have d3 : w1.cell? ⟨w.heap.size, 3, none⟩ = some (.slice As L.length cs) := cells_at g1 3
  have f0 : w1.cell? ⟨w.heap.size + 1, 0, none⟩ = some (.bool nn) := cells_at g2 0
  have f3 : w1.cell? ⟨w.heap.size + 1, 3, none⟩ = some (.slice As' L.length cs') := cells_at g2 3
  have H1 := Lib.hid (And.intro g1 (And.intro g2 (y3.trans x4)))
  have hll : ((L.length : Int) == (L.length : Int)) = true := by simp
  have hnn : (nn == nn) = true := by simp
  clear g1 g2 y3 x4 e1 e2 HP xa hsz
  cases nn
  all_goals
    go_wp2_with fail
    go_loopw [6] (fun i W => ∃ q : Nat, q ≤ L.length ∧ i = .int .i64 q ∧ Ext (fun _ => False) w1 W) (fun i _ => L.length - (intOf i).toNat)
    case atStart => exact ⟨0, Nat.zero_le _, rfl, Ext.refl _ _⟩
    case round =>
      obtain ⟨q, hq, rfl, hx⟩ := hrel
      have g1 := hx.heap H1.out.1 id
      have g2 := hx.heap H1.out.2.1 id
      have d3 : wr.cell? ⟨w.heap.size, 3, none⟩ = some (.slice As L.length cs) := cells_at g1 3
      have f3 : wr.cell? ⟨w.heap.size + 1, 3, none⟩ = some (.slice As' L.length cs') := cells_at g2 3
      have hb1 := lt_of_heap g1
      have hb2 := lt_of_heap g2
      have xw := H1.out.2.2.trans hx
      by_cases hlt : q < L.length
      · have hql : decide ((q : Int) < (L.length : Int)) = true := by simp; omega
        obtain ⟨g, o, c, hav, hdb, hst⟩ := H.out.1.steps.at hlt
        simp only [Value.slice.injEq, true_and] at hav
        obtain ⟨rfl, rfl⟩ := hav
        obtain ⟨g', o', c', hav', hdb', hst'⟩ := H.out.2.steps.at hlt
        simp only [Value.slice.injEq, true_and] at hav'
        obtain ⟨rfl, rfl⟩ := hav'
        generalize L[q] = x at *
        have hso := hst.1
        have hrg : wr.drew.rangeAt g (o + q * 34) (stepV x) := fun j v hv => cell_same (hst.2 j v hv) xw.drew
        have hrg' : wr.drew.rangeAt g' (o' + q * 34) (stepV x) := fun j v hv => cell_same (hst'.2 j v hv) xw.drew
        have hg1 : g < wr.heap.size := Nat.lt_of_lt_of_le (hD g hdb) xw.size
        have hg2 : g' < wr.heap.size := Nat.lt_of_lt_of_le (hD' g' hdb') xw.size
        have hq1 := Lib.hid (cls_step (D := [w.heap.size, w.heap.size + 1, g, g']) (w0 := wr.drew) (by simp) hrg)
        have hq2 := Lib.hid (cls_step (D := [w.heap.size, w.heap.size + 1, g, g']) (w0 := wr.drew) (by simp) hrg')
        have hne := step_neq hso
        have HX := Lib.hid hx
        clear hx xw g1 g2 hst hst' hrg hrg'
        go_wp2_with fail
        refine wp_region_mix (Cls [w.heap.size, w.heap.size + 1, g, g'] _) [] [0, 1, 2, 3, 4, 5, 6, 7, 8, 9, 10] (by kernel_rfl) (by kernel_rfl) (Cls.refl _ _) ?_
        try dsimp only [wpMix, wpSegs, pick, List.getElem?_cons_zero, List.getElem?_cons_succ]
        generalize hz : Act.mk _ _ = z
        repeat (first | (subst hz; ((first | refine wpQuiet_load_midq 48 (.tmp 42) rfl (by kernel_rfl) g (o + q * 34) rfl (stepV x) _ hq1.out Try.underlying48 rfl (by rw [stepV_len hso]; exact step_info) ?_ | refine wpQuiet_load_midq 48 (.tmp 47) rfl (by kernel_rfl) g' (o' + q * 34) rfl (stepV x) _ hq2.out Try.underlying48 rfl (by rw [stepV_len hso]; exact step_info) ?_)); generalize hz : Act.put _ _ _ = z) | (refine wpQuiet_step (fun K hK => ?_); replace hK := Lib.hid hK; subst hz; go_simp; generalize hz : Act.mk _ _ = z; refine hK.out z ?_; clear hK K) | (refine wpQuiet_step (fun K hK => ?_); replace hK := Lib.hid hK; subst hz; refine iteSkip (by kernel_rfl) ?_; go_simp; generalize hz : Act.mk _ _ = z; refine hK.out z ?_; clear hK K))
        try refine wpQuiet_nil ?_
        subst hz
        try dsimp only [NoPan]
        go_wp2_with fail
        exact ⟨⟨q + 1, by omega, by go_num, HX.out.drew⟩, by simp [intOf]; omega⟩
      · have hql : decide ((q : Int) < (L.length : Int)) = false := by simp; omega
        have HX := Lib.hid xw
        clear hx xw
        go_wp2_with fail
        go_ret
        exact ⟨rfl, HX.out⟩
end Go.Proofs.Ytoflfhjeabpcjaa
/- The document's RootOf; no condition. -/
namespace Go.Proofs.Ytoflfhjeabpcjaa
set_option linter.unusedVariables false
set_option linter.unusedSimpArgs false
open Go.RowKit

theorem bytesLess_eq4 : ∀ (x y : Bs), Op.bytesLess x y = decide (x < y)
  | [], [] => by simp [Op.bytesLess]
  | [], _ :: _ => by simp [Op.bytesLess]
  | _ :: _, [] => by simp [Op.bytesLess]
  | a :: x, b :: y => by
    have ih := bytesLess_eq4 x y
    rw [Op.bytesLess, Bool.eq_iff_iff, decide_eq_true_eq, List.cons_lt_cons_iff]
    by_cases h : a < b
    · simp [h]
    · by_cases h2 : a = b
      · subst h2
        simp [ih]
      · have h3 : b < a := UInt8.lt_of_le_of_ne (UInt8.not_lt.1 h) (Ne.symm h2)
        simp [h, h2, h3]
theorem Byt.convAt {P : Program} {D : Nat → Prop} {w : World} {v : Value} {l : Bs} (h : Byt D w v l) {a : Nat} (ha : a < w.heap.size) (src e dst : TypeId) (hs : P.underlying src = some (.slice e)) (he : P.underlying e = some (.int .u8))
    (hd : P.underlying dst = some .string) : ∃ bb, bb < w.heap.size ∧ (bb = a ∨ D bb) ∧ ∀ W : World, W.heap[bb]? = w.heap[bb]? → (convert src dst v).run P W = .ok (str l) W := by
  by_cases hl : l = []
  · subst hl
    refine ⟨a, ha, .inl rfl, fun W _ => ?_⟩
    obtain ⟨A, c, rfl, hc, h⟩ := h
    exact run_convert_byt (D := D) (w := W) ⟨A, c, rfl, hc, fun hne => absurd rfl hne⟩ src e dst hs he hd
  · have hcv := h.conv src e dst hs he hd
    obtain ⟨A, c, rfl, hc, h⟩ := h
    obtain ⟨ad, rfl, hd, hcell⟩ := h hl
    refine ⟨ad.block, ?_, .inr hd, hcv⟩
    have := World.block_lt_of_cell? _ _ (hcell 0 _ (List.getElem?_eq_getElem (List.length_pos_iff.2 hl)))
    rwa [block_add] at this

set_option maxRecDepth 100000 in
set_option maxHeartbeats 4000000 in
theorem drootof_walk {w : World} {lv : Value} {l : List (Bs × Bs)} (hL : Ents w lv l) (hl : l.length ≤ 64) :
    Calls Try.prog 25 #[lv] w fun e w' => ∃ s err, e = .returned (.tuple #[.agg (sumA s), .int .i64 err]) ∧ RootOfR l s err ∧ s.length = 32 ∧ Ext (fun _ => False) w w' := by
  have hx1 := fun o : Obj => (Ext.refl (fun _ => False) w).alloc o
  have hs1 := heap_alloc_self w (.cells ((List.replicate 32 (0 : UInt8)).map byteV).toArray 29 (0, 0))
  obtain ⟨A, cp, rfl, _, _⟩ := id hL
  have HL := Lib.hid hL
  clear hL
  go_enter Try.func25, Try.ntmps25
  go_wp2_with fail
  have x1 : Ext (fun _ => False) w (w.alloc (.cells ((List.replicate 32 (0 : UInt8)).map byteV).toArray 29 (0, 0))) := hx1 _
  generalize hW1 : World.alloc w _ = W1
  have H1 := Lib.hid (show Ext (fun _ => False) w W1 ∧ W1.heap[w.heap.size]? = some (.cells ((List.replicate 32 (0 : UInt8)).map byteV).toArray 29 (0, 0)) by rw [← hW1]; exact ⟨x1, hs1⟩)
  have hn1 : w.heap.size < W1.heap.size := lt_of_heap H1.out.2
  clear hW1 x1 hs1 hx1
  go_loopw [4] (fun i W => ∃ k : Nat, k ≤ l.length ∧ i = .int .i64 k ∧ W1 = W ∧ ∀ e ∈ l.take k, FitE e) (fun i _ => l.length - (intOf i).toNat)
  case atStart => exact ⟨0, Nat.zero_le _, rfl, rfl, by simp⟩
  case round =>
    obtain ⟨k, hk, rfl, rfl, hf⟩ := hrel
    by_cases hlt : k < l.length
    · obtain ⟨g, off, c', hav, hgl, ⟨⟨a, b, c0, c1, ha, hb⟩, la, lb⟩⟩ := HL.out.at hlt
      simp only [Value.slice.injEq, true_and] at hav
      obtain ⟨rfl, rfl⟩ := hav
      have hkl : decide ((k : Int) < (l.length : Int)) = true := by simp; omega
      have d0 := cell_same c0 H1.out.1
      have d1 := cell_same c1 H1.out.1
      have hx : l[k]? = some l[k] := List.getElem?_eq_getElem hlt
      have htk : l.take (k + 1) = l.take k ++ [l[k]] := by rw [List.take_add_one, hx]; rfl
      obtain ⟨A1, cc1, rfl, _, _⟩ := ha
      obtain ⟨A2, cc2, rfl, _, _⟩ := hb
      have HK := Lib.hid (And.intro hf htk)
      have hmem := List.getElem_mem hlt
      have HM := Lib.hid hmem
      clear hf hx htk hmem c0 c1
      by_cases f1 : l[k].1.length ≤ 120
      · have f1' : decide (120 < (l[k].1.length : Int)) = false := by simp; omega
        by_cases f2 : l[k].2.length ≤ 1200
        · have f2' : decide (1200 < (l[k].2.length : Int)) = false := by simp; omega
          have HF := Lib.hid (And.intro f1 f2)
          clear f1 f2
          go_wp2_with fail
          refine ⟨⟨k + 1, by omega, by go_num, by first | rfl | trivial, fun e he => ?_⟩, by simp [intOf]; omega⟩
          rw [HK.out.2] at he
          rcases List.mem_append.1 he with he | he
          · exact HK.out.1 e he
          · rw [List.mem_singleton.1 he]; exact HF.out
        · have f2' : decide (1200 < (l[k].2.length : Int)) = true := by simp; omega
          have HF := Lib.hid f2
          have HZ := Lib.hid zeros_cells
          clear f2
          go_wp2_with (refine wpList_store_row rfl 29 _ _ rfl w.heap.size _ rfl rfl 29 _ H1.out.2 (by kernel_rfl) (by kernel_rfl) (by kernel_rfl) ?_)
          refine bodyPost_ret (results_cell_tmp rfl _ _ w.heap.size 29 _ (0, 0) _ rfl (setRow_heap _ _ _ _ _ _ H1.out.2) Try.underlying29 rfl (by kernel_rfl)) rfl ?_
          refine ⟨List.replicate 32 0, 2, ?_, .inl ⟨fun h => HF.out (h _ HM.out).2, rfl, rfl⟩, by simp, H1.out.1.setRow (.inr (Nat.le_refl _)) _⟩
          rw [sumA, HZ.out]
          rfl
      · have f1' : decide (120 < (l[k].1.length : Int)) = true := by simp; omega
        have HF := Lib.hid f1
        have HZ := Lib.hid zeros_cells
        clear f1
        go_wp2_with (refine wpList_store_row rfl 29 _ _ rfl w.heap.size _ rfl rfl 29 _ H1.out.2 (by kernel_rfl) (by kernel_rfl) (by kernel_rfl) ?_)
        refine bodyPost_ret (results_cell_tmp rfl _ _ w.heap.size 29 _ (0, 0) _ rfl (setRow_heap _ _ _ _ _ _ H1.out.2) Try.underlying29 rfl (by kernel_rfl)) rfl ?_
        refine ⟨List.replicate 32 0, 2, ?_, .inl ⟨fun h => HF.out (h _ HM.out).1, rfl, rfl⟩, by simp, H1.out.1.setRow (.inr (Nat.le_refl _)) _⟩
        rw [sumA, HZ.out]
        rfl
    · have hkl : decide ((k : Int) < (l.length : Int)) = false := by simp; omega
      have hkk : k = l.length := by omega
      subst hkk
      have hfit : ∀ e ∈ l, FitE e := fun e he => by rw [List.take_length] at hf; exact hf e he
      have HF := Lib.hid hfit
      clear hf hfit
      go_wp2_with fail
      go_loopw [5] (fun i W => ∃ k : Nat, 1 ≤ k ∧ i = .int .i64 k ∧ Ext (fun _ => False) W1 W ∧ ∀ i (h : i + 1 < l.length), i + 1 < k → l[i].1 < l[i + 1].1) (fun i _ => l.length - (intOf i).toNat)
      case atStart => exact ⟨1, Nat.le_refl _, rfl, Ext.refl _ _, fun i h hi => by omega⟩
      case round =>
        obtain ⟨k, hk1, rfl, hx, hr⟩ := hrel
        by_cases hlt : k < l.length
        · obtain ⟨g, off, c', hav, hgl, ⟨⟨a, b, c0, c1, ha, hb⟩, la, lb⟩⟩ := HL.out.at hlt
          simp only [Value.slice.injEq, true_and] at hav
          obtain ⟨rfl, rfl⟩ := hav
          have hkl2 : decide ((k : Int) < (l.length : Int)) = true := by simp; omega
          obtain ⟨m, hm⟩ : ∃ m, m + 1 = k := ⟨k - 1, by omega⟩
          have hml : m < l.length := by omega
          obtain ⟨g', off', c'', hav', _, ⟨⟨a', b', e0, e1, ha', hb'⟩, la', lb'⟩⟩ := HL.out.at hml
          simp only [Value.slice.injEq, Option.some.injEq, Addr.mk.injEq, true_and, and_true] at hav'
          obtain ⟨⟨rfl, rfl⟩, rfl⟩ := hav'
          have hy := H1.out.1.trans hx
          have d0 := cell_same c0 hy
          have f0 := cell_same e0 hy
          have hgr : g < wr.heap.size := World.block_lt_of_cell? _ _ d0
          have hw1 : IntKind.i64.wrap ((k : Int) - 1) = (m : Int) := by rw [IntWalk.i64_in _ (by omega)]; omega
          have hrise : ∀ (hm1 : m + 1 < l.length), (l[m].1 < l[m + 1].1) ↔ l[m].1 < l[k].1 := fun hm1 => by subst hm; rfl
          have HX := Lib.hid (And.intro hx (And.intro hy (And.intro hr (And.intro hm hrise))))
          obtain ⟨bb, hbb, _, hcv⟩ := (ha.same hy).convAt hgr 22 5 9 Try.underlying22 Try.underlying5 Try.underlying9
          obtain ⟨bb', hbb', _, hcv'⟩ := (ha'.same hy).convAt hgr 22 5 9 Try.underlying22 Try.underlying5 Try.underlying9
          clear hx hy hr hm hrise ha ha' hb hb' c0 c1 e0 e1
          by_cases hc : l[m].1 < l[k].1
          · have hbl : Op.bytesLess l[k].1 l[m].1 = false := by
              rw [bytesLess_eq4]
              exact decide_eq_false fun h => List.lt_irrefl _ (List.lt_trans h hc)
            have heq : (l[k].1 == l[m].1) = false := by
              rw [beq_eq_false_iff_ne]
              intro e
              rw [e] at hc
              exact List.lt_irrefl _ hc
            have HC := Lib.hid hc
            clear hc
            go_wp2_with fail
            refine wp_region_mix (Cls [g, bb, bb'] _) [] [0, 1, 2, 3, 4, 5, 6, 7, 8, 9, 10, 11, 12, 13] (by kernel_rfl) (by kernel_rfl) (Cls.refl _ _) ?_
            try dsimp only [wpMix, wpSegs, pick, List.getElem?_cons_zero, List.getElem?_cons_succ]
            generalize hz : Act.mk _ _ = z
            repeat (first | (refine wpQuiet_step (fun K hK => ?_); replace hK := Lib.hid hK; subst hz; go_simp; generalize hz : Act.mk _ _ = z; refine hK.out z ?_; clear hK K) | (refine wpQuiet_step (fun K hK => ?_); replace hK := Lib.hid hK; subst hz; refine iteSkip (by kernel_rfl) ?_; go_simp; generalize hz : Act.mk _ _ = z; refine hK.out z ?_; clear hK K))
            try refine wpQuiet_nil ?_
            subst hz
            try dsimp only [NoPan]
            go_wp2_with fail
            refine ⟨⟨k + 1, by omega, by go_num, HX.out.1.drew, fun i h hi => ?_⟩, by simp [intOf]; omega⟩
            by_cases hik : i + 1 < k
            · exact HX.out.2.2.1 i h hik
            · have him : i = m := by have := HX.out.2.2.2.1; omega
              subst him
              exact (HX.out.2.2.2.2 h).2 HC.out
          · have hbl : (Op.bytesLess l[k].1 l[m].1 || (l[k].1 == l[m].1)) = true := by
              rw [bytesLess_eq4, Bool.or_eq_true]
              by_cases h : l[k].1 = l[m].1
              · exact .inr (by simpa using h)
              · refine .inl (decide_eq_true ?_)
                rcases List.le_iff_lt_or_eq.1 (List.not_lt.1 hc) with h' | h'
                · exact h'
                · exact absurd h' h
            have HC := Lib.hid hc
            have hbz := HX.out.1.heap H1.out.2 id
            have HZ := Lib.hid (And.intro (show wr.drew.heap[w.heap.size]? = _ from hbz) zeros_cells)
            clear hc hbz
            go_wp2_with fail
            refine wp_region_mix (Cls [g, bb, bb'] _) [] [0, 1, 2, 3, 4, 5, 6, 7, 8, 9, 10, 11, 12, 13] (by kernel_rfl) (by kernel_rfl) (Cls.refl _ _) ?_
            try dsimp only [wpMix, wpSegs, pick, List.getElem?_cons_zero, List.getElem?_cons_succ]
            generalize hz : Act.mk _ _ = z
            repeat (first | (refine wpQuiet_step (fun K hK => ?_); replace hK := Lib.hid hK; subst hz; go_simp; generalize hz : Act.mk _ _ = z; refine hK.out z ?_; clear hK K) | (refine wpQuiet_step (fun K hK => ?_); replace hK := Lib.hid hK; subst hz; refine iteSkip (by kernel_rfl) ?_; go_simp; generalize hz : Act.mk _ _ = z; refine hK.out z ?_; clear hK K))
            try refine wpQuiet_nil ?_
            subst hz
            try dsimp only [NoPan]
            go_wp2_with (refine wpList_store_row rfl 29 _ _ rfl w.heap.size _ rfl rfl 29 _ HZ.out.1 (by kernel_rfl) (by kernel_rfl) (by kernel_rfl) ?_)
            refine bodyPost_ret (results_cell_tmp rfl _ _ w.heap.size 29 _ (0, 0) _ rfl (setRow_heap _ _ _ _ _ _ HZ.out.1) Try.underlying29 rfl (by kernel_rfl)) rfl ?_
            refine ⟨List.replicate 32 0, 1, ?_, .inr (.inl ⟨HF.out, fun hri => ?_, rfl, rfl⟩), by simp, (HX.out.2.1.drew).setRow (.inr (Nat.le_refl _)) _⟩
            · rw [sumA, HZ.out.2]
              rfl
            · have hmk := HX.out.2.2.2.1
              have := hri m (by omega)
              exact HC.out ((HX.out.2.2.2.2 (by omega)).1 this)
        · have hkl2 : decide ((k : Int) < (l.length : Int)) = false := by simp; omega
          have hri : Rising l := fun i h => hr i h (by omega)
          obtain ⟨o, ho, hoe⟩ := exists_tree HF.out hri
          have hE : Ents wr (.slice A l.length cp) (Tr.entsO o) := by rw [hoe]; exact HL.out.still (H1.out.1.trans hx)
          have HO := Lib.hid (And.intro ho (And.intro hoe (And.intro hri hE)))
          have HX := Lib.hid hx
          have hn : (Tr.entsO o).length ≤ 64 := by rw [hoe]; exact hl
          have hlo : l.length = (Tr.entsO o).length := by rw [hoe]
          have HLO := Lib.hid hlo
          clear hr hri ho hoe hE hx hlo
          go_wp2_with fail
          refine (droot_walk HO.out.1 HO.out.2.2.2 hn).mono ?_
          rintro e w6 ⟨rfl, x6⟩
          have hb6 := x6.heap (HX.out.heap H1.out.2 id) id
          have H6 := Lib.hid (And.intro hb6 ((H1.out.1.trans HX.out).trans x6))
          clear x6 hb6
          go_wp2_with (refine wpList_store_row rfl 29 _ _ rfl w.heap.size (sumA (rootS o)) rfl rfl 29 _ H6.out.1 (info_sum (rootS_len _)) (by rw [sumA_size (rootS_len _)]; rfl) (sumA_one _) ?_)
          refine bodyPost_ret (results_cell_tmp rfl _ _ w.heap.size 29 (sumA (rootS o)) (0, 0) _ rfl (setRow_heap _ _ _ _ _ _ H6.out.1) Try.underlying29 rfl (info_sum (rootS_len _))) rfl ?_
          exact ⟨rootS o, 0, rfl, .inr (.inr ⟨HF.out, HO.out.2.2.1, rfl, o, HO.out.1, fun e => by rw [HO.out.2.1], rfl⟩), rootS_len _, H6.out.2.setRow (.inr (Nat.le_refl _)) _⟩
end Go.Proofs.Ytoflfhjeabpcjaa
/- The document's tree: its entries in a row; at, copied, Get; no condition. -/
namespace Go.Proofs.Ytoflfhjeabpcjaa
set_option linter.unusedVariables false
set_option linter.unusedSimpArgs false
open Go.RowKit

set_option maxRecDepth 100000 in
/-- Bytes in other memory. -/
theorem dcopied_walk {w : World} {D : Nat → Prop} {v : Value} {l : Bs} (hb : Byt D w v l) (hl : l.length ≤ 140737488351232) :
    Calls Try.prog 107 #[v] w fun e w' => ∃ v', e = .returned v' ∧ FreshB w l v' w' := by
  have H := Lib.hid hb
  obtain ⟨A, c, rfl, _, _⟩ := hb
  have hxa : ∀ o, Ext (fun _ => False) w (w.alloc o) := fun o => (Ext.refl _ _).alloc o
  have HX := Lib.hid hxa
  clear hxa
  go_enter Try.func107, Try.ntmps107
  go_wp2_with (refine wpList_append_bytes rfl _ _ 22 rfl Try.underlying22 info_u8c (sv := .slice (some ⟨w.heap.size, 0, none⟩) 0 0) (xv := .slice A l.length c) (l := []) rfl rfl (.inr ⟨w.heap.size, 0, #[], (0, 0), rfl, heap_alloc_self _ _, Nat.le_refl _, Nat.le_refl _, by decide, fun i hi => by omega, fun j u hu => by simp at hu⟩) (H.out.same (HX.out _)) (by simpa using (by omega : l.length ≤ 140737488355328)) ?_; intro v2 w2 hown2 hx2 hb2; have HF := Lib.hid (show FreshB w l v2 w2 from ⟨hown2, (HX.out _).trans' hx2 fun b hb => .inr (by simp [Value.ownBlock] at hb; omega), fun k hk => by rcases hb2 with h | ⟨b, h, hle⟩; (rw [h] at hk; simp [Value.ownBlock] at hk; omega); (rw [h] at hk; simp at hk hle; omega)⟩); clear hown2 hx2 hb2)
  go_ret
  exact ⟨_, rfl, HF.out⟩
/-- The first place whose key is not below a key. -/
def atL : List (Bs × Bs) → Bs → Nat
  | [], _ => 0
  | e :: r, k => if e.1 < k then atL r k + 1 else 0
theorem atL_le : ∀ (l : List (Bs × Bs)) (k : Bs), atL l k ≤ l.length
  | [], _ => Nat.le_refl _
  | e :: r, k => by
    have := atL_le r k
    rw [atL, List.length_cons]
    split <;> omega
theorem atL_lt : ∀ {l : List (Bs × Bs)} {k : Bs} {i : Nat} (h : i < l.length), i < atL l k → l[i].1 < k
  | e :: r, k, 0, h, hi => by
    rw [atL] at hi
    split at hi
    · assumption
    · omega
  | e :: r, k, i + 1, h, hi => by
    rw [atL] at hi
    split at hi
    · exact atL_lt (l := r) (by rw [List.length_cons] at h; omega) (by omega)
    · omega
theorem atL_at : ∀ {l : List (Bs × Bs)} {k : Bs} (h : atL l k < l.length), ¬ l[atL l k].1 < k
  | e :: r, k, h => by
    by_cases he : e.1 < k
    · have hr : atL (e :: r) k = atL r k + 1 := by rw [atL, if_pos he]
      have h' : atL r k < r.length := by rw [hr, List.length_cons] at h; omega
      have := atL_at h'
      simp only [hr, List.getElem_cons_succ]
      exact this
    · have hr : atL (e :: r) k = 0 := by rw [atL, if_neg he]
      simp only [hr, List.getElem_cons_zero]
      exact he
/-- The document's tree: its cell is a. -/
def DT (w : World) (a : Nat) (L : List (Bs × Bs)) : Prop := ∃ lv, w.heap[a]? = some (.cells #[lv] 59 (0, 0)) ∧ Ents w lv L
set_option maxRecDepth 100000 in
set_option maxHeartbeats 2000000 in
theorem dat_walk {w : World} {a : Nat} {L : List (Bs × Bs)} {D : Nat → Prop} {kv : Value} {k : Bs} (h : DT w a L) (hn : L.length ≤ 1099511627776) (hk : Byt D w kv k) (hkl : k.length ≤ 140737488351232) :
    Calls Try.prog 106 #[ptrV a, kv] w fun e w' => e = .returned (.int .i64 (atL L k)) ∧ Ext (fun _ => False) w w' := by
  obtain ⟨lv, ha, hL⟩ := h
  obtain ⟨A, cp, rfl, _, _⟩ := id hL
  have H := Lib.hid (And.intro ha (And.intro hL hk))
  have hle := atL_le L k
  clear ha hL hk
  go_enter Try.func106, Try.ntmps106
  go_wp2_with fail
  go_loopw [5] (fun i W => ∃ j : Nat, j ≤ atL L k ∧ i = .int .i64 j ∧ Ext (fun _ => False) w W) (fun i _ => atL L k - (intOf i).toNat)
  case atStart => exact ⟨0, Nat.zero_le _, rfl, Ext.refl _ _⟩
  case round =>
    obtain ⟨j, hj, rfl, hx⟩ := hrel
    have hb := hx.heap H.out.1 id
    have ca : wr.cell? ⟨a, 0, none⟩ = some (.slice A L.length cp) := cells_at hb 0
    have hal := lt_of_heap hb
    clear hb
    by_cases hlt : j < L.length
    · obtain ⟨g, off, c, hav, hgl, ⟨⟨x, y, c0, c1, hxk, _⟩, _, _⟩⟩ := H.out.2.1.atS hlt
      simp only [Value.slice.injEq, true_and] at hav
      obtain ⟨rfl, rfl⟩ := hav
      have hjl : decide ((j : Int) < (L.length : Int)) = true := by simp; omega
      have d0 := cell_same c0 hx
      have hg1 : g < wr.heap.size := Nat.lt_of_lt_of_le hgl hx.size
      obtain ⟨b1, hb1, hc1⟩ := (hxk.same hx).convS hg1 22 5 9 Try.underlying22 Try.underlying5 Try.underlying9
      obtain ⟨b2, hb2, hc2⟩ := (H.out.2.2.same hx).convS hg1 22 5 9 Try.underlying22 Try.underlying5 Try.underlying9
      have HX := Lib.hid hx
      clear hx hxk c0 c1
      by_cases hja : j < atL L k
      · have hbl : Op.bytesLess L[j].1 k = true := by rw [bytesLess_eq4]; exact decide_eq_true (atL_lt hlt hja)
        go_wp2_with fail
        refine wp_region_mix (Cls [a, g, b1, b2] _) [] [0, 1, 2, 3, 4, 5, 6, 7, 8, 9, 10, 11, 12, 13, 14, 15, 16, 17, 18, 19, 20] (by kernel_rfl) (by kernel_rfl) (Cls.refl _ _) ?_
        try dsimp only [wpMix, wpSegs, pick, List.getElem?_cons_zero, List.getElem?_cons_succ]
        generalize hz : Act.mk _ _ = z
        repeat (first | (refine wpQuiet_step (fun K hK => ?_); replace hK := Lib.hid hK; subst hz; go_simp; generalize hz : Act.mk _ _ = z; refine hK.out z ?_; clear hK K) | (refine wpQuiet_step (fun K hK => ?_); replace hK := Lib.hid hK; subst hz; refine iteSkip (by kernel_rfl) ?_; go_simp; generalize hz : Act.mk _ _ = z; refine hK.out z ?_; clear hK K))
        try refine wpQuiet_nil ?_
        subst hz
        try dsimp only [NoPan]
        go_wp2_with fail
        exact ⟨⟨j + 1, by omega, by go_num, HX.out.drew⟩, by simp [intOf]; omega⟩
      · have hje : j = atL L k := by omega
        have hbl : Op.bytesLess L[j].1 k = false := by
          rw [bytesLess_eq4]
          refine decide_eq_false ?_
          subst hje
          exact atL_at hlt
        have HJ := Lib.hid hje
        clear hje hja
        go_wp2_with fail
        refine wp_region_mix (Cls [a, g, b1, b2] _) [] [0, 1, 2, 3, 4, 5, 6, 7, 8, 9, 10, 11, 12, 13, 14, 15, 16, 17, 18, 19, 20] (by kernel_rfl) (by kernel_rfl) (Cls.refl _ _) ?_
        try dsimp only [wpMix, wpSegs, pick, List.getElem?_cons_zero, List.getElem?_cons_succ]
        generalize hz : Act.mk _ _ = z
        repeat (first | (refine wpQuiet_step (fun K hK => ?_); replace hK := Lib.hid hK; subst hz; go_simp; generalize hz : Act.mk _ _ = z; refine hK.out z ?_; clear hK K) | (refine wpQuiet_step (fun K hK => ?_); replace hK := Lib.hid hK; subst hz; refine iteSkip (by kernel_rfl) ?_; go_simp; generalize hz : Act.mk _ _ = z; refine hK.out z ?_; clear hK K))
        try refine wpQuiet_nil ?_
        subst hz
        try dsimp only [NoPan]
        go_wp2_with fail
        go_ret
        exact ⟨by rw [← HJ.out]; rfl, HX.out.drew⟩
    · have hjl : decide ((j : Int) < (L.length : Int)) = false := by simp; omega
      have hje : j = atL L k := by omega
      have HJ := Lib.hid hje
      have HX := Lib.hid hx
      clear hx hje
      go_wp2_with fail
      refine wp_region_mix (Cls [a] _) [] [0, 1, 2, 3, 4, 5, 6, 7, 8, 9, 10, 11, 12, 13, 14, 15, 16, 17, 18, 19, 20] (by kernel_rfl) (by kernel_rfl) (Cls.refl _ _) ?_
      try dsimp only [wpMix, wpSegs, pick, List.getElem?_cons_zero, List.getElem?_cons_succ]
      generalize hz : Act.mk _ _ = z
      repeat (first | (refine wpQuiet_step (fun K hK => ?_); replace hK := Lib.hid hK; subst hz; go_simp; generalize hz : Act.mk _ _ = z; refine hK.out z ?_; clear hK K) | (refine wpQuiet_step (fun K hK => ?_); replace hK := Lib.hid hK; subst hz; refine iteSkip (by kernel_rfl) ?_; go_simp; generalize hz : Act.mk _ _ = z; refine hK.out z ?_; clear hK K))
      try refine wpQuiet_nil ?_
      subst hz
      try dsimp only [NoPan]
      go_wp2_with fail
      go_ret
      exact ⟨by rw [← HJ.out]; rfl, HX.out.drew⟩
end Go.Proofs.Ytoflfhjeabpcjaa
/- The document's Get; no condition. -/
namespace Go.Proofs.Ytoflfhjeabpcjaa
set_option linter.unusedVariables false
set_option linter.unusedSimpArgs false
open Go.RowKit

/-- A key's value in a rising row. -/
def hitL (L : List (Bs × Bs)) (k : Bs) : Option Bs := match L[atL L k]? with
  | some e => if e.1 = k then some e.2 else none
  | none => none
theorem hitL_mem {L : List (Bs × Bs)} (hs : L.Pairwise (fun e f => e.1 < f.1)) {k v : Bs} : hitL L k = some v ↔ (k, v) ∈ L := by
  constructor
  · intro h
    unfold hitL at h
    split at h
    · rename_i e he
      split at h
      · rename_i hek
        injection h with h
        subst hek h
        exact List.mem_of_getElem? he
      · cases h
    · cases h
  · intro h
    obtain ⟨i, hi, he⟩ := List.mem_iff_getElem.1 h
    have hia : atL L k = i := by
      rcases Nat.lt_trichotomy (atL L k) i with h1 | h1 | h1
      · have h2 := atL_at (l := L) (k := k) (by omega)
        have h3 := List.pairwise_iff_getElem.1 hs (atL L k) i (by omega) hi h1
        rw [he] at h3
        exact absurd h3 h2
      · exact h1
      · have h2 := atL_lt hi h1
        rw [he] at h2
        exact absurd h2 (List.lt_irrefl _)
    unfold hitL
    rw [hia, List.getElem?_eq_getElem hi, he]
    simp
set_option maxRecDepth 100000 in
set_option maxHeartbeats 2000000 in
theorem dget_walk {w : World} {a : Nat} {L : List (Bs × Bs)} {D : Nat → Prop} {kv : Value} {k : Bs} (h : DT w a L) (hn : L.length ≤ 1099511627776) (hk : Byt D w kv k) (hkl : k.length ≤ 140737488351232) :
    Calls Try.prog 71 #[ptrV a, kv] w fun e w' => ∃ v, e = .returned (.tuple #[v, .bool (hitL L k).isSome]) ∧ FreshB w (gotB (hitL L k)) v w' := by
  have HA := Lib.hid (dat_walk h hn hk hkl)
  have hle := atL_le L k
  obtain ⟨lv, ha, hL⟩ := h
  obtain ⟨A, cp, rfl, _, _⟩ := id hL
  have H := Lib.hid (And.intro ha (And.intro hL hk))
  clear ha hL hk
  go_enter Try.func71, Try.ntmps71
  go_wp2_with fail
  refine HA.out.mono ?_
  rintro e w1 ⟨rfl, x1⟩
  have hb := x1.heap H.out.1 id
  have ca : w1.cell? ⟨a, 0, none⟩ = some (.slice A L.length cp) := cells_at hb 0
  have hal := lt_of_heap hb
  clear hb HA
  by_cases hlt : atL L k < L.length
  · have hhit : hitL L k = if L[atL L k].1 = k then some L[atL L k].2 else none := by
      unfold hitL
      rw [List.getElem?_eq_getElem hlt]
    generalize hj : atL L k = j at *
    obtain ⟨g, off, c, hav, hgl, ⟨⟨x, y, c0, c1, hxk, hyv⟩, _, ly⟩⟩ := H.out.2.1.atS hlt
    simp only [Value.slice.injEq, true_and] at hav
    obtain ⟨rfl, rfl⟩ := hav
    have hjl : ((j : Int) == (L.length : Int)) = false := by rw [beq_eq_false_iff_ne]; omega
    have hjl2 : (j == L.length) = false := by rw [beq_eq_false_iff_ne]; omega
    have d0 := cell_same c0 x1
    have d1 := cell_same c1 x1
    have hg1 : g < w1.heap.size := Nat.lt_of_lt_of_le hgl x1.size
    obtain ⟨b1, hb1, hc1⟩ := (hxk.same x1).convS hg1 22 5 9 Try.underlying22 Try.underlying5 Try.underlying9
    obtain ⟨b2, hb2, hc2⟩ := (H.out.2.2.same x1).convS hg1 22 5 9 Try.underlying22 Try.underlying5 Try.underlying9
    have HX := Lib.hid (And.intro x1 (And.intro hhit (And.intro hyv ly)))
    clear x1 hxk c0 c1 hhit hyv hj
    by_cases hek : L[j].1 = k
    · have heq : (L[j].1 == k) = true := by simpa using hek
      have HE := Lib.hid hek
      clear hek
      go_wp2_with fail
      refine wp_region_mix (Cls [a, g, b1, b2] _) [] [0, 1, 2, 3, 4, 5, 6, 7, 8, 9, 10, 11, 12, 13, 14, 15, 16, 17, 18, 19, 20] (by kernel_rfl) (by kernel_rfl) (Cls.refl _ _) ?_
      try dsimp only [wpMix, wpSegs, pick, List.getElem?_cons_zero, List.getElem?_cons_succ]
      generalize hz : Act.mk _ _ = z
      repeat (first | (refine wpQuiet_step (fun K hK => ?_); replace hK := Lib.hid hK; subst hz; go_simp; generalize hz : Act.mk _ _ = z; refine hK.out z ?_; clear hK K) | (refine wpQuiet_step (fun K hK => ?_); replace hK := Lib.hid hK; subst hz; refine iteSkip (by kernel_rfl) ?_; go_simp; generalize hz : Act.mk _ _ = z; refine hK.out z ?_; clear hK K))
      try refine wpQuiet_nil ?_
      subst hz
      try dsimp only [NoPan]
      go_wp2_with fail
      refine (dcopied_walk (HX.out.2.2.1.same HX.out.1.drew) HX.out.2.2.2).mono ?_
      rintro e w2 ⟨v2, rfl, f2⟩
      have HF := Lib.hid (f2.base HX.out.1.drew)
      clear f2
      go_wp2_with fail
      go_ret2
      rw [HX.out.2.1, if_pos HE.out]
      exact ⟨_, rfl, HF.out⟩
    · have heq : (L[j].1 == k) = false := by simpa using hek
      have HE := Lib.hid hek
      clear hek
      go_wp2_with fail
      refine wp_region_mix (Cls [a, g, b1, b2] _) [] [0, 1, 2, 3, 4, 5, 6, 7, 8, 9, 10, 11, 12, 13, 14, 15, 16, 17, 18, 19, 20] (by kernel_rfl) (by kernel_rfl) (Cls.refl _ _) ?_
      try dsimp only [wpMix, wpSegs, pick, List.getElem?_cons_zero, List.getElem?_cons_succ]
      generalize hz : Act.mk _ _ = z
      repeat (first | (refine wpQuiet_step (fun K hK => ?_); replace hK := Lib.hid hK; subst hz; go_simp; generalize hz : Act.mk _ _ = z; refine hK.out z ?_; clear hK K) | (refine wpQuiet_step (fun K hK => ?_); replace hK := Lib.hid hK; subst hz; refine iteSkip (by kernel_rfl) ?_; go_simp; generalize hz : Act.mk _ _ = z; refine hK.out z ?_; clear hK K))
      try refine wpQuiet_nil ?_
      subst hz
      try dsimp only [NoPan]
      go_wp2_with fail
      go_ret2
      rw [HX.out.2.1, if_neg HE.out]
      exact ⟨_, rfl, (FreshB.nil _).base HX.out.1.drew⟩
  · have hhit : hitL L k = none := by
      unfold hitL
      rw [List.getElem?_eq_none (by omega)]
    have hjn : atL L k = L.length := by omega
    rw [hjn]
    have HX := Lib.hid (And.intro x1 hhit)
    clear x1 hhit hjn
    go_wp2_with fail
    refine wp_region_mix (Cls [a] _) [] [0, 1, 2, 3, 4, 5, 6, 7, 8, 9, 10, 11, 12, 13, 14, 15, 16, 17, 18, 19, 20] (by kernel_rfl) (by kernel_rfl) (Cls.refl _ _) ?_
    try dsimp only [wpMix, wpSegs, pick, List.getElem?_cons_zero, List.getElem?_cons_succ]
    generalize hz : Act.mk _ _ = z
    repeat (first | (refine wpQuiet_step (fun K hK => ?_); replace hK := Lib.hid hK; subst hz; go_simp; generalize hz : Act.mk _ _ = z; refine hK.out z ?_; clear hK K) | (refine wpQuiet_step (fun K hK => ?_); replace hK := Lib.hid hK; subst hz; refine iteSkip (by kernel_rfl) ?_; go_simp; generalize hz : Act.mk _ _ = z; refine hK.out z ?_; clear hK K))
    try refine wpQuiet_nil ?_
    subst hz
    try dsimp only [NoPan]
    go_wp2_with fail
    go_ret2
    rw [HX.out.2]
    exact ⟨_, rfl, (FreshB.nil _).base HX.out.1.drew⟩
end Go.Proofs.Ytoflfhjeabpcjaa
/- Entries put behind entries of the call's own; no condition. -/
namespace Go.Proofs.Ytoflfhjeabpcjaa
set_option linter.unusedVariables false
set_option linter.unusedSimpArgs false
open Go.RowKit

theorem OwnE.form {w W : World} {ov : Value} {l : List (Bs × Bs)} (h : OwnE w W ov l) : ∃ A c, ov = .slice A l.length c := by
  obtain ⟨vs, _, ho, _⟩ := h.row
  exact own_form ho
theorem OwnE.new (w W : World) : OwnE w W (.slice none 0 0) [] := ⟨[], rfl, ⟨rfl, .inl ⟨rfl, rfl⟩⟩, by simp⟩
theorem OwnE.still {w W W' : World} {ov : Value} {l : List (Bs × Bs)} (h : OwnE w W ov l) (hx : Ext (fun _ => False) W W') : OwnE w W' ov l := by
  obtain ⟨vs, h1, h2, h3⟩ := h.row
  exact ⟨vs, h1, own_ext h2 hx fun _ _ => id, h3⟩
theorem OwnE.from {w W : World} {ov : Value} {l : List (Bs × Bs)} (h : OwnE w W ov l) : ∀ k, ov.ownBlock = some k → w.heap.size ≤ k ∧ k < W.heap.size := by
  obtain ⟨vs, h1, h2, h3⟩ := h.row
  exact fun k hk => ⟨own_base h2 k hk, own_below h2 k hk⟩
theorem pairs_len : ∀ us : List (Value × Value), (us.flatMap (fun p => [p.1, p.2])).length = us.length * 2
  | [] => rfl
  | p :: r => by
    rw [List.flatMap_cons, List.length_append, pairs_len r, List.length_cons]
    simp only [List.length_cons, List.length_nil]
    omega
theorem run_append_ents {w W : World} (ty : TypeId) {ov xv : Value} {l m : List (Bs × Bs)} (hO : OwnE w W ov l) (hx : Ext (fun _ => False) w W) (hM : Ents w xv m) (hlen : l.length + m.length ≤ 1048576) :
    ∃ v' W', (Builtin.append_ #[50, 50] ty #[ov, xv]).run Try.prog W = .ok v' W' ∧ OwnE w W' v' (l ++ m) ∧ Ext (fun k => ov.ownBlock = some k) W W' := by
  obtain ⟨i, hi1, hi2⟩ := Option.map_eq_some_iff.1 info_entry
  simp only [Prod.mk.injEq] at hi2
  obtain ⟨z1, z2, z3⟩ := hi2
  obtain ⟨vs, h1, h2, h3⟩ := id hO.row
  obtain ⟨A, c, rfl, hc, hat⟩ := hM
  by_cases hm : m = []
  · subst hm
    obtain ⟨sA, sc, rfl⟩ := own_form h2
    refine ⟨_, _, run_append_nothing W 50 ty _ i Try.underlying50 hi1 sA l.length sc ?_ ?_ A c, by rw [List.append_nil]; exact hO, Ext.refl _ _⟩
    · rcases h2.2 with ⟨h4, h5⟩ | ⟨g, cap, cur, h4, _, _, hn, _⟩
      · omega
      · simp only [Value.slice.injEq] at h4
        omega
    · intro a ha
      subst ha
      rcases h2.2 with ⟨h4, h5⟩ | ⟨g, cap, cur, h4, _, _, hn, _⟩
      · simp at h4
      · simp only [Value.slice.injEq, Option.some.injEq] at h4
        rw [h4.1]
  · have hpos := List.length_pos_iff.2 hm
    obtain ⟨gx, ox, rfl, hDx, hcell⟩ := hat hm
    obtain ⟨us, hul, hus⟩ := exists_list (p := fun i (u : Value × Value) => w.cell? ⟨gx, ox + i * 2, none⟩ = some u.1 ∧ w.cell? ⟨gx, ox + i * 2 + 1, none⟩ = some u.2 ∧ ∀ y, m[i]? = some y → Byt (· < w.heap.size) w u.1 y.1 ∧ Byt (· < w.heap.size) w u.2 y.2 ∧ y.1.length ≤ 140737488351232 ∧ y.2.length ≤ 140737488351232) m.length (fun i hi => by
      obtain ⟨⟨a, b, c0, c1, ha, hb⟩, la, lb⟩ := hcell i _ (List.getElem?_eq_getElem hi)
      exact ⟨(a, b), c0, c1, fun y hy => by rw [List.getElem?_eq_getElem hi] at hy; obtain rfl := Option.some.inj hy; exact ⟨ha, hb, la, lb⟩⟩)
    have hone : ∀ u ∈ us.flatMap (fun p => [p.1, p.2]), u.oneCell' = true := fun u hu => by
      obtain ⟨p, hp, hu⟩ := List.mem_flatMap.1 hu
      obtain ⟨j, hj, rfl⟩ := List.mem_iff_getElem.1 hp
      obtain ⟨_, _, h5⟩ := hus j _ (List.getElem?_eq_getElem hj)
      obtain ⟨⟨A', c', e, _⟩, ⟨A'', c'', e', _⟩, _⟩ := h5 _ (List.getElem?_eq_getElem (by rw [← hul]; exact hj))
      simp only [List.mem_cons, List.not_mem_nil, or_false] at hu
      rcases hu with rfl | rfl
      · rw [e]; rfl
      · rw [e']; rfl
    have hfl : (us.flatMap (fun p => [p.1, p.2])).length = m.length * 2 := by
      rw [← hul]
      exact pairs_len us
    obtain ⟨v', W', hr, k1, k2, _, k4⟩ := run_append_own_at (P := Try.prog) W w.heap.size 50 ty _ i _ 2 48 Try.underlying50 hi1 z1 z2 z3 rfl (by decide) ov l.length _ h2 ⟨gx, ox, none⟩ m.length c (us.flatMap (fun p => [p.1, p.2])) hfl
      (fun j u hu => by
        have ha : (⟨gx, ox, none⟩ : Addr).add j = ⟨gx, ox + j, none⟩ := by unfold Addr.add; split <;> simp_all
        rw [ha]
        have hj := (List.getElem?_eq_some_iff.1 hu).1
        rw [hfl] at hj
        have hi : j / 2 < us.length := by omega
        have hf := flatMap_at (f := fun p : Value × Value => [p.1, p.2]) (m := 2) (fun _ => rfl) us (j / 2) (j % 2) us[j / 2] (by omega) (List.getElem?_eq_getElem hi)
        rw [show 2 * (j / 2) + j % 2 = j by omega] at hf
        rw [hf] at hu
        obtain ⟨e0, e1, _⟩ := hus (j / 2) _ (List.getElem?_eq_getElem hi)
        rcases (by omega : j % 2 = 0 ∨ j % 2 = 1) with h0 | h0
        · rw [h0] at hu
          simp at hu
          subst hu
          rw [show ox + j = ox + j / 2 * 2 by omega]
          exact cell_same e0 hx
        · rw [h0] at hu
          simp at hu
          subst hu
          rw [show ox + j = ox + j / 2 * 2 + 1 by omega]
          exact cell_same e1 hx) hone (by unfold maxLen; omega) (by omega) hx.size
    refine ⟨v', W', hr, ⟨vs ++ us, by simp [h1, hul], by rw [List.flatMap_append, List.length_append]; exact k1, fun j p e hp he => ?_⟩, ⟨k2.os, k2.tape, k2.output, k2.size, fun k hk hn => k2.block k hk fun e => hn e.symm⟩⟩
    by_cases hj : j < vs.length
    · rw [List.getElem?_append_left hj] at hp
      rw [List.getElem?_append_left (by omega)] at he
      exact h3 j p e hp he
    · rw [List.getElem?_append_right (by omega)] at hp
      rw [List.getElem?_append_right (by omega), ← h1] at he
      exact (hus _ _ hp).2.2 _ he
theorem wpList_append_ents {ops : Array Oper} {rest : List Oper} {o : Oper} {a : Act} {Q : Exit → Act → World → Prop} {w W : World} (hgd : o.guard = none) (s x : Operand)
    (ho : o.op = .call { callee := .builtin .append, args := #[s, x], argTypes := #[50, 50] })
    {ov xv : Value} {l m : List (Bs × Bs)} (hs : a.eval s = ov) (hxv : a.eval x = xv) (hO : OwnE w W ov l) (hx : Ext (fun _ => False) w W) (hM : Ents w xv m) (hlen : l.length + m.length ≤ 1048576)
    (next : ∀ v' W', OwnE w W' v' (l ++ m) → Ext (fun k => ov.ownBlock = some k) W W' → wpList Try.prog ops Q rest (a.put o.dst v') W') : wpList Try.prog ops Q (o :: rest) a W := by
  obtain ⟨v', W', hr, h1, h2⟩ := run_append_ents o.type hO hx hM hlen
  refine wpList_val hgd (w' := W') (v := v') ?_ (next v' W' h1 h2)
  unfold execOp
  simp only [ho, resolve, invoke, builtin, Sem.run_bind, Sem.run_pure, Result.andThen_ok, List.map_toArray, List.map_cons, List.map_nil, hs, hxv, hr]
/-- A row's beginning, and its end. -/
theorem Ents.take {w : World} {A : Option Addr} {c n : Nat} {l : List (Bs × Bs)} (h : Ents w (.slice A n c) l) {k : Nat} (hk : k ≤ l.length) : Ents w (.slice A k c) (l.take k) := by
  obtain ⟨A', c', e, hc, h⟩ := h
  simp only [Value.slice.injEq] at e
  obtain ⟨rfl, rfl, rfl⟩ := e
  refine ⟨A, c, by rw [List.length_take, Nat.min_eq_left hk], by rw [List.length_take]; omega, fun hne => ?_⟩
  obtain ⟨g, o, rfl, hd, hr⟩ := h (by rintro rfl; simp at hne)
  refine ⟨g, o, rfl, hd, fun i x hx => hr i x ?_⟩
  have hi := (List.getElem?_eq_some_iff.1 hx).1
  rw [List.length_take] at hi
  rwa [List.getElem?_take_of_lt (by omega)] at hx
end Go.Proofs.Ytoflfhjeabpcjaa
/- Rows of steps appended to nothing; no condition. -/
namespace Go.Proofs.Ytoflfhjeabpcjaa
set_option linter.unusedVariables false
set_option linter.unusedSimpArgs false
open Go.RowKit

def stepF (s : PS) : List Value := (stepV s ++ List.replicate 34 (Value.bool false)).take 34
theorem stepF_len (s : PS) : (stepF s).length = 34 := by simp [stepF]
theorem stepF_eq {s : PS} (h : s.other.length = 32) : stepF s = stepV s := by
  have := stepV_len h
  unfold stepF
  rw [List.take_append_of_le_length (by omega), List.take_of_length_le (by omega)]
theorem stepF_flat {L : List PS} (h : ∀ x ∈ L, x.other.length = 32) : L.flatMap stepF = L.flatMap stepV := by
  induction L with
  | nil => rfl
  | cons x r ih => rw [List.flatMap_cons, List.flatMap_cons, ih fun y hy => h y (by simp [hy]), stepF_eq (h x (by simp))]
theorem stepF_all : ∀ (L : List PS), (L.flatMap stepF).length = L.length * 34
  | [] => rfl
  | x :: r => by rw [List.flatMap_cons, List.length_append, stepF_all r, stepF_len, List.length_cons]; omega
theorem StepsR.fit {D : Nat → Prop} {w : World} {v : Value} {L : List PS} (h : StepsR D w v L) : ∀ x ∈ L, x.other.length = 32 := fun x hx => by
  obtain ⟨i, hi⟩ := List.mem_iff_getElem?.1 hx
  obtain ⟨hi1, hi2⟩ := List.getElem?_eq_some_iff.1 hi
  obtain ⟨_, _, _, _, _, h3⟩ := h.at hi1
  rw [hi2] at h3
  exact h3.1
theorem stepsR_own {w : World} {N : Nat} {sv : Value} {L : List PS} (hf : ∀ x ∈ L, x.other.length = 32) (h : w.ownsRow N 48 34 sv L.length (L.flatMap stepF)) : StepsR (fun b => sv.ownBlock = some b) w sv L := by
  obtain ⟨A, c, rfl⟩ := own_form h
  refine ⟨A, c, rfl, ?_, fun hne => ?_⟩
  · rcases h.2 with ⟨h1, h0⟩ | ⟨g, cap, cur, h1, _, _, h4, _⟩
    · rw [h0]; exact Nat.zero_le _
    · simp only [Value.slice.injEq] at h1
      rw [h1.2.2]
      exact h4
  · rcases h.2 with ⟨h1, h0⟩ | ⟨g, cap, cur, h1, _, hg, h4, _, hsz, htk⟩
    · exact absurd (List.eq_nil_of_length_eq_zero h0) hne
    · simp only [Value.slice.injEq] at h1
      obtain ⟨rfl, _, rfl⟩ := h1
      refine ⟨g, 0, rfl, rfl, fun i x hi => ?_⟩
      have hxm := hf x (List.mem_of_getElem? hi)
      have hil := (List.getElem?_eq_some_iff.1 hi).1
      refine ⟨hxm, fun j u hj => ?_⟩
      rw [← stepF_eq hxm] at hj
      have hjl : j < 34 := by rw [← stepF_len x]; exact (List.getElem?_eq_some_iff.1 hj).1
      rw [cells_at hg, ← hj, ← flatMap_at (f := stepF) (m := 34) stepF_len L i j x hjl hi, ← htk, List.getElem?_take_of_lt (by omega), Array.getElem?_toList]
      rw [show 0 + i * 34 + j = 34 * i + j by omega]
theorem run_append_steps {D : Nat → Prop} {w W : World} (ty : TypeId) {xv : Value} {L : List PS} (hx : Ext (fun _ => False) w W) (hM : StepsR D w xv L) (hlen : L.length ≤ 1048576) :
    ∃ v' W', (Builtin.append_ #[41, 41] ty #[.slice none 0 0, xv]).run Try.prog W = .ok v' W' ∧ W'.ownsRow W.heap.size 48 34 v' L.length (L.flatMap stepF) ∧ Ext (fun _ => False) W W' := by
  obtain ⟨i, hi1, hi2⟩ := Option.map_eq_some_iff.1 info_step
  simp only [Prod.mk.injEq] at hi2
  obtain ⟨z1, z2, z3⟩ := hi2
  have hfit := hM.fit
  obtain ⟨A, c, rfl, hc, hat⟩ := hM
  by_cases hm : L = []
  · subst hm
    refine ⟨_, _, run_append_nothing W 41 ty _ i Try.underlying41 hi1 none 0 0 (by omega) (fun a h => by cases h) A c, ⟨rfl, .inl ⟨rfl, rfl⟩⟩, Ext.refl _ _⟩
  · obtain ⟨gx, ox, rfl, hDx, hcell⟩ := hat hm
    have hone : ∀ u ∈ L.flatMap stepF, u.oneCell' = true := fun u hu => by
      obtain ⟨p, hp, hu⟩ := List.mem_flatMap.1 hu
      rw [stepF_eq (hfit p hp)] at hu
      have := stepV_one p
      rw [List.all_eq_true] at this
      exact this u hu
    obtain ⟨v', W', hr, k1, k2, _, k4⟩ := run_append_own_at (P := Try.prog) W W.heap.size 41 ty _ i _ 34 48 Try.underlying41 hi1 z1 z2 z3 rfl (by decide) (.slice none 0 0) 0 [] ⟨by simp, .inl ⟨rfl, rfl⟩⟩ ⟨gx, ox, none⟩ L.length c (L.flatMap stepF) (stepF_all L)
      (fun j u hu => by
        have ha : (⟨gx, ox, none⟩ : Addr).add j = ⟨gx, ox + j, none⟩ := by unfold Addr.add; split <;> simp_all
        rw [ha]
        have hj := (List.getElem?_eq_some_iff.1 hu).1
        rw [stepF_all] at hj
        have hi : j / 34 < L.length := by omega
        have hf := flatMap_at (f := stepF) (m := 34) stepF_len L (j / 34) (j % 34) L[j / 34] (by omega) (List.getElem?_eq_getElem hi)
        rw [show 34 * (j / 34) + j % 34 = j by omega] at hf
        rw [hf] at hu
        have hst := hcell (j / 34) _ (List.getElem?_eq_getElem hi)
        rw [stepF_eq hst.1] at hu
        have := cell_same (hst.2 (j % 34) u hu) hx
        rwa [show ox + j / 34 * 34 + j % 34 = ox + j by omega] at this) hone (by unfold maxLen; omega) (by omega) (Nat.le_refl _)
    rw [Nat.zero_add, List.nil_append] at k1
    exact ⟨v', W', hr, k1, ⟨k2.os, k2.tape, k2.output, k2.size, fun k hk _ => k2.block k hk fun e => by simp [Value.ownBlock] at e⟩⟩
theorem wpList_append_steps {ops : Array Oper} {rest : List Oper} {o : Oper} {a : Act} {Q : Exit → Act → World → Prop} {D : Nat → Prop} {w W : World} (hgd : o.guard = none) (s x : Operand)
    (ho : o.op = .call { callee := .builtin .append, args := #[s, x], argTypes := #[41, 41] })
    {xv : Value} {L : List PS} (hs : a.eval s = .slice none 0 0) (hxv : a.eval x = xv) (hx : Ext (fun _ => False) w W) (hM : StepsR D w xv L) (hlen : L.length ≤ 1048576)
    (next : ∀ v' W', W'.ownsRow W.heap.size 48 34 v' L.length (L.flatMap stepF) → Ext (fun _ => False) W W' → wpList Try.prog ops Q rest (a.put o.dst v') W') : wpList Try.prog ops Q (o :: rest) a W := by
  obtain ⟨v', W', hr, h1, h2⟩ := run_append_steps o.type hx hM hlen
  refine wpList_val hgd (w' := W') (v := v') ?_ (next v' W' h1 h2)
  unfold execOp
  simp only [ho, resolve, invoke, builtin, Sem.run_bind, Sem.run_pure, Result.andThen_ok, List.map_toArray, List.map_cons, List.map_nil, hs, hxv, hr]
end Go.Proofs.Ytoflfhjeabpcjaa
