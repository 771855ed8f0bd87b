/- Parts of the proof, put together: ProofMay, ProofBack, RoundReg2; no condition. -/
import Derived.Test.YtoflfhjeabpcjaaLawProofOwnB
import Derived.Test.YtoflfhjeabpcjaaRoundReg
/- Whether a proof may be: proof.may; no condition. -/
namespace Go.Proofs.Ytoflfhjeabpcjaa
set_option linter.unusedVariables false
set_option linter.unusedSimpArgs false
open Go.RowKit

/-- A proof that comes in. -/
structure PIs (D : Nat → Prop) (w : World) (kv vv sv : Value) (k v : Bs) (L : List PS) : Prop where
  key : Byt D w kv k
  value : Byt D w vv v
  steps : StepsR D w sv L
  kl : k.length ≤ 140737488351232
  vl : v.length ≤ 140737488351232
  sl : L.length ≤ 1099511627776
theorem PIs.same {D : Nat → Prop} {w w' : World} {kv vv sv : Value} {k v : Bs} {L : List PS} (h : PIs D w kv vv sv k v L) (hx : ∀ b, D b → w'.heap[b]? = w.heap[b]?) : PIs D w' kv vv sv k v L :=
  ⟨h.key.heaps hx, h.value.heaps hx, h.steps.same hx, h.kl, h.vl, h.sl⟩
theorem stepA_size {s : PS} (h : s.other.length = 32) : (stepV s).toArray.size = 34 := by rw [List.size_toArray, stepV_len h]
theorem stepA_one (s : PS) : (stepV s).toArray.all (·.oneCell') = true := by
  have h := stepV_one s
  rw [List.all_eq_true] at h
  rw [Array.all_eq_true]
  intro i hi
  exact h _ (by simp)
theorem row_new (w : World) {A : Array Value} {t : TypeId} {cs : Array Value} : ((w.alloc (.cells cs t (0, 0))).setRow w.heap.size A).heap[w.heap.size]? = some (.cells A t (0, 0)) ∧ Ext (fun _ => False) w ((w.alloc (.cells cs t (0, 0))).setRow w.heap.size A) :=
  ⟨setRow_heap _ _ _ _ _ _ (heap_alloc_self _ _), ((Ext.refl _ w).alloc _).setRow (.inr (Nat.le_refl _)) _⟩
theorem risesP_cons {n : Nat} {last : Int} {x : PS} {r : List PS} : risesP n last (x :: r) = (decide (last < x.bit) && decide (x.bit ≤ 9 * n) && risesP n x.bit r) := rfl
set_option maxRecDepth 100000 in
set_option maxHeartbeats 1000000 in
theorem may_walk {D : Nat → Prop} {w : World} {nn : Bool} {kv vv sv : Value} {k v : Bs} {L : List PS} (h : PIs D w kv vv sv k v L) (hD : ∀ b, D b → b < w.heap.size) :
    Calls Try.prog 85 #[.agg #[.bool nn, kv, vv, sv]] w fun e w' => e = .returned (.bool (mayP nn k v L)) ∧ Ext (fun _ => False) w w' := by
  have H := Lib.hid h
  obtain ⟨Ak, ck, rfl, hkc, _⟩ := h.key
  obtain ⟨Av, cv, rfl, hvc, _⟩ := h.value
  obtain ⟨As, cs, rfl, hsc, _⟩ := h.steps
  have hkl := h.kl
  have hvl := h.vl
  have hsl := h.sl
  clear h
  cases nn with
  | true =>
    have hwr : IntKind.i64.wrap ((k.length : Int) + (L.length : Int)) = (k.length : Int) + (L.length : Int) := IntWalk.i64_in _ (by omega)
    by_cases h0 : k.length + L.length = 0
    · have hz : (((k.length : Int) + (L.length : Int)) == 0) = true := by rw [beq_iff_eq]; omega
      by_cases h1 : v.length = 0
      · have hz1 : ((v.length : Int) == 0) = true := by rw [beq_iff_eq]; omega
        have hm : mayP true k v L = true := by unfold mayP; rw [if_pos rfl]; simp [h0, h1]
        rw [hm]
        clear h0 h1 hm
        go_enter Try.func85, Try.ntmps85
        go_wp2_with fail
        go_ret
        exact ⟨rfl, (Ext.refl _ _).alloc _⟩
      · have hz1 : ((v.length : Int) == 0) = false := by rw [beq_eq_false_iff_ne]; omega
        have hm : mayP true k v L = false := by unfold mayP; rw [if_pos rfl]; simp [h1]
        rw [hm]
        clear h0 h1 hm
        go_enter Try.func85, Try.ntmps85
        go_wp2_with fail
        go_ret
        exact ⟨rfl, (Ext.refl _ _).alloc _⟩
    · have hz : (((k.length : Int) + (L.length : Int)) == 0) = false := by rw [beq_eq_false_iff_ne]; omega
      have hm : mayP true k v L = false := by
        unfold mayP
        rw [if_pos rfl, show (k.length + L.length == 0) = false by rw [beq_eq_false_iff_ne]; exact h0]
        rfl
      rw [hm]
      clear h0 hm
      go_enter Try.func85, Try.ntmps85
      go_wp2_with fail
      go_ret
      exact ⟨rfl, (Ext.refl _ _).alloc _⟩
  | false =>
    have hP0 := heap_alloc_self w (.cells #[.bool false, .slice Ak k.length ck, .slice Av v.length cv, .slice As L.length cs] 43 (0, 0))
    have hx0 := (Ext.refl (fun _ => False) w).alloc (.cells #[.bool false, .slice Ak k.length ck, .slice Av v.length cv, .slice As L.length cs] 43 (0, 0))
    have H0 := Lib.hid (And.intro hP0 hx0)
    clear hP0 hx0
    have hw9 : IntKind.i64.wrap (9 * (k.length : Int)) = 9 * (k.length : Int) := IntWalk.i64_in _ (by omega)
    have hmn : IntKind.i64.wrap (-1) = -1 := IntWalk.i64_in _ (by omega)
    have hmd : mayP false k v L = (risesP k.length (-1) L && (decide (k.length ≤ 120) && decide (v.length ≤ 1200) && agreesP k L)) := by unfold mayP; rw [if_neg (by decide)]
    have HMD := Lib.hid hmd
    clear hmd
    go_enter Try.func85, Try.ntmps85
    go_wp2_with fail
    go_loopw [4, 29] (fun a i W => ∃ (q : Nat) (last : Int), q ≤ L.length ∧ i = .int .i64 q ∧ a = .int .i64 last ∧ risesP k.length (-1) L = risesP k.length last (L.drop q) ∧ Ext (fun _ => False) (w.alloc (.cells #[.bool false, .slice Ak k.length ck, .slice Av v.length cv, .slice As L.length cs] 43 (0, 0))) W) (fun _ i _ => L.length - (intOf i).toNat)
    case atStart => exact ⟨0, -1, Nat.zero_le _, rfl, rfl, rfl, Ext.refl _ _⟩
    case round =>
      obtain ⟨q, last, hq, rfl, rfl, hr, hx⟩ := hrel
      have hP := hx.heap H0.out.1 id
      have hxw : Ext (fun _ => False) w wr := H0.out.2.trans hx
      have d1 : wr.cell? ⟨w.heap.size, 1, none⟩ = some (.slice Ak k.length ck) := cells_at hP 1
      have d2 : wr.cell? ⟨w.heap.size, 2, none⟩ = some (.slice Av v.length cv) := cells_at hP 2
      have d3 : wr.cell? ⟨w.heap.size, 3, none⟩ = some (.slice As L.length cs) := cells_at hP 3
      by_cases hlt : q < L.length
      · have hql : decide ((q : Int) < (L.length : Int)) = true := by simp; omega
        obtain ⟨g, o, c', hav, hdb, hst⟩ := H.out.steps.at hlt
        simp only [Value.slice.injEq, true_and] at hav
        obtain ⟨rfl, rfl⟩ := hav
        rw [List.drop_eq_getElem_cons hlt] at hr
        have HR := Lib.hid (And.intro hr (And.intro hx (And.intro hst hxw)))
        clear hr hx hst hxw hP d1 d2 d3
        generalize L[q] = x at *
        have hso := HR.out.2.2.1.1
        have hrg : wr.rangeAt g (o + q * 34) (stepV x) := fun j v hv => cell_same (HR.out.2.2.1.2 j v hv) HR.out.2.2.2
        have hxc : ∃ xc, xc = (stepV x).toArray := ⟨_, rfl⟩
        obtain ⟨xc, hxc⟩ := hxc
        go_wp2_with (first | (refine wpList_load_midq 48 (.tmp 31) rfl rfl g (o + q * 34) rfl (stepV x) _ hrg Try.underlying48 rfl (by rw [stepV_len hso]; exact step_info) ?_) | (refine wpList_store_row rfl 48 (.tmp 6) _ rfl wr.heap.size (stepV x).toArray rfl rfl 48 _ (heap_alloc_self _ _) (by rw [stepA_size hso]; exact step_info) (by rw [stepA_size hso]; rfl) (stepA_one x) ?_; rename_i ax; have HAx := Lib.hid ax; clear ax))
        refine HAx.out _ _ ?_
        clear HAx hxc hrg
        generalize hw3 : (wr.alloc _).setRow _ (stepV x).toArray = w3
        have s3 : w3.heap[wr.heap.size]? = some (.cells (stepV x).toArray 48 (0, 0)) := by rw [← hw3]; exact (row_new wr).1
        have x3 : Ext (fun _ => False) wr w3 := by rw [← hw3]; exact (row_new wr).2
        clear hw3
        have b0 : w3.cell? ⟨wr.heap.size, 0, none⟩ = some (.int .i64 x.bit) := cells_at s3 0
        have hxx := HR.out.2.1.trans x3
        have H3 := Lib.hid (And.intro hxx (H0.out.2.trans hxx))
        clear s3 x3 hxx
        by_cases h1 : x.bit ≤ last
        · have h1' : decide (x.bit ≤ last) = true := by simpa using h1
          have hf : risesP k.length (-1) L = false := by
            rw [HR.out.1, risesP_cons, show decide (last < x.bit) = false by rw [decide_eq_false_iff_not]; omega]
            rfl
          have HF := Lib.hid (show mayP false k v L = false by rw [HMD.out, hf, Bool.false_and])
          clear h1 hf
          go_wp2_with fail
          go_ret
          exact ⟨by rw [HF.out]; rfl, H3.out.2⟩
        · have h1' : decide (x.bit ≤ last) = false := by simpa using h1
          by_cases h2 : 9 * (k.length : Int) < x.bit
          · have h2' : decide (9 * (k.length : Int) < x.bit) = true := by simpa using h2
            have hf : risesP k.length (-1) L = false := by
              rw [HR.out.1, risesP_cons, show decide (x.bit ≤ 9 * (k.length : Int)) = false by rw [decide_eq_false_iff_not]; omega]
              simp
            have HF := Lib.hid (show mayP false k v L = false by rw [HMD.out, hf, Bool.false_and])
            clear h1 h2 hf
            go_wp2_with fail
            go_ret
            exact ⟨by rw [HF.out]; rfl, H3.out.2⟩
          · have h2' : decide (9 * (k.length : Int) < x.bit) = false := by simpa using h2
            have hf : risesP k.length (-1) L = risesP k.length x.bit (L.drop (q + 1)) := by
              rw [HR.out.1, risesP_cons, show decide (x.bit ≤ 9 * (k.length : Int)) = true by rw [decide_eq_true_iff]; omega, show decide (last < x.bit) = true by rw [decide_eq_true_iff]; omega]
              rfl
            have HF := Lib.hid hf
            clear h1 h2 hf
            go_wp2_with fail
            exact ⟨⟨q + 1, x.bit, by omega, by go_num, rfl, HF.out, H3.out.1⟩, by simp [intOf]; omega⟩
      · have hql : decide ((q : Int) < (L.length : Int)) = false := by simp; omega
        have hf : risesP k.length (-1) L = true := by rw [hr, List.drop_eq_nil_of_le (by omega)]; rfl
        have hM : mayP false k v L = (decide (k.length ≤ 120) && decide (v.length ≤ 1200) && agreesP k L) := by rw [HMD.out, hf, Bool.true_and]
        have HX := Lib.hid hxw
        clear hr hx hxw hP hf
        by_cases h1 : k.length ≤ 120
        · have h1' : decide ((k.length : Int) ≤ 120) = true := by simp; omega
          rw [show decide (k.length ≤ 120) = true by simpa using h1, Bool.true_and] at hM
          by_cases h2 : v.length ≤ 1200
          · have h2' : decide ((v.length : Int) ≤ 1200) = true := by simp; omega
            rw [show decide (v.length ≤ 1200) = true by simpa using h2, Bool.true_and] at hM
            have HM := Lib.hid hM
            clear hM
            have hD' : ∀ b, D b → wr.heap[b]? = w.heap[b]? := fun b hb => HX.out.heap_eq (hD b hb) id
            have HS := Lib.hid (H.out.same hD')
            clear h1 h2 hD'
            go_wp2_with fail
            refine (agrees_walk HS.out.steps hsl HS.out.key hkl).mono ?_
            rintro e w5 ⟨rfl, x5⟩
            have H5 := Lib.hid (HX.out.trans x5)
            clear x5
            go_wp2_with fail
            go_ret
            exact ⟨by rw [HM.out]; rfl, H5.out⟩
          · have h2' : decide ((v.length : Int) ≤ 1200) = false := by simp; omega
            rw [show decide (v.length ≤ 1200) = false by simpa using h2, Bool.false_and] at hM
            have HM := Lib.hid hM
            clear h1 h2 hM
            go_wp2_with fail
            go_ret
            exact ⟨by rw [HM.out]; rfl, HX.out⟩
        · have h1' : decide ((k.length : Int) ≤ 120) = false := by simp; omega
          rw [show decide (k.length ≤ 120) = false by simpa using h1, Bool.false_and, Bool.false_and] at hM
          have HM := Lib.hid hM
          clear h1 hM
          go_wp2_with fail
          go_ret
          exact ⟨by rw [HM.out]; rfl, HX.out⟩
end Go.Proofs.Ytoflfhjeabpcjaa
/- The steps of a proof, the last one first: slices.Backward; a named row's text; no condition. -/
namespace Go.Proofs.Ytoflfhjeabpcjaa
set_option linter.unusedVariables false
set_option linter.unusedSimpArgs false
open Go.RowKit
attribute [local go_sem] Oper.semAt_some

theorem wpListIn_load_midq {n : Nat} {P : Program} {ops : Array Oper} {rest : List Oper} {o : Oper} {a : Act} {w : World} {Q : Exit → Act → World → Prop} (ty : TypeId) (x : Operand) (ho : o.op = .load ty x) (hw : Region.wanted o (yielded ops a.tmps) = true) (b k : Nat) (hx : a.eval x = .pointer (some ⟨b, k, none⟩)) (cs : List Value) (d : TypeDesc)
    (hC : w.rangeAt b k cs) (hu : P.underlying ty = some d) (hd : d.isRow = true) (hi : (P.info? ty).map (·.size) = some cs.length)
    (h : wpListIn Fence.wide n P ops Q rest (a.put o.dst (.agg cs.toArray)) w) : wpListIn Fence.wide n P ops Q (o :: rest) a w := by
  simp only [wpListIn, hw, if_true]
  refine ⟨fun _ _ => trivial, ?_⟩
  rw [show Fence.wide.round = none from rfl, Oper.semAt_none]
  unfold execOp
  simp only [ho, hx, Instr.loadAt, Instr.sureAddr, Sem.run_bind, Sem.run_pure, Result.andThen_ok, run_loadVar_mid w b k ty cs d hC hu hd hi]
  exact h
theorem wpList_move {P : Program} {ops : Array Oper} {Q : Exit → Act → World → Prop} {a : Act} {w : World} {o : Oper} {rest : List Oper} (hgd : o.guard = none) (x : Operand) (ho : o.op = .move x)
    (h : wpList P ops Q rest (a.put o.dst (a.eval x)) w) : wpList P ops Q (o :: rest) a w := by
  refine wpList_val hgd (w' := w) (v := a.eval x) ?_ h
  unfold execOp
  simp only [ho]
  rfl
def backX (L : List PS) : List (PS × Nat) := L.zipIdx.reverse
theorem backX_len (L : List PS) : (backX L).length = L.length := by simp [backX]
theorem backX_at (L : List PS) {q : Nat} (h : q < L.length) : (backX L)[L.length - 1 - q]? = some (L[q], q) := by
  unfold backX
  rw [List.getElem?_reverse (by simp; omega)]
  rw [List.length_zipIdx, show L.length - 1 - (L.length - 1 - q) = q by omega]
  rw [List.getElem?_zipIdx, List.getElem?_eq_getElem h]
  simp
theorem backX_take (L : List PS) {q : Nat} (h : q < L.length) : (backX L).take (L.length - q) = (backX L).take (L.length - (q + 1)) ++ [(L[q], q)] := by
  rw [show L.length - q = (L.length - (q + 1)) + 1 by omega, List.take_add_one]
  rw [show L.length - (q + 1) = L.length - 1 - q by omega, backX_at L h]
  rfl
set_option maxRecDepth 100000 in
theorem backward_walk (w : World) (sv : Value) (A : Option Addr) (n c : Nat) (hs : sv = .slice A n c) :
    Calls Try.prog 87 #[sv] w fun e w' => e = .returned (.func (.func 109) #[] #[.pointer (some ⟨w.heap.size, 0, none⟩)]) ∧ w'.heap[w.heap.size]? = some (.cells #[sv] 41 (0, 0)) ∧ Ext (fun _ => False) w w' := by
  subst hs
  go_enter Try.func87, Try.ntmps87
  go_wp2_with fail
  go_ret
  exact ⟨rfl, heap_alloc_self _ _, (Ext.refl _ _).alloc _⟩
set_option maxRecDepth 100000 in
set_option maxHeartbeats 400000 in
theorem backward_iter {w : World} {D K : Nat → Prop} {sv : Value} {L : List PS} {box : Nat} (hL : StepsR D w sv L) (hl : L.length ≤ 1099511627776) (hbox : w.heap[box]? = some (.cells #[sv] 41 (0, 0))) (hDK : ∀ b, D b → K b) (hbK : K box) :
    IterC Try.prog 109 #[.pointer (some ⟨box, 0, none⟩)] (fun x : PS × Nat => #[.int .i64 x.2, .agg (stepV x.1).toArray]) (backX L) K w := by
  intro n m l J D0 W hx hJ hJD hY h0
  refine callsIn_wide.2 ?_
  obtain ⟨As, cs, rfl, _, _⟩ := id hL
  have HH := Lib.hid (And.intro hL (And.intro hJ (And.intro hJD (And.intro h0 hbox))))
  have HX := Lib.hid hx
  have HY := Lib.hid hY
  have b0 : W.cell? ⟨box, 0, none⟩ = some (.slice As L.length cs) := cells_at (hx.heap hbox (fun h => h hbK)) 0
  clear hx hJ hJD hY h0 hL hbox
  have hwn : IntKind.i64.wrap ((L.length : Int) - 1) = (L.length : Int) - 1 := IntWalk.i64_in _ (by omega)
  go_enter Try.func109, Try.ntmps109
  go_wp2_with fail
  go_loopw [3] (fun i wr => ∃ q : Nat, q ≤ L.length ∧ i = .int .i64 ((q : Int) - 1) ∧ Ext (fun b => ¬ K b) w wr ∧ W.heap.size ≤ wr.heap.size ∧ ∃ Dc, J Dc ((backX L).take (L.length - q)) wr ∧ ∀ b, Dc b → D0 b ∨ W.heap.size ≤ b) (fun i _ => (intOf i + 1).toNat)
  case atStart =>
    refine ⟨L.length, Nat.le_refl _, rfl, HX.out, Nat.le_refl _, D0, ?_, fun b hb => .inl hb⟩
    rw [Nat.sub_self]
    exact HH.out.2.2.2.1
  case round =>
    obtain ⟨q, hq, rfl, hx, hsz, Dc, hj, hd⟩ := hrel
    cases q with
    | zero =>
      rw [show (((0 : Nat) : Int) - 1) = -1 from rfl]
      have HT := Lib.hid (And.intro hj hd)
      clear hj hd hx
      go_wp2_with fail
      go_end0
      refine ⟨⟨_, rfl⟩, Dc, ?_, HT.out.2⟩
      have := HT.out.1
      rw [Nat.sub_zero, ← backX_len, List.take_length] at this
      exact this
    | succ m' =>
      rw [show (((m' + 1 : Nat) : Int) - 1) = (m' : Int) by omega]
      have hlt : m' < L.length := by omega
      have c0 : wr.cell? ⟨box, 0, none⟩ = some (.slice As L.length cs) := cells_at (hx.heap HH.out.2.2.2.2 (fun h => h hbK)) 0
      obtain ⟨g, o, c', hav, hdb, hst⟩ := HH.out.1.at hlt
      simp only [Value.slice.injEq, true_and] at hav
      obtain ⟨rfl, rfl⟩ := hav
      have hst' := hst.same (hx.heap_eq (World.block_lt_of_cell? _ _ (hst.2 0 _ rfl)) (fun h => h (hDK _ hdb)))
      obtain ⟨fn, tmps, assign, body, hy, hR⟩ := HY.out Dc _ (L[m'], m') wr hj ⟨(backX L).drop (L.length - m'), by rw [← backX_take L hlt, List.take_append_drop]⟩
      rw [← backX_take L hlt] at hR
      have HR := Lib.hid (And.intro hx (And.intro hd (And.intro hsz hj)))
      have HS := Lib.hid (And.intro hy hR)
      have hso := hst'.1
      have hrg := hst'.2
      have hglt : g < wr.heap.size := World.block_lt_of_cell? _ _ (hst'.2 0 _ rfl)
      clear hx hd hsz hj hst hst' b0 hy hR
      have hwm : IntKind.i64.wrap ((m' : Int) - 1) = (m' : Int) - 1 := IntWalk.i64_in _ (by omega)
      refine wp_seq ?_
      refine wp_seq ?_
      refine wp_region_lit ?_
      generalize hQ : Exit.then _ _ = Q1
      go_wp2_with fail
      subst hQ
      simp only [Exit.then]
      refine wp_cond (t := true) rfl ?_
      refine wp_skip ?_
      simp only [Exit.then]
      refine wp_seq ?_
      refine wp_block ?_
      refine wp_seq_region_in (n := n) ?_
      obtain ⟨hy, hR⟩ := HS.out
      gi_wp2_with (refine wpListIn_load_midq 48 (.tmp 15) rfl rfl g (o + m' * 34) rfl (stepV L[m']) _ hrg Try.underlying48 rfl (by rw [stepV_len hso]; exact step_info) ?_)
      refine ⟨fun hh => (by cases hh), (roundIn_any hR).mono ?_⟩
      rintro e W3 ⟨rfl, D3, j4, x4, n4⟩
      gi_wp2
      go_wp2_with fail
      obtain ⟨hx, hd, hsz, hj⟩ := HR.out
      have hDc := fun b => HH.out.2.2.1 _ _ _ b hj
      refine ⟨⟨m', by omega, rfl, hx.trans' x4 (fun b hb => .inl (hDc b hb).2), Nat.le_trans hsz x4.size, D3, j4, fun b hb => ?_⟩, by simp [intOf]⟩
      rcases n4 b hb with h | h
      · exact hd b h
      · exact .inr (Nat.le_trans hsz h)
set_option maxRecDepth 100000 in
/-- A named row's text. -/
theorem ptext_walk {w : World} {D : Nat → Prop} {v : Value} {nm : Bs} {ls : List Bs} (hv : Byts D w v ls) (hl : ls.length ≤ 4096) (hnm : nm.length ≤ 16) :
    Calls Try.prog 86 #[str nm, v] w fun e w' => ∃ v', e = .returned v' ∧ FreshB w (textR nm ls).1 v' w' := by
  have H := Lib.hid (text_walk (nm := nm) hv (by omega) (by omega))
  obtain ⟨A, c, rfl, _, _⟩ := hv
  go_enter Try.func86, Try.ntmps86
  go_wp2_with fail
  refine H.out.mono ?_
  rintro e w2 ⟨v', rfl, h2⟩
  obtain ⟨A', c', rfl⟩ := h2.own.formv
  have H2 := Lib.hid h2
  clear h2
  go_wp2_with fail
  go_ret
  exact ⟨_, rfl, H2.out⟩
end Go.Proofs.Ytoflfhjeabpcjaa
/- A region within a round with one operation more that may come up at once; no condition. -/
namespace Go.Proofs.Ytoflfhjeabpcjaa
set_option linter.unusedVariables false
set_option linter.unusedSimpArgs false
open Go.RowKit
section
variable {n rl : Nat} {P : Program} {Q : Exit → Act → World → Prop}
theorem wpR_region_bar1 {id : Nat} {l : List Oper} {a : Act} {w : World} (C : World → Prop) (i0 : Nat) (segs : List (List Nat × Nat)) (segb : List Nat) (b : Nat) (segs2 : List (List Nat × Nat)) (last2 : List Nat) (hm : P.follows .mixedOrders = true)
    (hp : (Region.noSelect l.toArray && decide ((flat' segs segb ((false, b) :: flat' segs2 last2 [])).length + 1 ≤ l.length) && segs.all (fun x => x.2 != b) && okBar .any l.toArray [b] (flat' segs segb ((false, b) :: flat' segs2 last2 [])) false ((Array.replicate l.length false).setIfInBounds i0 true)) = true)
    (hp0 : ((Region.ready .any l.toArray (Array.replicate l.length false)).contains i0 && Region.free .any l.toArray (Array.replicate l.length false) i0 && (match l.toArray[i0]? with | some o => isVal o | none => false) && (i0 != b)) = true)
    (hd : noDefer l.toArray = true) (hQ : LetsOut Q → False) (hC : C w.drew)
    (h : wpQuiet P l.toArray (fun _ => True) (fun a1 => wpSegs P l.toArray l C (NoPan Q) (fun a' w' => wpList P l.toArray (Exit.then (fun a'' w'' => wpSegs P l.toArray l (fun _ => True) (NoPan Q) (fun a w => NoPan Q .normal a w) segs2 last2 a'' w'') (NoPan Q)) (pick l [b]) a' w') segs segb a1 w.drew) (pick l [i0]) a) :
    (Code.region id l.toArray true).wpIn (Fence.wide.inRound rl) n P Q a w := by
  refine wpIn_mono (Q := NoPan Q) ?_ (fun e a w h => by cases e <;> first | exact h | exact (h : False).elim)
  simp only [Bool.and_eq_true, decide_eq_true_eq, List.all_eq_true, bne_iff_ne] at hp
  obtain ⟨⟨⟨h1, h2⟩, h4⟩, h3⟩ := hp
  have hsome := okBar_some _ _ _ h3
  have hl : ∀ i : Nat, l[i]? = l.toArray[i]? := fun i => by simp
  have hpan : ∀ (K : Act → World → Prop) c a w, Exit.then K (NoPan Q) (.panic c) a w → NoPan Q (.panic c) a w := fun K c a w h => h
  have sub : ∀ (segs : List (List Nat × Nat)) (last : List Nat) (r : List (Bool × Nat)) x, x ∈ r → x ∈ flat' segs last r := by
    intro segs last r x hx
    induction segs with
    | nil => simp [flat', hx]
    | cons p segs ih => obtain ⟨s, e⟩ := p; simp [flat', ih]
  have hT : BarT C false = C := by
    funext w
    simp [BarT]
  have hT' : BarT C true = fun _ => True := by
    funext w
    simp [BarT]
  have hf : ∀ a1, wpSegs P l.toArray l C (NoPan Q) (fun a' w' => wpList P l.toArray (Exit.then (fun a'' w'' => wpSegs P l.toArray l (fun _ => True) (NoPan Q) (fun a w => NoPan Q .normal a w) segs2 last2 a'' w'') (NoPan Q)) (pick l [b]) a' w') segs segb a1 w.drew → wpBar P l.toArray [b] C (NoPan Q) (flat' segs segb ((false, b) :: flat' segs2 last2 [])) false a1 w.drew := by
    intro a1 h
    refine wpBar_of_segs hl (fun K => letsOut_noPan K) hpan segb (K := _) (fun a' w' h' => ?_) segs a1 w.drew hsome (fun x hx => .inr (by simpa using h4 x hx)) (by rw [hT]; exact h)
    simp only [wpBar]
    refine wpOp_of_list hl (fun K => letsOut_noPan K) hpan (hsome (false, b) (sub _ _ _ _ (by simp))) (fun a'' w'' hh => ⟨.inr (.inl (by simp)), ?_⟩) h'
    have hb1 : (false || [b].contains b) = true := by simp
    rw [hb1]
    refine wpBar_of_segs hl (fun K => letsOut_noPan K) hpan last2 (K := fun a w => NoPan Q .normal a w) (rest := []) (fun a' w' h' => h') segs2 a'' w'' (fun x hx => hsome x (sub _ _ _ _ (by simp [hx]))) (fun x _ => .inl rfl) (by rw [hT']; exact hh)
  simp only [Bool.and_eq_true] at hp0
  obtain ⟨⟨⟨p1, p2⟩, p3⟩, p4⟩ := hp0
  obtain ⟨o, ho⟩ : ∃ o, l.toArray[i0]? = some o := by
    cases ho : l.toArray[i0]? with
    | none => rw [ho] at p3; cases p3
    | some o => exact ⟨o, rfl⟩
  rw [ho] at p3
  have hr : i0 ∈ Region.ready .any l.toArray (Array.replicate l.length false) := by simpa using p1
  have hib : i0 ∉ [b] := by simpa using p4
  have hq : qOp P l.toArray (BarT C true) i0 (fun a1 => wpBar P l.toArray [b] C (NoPan Q) (flat' segs segb ((false, b) :: flat' segs2 last2 [])) false a1 w.drew) a := by
    rw [hT']
    rw [show pick l [i0] = [o] by simp only [pick, hl, ho]] at h
    simp only [wpQuiet] at h
    simp only [qOp, ho]
    split
    · rename_i hw
      rw [if_pos hw] at h
      exact Oper.quiet_mono hf h
    · rename_i hw
      rw [if_neg hw] at h
      exact hf _ h
  refine wpR_region_any hd (fun h => hQ (letsOut_np h)) hm (wpAny_of_G (S := BarS [b] C) _ _ _ _ ?_)
  have hsz : l.toArray.size = l.length := by simp
  rw [hsz]
  obtain ⟨v, hy, hK⟩ := yieldsIf_of_qOp (C := BarT C true) (w := w.drew) (.inl rfl) ho p3 hq
  obtain ⟨k, hk⟩ : ∃ k, l.length = k + 1 := ⟨l.length - 1, by omega⟩
  have hcl : Closed .any l.toArray (Array.replicate l.length false) := by
    intro j oj _ hl'
    rw [getD_replicate_false'] at hl'
    cases hl'
  have key := wpAnyG_first (P := P) (md := .any) (Q := NoPan Q) (bs := [b]) (C := C) (past := true) ho (Region.noSelect_spec h1) (fun _ _ _ h => h) hib (fun h => by cases h) k (Array.replicate l.length false) a w.drew hcl (Region.free_spec ho p2) hr hy (.inr hC)
    (wpAnyG_of_bar h1 (fun _ _ _ _ _ h => h) _ _ _ _ _ h3 (by simp) (hcl.set hr) (fun h => by cases h) (.inr hC) hK k (by omega))
  rw [hk] at key ⊢
  exact key
end
end Go.Proofs.Ytoflfhjeabpcjaa
