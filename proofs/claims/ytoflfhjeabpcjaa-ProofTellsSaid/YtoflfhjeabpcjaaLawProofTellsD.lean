/- Parts of the proof, put together: ProofDMay, ProofDForks, ProofCheck, ProofDTexts, ProofLent; no condition. -/
import Derived.Test.YtoflfhjeabpcjaaLawProofTellsB
import Derived.Test.YtoflfhjeabpcjaaTrieDoc
import Derived.Test.YtoflfhjeabpcjaaLawProofTellsC
import Derived.Test.YtoflfhjeabpcjaaLawProofTellsA
import Derived.Test.YtoflfhjeabpcjaaLent
/- The document's May: as the program's; no condition. -/
namespace Go.Proofs.Ytoflfhjeabpcjaa
set_option linter.unusedVariables false
set_option linter.unusedSimpArgs false
open Go.RowKit

set_option maxRecDepth 100000 in
set_option maxHeartbeats 2000000 in
theorem dmay_walk {D : Nat → Prop} {w : World} {nn : Bool} {kv vv sv : Value} {k v : Bs} {L : List PS} (h : PIs D w kv vv sv k v L) (hD : ∀ b, D b → b < w.heap.size) :
    Calls Try.prog 75 #[.agg #[.bool nn, kv, vv, sv]] w fun e w' => e = .returned (.bool (mayP nn k v L)) ∧ Ext (fun _ => False) w w' := by
  have H := Lib.hid h
  obtain ⟨Ak, ck, rfl, hkc, _⟩ := h.key
  obtain ⟨Av, cv, rfl, hvc, _⟩ := h.value
  obtain ⟨As, cs, rfl, hsc, _⟩ := h.steps
  have hkl := h.kl
  have hvl := h.vl
  have hsl := h.sl
  clear h
  cases nn with
  | true =>
    by_cases h0 : k.length = 0
    · have hz0 : ((k.length : Int) == 0) = true := by rw [beq_iff_eq]; omega
      by_cases h1 : v.length = 0
      · have hz1 : ((v.length : Int) == 0) = true := by rw [beq_iff_eq]; omega
        by_cases h2 : L.length = 0
        · have hz2 : ((L.length : Int) == 0) = true := by rw [beq_iff_eq]; omega
          have hm : mayP true k v L = true := by unfold mayP; rw [if_pos rfl]; simp [h0, h1, h2]
          rw [hm]
          clear h0 h1 h2 hm
          go_enter Try.func75, Try.ntmps75
          go_wp2_with fail
          go_ret
          exact ⟨rfl, (Ext.refl _ _).alloc _⟩
        · have hz2 : ((L.length : Int) == 0) = false := by rw [beq_eq_false_iff_ne]; omega
          have hm : mayP true k v L = false := by unfold mayP; rw [if_pos rfl, h0, show (0 + L.length == 0) = false by rw [beq_eq_false_iff_ne]; omega]; rfl
          rw [hm]
          clear h0 h1 h2 hm
          go_enter Try.func75, Try.ntmps75
          go_wp2_with fail
          go_ret
          exact ⟨rfl, (Ext.refl _ _).alloc _⟩
      · have hz1 : ((v.length : Int) == 0) = false := by rw [beq_eq_false_iff_ne]; omega
        have hm : mayP true k v L = false := by unfold mayP; rw [if_pos rfl]; simp [h1]
        rw [hm]
        clear h0 h1 hm
        go_enter Try.func75, Try.ntmps75
        go_wp2_with fail
        go_ret
        exact ⟨rfl, (Ext.refl _ _).alloc _⟩
    · have hz0 : ((k.length : Int) == 0) = false := by rw [beq_eq_false_iff_ne]; omega
      have hm : mayP true k v L = false := by
        unfold mayP
        rw [if_pos rfl, show (k.length + L.length == 0) = false by rw [beq_eq_false_iff_ne]; omega]
        rfl
      rw [hm]
      clear h0 hm
      go_enter Try.func75, Try.ntmps75
      go_wp2_with fail
      go_ret
      exact ⟨rfl, (Ext.refl _ _).alloc _⟩
  | false =>
    have hmd : mayP false k v L = (risesP k.length (-1) L && (decide (k.length ≤ 120) && decide (v.length ≤ 1200) && agreesP k L)) := by unfold mayP; rw [if_neg (by decide)]
    by_cases h1 : k.length ≤ 120
    rotate_left
    · have h1' : decide ((120 : Int) < (k.length : Int)) = true := by simp; omega
      have h1'' : (120 : Int) < (k.length : Int) := by omega
      have hm : mayP false k v L = false := by rw [hmd, show decide (k.length ≤ 120) = false by simpa using h1]; simp
      rw [hm]
      clear h1 hm hmd
      go_enter Try.func75, Try.ntmps75
      go_wp2_with fail
      go_ret
      exact ⟨rfl, (Ext.refl _ _).alloc _⟩
    have h1' : decide ((120 : Int) < (k.length : Int)) = false := by simp; omega
    by_cases h2 : v.length ≤ 1200
    rotate_left
    · have h2' : decide ((1200 : Int) < (v.length : Int)) = true := by simp; omega
      have h2'' : (1200 : Int) < (v.length : Int) := by omega
      have hm : mayP false k v L = false := by rw [hmd, show decide (v.length ≤ 1200) = false by simpa using h2]; simp
      rw [hm]
      clear h1 h2 hm hmd
      go_enter Try.func75, Try.ntmps75
      go_wp2_with fail
      go_ret
      exact ⟨rfl, (Ext.refl _ _).alloc _⟩
    have h2' : decide ((1200 : Int) < (v.length : Int)) = false := by simp; omega
    rw [show decide (k.length ≤ 120) = true by simpa using h1, show decide (v.length ≤ 1200) = true by simpa using h2, Bool.true_and, Bool.true_and] at hmd
    have HMD := Lib.hid hmd
    clear hmd h2
    have hP0 := heap_alloc_self w (.cells #[.bool false, .slice Ak k.length ck, .slice Av v.length cv, .slice As L.length cs] 43 (0, 0))
    have hx0 := (Ext.refl (fun _ => False) w).alloc (.cells #[.bool false, .slice Ak k.length ck, .slice Av v.length cv, .slice As L.length cs] 43 (0, 0))
    have H0 := Lib.hid (And.intro hP0 hx0)
    clear hP0 hx0
    have hw9 : IntKind.i64.wrap (9 * (k.length : Int)) = 9 * (k.length : Int) := IntWalk.i64_in _ (by omega)
    have hmn : IntKind.i64.wrap (-1) = -1 := IntWalk.i64_in _ (by omega)
    go_enter Try.func75, Try.ntmps75
    go_wp2_with fail
    go_loopw [3, 4] (fun a i W => ∃ (q : Nat) (last : Int), q ≤ L.length ∧ i = .int .i64 q ∧ a = .int .i64 last ∧ (risesP k.length (-1) L && agreesP k L) = (risesP k.length last (L.drop q) && agreesP k (L.drop q)) ∧ Ext (fun _ => False) (w.alloc (.cells #[.bool false, .slice Ak k.length ck, .slice Av v.length cv, .slice As L.length cs] 43 (0, 0))) W) (fun _ i _ => L.length - (intOf i).toNat)
    case atStart => exact ⟨0, -1, Nat.zero_le _, rfl, rfl, rfl, Ext.refl _ _⟩
    case round =>
      obtain ⟨q, last, hq, rfl, rfl, hr, hx⟩ := hrel
      have hP := hx.heap H0.out.1 id
      have hxw : Ext (fun _ => False) w wr := H0.out.2.trans hx
      have d1 : wr.cell? ⟨w.heap.size, 1, none⟩ = some (.slice Ak k.length ck) := cells_at hP 1
      have d2 : wr.cell? ⟨w.heap.size, 2, none⟩ = some (.slice Av v.length cv) := cells_at hP 2
      have d3 : wr.cell? ⟨w.heap.size, 3, none⟩ = some (.slice As L.length cs) := cells_at hP 3
      by_cases hlt : q < L.length
      · have hql : decide ((q : Int) < (L.length : Int)) = true := by simp; omega
        obtain ⟨g, o, c', hav, hdb, hst⟩ := H.out.steps.at hlt
        simp only [Value.slice.injEq, true_and] at hav
        obtain ⟨rfl, rfl⟩ := hav
        rw [List.drop_eq_getElem_cons hlt] at hr
        have HR := Lib.hid (And.intro hr (And.intro hx (And.intro hst hxw)))
        have hwb := lt_of_heap hP
        clear hr hx hst hxw hP d1 d2 d3
        generalize L[q] = x at *
        have hso := HR.out.2.2.1.1
        have hrg : wr.rangeAt g (o + q * 34) (stepV x) := fun j v hv => cell_same (HR.out.2.2.1.2 j v hv) HR.out.2.2.2
        have hxc : ∃ xc, xc = (stepV x).toArray := ⟨_, rfl⟩
        obtain ⟨xc, hxc⟩ := hxc
        have hP := HR.out.2.1.heap H0.out.1 id
        have d3 : wr.cell? ⟨w.heap.size, 3, none⟩ = some (.slice (some ⟨g, o, none⟩) L.length cs) := cells_at hP 3
        clear hP
        go_wp2_with (first | (refine wpList_load_midq 48 (.tmp 48) rfl rfl g (o + q * 34) rfl (stepV x) _ hrg Try.underlying48 rfl (by rw [stepV_len hso]; exact step_info) ?_) | (refine wpList_store_row rfl 48 (.tmp 5) _ rfl wr.heap.size (stepV x).toArray rfl rfl 48 _ (heap_alloc_self _ _) (by rw [stepA_size hso]; exact step_info) (by rw [stepA_size hso]; rfl) (stepA_one x) ?_; rename_i ax; have HAx := Lib.hid ax; clear ax))
        refine HAx.out _ _ ?_
        clear HAx hxc hrg d3
        generalize hw3 : (wr.alloc _).setRow _ (stepV x).toArray = w3
        have s3 : w3.heap[wr.heap.size]? = some (.cells (stepV x).toArray 48 (0, 0)) := by rw [← hw3]; exact (row_new wr).1
        have x3 : Ext (fun _ => False) wr w3 := by rw [← hw3]; exact (row_new wr).2
        clear hw3
        have b0 : w3.cell? ⟨wr.heap.size, 0, none⟩ = some (.int .i64 x.bit) := cells_at s3 0
        have b1 : w3.cell? ⟨wr.heap.size, 1, none⟩ = some (.bool x.right) := cells_at s3 1
        have hxx := HR.out.2.1.trans x3
        have hP := hxx.heap H0.out.1 id
        have d1 : w3.cell? ⟨w.heap.size, 1, none⟩ = some (.slice Ak k.length ck) := cells_at hP 1
        have d3 : w3.cell? ⟨w.heap.size, 3, none⟩ = some (.slice (some ⟨g, o, none⟩) L.length cs) := cells_at hP 3
        have hb3 := lt_of_heap s3
        have hwb3 := lt_of_heap hP
        have H3 := Lib.hid (And.intro hxx (And.intro (H0.out.2.trans hxx) (H.out.key.heaps fun b hb => (H0.out.2.trans hxx).heap_eq (hD b hb) id)))
        clear s3 x3 hxx hP
        by_cases h1 : x.bit ≤ last
        · have h1' : decide (x.bit ≤ last) = true := by simpa using h1
          have hf : (risesP k.length (-1) L && agreesP k L) = false := by
            rw [HR.out.1, risesP_cons, show decide (last < x.bit) = false by rw [decide_eq_false_iff_not]; omega]
            rfl
          have HF := Lib.hid (show mayP false k v L = false by rw [HMD.out, hf])
          clear h1 hf
          go_wp2_with fail
          refine wp_region_mix (Cls [w.heap.size, wr.heap.size] _) [([0, 1, 2, 3, 4, 5, 6, 7, 8, 9, 10, 11, 12, 13, 14, 15, 16, 17, 18, 19, 21, 22], 20)] [23, 24] (by kernel_rfl) (by kernel_rfl) (Cls.refl _ _) ?_
          try dsimp only [wpMix, wpSegs, pick, List.getElem?_cons_zero, List.getElem?_cons_succ]
          generalize hz : Act.mk _ _ = z
          repeat (first | (refine wpQuiet_step (fun K hK => ?_); replace hK := Lib.hid hK; subst hz; go_simp; generalize hz : Act.mk _ _ = z; refine hK.out z ?_; clear hK K) | (refine wpQuiet_step (fun K hK => ?_); replace hK := Lib.hid hK; subst hz; refine iteSkip (by kernel_rfl) ?_; go_simp; generalize hz : Act.mk _ _ = z; refine hK.out z ?_; clear hK K))
          try refine wpQuiet_nil ?_
          subst hz
          try dsimp only [NoPan]
          go_wp2_with fail
          refine ⟨Cls.refl _ _, ?_⟩
          try dsimp only [wpMix, wpSegs, pick, List.getElem?_cons_zero, List.getElem?_cons_succ]
          generalize hz : Act.mk _ _ = z
          repeat (first | (refine wpQuiet_step (fun K hK => ?_); replace hK := Lib.hid hK; subst hz; go_simp; generalize hz : Act.mk _ _ = z; refine hK.out z ?_; clear hK K) | (refine wpQuiet_step (fun K hK => ?_); replace hK := Lib.hid hK; subst hz; refine iteSkip (by kernel_rfl) ?_; go_simp; generalize hz : Act.mk _ _ = z; refine hK.out z ?_; clear hK K))
          try refine wpQuiet_nil ?_
          subst hz
          try dsimp only [NoPan]
          go_wp2_with fail
          go_ret
          exact ⟨by rw [HF.out]; rfl, H3.out.2.1.drew⟩
        · have h1' : decide (x.bit ≤ last) = false := by simpa using h1
          by_cases h2 : 9 * (k.length : Int) < x.bit
          · have h2' : decide (9 * (k.length : Int) < x.bit) = true := by simpa using h2
            have hf : (risesP k.length (-1) L && agreesP k L) = false := by
              rw [HR.out.1, risesP_cons, show decide (x.bit ≤ 9 * (k.length : Int)) = false by rw [decide_eq_false_iff_not]; omega]
              simp
            have HF := Lib.hid (show mayP false k v L = false by rw [HMD.out, hf])
            clear h1 h2 hf
            go_wp2_with fail
            refine wp_region_mix (Cls [w.heap.size, wr.heap.size] _) [([0, 1, 2, 3, 4, 5, 6, 7, 8, 9, 10, 11, 12, 13, 14, 15, 16, 17, 18, 19, 21, 22], 20)] [23, 24] (by kernel_rfl) (by kernel_rfl) (Cls.refl _ _) ?_
            try dsimp only [wpMix, wpSegs, pick, List.getElem?_cons_zero, List.getElem?_cons_succ]
            generalize hz : Act.mk _ _ = z
            repeat (first | (refine wpQuiet_step (fun K hK => ?_); replace hK := Lib.hid hK; subst hz; go_simp; generalize hz : Act.mk _ _ = z; refine hK.out z ?_; clear hK K) | (refine wpQuiet_step (fun K hK => ?_); replace hK := Lib.hid hK; subst hz; refine iteSkip (by kernel_rfl) ?_; go_simp; generalize hz : Act.mk _ _ = z; refine hK.out z ?_; clear hK K))
            try refine wpQuiet_nil ?_
            subst hz
            try dsimp only [NoPan]
            go_wp2_with fail
            refine ⟨Cls.refl _ _, ?_⟩
            try dsimp only [wpMix, wpSegs, pick, List.getElem?_cons_zero, List.getElem?_cons_succ]
            generalize hz : Act.mk _ _ = z
            repeat (first | (refine wpQuiet_step (fun K hK => ?_); replace hK := Lib.hid hK; subst hz; go_simp; generalize hz : Act.mk _ _ = z; refine hK.out z ?_; clear hK K) | (refine wpQuiet_step (fun K hK => ?_); replace hK := Lib.hid hK; subst hz; refine iteSkip (by kernel_rfl) ?_; go_simp; generalize hz : Act.mk _ _ = z; refine hK.out z ?_; clear hK K))
            try refine wpQuiet_nil ?_
            subst hz
            try dsimp only [NoPan]
            go_wp2_with fail
            go_ret
            exact ⟨by rw [HF.out]; rfl, H3.out.2.1.drew⟩
          · have h2' : decide (9 * (k.length : Int) < x.bit) = false := by simpa using h2
            have hf : (risesP k.length (-1) L && agreesP k L) = (risesP k.length x.bit (L.drop (q + 1)) && ((bitI k x.bit == x.right) && agreesP k (L.drop (q + 1)))) := by
              rw [HR.out.1, risesP_cons, show decide (x.bit ≤ 9 * (k.length : Int)) = true by rw [decide_eq_true_iff]; omega, show decide (last < x.bit) = true by rw [decide_eq_true_iff]; omega]
              simp only [Bool.true_and, agreesP, List.all_cons]
            have HF := Lib.hid hf
            clear h1 h2 hf
            obtain ⟨rr, hrr⟩ : ∃ rr, rr = x.right := ⟨_, rfl⟩
            rw [← hrr] at b1
            have HRR := Lib.hid hrr
            clear hrr
            go_wp2_with fail
            refine wp_region_mix (Cls [w.heap.size, wr.heap.size] _) [([0, 1, 2, 3, 4, 5, 6, 7, 8, 9, 10, 11, 12, 13, 14, 15, 16, 17, 18, 19, 21, 22], 20)] [23, 24] (by kernel_rfl) (by kernel_rfl) (Cls.refl _ _) ?_
            try dsimp only [wpMix, wpSegs, pick, List.getElem?_cons_zero, List.getElem?_cons_succ]
            generalize hz : Act.mk _ _ = z
            repeat (first | (refine wpQuiet_step (fun K hK => ?_); replace hK := Lib.hid hK; subst hz; go_simp; generalize hz : Act.mk _ _ = z; refine hK.out z ?_; clear hK K) | (refine wpQuiet_step (fun K hK => ?_); replace hK := Lib.hid hK; subst hz; refine iteSkip (by kernel_rfl) ?_; go_simp; generalize hz : Act.mk _ _ = z; refine hK.out z ?_; clear hK K))
            try refine wpQuiet_nil ?_
            subst hz
            try dsimp only [NoPan]
            go_wp2_with fail
            refine (dbit_walk (H3.out.2.2.same (Ext.refl _ _).drew) (by omega) x.bit).mono ?_
            rintro e w5 ⟨rfl, rfl⟩
            obtain ⟨bb, hbb⟩ : ∃ bb, bb = bitI k x.bit := ⟨_, rfl⟩
            rw [← hbb]
            have HB := Lib.hid (And.intro hbb HRR.out)
            clear hbb
            cases bb <;> cases rr
            case false.true | true.false =>
              go_wp2_with fail
              refine ⟨Cls.refl _ _, ?_⟩
              try dsimp only [wpMix, wpSegs, pick, List.getElem?_cons_zero, List.getElem?_cons_succ]
              generalize hz : Act.mk _ _ = z
              repeat (first | (refine wpQuiet_step (fun K hK => ?_); replace hK := Lib.hid hK; subst hz; go_simp; generalize hz : Act.mk _ _ = z; refine hK.out z ?_; clear hK K) | (refine wpQuiet_step (fun K hK => ?_); replace hK := Lib.hid hK; subst hz; refine iteSkip (by kernel_rfl) ?_; go_simp; generalize hz : Act.mk _ _ = z; refine hK.out z ?_; clear hK K))
              try refine wpQuiet_nil ?_
              subst hz
              try dsimp only [NoPan]
              go_wp2_with fail
              go_ret
              exact ⟨by rw [HMD.out, HF.out, ← HB.out.1, ← HB.out.2]; simp, H3.out.2.1.drew⟩
            case false.false | true.true =>
              go_wp2_with fail
              refine ⟨Cls.refl _ _, ?_⟩
              try dsimp only [wpMix, wpSegs, pick, List.getElem?_cons_zero, List.getElem?_cons_succ]
              generalize hz : Act.mk _ _ = z
              repeat (first | (refine wpQuiet_step (fun K hK => ?_); replace hK := Lib.hid hK; subst hz; go_simp; generalize hz : Act.mk _ _ = z; refine hK.out z ?_; clear hK K) | (refine wpQuiet_step (fun K hK => ?_); replace hK := Lib.hid hK; subst hz; refine iteSkip (by kernel_rfl) ?_; go_simp; generalize hz : Act.mk _ _ = z; refine hK.out z ?_; clear hK K))
              try refine wpQuiet_nil ?_
              subst hz
              try dsimp only [NoPan]
              go_wp2_with fail
              exact ⟨⟨q + 1, x.bit, by omega, by go_num, rfl, by rw [HF.out, ← HB.out.1, ← HB.out.2]; simp, H3.out.1.drew⟩, by simp [intOf]; omega⟩
      · have hql : decide ((q : Int) < (L.length : Int)) = false := by simp; omega
        have hf : mayP false k v L = true := by rw [HMD.out, hr, List.drop_eq_nil_of_le (by omega)]; rfl
        have HX := Lib.hid (And.intro hxw hf)
        clear hr hx hxw hP hf
        go_wp2_with fail
        go_ret
        exact ⟨by rw [HX.out.2]; rfl, HX.out.1⟩
end Go.Proofs.Ytoflfhjeabpcjaa
/- The document's texts of nothing, of a leaf, of any fork; no condition. -/
namespace Go.Proofs.Ytoflfhjeabpcjaa
set_option linter.unusedVariables false
set_option linter.unusedSimpArgs false
open Go.RowKit

set_option maxRecDepth 100000 in
theorem dnone5_walk (w : World) : Calls Try.prog 76 #[] w fun e w' => ∃ v', e = .returned v' ∧ FreshB w noneT v' w' := by
  go_enter Try.func76, Try.ntmps76
  go_wp2_with fail
  refine (text4_walk (nm := [110, 111, 110, 101]) (ls := []) (D := fun _ => True) ⟨_, _, rfl, Nat.le_refl _, fun h => absurd rfl h⟩ (by simp) (by decide)).mono ?_
  rintro e w2 ⟨v2, rfl, h2⟩
  have H2 := Lib.hid h2
  clear h2
  go_wp2_with fail
  go_ret
  exact ⟨_, rfl, H2.out⟩
set_option maxRecDepth 100000 in
theorem dleaf5_walk {w : World} {D : Nat → Prop} {kv vv : Value} {k v : Bs} (hk : Byt D w kv k) (hv : Byt D w vv v) : Calls Try.prog 77 #[.agg #[kv, vv]] w fun e w' => ∃ v', e = .returned v' ∧ FreshB w (leafT k v) v' w' := by
  obtain ⟨A1, c1, rfl, _, _⟩ := id hk
  obtain ⟨A2, c2, rfl, _, _⟩ := id hv
  have H := Lib.hid (And.intro hk hv)
  clear hk hv
  go_enter Try.func77, Try.ntmps77
  go_wp2_with fail
  have hx2 := ((Ext.refl (fun _ => False) w).alloc (.cells #[.slice A1 k.length c1, .slice A2 v.length c2] 24 (0, 0))).alloc (.cells #[.slice A1 k.length c1, .slice A2 v.length c2] 22 (0, 0))
  have hbs := byts_lit (D := fun _ => True) (vs := [.slice A1 k.length c1, .slice A2 v.length c2]) (ls := [k, v]) (heap_alloc_self (w.alloc (.cells #[.slice A1 k.length c1, .slice A2 v.length c2] 24 (0, 0))) (.cells #[.slice A1 k.length c1, .slice A2 v.length c2] 22 (0, 0))) rfl trivial (fun i x l hx hl => by
    match i, hx, hl with
    | 0, hx, hl =>
      simp at hx hl
      subst hx hl
      exact (H.out.1.mono fun _ _ => trivial).same hx2
    | 1, hx, hl =>
      simp at hx hl
      subst hx hl
      exact (H.out.2.mono fun _ _ => trivial).same hx2) 2 rfl
  have HX := Lib.hid hx2
  clear hx2
  refine (text4_walk (nm := [108, 101, 97, 102]) (by simpa using hbs) (by simp) (by decide)).mono ?_
  rintro e w2 ⟨v2, rfl, h2⟩
  have H2 := Lib.hid (h2.base HX.out)
  clear h2
  go_wp2_with fail
  go_ret
  exact ⟨_, rfl, H2.out⟩
set_option maxRecDepth 100000 in
set_option maxHeartbeats 1000000 in
theorem dfork5_walk {w : World} {b : Int} {x y : Bs} (hx : x.length = 32) (hy : y.length = 32) :
    Calls Try.prog 78 #[.int .i64 b, .agg (sumA x), .agg (sumA y)] w fun e w' => ∃ v', e = .returned v' ∧ FreshB w (forkT b x y) v' w' := by
  go_enter Try.func78, Try.ntmps78
  go_wp2_with fail
  obtain ⟨g1, g2, g3⟩ := alloc2 w (.cells (sumA x) 29 (0, 0)) (.cells (sumA y) 29 (0, 0))
  generalize ((w.alloc (.cells (sumA x) 29 (0, 0))).alloc (.cells (sumA y) 29 (0, 0))) = W at *
  have HG := Lib.hid (And.intro (show W.drew.heap[w.heap.size]? = _ from g1) (And.intro (show W.drew.heap[w.heap.size + 1]? = _ from g2) g3.drew))
  have hgl : w.heap.size < W.drew.heap.size := lt_of_heap (show W.drew.heap[w.heap.size]? = _ from g1)
  clear g1 g2 g3
  refine wp_region_bar (Cls [w.heap.size] _) [([0, 2, 3], 1), ([], 4)] [] 5 [] [6] (by kernel_rfl) (by kernel_rfl) (Cls.refl _ _) ?_
  try dsimp only [wpMix, wpSegs, pick, List.getElem?_cons_zero, List.getElem?_cons_succ]
  generalize hz : Act.mk _ _ = z
  repeat (first | (refine wpQuiet_step (fun K hK => ?_); replace hK := Lib.hid hK; subst hz; go_simp; generalize hz : Act.mk _ _ = z; refine hK.out z ?_; clear hK K) | (refine wpQuiet_step (fun K hK => ?_); replace hK := Lib.hid hK; subst hz; refine iteSkip (by kernel_rfl) ?_; go_simp; generalize hz : Act.mk _ _ = z; refine hK.out z ?_; clear hK K))
  try refine wpQuiet_nil ?_
  subst hz
  try dsimp only [NoPan]
  generalize W.drew = V at *
  go_wp2_with fail
  refine (dnum_walk _ b).mono ?_
  rintro e w3 ⟨nv, rfl, f3⟩
  obtain ⟨A3, c3, rfl⟩ := f3.own.formv
  have HF := Lib.hid f3
  clear f3
  go_wp2_with fail
  refine ⟨Cls.of_ext HF.out.ext fun q hq => ⟨by simp at hq; subst hq; exact hgl, id⟩, ?_⟩
  try dsimp only [wpMix, wpSegs, pick, List.getElem?_cons_zero, List.getElem?_cons_succ]
  generalize hz : Act.mk _ _ = z
  repeat (first | (refine wpQuiet_step (fun K hK => ?_); replace hK := Lib.hid hK; subst hz; go_simp; generalize hz : Act.mk _ _ = z; refine hK.out z ?_; clear hK K) | (refine wpQuiet_step (fun K hK => ?_); replace hK := Lib.hid hK; subst hz; refine iteSkip (by kernel_rfl) ?_; go_simp; generalize hz : Act.mk _ _ = z; refine hK.out z ?_; clear hK K))
  try refine wpQuiet_nil ?_
  subst hz
  try dsimp only [NoPan]
  go_wp2_with fail
  generalize hw4 : World.alloc w3 _ = w4
  have g4 : w4.heap[w3.heap.size]? = some (.cells #[.slice A3 (beB b 8).length c3, .slice (some ⟨w.heap.size, 0, none⟩) 32 32, .slice (some ⟨w.heap.size + 1, 0, none⟩) 32 32] 22 (0, 0)) := by rw [← hw4]; exact heap_alloc_self _ _
  have x4 : Ext (fun _ => False) w3 w4 := by rw [← hw4]; exact (Ext.refl _ _).alloc _
  clear hw4
  have y4 := HF.out.ext.trans x4
  refine ⟨Cls.of_ext y4 fun q hq => ⟨by simp at hq; subst hq; exact hgl, id⟩, ?_⟩
  have hbs := byts_lit (D := fun _ => True) (ls := [beB b 8, x, y]) g4 rfl trivial (fun i x' m hx' hm => by
    match i with
    | 0 => simp at hx' hm; subst hx' hm; exact (HF.out.own.byt.mono (fun _ _ => trivial)).same x4
    | 1 => simp at hx' hm; subst hx' hm; exact (sum_slice HG.out.1 hx).same y4
    | 2 => simp at hx' hm; subst hx' hm; exact (sum_slice HG.out.2.1 hy).same y4
    | n + 3 => simp at hx') 3 rfl
  have H4 := Lib.hid (And.intro hbs y4)
  clear hbs x4 y4 g4
  generalize w3.heap.size = b4 at *
  try dsimp only [wpMix, wpSegs, pick, List.getElem?_cons_zero, List.getElem?_cons_succ]
  generalize hz : Act.mk _ _ = z
  repeat (first | (refine wpQuiet_step (fun K hK => ?_); replace hK := Lib.hid hK; subst hz; go_simp; generalize hz : Act.mk _ _ = z; refine hK.out z ?_; clear hK K) | (refine wpQuiet_step (fun K hK => ?_); replace hK := Lib.hid hK; subst hz; refine iteSkip (by kernel_rfl) ?_; go_simp; generalize hz : Act.mk _ _ = z; refine hK.out z ?_; clear hK K))
  try refine wpQuiet_nil ?_
  subst hz
  try dsimp only [NoPan]
  go_wp2_with fail
  refine (text4_walk (nm := [102, 111, 114, 107]) H4.out.1 (by simp) (by decide)).mono ?_
  rintro e w5 ⟨v5, rfl, f5⟩
  have H5 := Lib.hid (f5.base (HG.out.2.2.trans H4.out.2))
  clear f5
  go_wp2_with fail
  try dsimp only [wpMix, wpSegs, pick, List.getElem?_cons_zero, List.getElem?_cons_succ]
  generalize hz : Act.mk _ _ = z
  repeat (first | (refine wpQuiet_step (fun K hK => ?_); replace hK := Lib.hid hK; subst hz; go_simp; generalize hz : Act.mk _ _ = z; refine hK.out z ?_; clear hK K) | (refine wpQuiet_step (fun K hK => ?_); replace hK := Lib.hid hK; subst hz; refine iteSkip (by kernel_rfl) ?_; go_simp; generalize hz : Act.mk _ _ = z; refine hK.out z ?_; clear hK K))
  try refine wpQuiet_nil ?_
  subst hz
  try dsimp only [NoPan]
  go_wp2_with fail
  go_ret
  exact ⟨_, rfl, H5.out⟩
end Go.Proofs.Ytoflfhjeabpcjaa
/- A proof against a root: proof.Check; no condition. -/
namespace Go.Proofs.Ytoflfhjeabpcjaa
set_option linter.unusedVariables false
set_option linter.unusedSimpArgs false
open Go.RowKit

theorem checkP_nil {root key : Bs} {nn : Bool} {k v : Bs} {L : List PS} (h : textsP nn k v L = []) : checkP root key nn k v L = ([], false, 5) := by unfold checkP; rw [h]; rfl
theorem checkP_cons {root key : Bs} {nn : Bool} {k v : Bs} {L : List PS} {ls : List Bs} {T : Bs} (h : textsP nn k v L = ls ++ [T]) :
    checkP root key nn k v L = if rawB T ≠ root ∨ agreesP key L = false then ([], false, 5) else if nn = true ∨ k ≠ key then ([], false, 0) else (v, true, 0) := by
  unfold checkP
  rw [h]
  simp
theorem textsP_le (nn : Bool) (k v : Bs) (L : List PS) : ∀ t ∈ textsP nn k v L, t.length ≤ 400000 := by
  unfold textsP
  split
  · split
    · intro t ht
      rw [List.mem_singleton.1 ht]
      exact Nat.le_trans (textR_le4 _ _) (by simp)
    · have key : ∀ (M : List PS) (t : Bs), t.length ≤ 400000 → ∀ u ∈ scanT t M, u.length ≤ 400000 := by
        intro M
        induction M with
        | nil => intro t ht u hu; rw [List.mem_singleton.1 hu]; exact ht
        | cons s r ih =>
          intro t ht u hu
          rcases List.mem_cons.1 hu with rfl | hu
          · exact ht
          · exact ih _ (nextT_len t s) u hu
      exact key _ _ (Nat.le_trans (textR_le4 _ _) (by simp))
  · simp
theorem ownRows_last {N : Nat} {w : World} {ov : Value} {vs : List Value} {ls : List Bs} {T : Bs} (h : OwnRows N w ov vs (ls ++ [T])) :
    ∃ g c u, ov = .slice (some ⟨g, 0, none⟩) (ls.length + 1) c ∧ w.cell? ⟨g, ls.length, none⟩ = some u ∧ OwnB w u T ∧ N ≤ g ∧ g < w.heap.size ∧ ls.length + 1 ≤ c := by
  have hl := h.len
  rw [List.length_append, List.length_singleton] at hl
  have hn : (ls ++ [T]).length = ls.length + 1 := by simp
  rcases h.row.2 with ⟨_, h0⟩ | ⟨g, cap, cur, rfl, hb, hg, hc, _, hsz, htk⟩
  · simp at h0
  · have hv : vs[ls.length]? = some vs[ls.length] := List.getElem?_eq_getElem (by omega)
    refine ⟨g, cap, vs[ls.length], by rw [hn], ?_, h.each ls.length _ T hv (by simp), hb, lt_of_heap hg, by rw [hn] at hc; exact hc⟩
    rw [cells_at hg, ← hv, ← htk, List.getElem?_take_of_lt (by rw [hn]; omega), Array.getElem?_toList]
/-- What Check hands back. -/
def CheckPost (w : World) (r : Bs × Bool × Int) (e : Ending) (w' : World) : Prop := ∃ ov, e = .returned (.tuple #[ov, .bool r.2.1, .int .i64 r.2.2]) ∧ OwnB w' ov r.1 ∧ (∀ q, ov.ownBlock = some q → w.heap.size ≤ q) ∧ Ext (fun _ => False) w w'
set_option maxRecDepth 100000 in
set_option maxHeartbeats 2000000 in
theorem check_walk {D D' : Nat → Prop} {w : World} {nn : Bool} {kv vv sv keyv : Value} {k v key root : Bs} {L : List PS} (h : PIs D w kv vv sv k v L) (hD : ∀ b, D b → b < w.heap.size) (hr : root.length = 32) (hk : Byt D' w keyv key) (hkl : key.length ≤ 140737488351232) :
    Calls Try.prog 40 #[.agg (sumA root), keyv, .agg #[.bool nn, kv, vv, sv]] w (CheckPost w (checkP root key nn k v L)) := by
  have H := Lib.hid (And.intro h hk)
  obtain ⟨Ak, ck, rfl, hkc, _⟩ := h.key
  obtain ⟨Av, cv, rfl, hvc, _⟩ := h.value
  obtain ⟨As, cs, rfl, hsc, _⟩ := h.steps
  obtain ⟨Ay, cy, rfl, hyc, _⟩ := hk
  have hsl := h.sl
  have hvl := h.vl
  clear h
  have g3 := heap_alloc_self w (.cells (sumA root) 29 (0, 0))
  have x3 := (Ext.refl (fun _ => False) w).alloc (.cells (sumA root) 29 (0, 0))
  have x5 := x3.alloc (.cells #[.bool nn, .slice Ak k.length ck, .slice Av v.length cv, .slice As L.length cs] 43 (0, 0))
  have g5 : ((w.alloc (.cells (sumA root) 29 (0, 0))).alloc (.cells #[.bool nn, .slice Ak k.length ck, .slice Av v.length cv, .slice As L.length cs] 43 (0, 0))).heap[w.heap.size + 1]? = some (.cells #[.bool nn, .slice Ak k.length ck, .slice Av v.length cv, .slice As L.length cs] 43 (0, 0)) := heap_alloc_at (by simp)
  have g3' : ((w.alloc (.cells (sumA root) 29 (0, 0))).alloc (.cells #[.bool nn, .slice Ak k.length ck, .slice Av v.length cv, .slice As L.length cs] 43 (0, 0))).heap[w.heap.size]? = some (.cells (sumA root) 29 (0, 0)) := by
    rw [heap_alloc_lt _ _ _ (by simp)]
    exact g3
  have HP := Lib.hid (And.intro g3' (And.intro g5 (And.intro x5 (H.out.1.same fun b hb => x5.heap_eq (hD b hb) id))))
  clear g3 x3 x5 g5 g3'
  go_enter Try.func40, Try.ntmps40
  go_wp2_with fail
  refine (texts_walk (nn := nn) HP.out.2.2.2 (fun b hb => Nat.lt_of_lt_of_le (hD b hb) HP.out.2.2.1.size)).mono ?_
  rintro e w1 ⟨ov, vs, rfl, o1, n1, x1⟩
  have p3 := x1.heap HP.out.1 id
  have p5 := x1.heap HP.out.2.1 id
  have y1 := HP.out.2.2.1.trans x1
  have hb3 := lt_of_heap p3
  have hb5 := lt_of_heap p5
  have d0 : w1.cell? ⟨w.heap.size + 1, 0, none⟩ = some (.bool nn) := cells_at p5 0
  have d1 : w1.cell? ⟨w.heap.size + 1, 1, none⟩ = some (.slice Ak k.length ck) := cells_at p5 1
  have d2 : w1.cell? ⟨w.heap.size + 1, 2, none⟩ = some (.slice Av v.length cv) := cells_at p5 2
  have d3 : w1.cell? ⟨w.heap.size + 1, 3, none⟩ = some (.slice As L.length cs) := cells_at p5 3
  rcases List.eq_nil_or_concat (textsP nn k v L) with ht | ⟨ls, T, ht⟩
  · have hov := n1 ht
    subst hov
    have H1 := Lib.hid (And.intro y1 (checkP_nil (root := root) (key := key) ht))
    have hnil : ∀ W, (binOp .eql 68 (.slice none 0 0) (.slice none 0 0)).run Try.prog W = .ok (.bool true) W := fun W => by rfl
    clear o1 n1 x1 p3 p5 y1 ht
    go_wp2_with fail
    refine wp_region_bar (Cls [w.heap.size, w.heap.size + 1] _) [([0, 1, 2, 3, 4, 5, 6, 7, 8, 10], 9)] [11, 12, 13, 14, 15, 16] 17 [] [18, 19] (by kernel_rfl) (by kernel_rfl) (Cls.refl _ _) ?_
    try dsimp only [wpMix, wpSegs, pick, List.getElem?_cons_zero, List.getElem?_cons_succ]
    generalize hz : Act.mk _ _ = z
    repeat (first | (refine wpQuiet_step (fun K hK => ?_); replace hK := Lib.hid hK; subst hz; go_simp; generalize hz : Act.mk _ _ = z; refine hK.out z ?_; clear hK K) | (refine wpQuiet_step (fun K hK => ?_); replace hK := Lib.hid hK; subst hz; refine iteSkip (by kernel_rfl) ?_; go_simp; generalize hz : Act.mk _ _ = z; refine hK.out z ?_; clear hK K))
    try refine wpQuiet_nil ?_
    subst hz
    try dsimp only [NoPan]
    go_wp2_with fail
    refine ⟨Cls.refl _ _, ?_⟩
    try dsimp only [wpMix, wpSegs, pick, List.getElem?_cons_zero, List.getElem?_cons_succ]
    generalize hz : Act.mk _ _ = z
    repeat (first | (refine wpQuiet_step (fun K hK => ?_); replace hK := Lib.hid hK; subst hz; go_simp; generalize hz : Act.mk _ _ = z; refine hK.out z ?_; clear hK K) | (refine wpQuiet_step (fun K hK => ?_); replace hK := Lib.hid hK; subst hz; refine iteSkip (by kernel_rfl) ?_; go_simp; generalize hz : Act.mk _ _ = z; refine hK.out z ?_; clear hK K))
    try refine wpQuiet_nil ?_
    subst hz
    try dsimp only [NoPan]
    go_wp2_with fail
    try dsimp only [wpMix, wpSegs, pick, List.getElem?_cons_zero, List.getElem?_cons_succ]
    generalize hz : Act.mk _ _ = z
    repeat (first | (refine wpQuiet_step (fun K hK => ?_); replace hK := Lib.hid hK; subst hz; go_simp; generalize hz : Act.mk _ _ = z; refine hK.out z ?_; clear hK K) | (refine wpQuiet_step (fun K hK => ?_); replace hK := Lib.hid hK; subst hz; refine iteSkip (by kernel_rfl) ?_; go_simp; generalize hz : Act.mk _ _ = z; refine hK.out z ?_; clear hK K))
    try refine wpQuiet_nil ?_
    subst hz
    try dsimp only [NoPan]
    go_wp2_with fail
    go_ret3
    refine ⟨.slice none 0 0, by rw [H1.out.2]; rfl, by rw [H1.out.2]; exact .inl ⟨rfl, rfl⟩, fun q hq => by simp [Value.ownBlock] at hq, H1.out.1.drew⟩
  · rw [List.concat_eq_append] at ht
    rw [ht] at o1
    obtain ⟨g, c, u, rfl, hu, hT, hNg, hgl, hmc⟩ := ownRows_last o1
    have hTl := textsP_le nn k v L T (by rw [ht]; simp)
    obtain ⟨AT, cT, rfl⟩ := hT.formv
    have hcons := checkP_cons (root := root) (key := key) ht
    have hPI := H.out.1.same fun b hb => y1.heap_eq (hD b hb) id
    have hrow := Lib.hid (cls_heapq (D := [w.heap.size, w.heap.size + 1, g]) (w0 := w1.drew) (by simp) p3)
    have hm62 : ls.length ≤ 1099511627776 + 1 := by
      have h1 := congrArg List.length ht
      rw [List.length_append, List.length_singleton] at h1
      unfold textsP at h1
      split at h1
      · split at h1
        · rw [List.length_singleton] at h1; omega
        · rw [scanT_len, List.length_reverse] at h1; omega
      · rw [List.length_nil] at h1; omega
    have H1 := Lib.hid (And.intro y1 (And.intro hT (And.intro hPI (And.intro hcons (H.out.2.same y1)))))
    clear o1 n1 x1 p3 p5 y1 ht hT hPI hcons
    generalize ls.length = m at *
    have hwm : IntKind.i64.wrap (m : Int) = (m : Int) := IntWalk.i64_in _ (by omega)
    have hwm2 : IntKind.i64.wrap ((m : Int) + 1 - 1) = (m : Int) := by rw [IntWalk.i64_in _ (by omega)]; omega
    have hi1 : decide ((m : Int) < (m : Int) + 1) = true := by rw [decide_eq_true_iff]; omega
    have hi3 : (m : Int) < (m : Int) + 1 := by omega
    have hi4 : m < m + 1 := by omega
    obtain ⟨bd, hbd⟩ : ∃ bd, bd = decide (rawB T = root) := ⟨_, rfl⟩
    have hneq : ∀ W, (binOp .neq 29 (.agg (sumA (rawB T))) (.agg (sumA root))).run Try.prog W = .ok (.bool (!bd)) W := fun W => by rw [sumA_neq (rawB_len _) hr, hbd]
    have hnil : ∀ W, (binOp .eql 68 (.slice (some ⟨g, 0, none⟩) (m + 1) c) (.slice none 0 0)).run Try.prog W = .ok (.bool false) W := fun W => by rfl
    have HBD := Lib.hid hbd
    clear hbd
    cases bd with
    | false =>
      have hne : ¬ rawB T = root := by have := HBD.out; simpa using this
      have hre : checkP root key nn k v L = ([], false, 5) := by rw [H1.out.2.2.2.1, if_pos (.inl hne)]
      have HRE := Lib.hid hre
      clear hne hre
      go_wp2_with fail
      refine wp_region_bar (Cls [w.heap.size, w.heap.size + 1, g] _) [([0, 1, 2, 3, 4, 5, 6, 7, 8, 10], 9)] [11, 12, 13, 14, 15, 16] 17 [] [18, 19] (by kernel_rfl) (by kernel_rfl) (Cls.refl _ _) ?_
      try dsimp only [wpMix, wpSegs, pick, List.getElem?_cons_zero, List.getElem?_cons_succ]
      generalize hz : Act.mk _ _ = z
      repeat (first | (subst hz; (refine wpQuiet_load_rowq 29 (.tmp 3) rfl (by kernel_rfl) w.heap.size rfl 29 (sumA root) (0, 0) _ hrow.out Try.underlying29 rfl (info_sum hr) ?_); generalize hz : Act.put _ _ _ = z) | (refine wpQuiet_step (fun K hK => ?_); replace hK := Lib.hid hK; subst hz; go_simp; generalize hz : Act.mk _ _ = z; refine hK.out z ?_; clear hK K) | (refine wpQuiet_step (fun K hK => ?_); replace hK := Lib.hid hK; subst hz; refine iteSkip (by kernel_rfl) ?_; go_simp; generalize hz : Act.mk _ _ = z; refine hK.out z ?_; clear hK K))
      try refine wpQuiet_nil ?_
      subst hz
      try dsimp only [NoPan]
      go_wp2_with fail
      refine (raw_walk (l := T) (H1.out.2.1.byt.same (Ext.refl (fun _ => False) w1).drew) (by omega)).mono ?_
      rintro e w2 ⟨rfl, x2⟩
      rw [sumV_A]
      have H2 := Lib.hid x2
      clear x2
      go_wp2_with fail
      refine ⟨Cls.of_ext H2.out fun q hq => ⟨by simp at hq; rcases hq with rfl | rfl | rfl <;> assumption, id⟩, ?_⟩
      try dsimp only [wpMix, wpSegs, pick, List.getElem?_cons_zero, List.getElem?_cons_succ]
      generalize hz : Act.mk _ _ = z
      repeat (first | (subst hz; (refine wpQuiet_load_rowq 29 (.tmp 3) rfl (by kernel_rfl) w.heap.size rfl 29 (sumA root) (0, 0) _ hrow.out Try.underlying29 rfl (info_sum hr) ?_); generalize hz : Act.put _ _ _ = z) | (refine wpQuiet_step (fun K hK => ?_); replace hK := Lib.hid hK; subst hz; go_simp; generalize hz : Act.mk _ _ = z; refine hK.out z ?_; clear hK K) | (refine wpQuiet_step (fun K hK => ?_); replace hK := Lib.hid hK; subst hz; refine iteSkip (by kernel_rfl) ?_; go_simp; generalize hz : Act.mk _ _ = z; refine hK.out z ?_; clear hK K))
      try refine wpQuiet_nil ?_
      subst hz
      try dsimp only [NoPan]
      go_wp2_with fail
      try dsimp only [wpMix, wpSegs, pick, List.getElem?_cons_zero, List.getElem?_cons_succ]
      generalize hz : Act.mk _ _ = z
      repeat (first | (refine wpQuiet_step (fun K hK => ?_); replace hK := Lib.hid hK; subst hz; go_simp; generalize hz : Act.mk _ _ = z; refine hK.out z ?_; clear hK K) | (refine wpQuiet_step (fun K hK => ?_); replace hK := Lib.hid hK; subst hz; refine iteSkip (by kernel_rfl) ?_; go_simp; generalize hz : Act.mk _ _ = z; refine hK.out z ?_; clear hK K))
      try refine wpQuiet_nil ?_
      subst hz
      try dsimp only [NoPan]
      go_wp2_with fail
      go_ret3
      refine ⟨.slice none 0 0, by rw [HRE.out]; rfl, by rw [HRE.out]; exact .inl ⟨rfl, rfl⟩, fun q hq => by simp [Value.ownBlock] at hq, H1.out.1.trans ((Ext.refl (fun _ => False) w1).drew.trans H2.out)⟩
    | true =>
      have heq : rawB T = root := by have := HBD.out; simpa using this
      have HEQ := Lib.hid heq
      clear heq
      go_wp2_with fail
      refine wp_region_bar (Cls [w.heap.size, w.heap.size + 1, g] _) [([0, 1, 2, 3, 4, 5, 6, 7, 8, 10], 9)] [11, 12, 13, 14, 15, 16] 17 [] [18, 19] (by kernel_rfl) (by kernel_rfl) (Cls.refl _ _) ?_
      try dsimp only [wpMix, wpSegs, pick, List.getElem?_cons_zero, List.getElem?_cons_succ]
      generalize hz : Act.mk _ _ = z
      repeat (first | (subst hz; (refine wpQuiet_load_rowq 29 (.tmp 3) rfl (by kernel_rfl) w.heap.size rfl 29 (sumA root) (0, 0) _ hrow.out Try.underlying29 rfl (info_sum hr) ?_); generalize hz : Act.put _ _ _ = z) | (refine wpQuiet_step (fun K hK => ?_); replace hK := Lib.hid hK; subst hz; go_simp; generalize hz : Act.mk _ _ = z; refine hK.out z ?_; clear hK K) | (refine wpQuiet_step (fun K hK => ?_); replace hK := Lib.hid hK; subst hz; refine iteSkip (by kernel_rfl) ?_; go_simp; generalize hz : Act.mk _ _ = z; refine hK.out z ?_; clear hK K))
      try refine wpQuiet_nil ?_
      subst hz
      try dsimp only [NoPan]
      go_wp2_with fail
      refine (raw_walk (l := T) (H1.out.2.1.byt.same (Ext.refl (fun _ => False) w1).drew) (by omega)).mono ?_
      rintro e w2 ⟨rfl, x2⟩
      rw [sumV_A]
      have H2 := Lib.hid x2
      clear x2
      go_wp2_with fail
      refine ⟨Cls.of_ext H2.out fun q hq => ⟨by simp at hq; rcases hq with rfl | rfl | rfl <;> assumption, id⟩, ?_⟩
      try dsimp only [wpMix, wpSegs, pick, List.getElem?_cons_zero, List.getElem?_cons_succ]
      generalize hz : Act.mk _ _ = z
      repeat (first | (subst hz; (refine wpQuiet_load_rowq 29 (.tmp 3) rfl (by kernel_rfl) w.heap.size rfl 29 (sumA root) (0, 0) _ hrow.out Try.underlying29 rfl (info_sum hr) ?_); generalize hz : Act.put _ _ _ = z) | (refine wpQuiet_step (fun K hK => ?_); replace hK := Lib.hid hK; subst hz; go_simp; generalize hz : Act.mk _ _ = z; refine hK.out z ?_; clear hK K) | (refine wpQuiet_step (fun K hK => ?_); replace hK := Lib.hid hK; subst hz; refine iteSkip (by kernel_rfl) ?_; go_simp; generalize hz : Act.mk _ _ = z; refine hK.out z ?_; clear hK K))
      try refine wpQuiet_nil ?_
      subst hz
      try dsimp only [NoPan]
      go_wp2_with fail
      have xw2 : Ext (fun _ => False) w w2 := H1.out.1.trans ((Ext.refl (fun _ => False) w1).drew.trans H2.out)
      have hP2 := H.out.1.same fun b hb => xw2.heap_eq (hD b hb) id
      refine (agrees_walk hP2.steps hsl (H.out.2.same xw2) hkl).mono ?_
      rintro e w3 ⟨rfl, x3⟩
      have xw3 := xw2.trans x3
      have x13 : Ext (fun _ => False) w1 w3 := ((Ext.refl (fun _ => False) w1).drew.trans H2.out).trans x3
      have e0 := cell_same d0 x13
      have e1 := cell_same d1 x13
      have e2 := cell_same d2 x13
      have H3 := Lib.hid (And.intro xw3 (And.intro (H.out.1.same fun b hb => xw3.heap_eq (hD b hb) id) (H.out.2.same xw3)))
      clear x3 xw2 hP2 xw3 x13 d0 d1 d2 d3
      obtain ⟨ag, hag⟩ : ∃ ag, ag = agreesP key L := ⟨_, rfl⟩
      rw [← hag]
      have HAG := Lib.hid hag
      clear hag
      cases ag with
      | false =>
        have HRE := Lib.hid (show checkP root key nn k v L = ([], false, 5) by rw [H1.out.2.2.2.1, if_pos (.inr HAG.out.symm)])
        go_wp2_with fail
        try dsimp only [wpMix, wpSegs, pick, List.getElem?_cons_zero, List.getElem?_cons_succ]
        generalize hz : Act.mk _ _ = z
        repeat (first | (refine wpQuiet_step (fun K hK => ?_); replace hK := Lib.hid hK; subst hz; go_simp; generalize hz : Act.mk _ _ = z; refine hK.out z ?_; clear hK K) | (refine wpQuiet_step (fun K hK => ?_); replace hK := Lib.hid hK; subst hz; refine iteSkip (by kernel_rfl) ?_; go_simp; generalize hz : Act.mk _ _ = z; refine hK.out z ?_; clear hK K))
        try refine wpQuiet_nil ?_
        subst hz
        try dsimp only [NoPan]
        go_wp2_with fail
        go_ret3
        exact ⟨.slice none 0 0, by rw [HRE.out]; rfl, by rw [HRE.out]; exact .inl ⟨rfl, rfl⟩, fun q hq => by simp [Value.ownBlock] at hq, H3.out.1⟩
      | true =>
        have HRE := Lib.hid (show checkP root key nn k v L = if nn = true ∨ k ≠ key then ([], false, 0) else (v, true, 0) by
          rw [H1.out.2.2.2.1, if_neg (by rintro (h | h); exact h HEQ.out; rw [← HAG.out] at h; cases h)])
        cases nn with
        | true =>
          go_wp2_with fail
          try dsimp only [wpMix, wpSegs, pick, List.getElem?_cons_zero, List.getElem?_cons_succ]
          generalize hz : Act.mk _ _ = z
          repeat (first | (refine wpQuiet_step (fun K hK => ?_); replace hK := Lib.hid hK; subst hz; go_simp; generalize hz : Act.mk _ _ = z; refine hK.out z ?_; clear hK K) | (refine wpQuiet_step (fun K hK => ?_); replace hK := Lib.hid hK; subst hz; refine iteSkip (by kernel_rfl) ?_; go_simp; generalize hz : Act.mk _ _ = z; refine hK.out z ?_; clear hK K))
          try refine wpQuiet_nil ?_
          subst hz
          try dsimp only [NoPan]
          go_wp2_with fail
          go_ret3
          have hre : checkP root key true k v L = ([], false, 0) := by rw [HRE.out]; simp
          exact ⟨.slice none 0 0, by rw [hre]; rfl, by rw [hre]; exact .inl ⟨rfl, rfl⟩, fun q hq => by simp [Value.ownBlock] at hq, H3.out.1⟩
        | false =>
          go_wp2_with fail
          try dsimp only [wpMix, wpSegs, pick, List.getElem?_cons_zero, List.getElem?_cons_succ]
          generalize hz : Act.mk _ _ = z
          repeat (first | (refine wpQuiet_step (fun K hK => ?_); replace hK := Lib.hid hK; subst hz; go_simp; generalize hz : Act.mk _ _ = z; refine hK.out z ?_; clear hK K) | (refine wpQuiet_step (fun K hK => ?_); replace hK := Lib.hid hK; subst hz; refine iteSkip (by kernel_rfl) ?_; go_simp; generalize hz : Act.mk _ _ = z; refine hK.out z ?_; clear hK K))
          try refine wpQuiet_nil ?_
          subst hz
          try dsimp only [NoPan]
          go_wp2_with fail
          refine (equal_walk H3.out.2.1.key H3.out.2.2).mono ?_
          rintro e w4 ⟨rfl, rfl⟩
          by_cases hkk : k = key
          · have hre : checkP root key false k v L = (v, true, 0) := by rw [HRE.out]; simp [hkk]
            have HR2 := Lib.hid hre
            rw [show decide (k = key) = true by simpa using hkk]
            clear hre hkk
            go_wp2_with fail
            refine (clone_walk H3.out.2.1.value (by omega)).mono ?_
            rintro e w5 ⟨v5, rfl, o5, x5, n5⟩
            obtain ⟨A5, c5, rfl⟩ := o5.formv
            have H5 := Lib.hid (And.intro o5 (And.intro x5 n5))
            clear o5 x5 n5
            go_wp2_with fail
            go_ret3
            exact ⟨_, by rw [HR2.out]; rfl, by rw [HR2.out]; exact H5.out.1, fun q hq => Nat.le_trans H3.out.1.size (H5.out.2.2 q hq), H3.out.1.trans H5.out.2.1⟩
          · have hre : checkP root key false k v L = ([], false, 0) := by rw [HRE.out]; simp [hkk]
            have HR2 := Lib.hid hre
            rw [show decide (k = key) = false by simpa using hkk]
            clear hre hkk
            go_wp2_with fail
            go_ret3
            exact ⟨.slice none 0 0, by rw [HR2.out]; rfl, by rw [HR2.out]; exact .inl ⟨rfl, rfl⟩, fun q hq => by simp [Value.ownBlock] at hq, H3.out.1⟩
end Go.Proofs.Ytoflfhjeabpcjaa
/- What is summed for a proof: the document's Texts; no condition. -/
namespace Go.Proofs.Ytoflfhjeabpcjaa
set_option linter.unusedVariables false
set_option linter.unusedSimpArgs false
open Go.RowKit

theorem ownRows_less {N N' : Nat} {w : World} {v : Value} {vs : List Value} {ls : List Bs} (h : OwnRows N w v vs ls) (hN : N' ≤ N) : OwnRows N' w v vs ls :=
  ⟨own_less h.row hN, h.len, h.each, fun i u k hu hk => Nat.le_trans hN (h.from_ i u k hu hk), h.apart⟩
theorem step_other {w : World} {b : Nat} {x : PS} {t : TypeId} {fr : Nat × Nat} (h : w.heap[b]? = some (.cells (stepV x).toArray t fr)) : w.rangeAt b 2 (x.other.map byteV) := by
  intro j v hv
  rw [cells_at h (2 + j), List.getElem?_toArray, stepV, Nat.add_comm 2 j, List.getElem?_cons_succ, List.getElem?_cons_succ]
  exact hv
set_option maxRecDepth 100000 in
set_option maxHeartbeats 4000000 in
theorem dtexts5_walk {D : Nat → Prop} {w : World} {nn : Bool} {kv vv sv : Value} {k v : Bs} {L : List PS} (h : PIs D w kv vv sv k v L) (hD : ∀ b, D b → b < w.heap.size) :
    Calls Try.prog 36 #[.agg #[.bool nn, kv, vv, sv]] w fun e w' => ∃ ov vs, e = .returned ov ∧ OwnRows w.heap.size w' ov vs (textsP nn k v L) ∧ (textsP nn k v L = [] → ov = .slice none 0 0) ∧ Ext (fun _ => False) w w' := by
  have H := Lib.hid h
  obtain ⟨Ak, ck, rfl, hkc, _⟩ := h.key
  obtain ⟨Av, cv, rfl, hvc, _⟩ := h.value
  obtain ⟨As, cs, rfl, hsc, _⟩ := h.steps
  have hsl := h.sl
  clear h
  have hP0 := heap_alloc_self w (.cells #[.bool nn, .slice Ak k.length ck, .slice Av v.length cv, .slice As L.length cs] 43 (0, 0))
  have hx0 := (Ext.refl (fun _ => False) w).alloc (.cells #[.bool nn, .slice Ak k.length ck, .slice Av v.length cv, .slice As L.length cs] 43 (0, 0))
  have H0 := Lib.hid (And.intro hP0 (And.intro hx0 (H.out.same fun b hb => hx0.heap_eq (hD b hb) id)))
  clear hP0 hx0
  go_enter Try.func36, Try.ntmps36
  go_wp2_with fail
  refine (dmay_walk (nn := nn) H0.out.2.2 (fun b hb => Nat.lt_of_lt_of_le (hD b hb) H0.out.2.1.size)).mono ?_
  rintro e w1 ⟨rfl, x1⟩
  have hP1 := x1.heap H0.out.1 id
  have y1 := H0.out.2.1.trans x1
  have hPI := H.out.same fun b hb => y1.heap_eq (hD b hb) id
  have H1 := Lib.hid (And.intro hP1 (And.intro y1 hPI))
  have d0 : w1.cell? ⟨w.heap.size, 0, none⟩ = some (.bool nn) := cells_at hP1 0
  have d1 : w1.cell? ⟨w.heap.size, 1, none⟩ = some (.slice Ak k.length ck) := cells_at hP1 1
  have d2 : w1.cell? ⟨w.heap.size, 2, none⟩ = some (.slice Av v.length cv) := cells_at hP1 2
  have d3 : w1.cell? ⟨w.heap.size, 3, none⟩ = some (.slice As L.length cs) := cells_at hP1 3
  have hrg : w1.rangeAt w.heap.size 1 [.slice Ak k.length ck, .slice Av v.length cv] := by
    intro j u hu
    match j, hu with
    | 0, hu => simp at hu; subst hu; exact d1
    | 1, hu => simp at hu; subst hu; exact d2
  have hl1 := lt_of_heap hP1
  clear x1 hP1 y1 hPI H0
  obtain ⟨mm, hm⟩ : ∃ mm, mm = mayP nn k v L := ⟨_, rfl⟩
  rw [← hm]
  have HM := Lib.hid hm
  clear hm
  cases mm with
  | false =>
    go_wp2_with fail
    go_ret
    have ht : textsP nn k v L = [] := by unfold textsP; rw [← HM.out]; rfl
    rw [ht]
    exact ⟨.slice none 0 0, [], rfl, ownRows_nil _ _, fun _ => rfl, H1.out.2.1⟩
  | true =>
    cases nn with
    | true =>
      go_wp2_with fail
      refine (dnone5_walk _).mono ?_
      rintro e w2 ⟨v2, rfl, h2⟩
      obtain ⟨A2, c2, rfl⟩ := h2.own.formv
      have H2 := Lib.hid h2
      clear h2
      go_wp2_with fail
      go_ret
      have ht : textsP true k v L = [noneT] := by unfold textsP; rw [← HM.out]; rfl
      have hx3 := (Ext.refl (fun _ => False) w2).alloc (.cells #[.slice A2 noneT.length c2] 22 (0, 0))
      have hyy := H1.out.2.1.trans H2.out.ext
      rw [ht]
      exact ⟨_, _, rfl, ownRows_one (heap_alloc_self w2 (.cells #[.slice A2 noneT.length c2] 22 (0, 0))) hyy.size (H2.out.own.ext hx3 fun _ _ => id) (fun q hq => Nat.le_trans H1.out.2.1.size (H2.out.new q hq)), fun h => (by cases h), hyy.trans hx3⟩
    | false =>
      go_wp2_with (refine wpList_load_midq 24 (.tmp 17) rfl rfl w.heap.size 1 rfl [.slice Ak k.length ck, .slice Av v.length cv] _ hrg Try.underlying24 rfl (by kernel_rfl) ?_)
      refine (dleaf5_walk H1.out.2.2.key H1.out.2.2.value).mono ?_
      obtain ⟨t0, ht0⟩ : ∃ t0, t0 = leafT k v := ⟨_, rfl⟩
      rw [← ht0]
      rintro e w2 ⟨v2, rfl, h2⟩
      obtain ⟨A2, c2, rfl⟩ := h2.own.formv
      have y2 := H1.out.2.1.trans h2.ext
      have hP2 := h2.ext.heap H1.out.1 id
      have e3 : (w2.alloc (.cells #[.slice A2 t0.length c2] 22 (0, 0))).cell? ⟨w.heap.size, 3, none⟩ = some (.slice As L.length cs) := cells_at (((Ext.refl (fun _ => False) w2).alloc (.cells #[.slice A2 t0.length c2] 22 (0, 0))).heap hP2 id) 3
      have ht0l : t0.length ≤ 400000 := by rw [ht0]; unfold leafT; exact Nat.le_trans (textR_le4 _ _) (by simp)
      have H2 := Lib.hid (And.intro h2 (And.intro y2 (And.intro hP2 ht0l)))
      have HT0 := Lib.hid ht0
      have hw1 : IntKind.i64.wrap ((L.length : Int) - 1) = (L.length : Int) - 1 := IntWalk.i64_in _ (by omega)
      clear h2 y2 hP2 d0 d1 d2 d3 hrg ht0 ht0l
      go_wp2_with fail
      have z2 := (Ext.refl (fun _ => False) w2).alloc (.cells #[.slice A2 t0.length c2] 22 (0, 0))
      have g2 := heap_alloc_self w2 (.cells #[.slice A2 t0.length c2] 22 (0, 0))
      have hPW := z2.heap H2.out.2.2.1 id
      have hwl := lt_of_heap H2.out.2.2.1
      have HZ := Lib.hid (And.intro z2 (And.intro g2 hPW))
      generalize hW2 : (w2.alloc (.cells #[.slice A2 t0.length c2] 22 (0, 0))) = W2 at *
      clear z2 g2 hPW e3
      go_loopw [4, 5, 6] (fun tv ov i W => ∃ (q : Nat) (j : Int) (vs : List Value), q ≤ L.length ∧ j + 1 = (q : Int) ∧ i = .int .i64 j ∧ OwnB W tv (lastT t0 (L.drop q).reverse) ∧ (∀ k, tv.ownBlock = some k → w.heap.size + 1 ≤ k) ∧ OwnRows (w.heap.size + 1) W ov vs (scanT t0 (L.drop q).reverse) ∧ Ext (fun b => w.heap.size + 1 ≤ b) W2 W) (fun _ _ i _ => (intOf i + 1).toNat)
      case atStart =>
        have hn2 : ∀ k, (Value.slice A2 t0.length c2).ownBlock = some k → w.heap.size + 1 ≤ k := fun k hk => by have := H2.out.1.new k hk; omega
        have hdn : (L.drop L.length).reverse = [] := by simp
        refine ⟨L.length, _, [.slice A2 t0.length c2], Nat.le_refl _, by omega, rfl, ?_, hn2, ?_, Ext.refl _ _⟩
        · rw [hdn]
          exact H2.out.1.own.ext HZ.out.1 fun _ _ => id
        · rw [hdn]
          exact ownRows_one HZ.out.2.1 (by omega) (H2.out.1.own.ext HZ.out.1 fun _ _ => id) hn2
      case round =>
        obtain ⟨q, j, vs, hq, hj, rfl, hto, htn, hro, hx⟩ := hrel
        by_cases hj0 : 0 ≤ j
        rotate_left
        · have hjd : decide (0 ≤ j) = false := by simpa using hj0
          have hq0 : q = 0 := by omega
          subst hq0
          have HX := Lib.hid (And.intro hro hx)
          clear hto htn hro hx
          go_wp2_with fail
          go_ret
          have ht : textsP false k v L = scanT t0 (L.drop 0).reverse := by
            unfold textsP
            rw [← HM.out, if_pos rfl, if_neg (by decide), HT0.out]
            rfl
          rw [ht]
          refine ⟨_, rfl, ⟨vs, ownRows_less HX.out.1 (by omega)⟩, fun h => ?_, ?_⟩
          · have h1 := congrArg List.length h
            rw [scanT_len] at h1
            simp at h1
          · exact (H2.out.2.1.trans HZ.out.1).trans' HX.out.2 fun b hb => .inr (by omega)
        have hjd : decide (0 ≤ j) = true := by simpa using hj0
        obtain ⟨m, rfl⟩ : ∃ m : Nat, j = (m : Int) := ⟨j.toNat, by omega⟩
        obtain rfl : q = m + 1 := by omega
        have hlt : m < L.length := by omega
        have hPr : wr.heap[w.heap.size]? = some (.cells #[.bool false, .slice Ak k.length ck, .slice Av v.length cv, .slice As L.length cs] 43 (0, 0)) := hx.heap HZ.out.2.2 (by omega)
        have hyr : Ext (fun _ => False) w wr := (H2.out.2.1.trans HZ.out.1).trans' hx fun b hb => .inr (by omega)
        have hPI := H.out.same fun b hb => hyr.heap_eq (hD b hb) id
        obtain ⟨g, o, c', hav, hdb, hst⟩ := hPI.steps.at hlt
        simp only [Value.slice.injEq, true_and] at hav
        obtain ⟨rfl, rfl⟩ := hav
        have hdr : (L.drop m).reverse = (L.drop (m + 1)).reverse ++ [L[m]] := by rw [List.drop_eq_getElem_cons hlt, List.reverse_cons]
        have hnx : lastT t0 (L.drop m).reverse = nextT (lastT t0 (L.drop (m + 1)).reverse) L[m] := by rw [hdr, lastT_snoc]
        have hsc : scanT t0 (L.drop m).reverse = scanT t0 (L.drop (m + 1)).reverse ++ [nextT (lastT t0 (L.drop (m + 1)).reverse) L[m]] := by rw [hdr, scanT_snoc]
        have hcl : (lastT t0 (L.drop (m + 1)).reverse).length ≤ 400000 := lastT_len _ _ H2.out.2.2.2
        have hSl : (scanT t0 (L.drop (m + 1)).reverse).length ≤ 1099511627776 := by rw [scanT_len, List.length_reverse, List.length_drop]; omega
        generalize lastT t0 (L.drop (m + 1)).reverse = cur at *
        generalize scanT t0 (L.drop (m + 1)).reverse = SL at *
        generalize L[m] = x at *
        have hso := hst.1
        have hrg := hst.2
        have d3 : wr.cell? ⟨w.heap.size, 3, none⟩ = some (.slice (some ⟨g, o, none⟩) L.length cs) := cells_at hPr 3
        obtain ⟨At, ct, rfl⟩ := hto.formv
        obtain ⟨Ao, co, rfl⟩ := own_slice_form hro.row
        have HR := Lib.hid (And.intro hto (And.intro htn (And.intro hro (And.intro hx (And.intro hyr (And.intro hnx hsc))))))
        have hwr : w.heap.size + 1 ≤ wr.heap.size := by have := lt_of_heap hPr; omega
        clear hto htn hro hx hyr hPI hst hPr hnx hsc hdr hj
        go_wp2_with (first | (refine wpList_load_midq 48 (.tmp 33) rfl rfl g (o + m * 34) rfl (stepV x) _ hrg Try.underlying48 rfl (by rw [stepV_len hso]; exact step_info) ?_) | (refine wpList_store_row rfl 48 (.tmp 7) _ rfl wr.heap.size (stepV x).toArray rfl rfl 48 _ (heap_alloc_self _ _) (by rw [stepA_size hso]; exact step_info) (by rw [stepA_size hso]; rfl) (stepA_one x) ?_; rename_i ax; have HAx := Lib.hid ax; clear ax))
        refine HAx.out _ _ ?_
        clear HAx hrg d3
        generalize hw3 : (wr.alloc _).setRow _ (stepV x).toArray = w3
        have s3 : w3.heap[wr.heap.size]? = some (.cells (stepV x).toArray 48 (0, 0)) := by rw [← hw3]; exact (row_new wr).1
        have x3 : Ext (fun _ => False) wr w3 := by rw [← hw3]; exact (row_new wr).2
        clear hw3
        have H3 := Lib.hid (And.intro s3 x3)
        clear s3 x3
        go_wp2_with fail
        refine (draw_walk (HR.out.1.byt.same H3.out.2) (by omega)).mono ?_
        rintro e w4 ⟨rfl, x4⟩
        rw [sumV_A]
        have H4 := Lib.hid x4
        clear x4
        go_wp2_with (refine wpList_store_row rfl 29 (.tmp 8) _ rfl w4.heap.size (sumA (rawB cur)) rfl rfl 29 _ (heap_alloc_self _ _) (info_sum (rawB_len _)) (by rw [sumA_size (rawB_len _)]; rfl) (sumA_one _) ?_; rename_i ax; have HAx := Lib.hid ax; clear ax)
        refine HAx.out _ _ ?_
        clear HAx
        generalize hw5 : (w4.alloc _).setRow _ (sumA (rawB cur)) = w5
        have s5 : w5.heap[w4.heap.size]? = some (.cells (sumA (rawB cur)) 29 (0, 0)) := by rw [← hw5]; exact (sum_new w4).1
        have x5 : Ext (fun _ => False) w4 w5 := by rw [← hw5]; exact (sum_new w4).2
        clear hw5
        have s3 := (H4.out.trans x5).heap H3.out.1 id
        have b0 : w5.cell? ⟨wr.heap.size, 0, none⟩ = some (.int .i64 x.bit) := cells_at s3 0
        have b1 : w5.cell? ⟨wr.heap.size, 1, none⟩ = some (.bool x.right) := cells_at s3 1
        have hro := step_other s3
        have x35 := (H3.out.2.trans H4.out).trans x5
        have H5 := Lib.hid x35
        have hs35 := x35.size
        clear x35 s3 x5
        obtain ⟨rr, hrr⟩ : ∃ rr, rr = x.right := ⟨_, rfl⟩
        rw [← hrr] at b1
        have HRR := Lib.hid hrr
        clear hrr
        have hio : (Try.prog.info? 29).map (·.size) = some (x.other.map byteV).length := by rw [List.length_map, hso]; exact info_sum (rawB_len []) |>.trans (by rw [sumA_size (rawB_len [])])
        cases rr with
        | true =>
          go_wp2_with (first | refine wpList_load_midq 29 (.tmp 41) rfl rfl wr.heap.size 2 rfl (x.other.map byteV) _ hro Try.underlying29 rfl hio ?_ | refine wpList_load_rowg 29 (.tmp 8) rfl rfl w4.heap.size rfl 29 (sumA (rawB cur)) (0, 0) _ s5 Try.underlying29 rfl (info_sum (rawB_len _)) ?_)
          refine (dfork5_walk (b := x.bit) (x := x.other) (y := rawB cur) hso (rawB_len _)).mono ?_
          have hfn : forkT x.bit x.other (rawB cur) = nextT cur x := by unfold nextT; rw [← HRR.out]; rfl
          rw [hfn]
          rintro e w6 ⟨v6, rfl, f6⟩
          obtain ⟨A6, c6, rfl⟩ := f6.own.formv
          have xr6 := H5.out.trans f6.ext
          have hs6 := f6.ext.size
          have z6 := (Ext.refl (fun _ => False) w6).alloc (.cells #[.slice A6 (nextT cur x).length c6] 22 (0, 0))
          have hrow := own_ext HR.out.2.2.1.row (xr6.trans z6) fun _ _ => id
          have H6 := Lib.hid (And.intro f6 (And.intro xr6 z6))
          have hwm : IntKind.i64.wrap ((m : Int) - 1) = (m : Int) - 1 := IntWalk.i64_in _ (by omega)
          clear f6 xr6 z6 b0 b1 hro s5 hfn
          go_wp2_with (refine wpList_append_lit rfl (.tmp 51) (.tmp 53) 68 rfl Try.underlying68 info24 rfl (by decide) (v := .slice Ao SL.length co) rfl hrow (by simp only [World.size_alloc]; omega) (m := 1) (cs := [.slice A6 (nextT cur x).length c6]) rfl (heap_alloc_self _ _) rfl (by simp [Value.oneCell']) (by decide) (by omega) (by omega) ?_; intro g12 c12 W12 ho12 hx12 hg12 hl12)
          have hn6 : ∀ k, (Value.slice A6 (nextT cur x).length c6).ownBlock = some k → wr.heap.size ≤ k ∧ k < w6.heap.size := fun k hk => ⟨Nat.le_trans hs35 (H6.out.1.new k hk), H6.out.1.own.lt k hk⟩
          have hoA : ∀ k, (Value.slice Ao SL.length co).ownBlock = some k → k < wr.heap.size ∧ w.heap.size + 1 ≤ k := fun k hk => (HR.out.2.2.1.row.lt k hk).symm
          have hu12 : OwnB W12 (.slice A6 (nextT cur x).length c6) (nextT cur x) := (H6.out.1.own.ext H6.out.2.2 fun _ _ => id).ext hx12 fun k hk e => by have h1 := hn6 k hk; have h2 := hoA k e; omega
          have hrr := OwnRows.snoc2 (HR.out.2.2.1.ext2 (H6.out.2.1.trans H6.out.2.2) (fun _ _ => id) fun _ _ _ _ => id) hx12 ho12 hu12 (fun k hk => by have := hn6 k hk; omega) (fun u hu k hk hk' => by
            have h1 := hn6 k hk
            obtain ⟨i, hi⟩ := List.mem_iff_getElem?.1 hu
            have h2 := (HR.out.2.2.1.each i u _ hi (List.getElem?_eq_getElem (by rw [← HR.out.2.2.1.len]; exact (List.getElem?_eq_some_iff.1 hi).1))).lt k hk'
            omega)
          refine ⟨⟨m, (m : Int) - 1, vs ++ [.slice A6 (nextT cur x).length c6], by omega, by omega, by go_num, ?_, fun k hk => by have := hn6 k hk; omega, ?_, ?_⟩, ?_⟩
          · rw [HR.out.2.2.2.2.2.1]; exact hu12
          · rw [HR.out.2.2.2.2.2.2]; exact hrr
          · exact (HR.out.2.2.2.1.trans' (H6.out.2.1.trans H6.out.2.2) fun _ h => h.elim).trans' hx12 fun b hb => .inl (hoA b hb).2
          · simp [intOf]
        | false =>
          go_wp2_with (first | refine wpList_load_midq 29 (.tmp 48) rfl rfl wr.heap.size 2 rfl (x.other.map byteV) _ hro Try.underlying29 rfl hio ?_ | refine wpList_load_rowg 29 (.tmp 8) rfl rfl w4.heap.size rfl 29 (sumA (rawB cur)) (0, 0) _ s5 Try.underlying29 rfl (info_sum (rawB_len _)) ?_)
          refine (dfork5_walk (b := x.bit) (x := rawB cur) (y := x.other) (rawB_len _) hso).mono ?_
          have hfn : forkT x.bit (rawB cur) x.other = nextT cur x := by unfold nextT; rw [← HRR.out]; rfl
          rw [hfn]
          rintro e w6 ⟨v6, rfl, f6⟩
          obtain ⟨A6, c6, rfl⟩ := f6.own.formv
          have xr6 := H5.out.trans f6.ext
          have hs6 := f6.ext.size
          have z6 := (Ext.refl (fun _ => False) w6).alloc (.cells #[.slice A6 (nextT cur x).length c6] 22 (0, 0))
          have hrow := own_ext HR.out.2.2.1.row (xr6.trans z6) fun _ _ => id
          have H6 := Lib.hid (And.intro f6 (And.intro xr6 z6))
          have hwm : IntKind.i64.wrap ((m : Int) - 1) = (m : Int) - 1 := IntWalk.i64_in _ (by omega)
          clear f6 xr6 z6 b0 b1 hro s5 hfn
          go_wp2_with (refine wpList_append_lit rfl (.tmp 51) (.tmp 53) 68 rfl Try.underlying68 info24 rfl (by decide) (v := .slice Ao SL.length co) rfl hrow (by simp only [World.size_alloc]; omega) (m := 1) (cs := [.slice A6 (nextT cur x).length c6]) rfl (heap_alloc_self _ _) rfl (by simp [Value.oneCell']) (by decide) (by omega) (by omega) ?_; intro g12 c12 W12 ho12 hx12 hg12 hl12)
          have hn6 : ∀ k, (Value.slice A6 (nextT cur x).length c6).ownBlock = some k → wr.heap.size ≤ k ∧ k < w6.heap.size := fun k hk => ⟨Nat.le_trans hs35 (H6.out.1.new k hk), H6.out.1.own.lt k hk⟩
          have hoA : ∀ k, (Value.slice Ao SL.length co).ownBlock = some k → k < wr.heap.size ∧ w.heap.size + 1 ≤ k := fun k hk => (HR.out.2.2.1.row.lt k hk).symm
          have hu12 : OwnB W12 (.slice A6 (nextT cur x).length c6) (nextT cur x) := (H6.out.1.own.ext H6.out.2.2 fun _ _ => id).ext hx12 fun k hk e => by have h1 := hn6 k hk; have h2 := hoA k e; omega
          have hrr := OwnRows.snoc2 (HR.out.2.2.1.ext2 (H6.out.2.1.trans H6.out.2.2) (fun _ _ => id) fun _ _ _ _ => id) hx12 ho12 hu12 (fun k hk => by have := hn6 k hk; omega) (fun u hu k hk hk' => by
            have h1 := hn6 k hk
            obtain ⟨i, hi⟩ := List.mem_iff_getElem?.1 hu
            have h2 := (HR.out.2.2.1.each i u _ hi (List.getElem?_eq_getElem (by rw [← HR.out.2.2.1.len]; exact (List.getElem?_eq_some_iff.1 hi).1))).lt k hk'
            omega)
          refine ⟨⟨m, (m : Int) - 1, vs ++ [.slice A6 (nextT cur x).length c6], by omega, by omega, by go_num, ?_, fun k hk => by have := hn6 k hk; omega, ?_, ?_⟩, ?_⟩
          · rw [HR.out.2.2.2.2.2.1]; exact hu12
          · rw [HR.out.2.2.2.2.2.2]; exact hrr
          · exact (HR.out.2.2.2.1.trans' (H6.out.2.1.trans H6.out.2.2) fun _ h => h.elim).trans' hx12 fun b hb => .inl (hoA b hb).2
          · simp [intOf]
end Go.Proofs.Ytoflfhjeabpcjaa
/- A proof in other memory, and its owner writing over it; no condition. -/
namespace Go.Proofs.Ytoflfhjeabpcjaa
set_option linter.unusedVariables false
set_option linter.unusedSimpArgs false
open Go.RowKit

set_option maxRecDepth 100000 in
set_option maxHeartbeats 1000000 in
theorem plent_walk {D : Nat → Prop} {w : World} {nn : Bool} {kv vv sv : Value} {k v : Bs} {L : List PS} (h : PIs D w kv vv sv k v L) (hD : ∀ b, D b → b < w.heap.size) (hL : L.length ≤ 1048576) :
    Calls Try.prog 38 #[.agg #[.bool nn, kv, vv, sv]] w fun e w' => ∃ gk gv sv', e = .returned (.agg #[.bool nn, lentV gk k, lentV gv v, sv']) ∧ LentB w' gk k ∧ LentB w' gv v ∧ w.heap.size ≤ gk ∧ w.heap.size ≤ gv ∧ gk ≠ gv ∧
      w'.ownsRow w.heap.size 48 34 sv' L.length (L.flatMap stepF) ∧ Ext (fun _ => False) w w' := by
  have H := Lib.hid h
  obtain ⟨Ak, ck, rfl, hkc, _⟩ := h.key
  obtain ⟨Av, cv, rfl, hvc, _⟩ := h.value
  obtain ⟨As, cs, rfl, hsc, _⟩ := h.steps
  have hkl := h.kl
  have hvl := h.vl
  clear h
  obtain ⟨g1, g2, g3⟩ := alloc2 w (.cells #[.bool nn, .slice Ak k.length ck, .slice Av v.length cv, .slice As L.length cs] 43 (0, 0)) (.cells #[.bool false, .slice none 0 0, .slice none 0 0, .slice none 0 0] 43 (0, 0))
  generalize hW : ((w.alloc (.cells #[.bool nn, .slice Ak k.length ck, .slice Av v.length cv, .slice As L.length cs] 43 (0, 0))).alloc (.cells #[.bool false, .slice none 0 0, .slice none 0 0, .slice none 0 0] 43 (0, 0))) = W at *
  have d0 : W.drew.cell? ⟨w.heap.size, 0, none⟩ = some (.bool nn) := cells_at g1 0
  have d1 : W.drew.cell? ⟨w.heap.size, 1, none⟩ = some (.slice Ak k.length ck) := cells_at g1 1
  have d2 : W.drew.cell? ⟨w.heap.size, 2, none⟩ = some (.slice Av v.length cv) := cells_at g1 2
  have HG := Lib.hid (And.intro (show W.drew.heap[w.heap.size]? = _ from g1) (And.intro (show W.drew.heap[w.heap.size + 1]? = _ from g2) g3.drew))
  have hgl : w.heap.size < W.drew.heap.size := lt_of_heap (show W.drew.heap[w.heap.size]? = _ from g1)
  clear g1 g2 g3
  go_enter Try.func38, Try.ntmps38
  go_wp2_with fail
  clear hW
  refine wp_region_tree (Cls [w.heap.size] _) (.two [0, 1, 2, 3, 4, 6, 7, 8] 5 (.two [] 9 (.one [10, 11] 12 (.one [] 13 (.last []))) 12 (.one [] 9 (.one [10, 11] 13 (.last [])))) 12 (.one [] 5 (.one [] 9 (.one [10, 11] 13 (.last []))))) (by kernel_rfl) (by kernel_rfl) (Cls.refl _ _) ?_
  try dsimp only [wpM, wpSegs, pick, List.getElem?_cons_zero, List.getElem?_cons_succ]
  generalize hz : Act.mk _ _ = z
  repeat (first | (refine wpQuiet_step (fun K hK => ?_); replace hK := Lib.hid hK; subst hz; go_simp; generalize hz : Act.mk _ _ = z; refine hK.out z ?_; clear hK K) | (refine wpQuiet_step (fun K hK => ?_); replace hK := Lib.hid hK; subst hz; refine iteSkip (by kernel_rfl) ?_; go_simp; generalize hz : Act.mk _ _ = z; refine hK.out z ?_; clear hK K))
  try refine wpQuiet_nil ?_
  subst hz
  try dsimp only [NoPan]
  generalize W.drew = V at *
  have hV0 : Ext (fun _ => False) V V := Ext.refl _ _
  refine ⟨?_, ?_⟩
  · go_wp2_with fail
    refine (lent_walk (H.out.key.same (HG.out.2.2.trans hV0)) (by omega)).mono ?_
    rintro e w3 ⟨rfl, b3, x3, s3⟩
    have H3 := Lib.hid (And.intro b3 ((hV0).trans x3))
    have S3 := Lib.hid s3
    clear b3 x3 s3
    go_wp2_with fail
    refine ⟨Cls.of_ext H3.out.2 fun q hq => ⟨by simp at hq; subst hq; exact lt_of_heap HG.out.1, id⟩, ?_⟩
    try dsimp only [wpM, wpSegs, pick, List.getElem?_cons_zero, List.getElem?_cons_succ]
    generalize hz : Act.mk _ _ = z
    repeat (first | (refine wpQuiet_step (fun K hK => ?_); replace hK := Lib.hid hK; subst hz; go_simp; generalize hz : Act.mk _ _ = z; refine hK.out z ?_; clear hK K) | (refine wpQuiet_step (fun K hK => ?_); replace hK := Lib.hid hK; subst hz; refine iteSkip (by kernel_rfl) ?_; go_simp; generalize hz : Act.mk _ _ = z; refine hK.out z ?_; clear hK K))
    try refine wpQuiet_nil ?_
    subst hz
    try dsimp only [NoPan]
    refine ⟨?_, ?_⟩
    · go_wp2_with fail
      refine (lent_walk (H.out.value.same (HG.out.2.2.trans H3.out.2)) (by omega)).mono ?_
      rintro e w4 ⟨rfl, b4, x4, s4⟩
      have H4 := Lib.hid (And.intro b4 (And.intro (H3.out.1.ext x4 id) ((H3.out.2).trans x4)))
      have S4 := Lib.hid s4
      clear b4 x4 s4
      go_wp2_with fail
      refine ⟨Cls.of_ext H4.out.2.2 fun q hq => ⟨by simp at hq; subst hq; exact lt_of_heap HG.out.1, id⟩, ?_⟩
      try dsimp only [wpM, wpSegs, pick, List.getElem?_cons_zero, List.getElem?_cons_succ]
      generalize hz : Act.mk _ _ = z
      repeat (first | (refine wpQuiet_step (fun K hK => ?_); replace hK := Lib.hid hK; subst hz; go_simp; generalize hz : Act.mk _ _ = z; refine hK.out z ?_; clear hK K) | (refine wpQuiet_step (fun K hK => ?_); replace hK := Lib.hid hK; subst hz; refine iteSkip (by kernel_rfl) ?_; go_simp; generalize hz : Act.mk _ _ = z; refine hK.out z ?_; clear hK K))
      try refine wpQuiet_nil ?_
      subst hz
      try dsimp only [NoPan]
      go_wp2_with fail
      have hT := heap_alloc_self w4 (.cells #[.bool false, .slice none 0 0, .slice none 0 0, .slice none 0 0] 43 (0, 0))
      have hx := (H4.out.2.2).alloc (.cells #[.bool false, .slice none 0 0, .slice none 0 0, .slice none 0 0] 43 (0, 0))
      have hx1 := (Ext.refl (fun _ => False) w4).alloc (.cells #[.bool false, .slice none 0 0, .slice none 0 0, .slice none 0 0] 43 (0, 0))
      have hs := World.size_alloc w4 (.cells #[.bool false, .slice none 0 0, .slice none 0 0, .slice none 0 0] 43 (0, 0))
      generalize hY : (w4.alloc (.cells #[.bool false, .slice none 0 0, .slice none 0 0, .slice none 0 0] 43 (0, 0))) = Y at *
      generalize hT0 : w4.heap.size = T at *
      have HT := Lib.hid (And.intro hT hx)
      have HL := Lib.hid (And.intro (H4.out.2.1.ext hx1 id) (H4.out.1.ext hx1 id))
      clear hx1
      have HS := Lib.hid (And.intro hs hT0)
      clear hT hx hY hs hT0
      refine ⟨Cls.of_ext HT.out.2 fun q hq => ⟨by simp at hq; subst hq; exact lt_of_heap HG.out.1, id⟩, ?_⟩
      try dsimp only [wpM, wpSegs, pick, List.getElem?_cons_zero, List.getElem?_cons_succ]
      generalize hz : Act.mk _ _ = z
      repeat (first | (refine wpQuiet_step (fun K hK => ?_); replace hK := Lib.hid hK; subst hz; go_simp; generalize hz : Act.mk _ _ = z; refine hK.out z ?_; clear hK K) | (refine wpQuiet_step (fun K hK => ?_); replace hK := Lib.hid hK; subst hz; refine iteSkip (by kernel_rfl) ?_; go_simp; generalize hz : Act.mk _ _ = z; refine hK.out z ?_; clear hK K))
      try refine wpQuiet_nil ?_
      subst hz
      try dsimp only [NoPan]
      have q3 := S3.out
      have q4 := S4.out
      obtain ⟨q5, q6⟩ := HS.out
      have q7 := lt_of_heap HG.out.2.1
      have q8 : ∀ cs, Ext (fun _ => False) V (Y.setRow T cs) := fun cs => (HT.out.2).setRow (.inr (by omega)) cs
      have HY := Lib.hid (show LentB Y V.heap.size k ∧ LentB Y w3.heap.size v ∧ Y.heap[T]? = some (.cells #[.bool false, .slice none 0 0, .slice none 0 0, .slice none 0 0] 43 (0, 0)) ∧ Ext (fun _ => False) V Y ∧ (∀ cs, Ext (fun _ => False) V (Y.setRow T cs)) ∧ w.heap.size + 1 < V.heap.size ∧ w.heap.size + 1 < w3.heap.size ∧ V.heap.size ≠ w3.heap.size ∧ w.heap.size + 1 < T ∧ T ≠ V.heap.size ∧ T ≠ w3.heap.size ∧ T < Y.heap.size from ⟨HL.out.1, HL.out.2, HT.out.1, HT.out.2, q8, by omega, by omega, by omega, by omega, by omega, by omega, by omega⟩)
      clear q3 q4 q5 q6 q7 q8
      generalize V.heap.size = gk at HY ⊢
      generalize w3.heap.size = gv at HY ⊢
      have pY := HY.out.2.2.2.1.heap HG.out.1 id
      have d3 : Y.cell? ⟨w.heap.size, 3, none⟩ = some (.slice As L.length cs) := cells_at pY 3
      go_wp2_with (refine wpList_store_row rfl 43 (.tmp 3) _ rfl T #[.bool nn, lentV gk k, lentV gv v, .slice none 0 0] rfl rfl 43 _ HY.out.2.2.1 (by kernel_rfl) (by kernel_rfl) (by simp [Value.oneCell']) ?_; rename_i ax; have HAx := Lib.hid ax; clear ax)
      obtain ⟨bk, bv, tY, xY, xS, n1, n2, n3, n4, n5, n6, n7⟩ := HY.out
      have tU : (Y.setRow T #[.bool nn, lentV gk k, lentV gv v, .slice none 0 0]).heap[T]? = some (.cells #[.bool nn, lentV gk k, lentV gv v, .slice none 0 0] 43 (0, 0)) := setRow_heap _ _ _ _ _ _ tY
      have bkU := bk.same (w' := Y.setRow T #[.bool nn, lentV gk k, lentV gv v, .slice none 0 0]) (setRow_other _ _ _ _ (by omega))
      have bvU := bv.same (w' := Y.setRow T #[.bool nn, lentV gk k, lentV gv v, .slice none 0 0]) (setRow_other _ _ _ _ (by omega))
      have xU := xS #[.bool nn, lentV gk k, lentV gv v, .slice none 0 0]
      generalize (Y.setRow T #[.bool nn, lentV gk k, lentV gv v, .slice none 0 0]) = U at *
      refine ⟨Cls.of_ext xU fun q hq => ⟨by simp at hq; subst hq; exact lt_of_heap HG.out.1, id⟩, ?_⟩
      have c3 : U.cell? ⟨T, 3, none⟩ = some (.slice none 0 0) := cells_at tU 3
      have d3 : U.cell? ⟨w.heap.size, 3, none⟩ = some (.slice As L.length cs) := cells_at (xU.heap HG.out.1 id) 3
      have xwU := HG.out.2.2.trans xU
      have HU := Lib.hid (And.intro bkU (And.intro bvU (And.intro tU (And.intro xU xwU))))
      clear bk bv tY xY xS tU bkU bvU xU pY
      try dsimp only [wpM, wpSegs, pick, List.getElem?_cons_zero, List.getElem?_cons_succ]
      generalize hz : Act.mk _ _ = z
      repeat (first | (refine wpQuiet_step (fun K hK => ?_); replace hK := Lib.hid hK; subst hz; go_simp; generalize hz : Act.mk _ _ = z; refine hK.out z ?_; clear hK K) | (refine wpQuiet_step (fun K hK => ?_); replace hK := Lib.hid hK; subst hz; refine iteSkip (by kernel_rfl) ?_; go_simp; generalize hz : Act.mk _ _ = z; refine hK.out z ?_; clear hK K))
      try refine wpQuiet_nil ?_
      subst hz
      try dsimp only [NoPan]
      go_wp2_with fail
      refine HAx.out _ _ ?_
      clear HAx
      go_wp2_with (first | (refine wpList_append_steps rfl (.tmp 17) (.tmp 19) rfl rfl rfl xwU H.out.steps hL ?_; intro v5 w5 ho5 hx5; obtain ⟨A5, c5, rfl⟩ := own_form ho5; have t5 := hx5.heap HU.out.2.2.1 id; have t5c : w5.cell? ⟨T, 3, none⟩ = some (.slice none 0 0) := cells_at t5 3; have t5f : w5.frozen? ⟨T, 3, none⟩ = false := (by simp [World.frozen?, t5]); have g5 : (w5.setCell ⟨T, 3, none⟩ (.slice A5 L.length c5)).heap[T]? = some (.cells #[.bool nn, lentV gk k, lentV gv v, .slice A5 L.length c5] 43 (0, 0)) := heap_setCell_self t5; have y5 : Ext (· = T) w5 (w5.setCell ⟨T, 3, none⟩ (.slice A5 L.length c5)) := (Ext.refl (· = T) w5).setCell (a := ⟨T, 3, none⟩) (.inl rfl) _; have r6 := y5.heap (hx5.heap (HU.out.2.2.2.1.heap HG.out.2.1 id) id) (by omega); have H6 := Lib.hid (And.intro ho5 (And.intro hx5 (And.intro y5 (And.intro g5 r6)))); clear ho5 hx5 y5 t5) | refine wpList_load_rowg 43 (.tmp 3) rfl rfl T rfl 43 #[.bool nn, lentV gk k, lentV gv v, .slice A5 L.length c5] (0, 0) _ g5 Try.underlying43 rfl (by kernel_rfl) ?_ | (refine wpList_store_row rfl 43 (.tmp 2) _ rfl (w.heap.size + 1) #[.bool nn, lentV gk k, lentV gv v, .slice A5 L.length c5] rfl rfl 43 _ r6 (by kernel_rfl) (by kernel_rfl) (by simp [Value.oneCell']) ?_))
      generalize (w5.setCell ⟨T, 3, none⟩ (.slice A5 L.length c5)) = w6 at *
      generalize hw7 : World.setRow w6 _ _ = w7
      have r7 : w7.heap[w.heap.size + 1]? = some (.cells #[.bool nn, lentV gk k, lentV gv v, .slice A5 L.length c5] 43 (0, 0)) := by rw [← hw7]; exact setRow_heap _ _ _ _ _ _ r6
      have x7 : Ext (· = w.heap.size + 1) w6 w7 := by rw [← hw7]; exact (Ext.refl (· = w.heap.size + 1) _).setRow (.inl rfl) _
      refine bodyPost_ret (results_cell_row rfl _ _ (w.heap.size + 1) 43 _ (0, 0) _ rfl r7 Try.underlying43 rfl (by kernel_rfl)) rfl ?_
      have hUw := HU.out.2.2.2.2.size
      have ha5 : ∀ q, (Value.slice A5 L.length c5).ownBlock = some q → U.heap.size ≤ q := own_from H6.out.1
      have k7 : LentB w7 gk k := ((HU.out.1.ext H6.out.2.1 id).ext H6.out.2.2.1 (by omega)).ext x7 (by omega)
      have l7 : LentB w7 gv v := ((HU.out.2.1.ext H6.out.2.1 id).ext H6.out.2.2.1 (by omega)).ext x7 (by omega)
      have o7 := own_less (own_ext (own_ext H6.out.1 H6.out.2.2.1 fun q hq => by have := ha5 q hq; have := lt_of_heap HU.out.2.2.1; omega) x7 fun q hq => by have := ha5 q hq; have := lt_of_heap HU.out.2.2.1; omega) hUw
      exact ⟨gk, gv, .slice A5 L.length c5, rfl, k7, l7, by omega, by omega, n3, o7, ((HU.out.2.2.2.2.trans H6.out.2.1).trans' H6.out.2.2.1 fun b hb => .inr (by omega)).trans' x7 fun b hb => .inr (by omega)⟩
    · go_wp2_with fail
      have hT := heap_alloc_self w3 (.cells #[.bool false, .slice none 0 0, .slice none 0 0, .slice none 0 0] 43 (0, 0))
      have hx := (H3.out.2).alloc (.cells #[.bool false, .slice none 0 0, .slice none 0 0, .slice none 0 0] 43 (0, 0))
      have hx1 := (Ext.refl (fun _ => False) w3).alloc (.cells #[.bool false, .slice none 0 0, .slice none 0 0, .slice none 0 0] 43 (0, 0))
      have hs := World.size_alloc w3 (.cells #[.bool false, .slice none 0 0, .slice none 0 0, .slice none 0 0] 43 (0, 0))
      generalize hY : (w3.alloc (.cells #[.bool false, .slice none 0 0, .slice none 0 0, .slice none 0 0] 43 (0, 0))) = Y at *
      generalize hT0 : w3.heap.size = T at *
      have HT := Lib.hid (And.intro hT hx)
      have HL := Lib.hid (H3.out.1.ext hx1 id)
      clear hx1
      have HS := Lib.hid (And.intro hs hT0)
      clear hT hx hY hs hT0
      refine ⟨Cls.of_ext HT.out.2 fun q hq => ⟨by simp at hq; subst hq; exact lt_of_heap HG.out.1, id⟩, ?_⟩
      try dsimp only [wpM, wpSegs, pick, List.getElem?_cons_zero, List.getElem?_cons_succ]
      generalize hz : Act.mk _ _ = z
      repeat (first | (refine wpQuiet_step (fun K hK => ?_); replace hK := Lib.hid hK; subst hz; go_simp; generalize hz : Act.mk _ _ = z; refine hK.out z ?_; clear hK K) | (refine wpQuiet_step (fun K hK => ?_); replace hK := Lib.hid hK; subst hz; refine iteSkip (by kernel_rfl) ?_; go_simp; generalize hz : Act.mk _ _ = z; refine hK.out z ?_; clear hK K))
      try refine wpQuiet_nil ?_
      subst hz
      try dsimp only [NoPan]
      go_wp2_with fail
      refine (lent_walk (H.out.value.same (HG.out.2.2.trans HT.out.2)) (by omega)).mono ?_
      rintro e w4 ⟨rfl, b4, x4, s4⟩
      have H4 := Lib.hid (And.intro b4 (And.intro (HL.out.ext x4 id) (And.intro (x4.heap HT.out.1 id) ((HT.out.2).trans x4))))
      have S4 := Lib.hid s4
      clear b4 x4 s4
      go_wp2_with fail
      refine ⟨Cls.of_ext H4.out.2.2.2 fun q hq => ⟨by simp at hq; subst hq; exact lt_of_heap HG.out.1, id⟩, ?_⟩
      try dsimp only [wpM, wpSegs, pick, List.getElem?_cons_zero, List.getElem?_cons_succ]
      generalize hz : Act.mk _ _ = z
      repeat (first | (refine wpQuiet_step (fun K hK => ?_); replace hK := Lib.hid hK; subst hz; go_simp; generalize hz : Act.mk _ _ = z; refine hK.out z ?_; clear hK K) | (refine wpQuiet_step (fun K hK => ?_); replace hK := Lib.hid hK; subst hz; refine iteSkip (by kernel_rfl) ?_; go_simp; generalize hz : Act.mk _ _ = z; refine hK.out z ?_; clear hK K))
      try refine wpQuiet_nil ?_
      subst hz
      try dsimp only [NoPan]
      have q3 := S3.out
      have q4 := S4.out
      obtain ⟨q5, q6⟩ := HS.out
      have q7 := lt_of_heap HG.out.2.1
      have q8 : ∀ cs, Ext (fun _ => False) V (w4.setRow T cs) := fun cs => (H4.out.2.2.2).setRow (.inr (by omega)) cs
      have HY := Lib.hid (show LentB w4 V.heap.size k ∧ LentB w4 Y.heap.size v ∧ w4.heap[T]? = some (.cells #[.bool false, .slice none 0 0, .slice none 0 0, .slice none 0 0] 43 (0, 0)) ∧ Ext (fun _ => False) V w4 ∧ (∀ cs, Ext (fun _ => False) V (w4.setRow T cs)) ∧ w.heap.size + 1 < V.heap.size ∧ w.heap.size + 1 < Y.heap.size ∧ V.heap.size ≠ Y.heap.size ∧ w.heap.size + 1 < T ∧ T ≠ V.heap.size ∧ T ≠ Y.heap.size ∧ T < w4.heap.size from ⟨H4.out.2.1, H4.out.1, H4.out.2.2.1, H4.out.2.2.2, q8, by omega, by omega, by omega, by omega, by omega, by omega, by omega⟩)
      clear q3 q4 q5 q6 q7 q8
      generalize V.heap.size = gk at HY ⊢
      generalize Y.heap.size = gv at HY ⊢
      have pY := HY.out.2.2.2.1.heap HG.out.1 id
      have d3 : w4.cell? ⟨w.heap.size, 3, none⟩ = some (.slice As L.length cs) := cells_at pY 3
      go_wp2_with (refine wpList_store_row rfl 43 (.tmp 3) _ rfl T #[.bool nn, lentV gk k, lentV gv v, .slice none 0 0] rfl rfl 43 _ HY.out.2.2.1 (by kernel_rfl) (by kernel_rfl) (by simp [Value.oneCell']) ?_; rename_i ax; have HAx := Lib.hid ax; clear ax)
      obtain ⟨bk, bv, tY, xY, xS, n1, n2, n3, n4, n5, n6, n7⟩ := HY.out
      have tU : (w4.setRow T #[.bool nn, lentV gk k, lentV gv v, .slice none 0 0]).heap[T]? = some (.cells #[.bool nn, lentV gk k, lentV gv v, .slice none 0 0] 43 (0, 0)) := setRow_heap _ _ _ _ _ _ tY
      have bkU := bk.same (w' := w4.setRow T #[.bool nn, lentV gk k, lentV gv v, .slice none 0 0]) (setRow_other _ _ _ _ (by omega))
      have bvU := bv.same (w' := w4.setRow T #[.bool nn, lentV gk k, lentV gv v, .slice none 0 0]) (setRow_other _ _ _ _ (by omega))
      have xU := xS #[.bool nn, lentV gk k, lentV gv v, .slice none 0 0]
      generalize (w4.setRow T #[.bool nn, lentV gk k, lentV gv v, .slice none 0 0]) = U at *
      refine ⟨Cls.of_ext xU fun q hq => ⟨by simp at hq; subst hq; exact lt_of_heap HG.out.1, id⟩, ?_⟩
      have c3 : U.cell? ⟨T, 3, none⟩ = some (.slice none 0 0) := cells_at tU 3
      have d3 : U.cell? ⟨w.heap.size, 3, none⟩ = some (.slice As L.length cs) := cells_at (xU.heap HG.out.1 id) 3
      have xwU := HG.out.2.2.trans xU
      have HU := Lib.hid (And.intro bkU (And.intro bvU (And.intro tU (And.intro xU xwU))))
      clear bk bv tY xY xS tU bkU bvU xU pY
      try dsimp only [wpM, wpSegs, pick, List.getElem?_cons_zero, List.getElem?_cons_succ]
      generalize hz : Act.mk _ _ = z
      repeat (first | (refine wpQuiet_step (fun K hK => ?_); replace hK := Lib.hid hK; subst hz; go_simp; generalize hz : Act.mk _ _ = z; refine hK.out z ?_; clear hK K) | (refine wpQuiet_step (fun K hK => ?_); replace hK := Lib.hid hK; subst hz; refine iteSkip (by kernel_rfl) ?_; go_simp; generalize hz : Act.mk _ _ = z; refine hK.out z ?_; clear hK K))
      try refine wpQuiet_nil ?_
      subst hz
      try dsimp only [NoPan]
      go_wp2_with fail
      refine HAx.out _ _ ?_
      clear HAx
      go_wp2_with (first | (refine wpList_append_steps rfl (.tmp 17) (.tmp 19) rfl rfl rfl xwU H.out.steps hL ?_; intro v5 w5 ho5 hx5; obtain ⟨A5, c5, rfl⟩ := own_form ho5; have t5 := hx5.heap HU.out.2.2.1 id; have t5c : w5.cell? ⟨T, 3, none⟩ = some (.slice none 0 0) := cells_at t5 3; have t5f : w5.frozen? ⟨T, 3, none⟩ = false := (by simp [World.frozen?, t5]); have g5 : (w5.setCell ⟨T, 3, none⟩ (.slice A5 L.length c5)).heap[T]? = some (.cells #[.bool nn, lentV gk k, lentV gv v, .slice A5 L.length c5] 43 (0, 0)) := heap_setCell_self t5; have y5 : Ext (· = T) w5 (w5.setCell ⟨T, 3, none⟩ (.slice A5 L.length c5)) := (Ext.refl (· = T) w5).setCell (a := ⟨T, 3, none⟩) (.inl rfl) _; have r6 := y5.heap (hx5.heap (HU.out.2.2.2.1.heap HG.out.2.1 id) id) (by omega); have H6 := Lib.hid (And.intro ho5 (And.intro hx5 (And.intro y5 (And.intro g5 r6)))); clear ho5 hx5 y5 t5) | refine wpList_load_rowg 43 (.tmp 3) rfl rfl T rfl 43 #[.bool nn, lentV gk k, lentV gv v, .slice A5 L.length c5] (0, 0) _ g5 Try.underlying43 rfl (by kernel_rfl) ?_ | (refine wpList_store_row rfl 43 (.tmp 2) _ rfl (w.heap.size + 1) #[.bool nn, lentV gk k, lentV gv v, .slice A5 L.length c5] rfl rfl 43 _ r6 (by kernel_rfl) (by kernel_rfl) (by simp [Value.oneCell']) ?_))
      generalize (w5.setCell ⟨T, 3, none⟩ (.slice A5 L.length c5)) = w6 at *
      generalize hw7 : World.setRow w6 _ _ = w7
      have r7 : w7.heap[w.heap.size + 1]? = some (.cells #[.bool nn, lentV gk k, lentV gv v, .slice A5 L.length c5] 43 (0, 0)) := by rw [← hw7]; exact setRow_heap _ _ _ _ _ _ r6
      have x7 : Ext (· = w.heap.size + 1) w6 w7 := by rw [← hw7]; exact (Ext.refl (· = w.heap.size + 1) _).setRow (.inl rfl) _
      refine bodyPost_ret (results_cell_row rfl _ _ (w.heap.size + 1) 43 _ (0, 0) _ rfl r7 Try.underlying43 rfl (by kernel_rfl)) rfl ?_
      have hUw := HU.out.2.2.2.2.size
      have ha5 : ∀ q, (Value.slice A5 L.length c5).ownBlock = some q → U.heap.size ≤ q := own_from H6.out.1
      have k7 : LentB w7 gk k := ((HU.out.1.ext H6.out.2.1 id).ext H6.out.2.2.1 (by omega)).ext x7 (by omega)
      have l7 : LentB w7 gv v := ((HU.out.2.1.ext H6.out.2.1 id).ext H6.out.2.2.1 (by omega)).ext x7 (by omega)
      have o7 := own_less (own_ext (own_ext H6.out.1 H6.out.2.2.1 fun q hq => by have := ha5 q hq; have := lt_of_heap HU.out.2.2.1; omega) x7 fun q hq => by have := ha5 q hq; have := lt_of_heap HU.out.2.2.1; omega) hUw
      exact ⟨gk, gv, .slice A5 L.length c5, rfl, k7, l7, by omega, by omega, n3, o7, ((HU.out.2.2.2.2.trans H6.out.2.1).trans' H6.out.2.2.1 fun b hb => .inr (by omega)).trans' x7 fun b hb => .inr (by omega)⟩
  · go_wp2_with fail
    have hT := heap_alloc_self V (.cells #[.bool false, .slice none 0 0, .slice none 0 0, .slice none 0 0] 43 (0, 0))
    have hx := (hV0).alloc (.cells #[.bool false, .slice none 0 0, .slice none 0 0, .slice none 0 0] 43 (0, 0))
    have hs := World.size_alloc V (.cells #[.bool false, .slice none 0 0, .slice none 0 0, .slice none 0 0] 43 (0, 0))
    generalize hY : (V.alloc (.cells #[.bool false, .slice none 0 0, .slice none 0 0, .slice none 0 0] 43 (0, 0))) = Y at *
    generalize hT0 : V.heap.size = T at *
    have HT := Lib.hid (And.intro hT hx)
    have HS := Lib.hid (And.intro hs hT0)
    clear hT hx hY hs hT0
    refine ⟨Cls.of_ext HT.out.2 fun q hq => ⟨by simp at hq; subst hq; exact lt_of_heap HG.out.1, id⟩, ?_⟩
    try dsimp only [wpM, wpSegs, pick, List.getElem?_cons_zero, List.getElem?_cons_succ]
    generalize hz : Act.mk _ _ = z
    repeat (first | (refine wpQuiet_step (fun K hK => ?_); replace hK := Lib.hid hK; subst hz; go_simp; generalize hz : Act.mk _ _ = z; refine hK.out z ?_; clear hK K) | (refine wpQuiet_step (fun K hK => ?_); replace hK := Lib.hid hK; subst hz; refine iteSkip (by kernel_rfl) ?_; go_simp; generalize hz : Act.mk _ _ = z; refine hK.out z ?_; clear hK K))
    try refine wpQuiet_nil ?_
    subst hz
    try dsimp only [NoPan]
    go_wp2_with fail
    refine (lent_walk (H.out.key.same (HG.out.2.2.trans HT.out.2)) (by omega)).mono ?_
    rintro e w3 ⟨rfl, b3, x3, s3⟩
    have H3 := Lib.hid (And.intro b3 (And.intro (x3.heap HT.out.1 id) ((HT.out.2).trans x3)))
    have S3 := Lib.hid s3
    clear b3 x3 s3
    go_wp2_with fail
    refine ⟨Cls.of_ext H3.out.2.2 fun q hq => ⟨by simp at hq; subst hq; exact lt_of_heap HG.out.1, id⟩, ?_⟩
    try dsimp only [wpM, wpSegs, pick, List.getElem?_cons_zero, List.getElem?_cons_succ]
    generalize hz : Act.mk _ _ = z
    repeat (first | (refine wpQuiet_step (fun K hK => ?_); replace hK := Lib.hid hK; subst hz; go_simp; generalize hz : Act.mk _ _ = z; refine hK.out z ?_; clear hK K) | (refine wpQuiet_step (fun K hK => ?_); replace hK := Lib.hid hK; subst hz; refine iteSkip (by kernel_rfl) ?_; go_simp; generalize hz : Act.mk _ _ = z; refine hK.out z ?_; clear hK K))
    try refine wpQuiet_nil ?_
    subst hz
    try dsimp only [NoPan]
    go_wp2_with fail
    refine (lent_walk (H.out.value.same (HG.out.2.2.trans H3.out.2.2)) (by omega)).mono ?_
    rintro e w4 ⟨rfl, b4, x4, s4⟩
    have H4 := Lib.hid (And.intro b4 (And.intro (H3.out.1.ext x4 id) (And.intro (x4.heap H3.out.2.1 id) ((H3.out.2.2).trans x4))))
    have S4 := Lib.hid s4
    clear b4 x4 s4
    go_wp2_with fail
    refine ⟨Cls.of_ext H4.out.2.2.2 fun q hq => ⟨by simp at hq; subst hq; exact lt_of_heap HG.out.1, id⟩, ?_⟩
    try dsimp only [wpM, wpSegs, pick, List.getElem?_cons_zero, List.getElem?_cons_succ]
    generalize hz : Act.mk _ _ = z
    repeat (first | (refine wpQuiet_step (fun K hK => ?_); replace hK := Lib.hid hK; subst hz; go_simp; generalize hz : Act.mk _ _ = z; refine hK.out z ?_; clear hK K) | (refine wpQuiet_step (fun K hK => ?_); replace hK := Lib.hid hK; subst hz; refine iteSkip (by kernel_rfl) ?_; go_simp; generalize hz : Act.mk _ _ = z; refine hK.out z ?_; clear hK K))
    try refine wpQuiet_nil ?_
    subst hz
    try dsimp only [NoPan]
    have q3 := S3.out
    have q4 := S4.out
    obtain ⟨q5, q6⟩ := HS.out
    have q7 := lt_of_heap HG.out.2.1
    have q8 : ∀ cs, Ext (fun _ => False) V (w4.setRow T cs) := fun cs => (H4.out.2.2.2).setRow (.inr (by omega)) cs
    have HY := Lib.hid (show LentB w4 Y.heap.size k ∧ LentB w4 w3.heap.size v ∧ w4.heap[T]? = some (.cells #[.bool false, .slice none 0 0, .slice none 0 0, .slice none 0 0] 43 (0, 0)) ∧ Ext (fun _ => False) V w4 ∧ (∀ cs, Ext (fun _ => False) V (w4.setRow T cs)) ∧ w.heap.size + 1 < Y.heap.size ∧ w.heap.size + 1 < w3.heap.size ∧ Y.heap.size ≠ w3.heap.size ∧ w.heap.size + 1 < T ∧ T ≠ Y.heap.size ∧ T ≠ w3.heap.size ∧ T < w4.heap.size from ⟨H4.out.2.1, H4.out.1, H4.out.2.2.1, H4.out.2.2.2, q8, by omega, by omega, by omega, by omega, by omega, by omega, by omega⟩)
    clear q3 q4 q5 q6 q7 q8
    generalize Y.heap.size = gk at HY ⊢
    generalize w3.heap.size = gv at HY ⊢
    have pY := HY.out.2.2.2.1.heap HG.out.1 id
    have d3 : w4.cell? ⟨w.heap.size, 3, none⟩ = some (.slice As L.length cs) := cells_at pY 3
    go_wp2_with (refine wpList_store_row rfl 43 (.tmp 3) _ rfl T #[.bool nn, lentV gk k, lentV gv v, .slice none 0 0] rfl rfl 43 _ HY.out.2.2.1 (by kernel_rfl) (by kernel_rfl) (by simp [Value.oneCell']) ?_; rename_i ax; have HAx := Lib.hid ax; clear ax)
    obtain ⟨bk, bv, tY, xY, xS, n1, n2, n3, n4, n5, n6, n7⟩ := HY.out
    have tU : (w4.setRow T #[.bool nn, lentV gk k, lentV gv v, .slice none 0 0]).heap[T]? = some (.cells #[.bool nn, lentV gk k, lentV gv v, .slice none 0 0] 43 (0, 0)) := setRow_heap _ _ _ _ _ _ tY
    have bkU := bk.same (w' := w4.setRow T #[.bool nn, lentV gk k, lentV gv v, .slice none 0 0]) (setRow_other _ _ _ _ (by omega))
    have bvU := bv.same (w' := w4.setRow T #[.bool nn, lentV gk k, lentV gv v, .slice none 0 0]) (setRow_other _ _ _ _ (by omega))
    have xU := xS #[.bool nn, lentV gk k, lentV gv v, .slice none 0 0]
    generalize (w4.setRow T #[.bool nn, lentV gk k, lentV gv v, .slice none 0 0]) = U at *
    refine ⟨Cls.of_ext xU fun q hq => ⟨by simp at hq; subst hq; exact lt_of_heap HG.out.1, id⟩, ?_⟩
    have c3 : U.cell? ⟨T, 3, none⟩ = some (.slice none 0 0) := cells_at tU 3
    have d3 : U.cell? ⟨w.heap.size, 3, none⟩ = some (.slice As L.length cs) := cells_at (xU.heap HG.out.1 id) 3
    have xwU := HG.out.2.2.trans xU
    have HU := Lib.hid (And.intro bkU (And.intro bvU (And.intro tU (And.intro xU xwU))))
    clear bk bv tY xY xS tU bkU bvU xU pY
    try dsimp only [wpM, wpSegs, pick, List.getElem?_cons_zero, List.getElem?_cons_succ]
    generalize hz : Act.mk _ _ = z
    repeat (first | (refine wpQuiet_step (fun K hK => ?_); replace hK := Lib.hid hK; subst hz; go_simp; generalize hz : Act.mk _ _ = z; refine hK.out z ?_; clear hK K) | (refine wpQuiet_step (fun K hK => ?_); replace hK := Lib.hid hK; subst hz; refine iteSkip (by kernel_rfl) ?_; go_simp; generalize hz : Act.mk _ _ = z; refine hK.out z ?_; clear hK K))
    try refine wpQuiet_nil ?_
    subst hz
    try dsimp only [NoPan]
    go_wp2_with fail
    refine HAx.out _ _ ?_
    clear HAx
    go_wp2_with (first | (refine wpList_append_steps rfl (.tmp 17) (.tmp 19) rfl rfl rfl xwU H.out.steps hL ?_; intro v5 w5 ho5 hx5; obtain ⟨A5, c5, rfl⟩ := own_form ho5; have t5 := hx5.heap HU.out.2.2.1 id; have t5c : w5.cell? ⟨T, 3, none⟩ = some (.slice none 0 0) := cells_at t5 3; have t5f : w5.frozen? ⟨T, 3, none⟩ = false := (by simp [World.frozen?, t5]); have g5 : (w5.setCell ⟨T, 3, none⟩ (.slice A5 L.length c5)).heap[T]? = some (.cells #[.bool nn, lentV gk k, lentV gv v, .slice A5 L.length c5] 43 (0, 0)) := heap_setCell_self t5; have y5 : Ext (· = T) w5 (w5.setCell ⟨T, 3, none⟩ (.slice A5 L.length c5)) := (Ext.refl (· = T) w5).setCell (a := ⟨T, 3, none⟩) (.inl rfl) _; have r6 := y5.heap (hx5.heap (HU.out.2.2.2.1.heap HG.out.2.1 id) id) (by omega); have H6 := Lib.hid (And.intro ho5 (And.intro hx5 (And.intro y5 (And.intro g5 r6)))); clear ho5 hx5 y5 t5) | refine wpList_load_rowg 43 (.tmp 3) rfl rfl T rfl 43 #[.bool nn, lentV gk k, lentV gv v, .slice A5 L.length c5] (0, 0) _ g5 Try.underlying43 rfl (by kernel_rfl) ?_ | (refine wpList_store_row rfl 43 (.tmp 2) _ rfl (w.heap.size + 1) #[.bool nn, lentV gk k, lentV gv v, .slice A5 L.length c5] rfl rfl 43 _ r6 (by kernel_rfl) (by kernel_rfl) (by simp [Value.oneCell']) ?_))
    generalize (w5.setCell ⟨T, 3, none⟩ (.slice A5 L.length c5)) = w6 at *
    generalize hw7 : World.setRow w6 _ _ = w7
    have r7 : w7.heap[w.heap.size + 1]? = some (.cells #[.bool nn, lentV gk k, lentV gv v, .slice A5 L.length c5] 43 (0, 0)) := by rw [← hw7]; exact setRow_heap _ _ _ _ _ _ r6
    have x7 : Ext (· = w.heap.size + 1) w6 w7 := by rw [← hw7]; exact (Ext.refl (· = w.heap.size + 1) _).setRow (.inl rfl) _
    refine bodyPost_ret (results_cell_row rfl _ _ (w.heap.size + 1) 43 _ (0, 0) _ rfl r7 Try.underlying43 rfl (by kernel_rfl)) rfl ?_
    have hUw := HU.out.2.2.2.2.size
    have ha5 : ∀ q, (Value.slice A5 L.length c5).ownBlock = some q → U.heap.size ≤ q := own_from H6.out.1
    have k7 : LentB w7 gk k := ((HU.out.1.ext H6.out.2.1 id).ext H6.out.2.2.1 (by omega)).ext x7 (by omega)
    have l7 : LentB w7 gv v := ((HU.out.2.1.ext H6.out.2.1 id).ext H6.out.2.2.1 (by omega)).ext x7 (by omega)
    have o7 := own_less (own_ext (own_ext H6.out.1 H6.out.2.2.1 fun q hq => by have := ha5 q hq; have := lt_of_heap HU.out.2.2.1; omega) x7 fun q hq => by have := ha5 q hq; have := lt_of_heap HU.out.2.2.1; omega) hUw
    exact ⟨gk, gv, .slice A5 L.length c5, rfl, k7, l7, by omega, by omega, n3, o7, ((HU.out.2.2.2.2.trans H6.out.2.1).trans' H6.out.2.2.1 fun b hb => .inr (by omega)).trans' x7 fun b hb => .inr (by omega)⟩
end Go.Proofs.Ytoflfhjeabpcjaa
