/- Blobs taken by the document; no condition. -/
import Derived.Test.YtcedpdjjjfdbiaaTake
import Derived.Test.YtcedpdjjjfdbiaaRefPlain
namespace Go.Proofs.Ytcedpdjjjfdbiaa
set_option linter.unusedVariables false
set_option linter.unusedSimpArgs false
open Go.RowKit

theorem dcount_facts (c0 c1 c2 c3 : Nat) (h0 : c0 < 256) (h1 : c1 < 256) (h2 : c2 < 256) (h3 : c3 < 256) : ∃ a0 a1 a2 s1 s2 : Nat, (IntKind.i64.wrap ((c0 : Int) * 16777216) = (a0 : Int) ∧ (c0 : Int) * 16777216 = (a0 : Int)) ∧ (IntKind.i64.wrap ((c1 : Int) * 65536) = (a1 : Int) ∧ (c1 : Int) * 65536 = (a1 : Int)) ∧
    (IntKind.i64.wrap ((c2 : Int) * 256) = (a2 : Int) ∧ (c2 : Int) * 256 = (a2 : Int)) ∧ (IntKind.i64.wrap ((a0 : Int) + (a1 : Int)) = (s1 : Int) ∧ (a0 : Int) + (a1 : Int) = (s1 : Int)) ∧ (IntKind.i64.wrap ((s1 : Int) + (a2 : Int)) = (s2 : Int) ∧ (s1 : Int) + (a2 : Int) = (s2 : Int)) ∧
    (IntKind.i64.wrap ((s2 : Int) + (c3 : Int)) = ((((c0 * 256 + c1) * 256 + c2) * 256 + c3 : Nat) : Int) ∧ (s2 : Int) + (c3 : Int) = ((((c0 * 256 + c1) * 256 + c2) * 256 + c3 : Nat) : Int)) := by
  refine ⟨c0 * 16777216, c1 * 65536, c2 * 256, c0 * 16777216 + c1 * 65536, c0 * 16777216 + c1 * 65536 + c2 * 256, ⟨?_, by omega⟩, ⟨?_, by omega⟩, ⟨?_, by omega⟩, ⟨?_, by omega⟩, ⟨?_, by omega⟩, ⟨?_, by omega⟩⟩
  all_goals
    rw [IntKind.wrap_i64]
    omega
set_option maxRecDepth 100000 in
theorem dcount_walk {w : World} {D : Nat → Prop} {v : Value} {l : Bs} (hb : Byt D w v l) (hl : 4 ≤ l.length) :
    Calls Try.prog 58 #[v] w fun e w' => e = .returned (.int .i64 (be4 l : Nat)) ∧ Ext (fun _ => False) w w' := by
  obtain ⟨g, o, c, rfl, hcap, _, hcell⟩ := hb.flat (by intro e; rw [e] at hl; simp at hl)
  have hc : ∀ j, j < 4 → ∃ cc : Nat, (l.getD j 0).toNat = cc ∧ cc < 256 ∧ w.cell? ⟨g, o + j, none⟩ = some (.int .u8 (cc : Int)) := fun j hj => by
    refine ⟨_, rfl, UInt8.toNat_lt _, ?_⟩
    rw [hcell j _ (List.getElem?_eq_getElem (by omega)), List.getD_eq_getElem?_getD, List.getElem?_eq_getElem (by omega)]
    rfl
  obtain ⟨c0, e0, b0, k0⟩ := hc 0 (by omega)
  obtain ⟨c1, e1, b1, k1⟩ := hc 1 (by omega)
  obtain ⟨c2, e2, b2, k2⟩ := hc 2 (by omega)
  obtain ⟨c3, e3, b3, k3⟩ := hc 3 (by omega)
  have hbe : be4 l = ((c0 * 256 + c1) * 256 + c2) * 256 + c3 := by rw [be4, e0, e1, e2, e3]
  rw [hbe]
  rw [Nat.add_zero] at k0
  obtain ⟨a0, a1, a2, s1, s2, ⟨f1, f1'⟩, ⟨f2, f2'⟩, ⟨f3, f3'⟩, ⟨f4, f4'⟩, ⟨f5, f5'⟩, ⟨f6, f6'⟩⟩ := dcount_facts c0 c1 c2 c3 b0 b1 b2 b3
  generalize ((c0 * 256 + c1) * 256 + c2) * 256 + c3 = n at *
  have z0 : IntKind.i64.wrap (c0 : Int) = (c0 : Int) := by rw [IntKind.wrap_i64]; omega
  have z1 : IntKind.i64.wrap (c1 : Int) = (c1 : Int) := by rw [IntKind.wrap_i64]; omega
  have z2 : IntKind.i64.wrap (c2 : Int) = (c2 : Int) := by rw [IntKind.wrap_i64]; omega
  have z3 : IntKind.i64.wrap (c3 : Int) = (c3 : Int) := by rw [IntKind.wrap_i64]; omega
  have n0' : 0 < l.length := by omega
  have n0 : (0 : Int) < (l.length : Int) := by omega
  have n1 : (1 : Int) < (l.length : Int) := by omega
  have n2 : (2 : Int) < (l.length : Int) := by omega
  have n3 : (3 : Int) < (l.length : Int) := by omega
  clear hb hc hcell hbe e0 e1 e2 e3 f1' f2' f3' f4' f5' f6'
  go_enter Try.func58, Try.ntmps58
  go_wp2_with fail
  refine wp_region_mix (Cls [g] _) [] [0, 1, 2, 3, 4, 5, 6, 7, 8, 9, 10, 11, 12, 13, 14, 15, 16, 17, 18, 19, 20, 21, 22] (by kernel_rfl) (by kernel_rfl) (Cls.refl _ _) ?_
  try dsimp only [wpMix, wpSegs, pick, List.getElem?_cons_zero, List.getElem?_cons_succ]
  generalize hz : Act.mk _ _ = z
  repeat (first | (refine wpQuiet_step (fun K hK => ?_); replace hK := Lib.hid hK; subst hz; go_simp; generalize hz : Act.mk _ _ = z; refine hK.out z ?_; clear hK K) | (refine wpQuiet_step (fun K hK => ?_); replace hK := Lib.hid hK; subst hz; refine iteSkip (by kernel_rfl) ?_; go_simp; generalize hz : Act.mk _ _ = z; refine hK.out z ?_; clear hK K))
  refine wpQuiet_nil ?_
  subst hz
  try dsimp only [NoPan]
  go_wp2_with fail
  go_ret
  exact ⟨rfl, (Ext.refl _ _).drew⟩
set_option maxRecDepth 100000 in
theorem dtakeblob_walk {w : World} {D : Nat → Prop} {v : Value} {l : Bs} (hb : Byt D w v l) (hl : l.length ≤ 140737488355328) : Calls Try.prog 59 #[v] w (TBPost w l) := by
  obtain ⟨A, c, rfl, _, _⟩ := id hb
  by_cases h4 : l.length < 4
  · have ht : takeR l = ([], 0, 3) := if_pos h4
    have Ht := Lib.hid ht
    have n1 : (l.length : Int) < 4 := by omega
    have n1' : decide ((l.length : Int) < 4) = true := by simp; omega
    clear hb ht
    go_enter Try.func59, Try.ntmps59
    go_wp2_with fail
    refine bodyPost_ret (results_tmp3 rfl _ _ _) rfl ?_
    exact ⟨_, by rw [Ht.out]; rfl, by rw [Ht.out]; exact FreshB.nil _⟩
  · have HC := Lib.hid (dcount_walk hb (by omega))
    have n1 : ¬ (l.length : Int) < 4 := by omega
    have n1' : decide ((l.length : Int) < 4) = false := by simp; omega
    by_cases h5 : 65536 < be4 l
    · have ht : takeR l = ([], 0, 2) := by rw [takeR, if_neg h4, if_pos h5]
      have Ht := Lib.hid ht
      generalize be4 l = n at *
      have n2 : (65536 : Int) < (n : Int) := by omega
      have n2' : decide ((65536 : Int) < (n : Int)) = true := by simp; omega
      clear hb ht
      go_enter Try.func59, Try.ntmps59
      go_wp2_with fail
      refine HC.out.mono ?_
      rintro e w1 ⟨rfl, hx1⟩
      have H1 := Lib.hid hx1
      clear hx1
      go_wp2_with fail
      refine bodyPost_ret (results_tmp3 rfl _ _ _) rfl ?_
      exact ⟨_, by rw [Ht.out]; rfl, by rw [Ht.out]; exact (FreshB.nil _).base H1.out⟩
    · by_cases h6 : l.length < 4 + be4 l
      · have ht : takeR l = ([], 0, 3) := by rw [takeR, if_neg h4, if_neg h5, if_pos h6]
        have Ht := Lib.hid ht
        generalize be4 l = n at *
        have n2 : ¬ (65536 : Int) < (n : Int) := by omega
        have n2' : decide ((65536 : Int) < (n : Int)) = false := by simp; omega
        have n3 : (l.length : Int) - 4 < (n : Int) := by omega
        have n3' : decide ((l.length : Int) - 4 < (n : Int)) = true := by simp; omega
        clear hb ht
        go_enter Try.func59, Try.ntmps59
        go_wp2_with fail
        refine HC.out.mono ?_
        rintro e w1 ⟨rfl, hx1⟩
        have H1 := Lib.hid hx1
        clear hx1
        go_wp2_with fail
        refine bodyPost_ret (results_tmp3 rfl _ _ _) rfl ?_
        exact ⟨_, by rw [Ht.out]; rfl, by rw [Ht.out]; exact (FreshB.nil _).base H1.out⟩
      · have ht : takeR l = ((l.drop 4).take (be4 l), 4 + be4 l, 0) := by rw [takeR, if_neg h4, if_neg h5, if_neg h6]
        obtain ⟨g, o, c', he, hcap, _, hcell⟩ := hb.flat (by intro e; rw [e] at h4; simp at h4)
        simp only [Value.slice.injEq, true_and] at he
        obtain ⟨rfl, rfl⟩ := he
        generalize hbn : be4 l = n at *
        have hml : ((l.drop 4).take n).length = n := by rw [List.length_take, List.length_drop]; omega
        have n2 : ¬ (65536 : Int) < (n : Int) := by omega
        have n2' : decide ((65536 : Int) < (n : Int)) = false := by simp; omega
        have n3 : ¬ (l.length : Int) - 4 < (n : Int) := by omega
        have n3' : decide ((l.length : Int) - 4 < (n : Int)) = false := by simp; omega
        have hc4 : 4 ≤ c := by omega
        have hcn : 4 + n ≤ c := by omega
        have Hc := Lib.hid hcell
        have Ht := Lib.hid (And.intro ht hml)
        clear hb ht hcell hml hbn
        by_cases hce : c = 4
        · have hn0 : n = 0 := by omega
          subst hn0
          subst hce
          go_enter Try.func59, Try.ntmps59
          go_wp2_with fail
          refine HC.out.mono ?_
          rintro e w1 ⟨rfl, hx1⟩
          have H1 := Lib.hid hx1
          clear hx1
          go_wp2_with (at_builtin; refine Hid.out ?_)
          refine Lib.hid ?_
          try simp only [Nat.add_sub_cancel_left]
          have hf1 : FreshB w1 [] (.slice (some ⟨w1.heap.size, 0, none⟩) 0 0) (w1.alloc (Obj.cells #[] 5)) :=
            ⟨.inr ⟨w1.heap.size, 0, #[], (0, 0), rfl, heap_alloc_self _ _, Nat.le_refl _, Nat.le_refl _, by decide, fun i hi => by omega, fun j u hu => by simp at hu⟩, (Ext.refl _ _).alloc _, fun k hk => by simp [Value.ownBlock] at hk; omega⟩
          have hcell1 := fun (j : Nat) (u : UInt8) (hu : l[j]? = some u) => cell_same (cell_same (Hc.out j u hu) H1.out) hf1.ext
          refine wpList_append_bytes rfl _ _ 33 rfl Try.underlying33 info_u8 (sv := .slice (some ⟨w1.heap.size, 0, none⟩) 0 0) rfl rfl hf1.own (byt_mid hcell1 (by omega) _ (by omega) _ (by omega)) (by have := Ht.out.2; simp only [List.length_nil]; omega) ?_
          intro v2 w2 hown2 hx2 hb2
          have hfr := hf1.appended hown2 hx2 hb2
          rw [List.nil_append] at hfr
          have H2 := Lib.hid (hfr.base H1.out)
          clear hown2 hx2 hb2 hfr hf1 hcell1
          go_wp2_with fail
          refine bodyPost_ret (results_tmp3 rfl _ _ _) rfl ?_
          refine ⟨v2, by rw [Ht.out.1]; rfl, ?_⟩
          rw [Ht.out.1]
          exact H2.out
        · have hc5 : 4 < c := by omega
          have hc6 : ¬ c - 4 = 0 := by omega
          have hc7 : ¬ c ≤ 4 := by omega
          go_enter Try.func59, Try.ntmps59
          go_wp2_with fail
          refine HC.out.mono ?_
          rintro e w1 ⟨rfl, hx1⟩
          have H1 := Lib.hid hx1
          clear hx1
          go_wp2_with (at_builtin; refine Hid.out ?_)
          refine Lib.hid ?_
          try simp only [Nat.add_sub_cancel_left]
          have hf1 : FreshB w1 [] (.slice (some ⟨w1.heap.size, 0, none⟩) 0 0) (w1.alloc (Obj.cells #[] 5)) :=
            ⟨.inr ⟨w1.heap.size, 0, #[], (0, 0), rfl, heap_alloc_self _ _, Nat.le_refl _, Nat.le_refl _, by decide, fun i hi => by omega, fun j u hu => by simp at hu⟩, (Ext.refl _ _).alloc _, fun k hk => by simp [Value.ownBlock] at hk; omega⟩
          have hcell1 := fun (j : Nat) (u : UInt8) (hu : l[j]? = some u) => cell_same (cell_same (Hc.out j u hu) H1.out) hf1.ext
          refine wpList_append_bytes rfl _ _ 33 rfl Try.underlying33 info_u8 (sv := .slice (some ⟨w1.heap.size, 0, none⟩) 0 0) rfl rfl hf1.own (byt_mid hcell1 (by omega) _ (by omega) _ (by omega)) (by have := Ht.out.2; simp only [List.length_nil]; omega) ?_
          intro v2 w2 hown2 hx2 hb2
          have hfr := hf1.appended hown2 hx2 hb2
          rw [List.nil_append] at hfr
          have H2 := Lib.hid (hfr.base H1.out)
          clear hown2 hx2 hb2 hfr hf1 hcell1
          go_wp2_with fail
          refine bodyPost_ret (results_tmp3 rfl _ _ _) rfl ?_
          refine ⟨v2, by rw [Ht.out.1]; rfl, ?_⟩
          rw [Ht.out.1]
          exact H2.out
end Go.Proofs.Ytcedpdjjjfdbiaa
