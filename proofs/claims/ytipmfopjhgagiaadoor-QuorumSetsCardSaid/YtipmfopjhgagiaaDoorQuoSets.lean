/- QuorumSets: what the statement's function computes; no condition. -/
import Derived.Test.YtipmfopjhgagiaaDoorMemRef2
namespace Go.Proofs.YtipmfopjhgagiaaDoor
set_option linter.unusedVariables false
set_option linter.unusedSimpArgs false
open Go.RowKit

section
variable {ops : Array Oper} {rest : List Oper} {o : Oper} {a : Act} {Q : Exit → Act → World → Prop} {w : World}
theorem wpList_append_ints (hgd : o.guard = none) (s x : Operand)
    (ho : o.op = .call { callee := .builtin .append, args := #[s, x], argTypes := #[22, 22] })
    {D : Nat → Prop} {g : Nat} {xv : Value} {l : List Int} (hs : a.eval s = .slice (some ⟨g, 0, none⟩) 0 0) (hx : a.eval x = xv) (hg : w.heap[g]? = some (.cells #[] 3 (0, 0))) (h : Ints D w xv l) (hl : l.length * 8 ≤ 140737488355328)
    (next : ∀ v' w', OwnI 0 w' v' l → Ext (fun _ => False) w w' → wpList Tryd.prog ops Q rest (a.put o.dst v') w') : wpList Tryd.prog ops Q (o :: rest) a w := by
  obtain ⟨v', w', hr, h1, h2⟩ := run_append_ints o.type hg h hl
  refine wpList_val hgd (w' := w') (v := v') ?_ (next v' w' h1 h2)
  unfold execOp
  simp only [ho, resolve, invoke, builtin, Sem.run_bind, Sem.run_pure, Result.andThen_ok, List.map_toArray, List.map_cons, List.map_nil, hs, hx, hr]
end

set_option maxRecDepth 100000 in
set_option maxHeartbeats 2000000 in
theorem sets_walk {w : World} (hT : TabOk w) {D : Nat → Prop} {v : Value} {l : List Int} (n set who : Int) (h : Ints D w v l) (hl8 : l.length * 8 ≤ 140737488355328) :
    Calls Tryd.prog 3 #[v, .int .i64 n, .int .i64 set, .int .i64 who] w fun e w' => e = .returned (.bool true) ∧ Ext (fun _ => False) w w' := by
  obtain ⟨A, c, rfl, _, _⟩ := id h
  have hl' : l.length ≤ 9223372036854775807 := by omega
  have same : ∀ W : World, Ext (fun _ => False) w W → Ints D W (.slice A l.length c) l := fun _ hx => h.same fun g n x hc => cell_same hc hx
  have hmem := fun (W : World) (hx : Ext (fun _ => False) w W) => quo_members (hT.same hx) set
  have hmr := ref_members set
  have hc1 := quo_count set
  have hc2 := ref_count set
  have hh1 := quo_has set who
  have hh2 := ref_has set who
  have hi1 := quo_is n set
  have hi2 := ref_is n set
  have hll : (mem (setN set)).length ≤ 9223372036854775807 := Nat.le_trans (mem_len _ 16 0) (by decide)
  have hS := fun W D' v' (h' : Ints D' W v' l) => quo_Set h' hl'
  have hR := fun W D' v' (h' : Ints D' W v' l) => ref_Set h' hl'
  generalize mem (setN set) = L at *
  generalize pc (setN set) = p at *
  generalize decide (1 ≤ who ∧ who ≤ 16 ∧ (setN set).testBit (who - 1).toNat = true) = hb at *
  generalize decide (isQ n set) = qb at *
  generalize setS l = s at *
  obtain ⟨s1, s2⟩ := s
  have H := Lib.hid (And.intro (And.intro same (And.intro hS hR)) (And.intro (And.intro hmem (And.intro hmr hll)) (And.intro (And.intro hc1 hc2) (And.intro (And.intro hh1 hh2) (And.intro hi1 hi2)))))
  clear same hS hR hmem hmr hll hc1 hc2 hh1 hh2 hi1 hi2 h hT
  go_enter Tryd.func3, Tryd.ntmps3
  go_wp2_with fail
  refine (quo_small _).mono ?_
  rintro e w1 ⟨rfl, hx1⟩
  have Hx1 := Lib.hid hx1
  clear hx1
  go_wp2_with (at_builtin; refine Hid.out ?_)
  refine Lib.hid ?_
  refine wpList_append_ints rfl _ _ rfl rfl rfl (heap_alloc_self _ _) ((H.out.1.1 _ (Hx1.out.alloc _))) hl8 ?_
  intro v2 w2 hO2 hx2
  obtain ⟨A2, c2, rfl⟩ := hO2.form
  have H2 := Lib.hid (And.intro hO2.ints ((Hx1.out.alloc _).trans hx2))
  clear hO2 hx2
  go_wp2_with fail
  refine (H.out.1.2.1 _ _ _ H2.out.1).mono ?_
  rintro e _ ⟨rfl, rfl⟩
  go_wp2_with fail
  refine (H.out.1.2.2 _ _ _ (H.out.1.1 _ H2.out.2)).mono ?_
  rintro e _ ⟨rfl, rfl⟩
  go_wp2_with fail
  refine (same_ints H2.out.1 (H.out.1.1 _ H2.out.2) hl').mono ?_
  rintro e w3 ⟨rfl, hx3⟩
  have H3 := Lib.hid (H2.out.2.trans hx3)
  clear hx3
  go_wp2_with fail
  refine (H.out.2.1.1 _ H3.out).mono ?_
  rintro e w4 ⟨v4, rfl, hO4, hx4⟩
  obtain ⟨A4, c4, rfl⟩ := hO4.form
  have H4 := Lib.hid (And.intro hO4.ints (H3.out.trans hx4))
  clear hO4 hx4
  go_wp2_with fail
  refine (H.out.2.1.2.1 _).mono ?_
  rintro e w5 ⟨v5, rfl, hO5, hx5⟩
  obtain ⟨A5, c5, rfl⟩ := hO5.form
  have H5 := Lib.hid (And.intro hO5.ints (And.intro hx5 (H4.out.2.trans hx5)))
  clear hO5 hx5
  go_wp2_with fail
  refine (same_ints (H4.out.1.same fun g n x hc => cell_same hc H5.out.2.1) H5.out.1 H.out.2.1.2.2).mono ?_
  rintro e w6 ⟨rfl, hx6⟩
  have H6 := Lib.hid (H5.out.2.2.trans hx6)
  clear hx6
  go_wp2_with fail
  refine (H.out.2.2.1.1 _).mono ?_
  rintro e _ ⟨rfl, rfl⟩
  go_wp2_with fail
  refine (H.out.2.2.1.2 _).mono ?_
  rintro e w7 ⟨rfl, hx7⟩
  have H7 := Lib.hid (H6.out.trans hx7)
  clear hx7
  go_wp2_with fail
  refine (H.out.2.2.2.1.1 _).mono ?_
  rintro e _ ⟨rfl, rfl⟩
  go_wp2_with fail
  refine (H.out.2.2.2.1.2 _).mono ?_
  rintro e w8 ⟨rfl, hx8⟩
  have H8 := Lib.hid (H7.out.trans hx8)
  clear hx8
  go_wp2_with fail
  refine (H.out.2.2.2.2.1 _).mono ?_
  rintro e w9 ⟨rfl, hx9⟩
  have H9 := Lib.hid (H8.out.trans hx9)
  clear hx9
  go_wp2_with fail
  refine (H.out.2.2.2.2.2 _).mono ?_
  rintro e w10 ⟨rfl, hx10⟩
  have H10 := Lib.hid (H9.out.trans hx10)
  clear hx10
  go_wp2_with fail
  go_ret
  exact ⟨rfl, H10.out⟩
end Go.Proofs.YtipmfopjhgagiaaDoor
