/- Texts of named rows, the code's and the document's; no condition. -/
import Derived.Test.YtoflfhjeabpcjaaPlain2
import Derived.Test.YtoflfhjeabpcjaaRefPlain
namespace Go.Proofs.Ytoflfhjeabpcjaa
set_option linter.unusedVariables false
set_option linter.unusedSimpArgs false
open Go.RowKit

section
variable {P : Program} {ops : Array Oper} {rest : List Oper} {o : Oper} {a : Act} {Q : Exit → Act → World → Prop} {w : World}
theorem run_append_byts (w : World) (t ty : TypeId) (ht : P.underlying t = some (.slice 22)) (hi : (P.info? 22).map (fun i => (i.zero, i.size, i.bytes)) = some (some (.slice none 0 0), 1, 24))
    {D : Nat → Prop} {g : Nat} {u0 x : Value} {n0 : Bs} {ls : List Bs} (hu : w.cell? ⟨g, 0, none⟩ = some u0) (hu0 : Byt D w u0 n0) (hx : Byts D w x ls) (hlen : ls.length ≤ 5864062014634) :
    ∃ v' w', (Builtin.append_ #[t, t] ty #[.slice (some ⟨g, 0, none⟩) 1 1, x]).run P w = .ok v' w' ∧ Byts (fun b => D b ∨ b = g ∨ w.heap.size ≤ b) w' v' (n0 :: ls) ∧ Ext (fun _ => False) w w' := by
  obtain ⟨i, hi1, hi2⟩ := Option.map_eq_some_iff.1 hi
  simp only [Prod.mk.injEq] at hi2
  obtain ⟨z1, z2, z3⟩ := hi2
  obtain ⟨A, c, rfl, hc, hat⟩ := hx
  by_cases hm : ls = []
  · subst hm
    refine ⟨_, _, run_append_nothing w t ty _ i ht hi1 (some ⟨g, 0, none⟩) 1 1 (Nat.le_refl _) (fun _ h => by cases h; rfl) A c, ⟨_, 1, rfl, Nat.le_refl _, fun _ => ⟨g, 0, rfl, .inr (.inl rfl), fun j y hy => ?_⟩⟩, Ext.refl _ _⟩
    have hj : j = 0 := by have := (List.getElem?_eq_some_iff.1 hy).1; simp at this; omega
    subst hj
    simp at hy
    subst hy
    exact ⟨u0, hu, hu0.mono fun _ => .inl⟩
  · have hpos := List.length_pos_iff.2 hm
    obtain ⟨gx, ox, rfl, hD, hcell⟩ := hat hm
    obtain ⟨us, hul, hus⟩ := exists_list (p := fun i u => w.cell? ⟨gx, ox + i, none⟩ = some u ∧ ∀ y, ls[i]? = some y → Byt D w u y) ls.length (fun i hi => by
      obtain ⟨u, h1, h2⟩ := hcell i _ (List.getElem?_eq_getElem hi)
      rw [Nat.mul_one] at h1
      exact ⟨u, h1, fun y hy => by rw [List.getElem?_eq_getElem hi] at hy; obtain rfl := Option.some.inj hy; exact h2⟩)
    have hr := run_append_grow (P := P) w t ty _ i _ ht hi1 z1 ⟨g, 0, none⟩ 1 1 [u0] (by simp [z2]) (fun j v hv => by
        have hj : j = 0 := by have := (List.getElem?_eq_some_iff.1 hv).1; simp at this; omega
        subst hj
        simp at hv
        subst hv
        have ha : (⟨g, 0, none⟩ : Addr).add 0 = ⟨g, 0, none⟩ := by simp [Addr.add]
        rw [ha]
        exact hu) ⟨gx, ox, none⟩ ls.length c us (by simp [z2, hul])
      (fun j v hv => by
        have ha : (⟨gx, ox, none⟩ : Addr).add j = ⟨gx, ox + j, none⟩ := by unfold Addr.add; split <;> simp_all
        rw [ha]
        exact (hus j v hv).1)
      (by omega) (by omega) (growslice_fits (by omega) (by rw [z3]; omega))
    have hge := grownCap_ge w (1 + ls.length) 1 22
    have hx1 : Ext (fun _ => False) w (w.drew.alloc (.cells (#[u0] ++ us.toArray ++ Builtin.zeroCells (Value.slice none 0 0).cells (grownCap w (1 + ls.length) 1 22 - (1 + ls.length))) 22)) := ((Ext.refl _ _).drew).alloc _
    refine ⟨_, _, hr, ⟨_, _, by rw [List.length_cons, Nat.add_comm], by rw [List.length_cons, Nat.add_comm]; exact hge, fun _ => ⟨_, 0, rfl, .inr (.inr (Nat.le_refl _)), fun j y hy => ?_⟩⟩, hx1⟩
    have hself : (w.drew.alloc (.cells ([u0].toArray ++ us.toArray ++ Builtin.zeroCells (Value.slice none 0 0).cells (grownCap w (1 + ls.length) 1 22 - (1 + ls.length))) 22)).heap[w.heap.size]? = _ := heap_alloc_self w.drew _
    have hj : j < 1 + us.length := by have := (List.getElem?_eq_some_iff.1 hy).1; simp at this; omega
    obtain ⟨u, hu1, hu2⟩ : ∃ u, ([u0] ++ us)[j]? = some u ∧ Byt D w u y := by
      cases j with
      | zero => simp at hy; subst hy; exact ⟨u0, rfl, hu0⟩
      | succ k =>
        simp at hy
        have hk : k < us.length := by omega
        exact ⟨us[k], by simp [hk], (hus k _ (List.getElem?_eq_getElem hk)).2 y hy⟩
    refine ⟨u, ?_, (hu2.same hx1).mono fun _ => .inl⟩
    rw [cells_at hself]
    simp only [Nat.mul_one, Nat.zero_add, List.append_toArray]
    rw [Array.getElem?_append_left (by simp; omega)]
    simpa using hu1
theorem wpList_append_byts (hgd : o.guard = none) (s x : Operand) (t : TypeId)
    (ho : o.op = .call { callee := .builtin .append, args := #[s, x], argTypes := #[t, t] })
    (ht : P.underlying t = some (.slice 22)) (hi : (P.info? 22).map (fun i => (i.zero, i.size, i.bytes)) = some (some (.slice none 0 0), 1, 24))
    {D : Nat → Prop} {g : Nat} {u0 xv : Value} {n0 : Bs} {ls : List Bs} (hs : a.eval s = .slice (some ⟨g, 0, none⟩) 1 1) (hxv : a.eval x = xv) (hu : w.cell? ⟨g, 0, none⟩ = some u0) (hu0 : Byt D w u0 n0) (hx : Byts D w xv ls) (hlen : ls.length ≤ 5864062014634)
    (next : ∀ v' w', Byts (fun b => D b ∨ b = g ∨ w.heap.size ≤ b) w' v' (n0 :: ls) → Ext (fun _ => False) w w' → wpList P ops Q rest (a.put o.dst v') w') : wpList P ops Q (o :: rest) a w := by
  obtain ⟨v', w', hr, h1, h2⟩ := run_append_byts (P := P) w t o.type ht hi hu hu0 hx hlen
  refine wpList_val hgd (w' := w') (v := v') ?_ (next v' w' h1 h2)
  unfold execOp
  simp only [ho, resolve, invoke, builtin, Sem.run_bind, Sem.run_pure, Result.andThen_ok, List.map_toArray, List.map_cons, List.map_nil, hs, hxv, hr]
end
theorem info24 : (Try.prog.info? 22).map (fun i => (i.zero, i.size, i.bytes)) = some (some (.slice none 0 0), 1, 24) := by kernel_rfl

/-- What is summed of a named row, and the answer's number. -/
def textR (nm : Bs) (ls : List Bs) : Bs × Int := if 16 < nm.length then ([], 2) else rowR (nm :: ls)
def TextPost (w : World) (nm : Bs) (ls : List Bs) (e : Ending) (w' : World) : Prop := ∃ v', e = .returned (.tuple #[v', .int .i64 (textR nm ls).2]) ∧ FreshB w (textR nm ls).1 v' w'
set_option maxRecDepth 100000 in
theorem text_walk {w : World} {D : Nat → Prop} {v : Value} {nm : Bs} {ls : List Bs} (hv : Byts D w v ls) (hl : ls.length ≤ 5864062014634) (hnm : nm.length ≤ 9223372036854775807) :
    Calls Try.prog 57 #[str nm, v] w (TextPost w nm ls) := by
  obtain ⟨A, c, rfl, hle, _⟩ := id hv
  have Hv := Lib.hid hv
  by_cases hbig : 16 < nm.length
  · have hcm : decide ((16 : Int) < (nm.length : Int)) = true := by simp; omega
    have hcm' : (16 : Int) < (nm.length : Int) := by omega
    clear hv hle
    go_enter Try.func57, Try.ntmps57
    go_wp2_with fail
    refine bodyPost_ret (results_tmp2 rfl _ _ _) rfl ?_
    have hr : textR nm ls = ([], 2) := if_pos hbig
    exact ⟨_, by rw [hr]; rfl, by rw [hr]; exact FreshB.nil w⟩
  · have hcm : decide ((16 : Int) < (nm.length : Int)) = false := by simp; omega
    have hcm' : ¬ (16 : Int) < (nm.length : Int) := by omega
    have hr : textR nm ls = rowR (nm :: ls) := if_neg hbig
    have HR := Lib.hid hr
    clear hv hle hr
    go_enter Try.func57, Try.ntmps57
    go_wp2_with (first | (refine wpList_str_bytes Try.underlying9 Try.underlying22 Try.underlying5 rfl _ rfl (l := nm) rfl (by omega) ?_; intro c1 w1 hb1 hx1 hs1; have Hb1 := Lib.hid (And.intro hb1 (And.intro hx1 hs1)); clear hb1 hx1 hs1) | (at_builtin; refine Hid.out ?_))
    refine Lib.hid ?_
    have hxa : Ext (fun _ => False) w1 (w1.alloc (Obj.cells #[Value.slice (some ⟨w.heap.size, 0, none⟩) nm.length c1] 22)) := (Ext.refl _ _).alloc _
    have hc0 : (w1.alloc (Obj.cells #[Value.slice (some ⟨w.heap.size, 0, none⟩) nm.length c1] 22)).cell? ⟨w1.heap.size, 0, none⟩ = some (Value.slice (some ⟨w.heap.size, 0, none⟩) nm.length c1) := by
      rw [cells_at (heap_alloc_self _ _)]
      rfl
    have hbn := (Hb1.out.1.ext hxa fun _ _ => id).byt.mono (D' := fun _ => True) fun _ _ => trivial
    have hbv := ((Hv.out.mono (D' := fun _ => True) fun _ _ => trivial).same Hb1.out.2.1).same hxa
    refine wpList_append_byts rfl _ _ 68 rfl Try.underlying68 info24 rfl rfl hc0 hbn hbv hl ?_
    intro v2 w2 hb2 hx2
    have hx02 := (Hb1.out.2.1.trans hxa).trans hx2
    have hrow := row_walk hb2 (by rw [List.length_cons]; omega)
    have H2 := Lib.hid (And.intro hx02 hrow)
    clear hb2 hx2 hx02 hrow hxa hc0 hbn hbv
    go_wp2_with fail
    refine H2.out.2.mono ?_
    rintro e w3 ⟨v3, rfl, h3⟩
    have H3 := Lib.hid (h3.base H2.out.1)
    clear h3
    go_wp2_with fail
    refine bodyPost_ret (results_tmp2 rfl _ _ _) rfl ?_
    have h3 := H3.out
    rw [← HR.out] at h3
    exact ⟨_, by rw [HR.out]; rfl, h3⟩
set_option maxRecDepth 100000 in
theorem dtext_walk {w : World} {D : Nat → Prop} {v : Value} {nm : Bs} {ls : List Bs} (hv : Byts D w v ls) (hl : ls.length ≤ 5864062014634) (hnm : nm.length ≤ 9223372036854775807) :
    Calls Try.prog 116 #[str nm, v] w (TextPost w nm ls) := by
  obtain ⟨A, c, rfl, hle, _⟩ := id hv
  have Hv := Lib.hid hv
  by_cases hbig : 16 < nm.length
  · have hcm : decide ((16 : Int) < (nm.length : Int)) = true := by simp; omega
    have hcm' : (16 : Int) < (nm.length : Int) := by omega
    clear hv hle
    go_enter Try.func116, Try.ntmps116
    go_wp2_with fail
    refine bodyPost_ret (results_tmp2 rfl _ _ _) rfl ?_
    have hr : textR nm ls = ([], 2) := if_pos hbig
    exact ⟨_, by rw [hr]; rfl, by rw [hr]; exact FreshB.nil w⟩
  · have hcm : decide ((16 : Int) < (nm.length : Int)) = false := by simp; omega
    have hcm' : ¬ (16 : Int) < (nm.length : Int) := by omega
    have hr : textR nm ls = rowR (nm :: ls) := if_neg hbig
    have HR := Lib.hid hr
    clear hv hle hr
    go_enter Try.func116, Try.ntmps116
    go_wp2_with (first | (refine wpList_str_bytes Try.underlying9 Try.underlying22 Try.underlying5 rfl _ rfl (l := nm) rfl (by omega) ?_; intro c1 w1 hb1 hx1 hs1; have Hb1 := Lib.hid (And.intro hb1 (And.intro hx1 hs1)); clear hb1 hx1 hs1) | (at_builtin; refine Hid.out ?_))
    refine Lib.hid ?_
    have hxa : Ext (fun _ => False) w1 (w1.alloc (Obj.cells #[Value.slice (some ⟨w.heap.size, 0, none⟩) nm.length c1] 22)) := (Ext.refl _ _).alloc _
    have hc0 : (w1.alloc (Obj.cells #[Value.slice (some ⟨w.heap.size, 0, none⟩) nm.length c1] 22)).cell? ⟨w1.heap.size, 0, none⟩ = some (Value.slice (some ⟨w.heap.size, 0, none⟩) nm.length c1) := by
      rw [cells_at (heap_alloc_self _ _)]
      rfl
    have hbn := (Hb1.out.1.ext hxa fun _ _ => id).byt.mono (D' := fun _ => True) fun _ _ => trivial
    have hbv := ((Hv.out.mono (D' := fun _ => True) fun _ _ => trivial).same Hb1.out.2.1).same hxa
    refine wpList_append_byts rfl _ _ 68 rfl Try.underlying68 info24 rfl rfl hc0 hbn hbv hl ?_
    intro v2 w2 hb2 hx2
    have hx02 := (Hb1.out.2.1.trans hxa).trans hx2
    have hrow := drow_walk hb2 (by rw [List.length_cons]; omega)
    have H2 := Lib.hid (And.intro hx02 hrow)
    clear hb2 hx2 hx02 hrow hxa hc0 hbn hbv
    go_wp2_with fail
    refine H2.out.2.mono ?_
    rintro e w3 ⟨v3, rfl, h3⟩
    have H3 := Lib.hid (h3.base H2.out.1)
    clear h3
    go_wp2_with fail
    refine bodyPost_ret (results_tmp2 rfl _ _ _) rfl ?_
    have h3 := H3.out
    rw [← HR.out] at h3
    exact ⟨_, by rw [HR.out]; rfl, h3⟩
end Go.Proofs.Ytoflfhjeabpcjaa
