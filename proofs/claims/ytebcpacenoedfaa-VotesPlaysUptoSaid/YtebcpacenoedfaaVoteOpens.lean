/- Both sides' votes are opened anew; no condition. -/
import Derived.Test.YtebcpacenoedfaaVoteSide
namespace Go.Proofs.Ytebcpacenoedfaa
set_option linter.unusedVariables false
set_option linter.unusedSimpArgs false
open Go.RowKit

def sideO (a a' : Nat) (vp yp : Value) : Obj := .cells #[.pointer (some ⟨a, 0, none⟩), .pointer (some ⟨a', 0, none⟩), vp, yp] 32 (0, 0)
def VP (w0 : World) (K : Nat → Prop) (w : World) (a a' : Nat) (x : Dk) (vp yp : Value) : Prop := (vp = .pointer none ∧ yp = .pointer none) ∨
  ∃ (va ya n sz : Nat) (bad : Bool), vp = .pointer (some ⟨va, 0, none⟩) ∧ yp = .pointer (some ⟨ya, 0, none⟩) ∧ w.heap[va]? = some (voteO a n sz bad) ∧ w.heap[ya]? = some (docO a' n bad) ∧ (K va ∧ w0.heap.size ≤ va) ∧ (K ya ∧ w0.heap.size ≤ ya) ∧ n ≤ sz ∧ sz ≤ 4194304 ∧ (bad = false → sz = x.l.length)
/-- Both sides: they stand alike. -/
structure SS (w0 : World) (K : Nat → Prop) (w : World) (a a' bs : Nat) (x : Dk) : Prop where
  sd : SD w0 K w a a' x x
  box : K bs ∧ w0.heap.size ≤ bs
  side : ∃ vp yp, w.heap[bs]? = some (sideO a a' vp yp) ∧ VP w0 K w a a' x vp yp
theorem VP.kept {w0 w w' : World} {K K' : Nat → Prop} {a a' : Nat} {x : Dk} {vp yp : Value} (h : VP w0 K w a a' x vp yp) (hk : Keep K w w') (hK : ∀ k, K k → K' k) : VP w0 K' w' a a' x vp yp := by
  rcases h with h | ⟨va, ya, n, sz, bad, h1, h2, h3, h4, h5, h6, h7⟩
  · exact .inl h
  · exact .inr ⟨va, ya, n, sz, bad, h1, h2, (hk.2 va h5.1).trans h3, (hk.2 ya h6.1).trans h4, ⟨hK va h5.1, h5.2⟩, ⟨hK ya h6.1, h6.2⟩, h7⟩
/-- New blocks stand beside. -/
theorem SS.more {w0 w w' : World} {K K' : Nat → Prop} {a a' bs : Nat} {x : Dk} (h : SS w0 K w a a' bs x) (hx : Ext (fun _ => False) w w') (hK : ∀ k, K k → K' k) (hK2 : ∀ k, K' k → K k ∨ w.heap.size ≤ k ∧ k < w'.heap.size) : SS w0 K' w' a a' bs x := by
  obtain ⟨vp, yp, h1, h2⟩ := h.side
  exact ⟨h.sd.more hx (fun _ => False.elim) hK2, ⟨hK _ h.box.1, h.box.2⟩, vp, yp, hx.heap h1 id, h2.kept (h.sd.keep hx) hK⟩
theorem SS.ext {w0 w w' : World} {K : Nat → Prop} {a a' bs : Nat} {x : Dk} (h : SS w0 K w a a' bs x) (hx : Ext (fun _ => False) w w') : SS w0 K w' a a' bs x := h.more hx (fun _ => id) fun _ => .inl
theorem flat_few (ls : List Bs) : ls.length ≤ (ls.flatMap blobB).length := by
  induction ls with
  | nil => simp
  | cons l ls ih =>
    simp only [List.flatMap_cons, List.length_append, List.length_cons, blobB_len]
    omega
theorem recs_few (l : Bs) : (recs l).1.length ≤ (recs l).2 := by
  obtain ⟨h1, h2, _⟩ := recs_spec l
  have := flat_few (recs l).1
  rw [h2, List.length_take] at this
  omega
theorem sync_l (x : Dk) : (syncD x).2.l = x.l := by
  unfold syncD
  repeat' split
  all_goals first
    | rfl
    | exact goes_l x
theorem open_len {x : Dk} (h : (openD x).1 = 0) : (openD x).2.l.length = (recs x.l).2 := by
  have hr := (recs_spec x.l).1
  unfold openD at *
  split at h
  · simp at h
  · rename_i ho
    rw [if_neg ho]
    split at h
    · rename_i hc
      exact absurd h hc
    · rename_i hc
      rw [if_neg hc]
      have hc0 : (openC x).1 = 0 := by simpa using hc
      have hl : (openC x).2.l.length = (recs x.l).2 := by
        unfold openC at *
        split
        · rename_i hlt
          rw [if_pos hlt] at hc0
          exact cut_len (y := (cutD ((recs x.l).2 : Nat) x).2) (Nat.le_of_lt hlt) (Prod.ext hc0 rfl)
        · show x.l.length = _
          omega
      split
      · rw [sync_l]; exact hl
      · exact hl

theorem rows8_nil (w : World) : Rows8 w (.slice none 0 0) [] := ⟨⟨none, 0, rfl, Nat.le_refl _, fun h => absurd rfl h⟩, by simp, by simp⟩
theorem byts_nil (w : World) : Byts (fun _ => True) w (.slice none 0 0) [] := ⟨none, 0, rfl, Nat.le_refl _, fun h => absurd rfl h⟩

set_option maxRecDepth 100000 in
set_option maxHeartbeats 1000000 in
theorem sopen_walk {w0 w : World} {K : Nat → Prop} {a a' bs : Nat} {x : Dk} {vp yp : Value} (h : SD w0 K w a a' x x) (hb : K bs ∧ w0.heap.size ≤ bs) (hs : w.heap[bs]? = some (sideO a a' vp yp)) :
    Calls Try.prog 9 #[.pointer (some ⟨bs, 0, none⟩)] w fun e w' => e = .returned (.bool true) ∧ ∃ K', (∀ k, K k → K' k) ∧ SS w0 K' w' a a' bs (openD x).2 ∧ Keep (fun k => K k ∧ k ≠ bs) w w' := by
  have hlen : x.l.length ≤ 4194304 := by
    obtain ⟨F, F', ⟨v, hv⟩, _⟩ := h
    exact hv.len
  have hbl := h.lt bs hb.1
  have hol := h.old.size
  have c0 : w.cell? ⟨bs, 0, none⟩ = some (.pointer (some ⟨a, 0, none⟩)) := cells_at hs 0
  have hop := Lib.hid (sd_open h)
  have hol1 := fun h0 => open_len (x := x) h0
  have hrl := recs_spec x.l
  have hrf := recs_few x.l
  have H := Lib.hid (And.intro h (And.intro hb (And.intro hs (And.intro hol1 (And.intro hrl (And.intro hrf hlen))))))
  clear h hb hs hol1 hrl hrf hlen
  go_enter Try.func9, Try.ntmps9
  go_wp2_with fail
  refine hop.out.mono ?_
  rintro e w1 ⟨hk1, h1⟩
  have hs1 := (hk1.2 bs H.out.2.1.1).trans H.out.2.2.1
  have c1 : w1.cell? ⟨bs, 1, none⟩ = some (.pointer (some ⟨a', 0, none⟩)) := cells_at hs1 1
  clear hs1 hop
  rcases h1 with ⟨ho, vb, v1, vs1, rfl, hD1, hv1, hR1, hN1, hvb⟩ | ⟨ho, rfl, hD1⟩
  · obtain ⟨A1, n1, rfl⟩ := own_slice_form hR1.row
    have hop := sd_xopen hD1
    have H1 := Lib.hid (And.intro hk1 (And.intro hD1 (And.intro hv1 (And.intro hR1 (And.intro hN1 (And.intro hvb ho))))))
    have Hop := Lib.hid hop
    have hsz1 := hk1.1
    clear hop hk1 hD1 hv1 hR1 hN1 hvb ho
    go_wp2_with fail
    refine Hop.out.mono ?_
    rintro e w2 ⟨hk2, h2⟩
    rcases h2 with ⟨_, yb, v2, vs2, rfl, hD2, hv2, hR2, hN2, hyb⟩ | ⟨ho2, _⟩
    · obtain ⟨A2, n2, rfl⟩ := own_slice_form hR2.row
      have hs2 := (hk2.2 bs (.inl H.out.2.1.1)).trans ((H1.out.1.2 bs H.out.2.1.1).trans H.out.2.2.1)
      have f2 : w2.frozen? ⟨bs, 2, none⟩ = false := by simp [World.frozen?, hs2, sideO]
      have f3 : w2.frozen? ⟨bs, 3, none⟩ = false := by simp [World.frozen?, hs2, sideO]
      have e2 : w2.cell? ⟨bs, 2, none⟩ = some vp := cells_at hs2 2
      have e3 : w2.cell? ⟨bs, 3, none⟩ = some yp := cells_at hs2 3
      have hR12 := H1.out.2.2.2.1.keptK hk2 (fun k hk => .inr (.inr (.inl hk))) fun u hu k hk => .inr (.inr (.inr ⟨u, hu, hk⟩))
      have hsz2 := hk2.1
      have H2 := Lib.hid (And.intro hk2 (And.intro hD2 (And.intro hv2 (And.intro hR2 (And.intro hN2 (And.intro hR12 hs2))))))
      clear hk2 hD2 hv2 hR2 hN2 hR12 hs2 Hop hyb
      go_wp2_with fail
      have hx3 : Ext (· = bs) w2 ((w2.setCell ⟨bs, 2, none⟩ (.pointer (some ⟨vb, 0, none⟩))).setCell ⟨bs, 3, none⟩ (.pointer (some ⟨yb, 0, none⟩))) := ((Ext.refl (· = bs) w2).setCell (a := ⟨bs, 2, none⟩) (.inl rfl) _).setCell (a := ⟨bs, 3, none⟩) (.inl rfl) _
      have hs3 : ((w2.setCell ⟨bs, 2, none⟩ (.pointer (some ⟨vb, 0, none⟩))).setCell ⟨bs, 3, none⟩ (.pointer (some ⟨yb, 0, none⟩))).heap[bs]? = some (sideO a a' (.pointer (some ⟨vb, 0, none⟩)) (.pointer (some ⟨yb, 0, none⟩))) := by
        rw [heap_setCell_self (heap_setCell_self H2.out.2.2.2.2.2.2)]; rfl
      generalize ((w2.setCell ⟨bs, 2, none⟩ (.pointer (some ⟨vb, 0, none⟩))).setCell ⟨bs, 3, none⟩ (.pointer (some ⟨yb, 0, none⟩))) = w3 at *
      have hR13 := H2.out.2.2.2.2.2.1.ext hx3 (fun k hk e => by omega) (own_from H2.out.2.2.2.2.2.1.row)
      have hR23 := H2.out.2.2.2.1.ext hx3 (fun k hk e => by omega) (own_from H2.out.2.2.2.1.row)
      have hll : (recs x.l).1.length ≤ 4194304 := Nat.le_trans H.out.2.2.2.2.1.2.2.2 H.out.2.2.2.2.2.2
      have HS := Lib.hid (same_walk hR13.byts hR23.byts (by omega) (by omega))
      have H3 := Lib.hid (And.intro hx3 (And.intro hs3 hR13))
      clear hx3 hs3 hR13 hR23
      go_wp2_with fail
      refine HS.out.mono ?_
      rintro e w4 ⟨he, hx4⟩
      obtain rfl : e = .returned (.bool true) := by simpa using he
      have hR14 := H3.out.2.2.ext hx4 (fun _ _ => id) (own_from H3.out.2.2.row)
      have HO := Lib.hid (owned_walk hR14.rows8 (by rw [hR14.len]; omega))
      have H4 := Lib.hid hx4
      clear hx4 hR14 HS
      go_wp2_with fail
      refine HO.out.mono ?_
      rintro e w5 ⟨rfl, hx5⟩
      have H5 := Lib.hid hx5
      clear hx5 HO
      go_wp2_with fail
      go_ret
      refine ⟨rfl, fun k => K k ∨ k = vb ∨ k = yb, fun k hk => .inl hk, ?_, ?_⟩
      · have hlt1 := H1.out.2.1.lt
        have hN1 := H1.out.2.2.2.2.1
        have hN2 := H2.out.2.2.2.2.1
        have d3 := H2.out.2.1.more (K' := fun k => (K k ∨ newB vb (.slice A1 (recs x.l).1.length n1) vs1 k) ∨ newB yb (.slice A2 (recs x.l).1.length n2) vs2 k) H3.out.1 (fun k hk => by subst hk; exact ⟨.inl (.inl H.out.2.1.1), H.out.2.1.2⟩) fun k hk => .inl hk
        have d5 := (d3.ext H4.out).more (K' := fun k => K k ∨ k = vb ∨ k = yb) H5.out (fun k ⟨u, hu, hk⟩ => ⟨.inl (.inr (.inr (.inr ⟨u, hu, hk⟩))), by have := hN1 k (.inr (.inr ⟨u, hu, hk⟩)); omega⟩) fun k hk => .inl (by
          rcases hk with hk | hk | hk
          · exact .inl (.inl hk)
          · exact .inl (.inr (.inl hk))
          · exact .inr (.inl hk))
        have hvb := H1.out.2.2.2.2.2.1
        have n1v := hN1 vb (.inl rfl)
        have n2y := hN2 yb (.inl rfl)
        have kv : w5.heap[vb]? = some (voteO a (recs x.l).1.length (recs x.l).2 false) :=
          H5.out.heap (H4.out.heap (H3.out.1.heap ((H2.out.1.2 vb (.inr (.inl rfl))).trans H1.out.2.2.1) (by omega)) id) fun ⟨u, hu, hk⟩ => hvb u hu hk
        have ky : w5.heap[yb]? = some (docO a' (recs x.l).1.length false) :=
          H5.out.heap (H4.out.heap (H3.out.1.heap H2.out.2.2.1 (by omega)) id) fun ⟨u, hu, hk⟩ => by
            have := hlt1 yb (.inr (.inr (.inr ⟨u, hu, hk⟩)))
            omega
        have ks : w5.heap[bs]? = some (sideO a a' (.pointer (some ⟨vb, 0, none⟩)) (.pointer (some ⟨yb, 0, none⟩))) :=
          H5.out.heap (H4.out.heap H3.out.2.1 id) fun ⟨u, hu, hk⟩ => by
            have := hN1 bs (.inr (.inr ⟨u, hu, hk⟩))
            omega
        refine ⟨d5, ⟨.inl H.out.2.1.1, H.out.2.1.2⟩, _, _, ks, .inr ⟨vb, yb, _, _, _, rfl, rfl, kv, ky, ⟨.inr (.inl rfl), by omega⟩, ⟨.inr (.inr rfl), by omega⟩, H.out.2.2.2.2.2.1, ?_, fun _ => (H.out.2.2.2.1 H1.out.2.2.2.2.2.2).symm⟩⟩
        have := H.out.2.2.2.2.1.1
        have := H.out.2.2.2.2.2.2
        omega
      · have hlt := H.out.1.lt
        have hN1 := H1.out.2.2.2.2.1
        refine ((((H1.out.1.mono fun k hk => hk.1).trans (H2.out.1.mono fun k hk => .inl hk.1)).trans (H3.out.1.kept fun k hk => ⟨by have := hlt k hk.1; omega, hk.2⟩)).trans (H4.out.kept fun k hk => ⟨by have := hlt k hk.1; have := H3.out.1.size; omega, id⟩)).trans (H5.out.kept fun k hk => ⟨by have := hlt k hk.1; have := H3.out.1.size; have := H4.out.size; omega, fun ⟨u, hu, he⟩ => ?_⟩)
        have := hN1 k (.inr (.inr ⟨u, hu, he⟩))
        have := hlt k hk.1
        omega
    · exact absurd H1.out.2.2.2.2.2.2 ho2
  · have hop := sd_xopen hD1
    have Hop := Lib.hid hop
    have H1 := Lib.hid (And.intro hk1 ho)
    have hsz1 := hk1.1
    clear hop hk1 hD1 ho
    go_wp2_with fail
    refine Hop.out.mono ?_
    rintro e w2 ⟨hk2, h2⟩
    rcases h2 with ⟨ho2, _⟩ | ⟨_, rfl, hD2⟩
    · exact absurd ho2 H1.out.2
    · have hs2 := (hk2.2 bs H.out.2.1.1).trans ((H1.out.1.2 bs H.out.2.1.1).trans H.out.2.2.1)
      have f2 : w2.frozen? ⟨bs, 2, none⟩ = false := by simp [World.frozen?, hs2, sideO]
      have f3 : w2.frozen? ⟨bs, 3, none⟩ = false := by simp [World.frozen?, hs2, sideO]
      have e2 : w2.cell? ⟨bs, 2, none⟩ = some vp := cells_at hs2 2
      have e3 : w2.cell? ⟨bs, 3, none⟩ = some yp := cells_at hs2 3
      have hsz2 := hk2.1
      have H2 := Lib.hid (And.intro hk2 (And.intro hD2 hs2))
      clear hk2 hD2 hs2 Hop
      go_wp2_with fail
      have hx3 : Ext (· = bs) w2 ((w2.setCell ⟨bs, 2, none⟩ (.pointer none)).setCell ⟨bs, 3, none⟩ (.pointer none)) := ((Ext.refl (· = bs) w2).setCell (a := ⟨bs, 2, none⟩) (.inl rfl) _).setCell (a := ⟨bs, 3, none⟩) (.inl rfl) _
      have hs3 : ((w2.setCell ⟨bs, 2, none⟩ (.pointer none)).setCell ⟨bs, 3, none⟩ (.pointer none)).heap[bs]? = some (sideO a a' (.pointer none) (.pointer none)) := by
        rw [heap_setCell_self (heap_setCell_self H2.out.2.2)]; rfl
      generalize ((w2.setCell ⟨bs, 2, none⟩ (.pointer none)).setCell ⟨bs, 3, none⟩ (.pointer none)) = w3 at *
      have HS := Lib.hid (same_walk (byts_nil w3) (byts_nil w3) (by simp) (by simp))
      have H3 := Lib.hid (And.intro hx3 hs3)
      clear hx3 hs3
      go_wp2_with fail
      refine HS.out.mono ?_
      rintro e w4 ⟨he, hx4⟩
      obtain rfl : e = .returned (.bool true) := by simpa using he
      have HO := Lib.hid (owned_walk (rows8_nil w4) (by simp))
      have H4 := Lib.hid hx4
      clear hx4 HS
      go_wp2_with fail
      refine HO.out.mono ?_
      rintro e w5 ⟨rfl, hx5⟩
      have H5 := Lib.hid (show Ext (fun _ => False) w4 w5 from hx5.mono fun k _ ⟨u, hu, _⟩ => by simp at hu)
      clear hx5 HO
      go_wp2_with fail
      go_ret
      have hlt := H.out.1.lt
      refine ⟨rfl, K, fun k hk => hk, ⟨?_, H.out.2.1, _, _, H5.out.heap (H4.out.heap H3.out.2 id) id, .inl ⟨rfl, rfl⟩⟩, ?_⟩
      · exact ((H2.out.2.1.more H3.out.1 (fun k hk => by subst hk; exact H.out.2.1) fun k hk => .inl hk).ext H4.out).ext H5.out
      · exact ((((H1.out.1.mono fun k hk => hk.1).trans (H2.out.1.mono fun k hk => hk.1)).trans (H3.out.1.kept fun k hk => ⟨by have := hlt k hk.1; omega, hk.2⟩)).trans (H4.out.kept fun k hk => ⟨by have := hlt k hk.1; have := H3.out.1.size; omega, id⟩)).trans (H5.out.kept fun k hk => ⟨by have := hlt k hk.1; have := H3.out.1.size; have := H4.out.size; omega, id⟩)
end Go.Proofs.Ytebcpacenoedfaa
