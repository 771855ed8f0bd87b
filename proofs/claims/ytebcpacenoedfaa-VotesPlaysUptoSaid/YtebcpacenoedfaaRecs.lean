/- Records read from bytes; no condition. -/
import Derived.Test.YtebcpacenoedfaaDTake
import Derived.Test.YtebcpacenoedfaaOwned
import Derived.WalkMore
namespace Go.Proofs.Ytebcpacenoedfaa
set_option linter.unusedVariables false
set_option linter.unusedSimpArgs false
open Go.RowKit

theorem byt_from {w : World} {g : Nat} {l : Bs} (hcell : ∀ (j : Nat) (u : UInt8), l[j]? = some u → w.cell? ⟨g, 0 + j, none⟩ = some (.int .u8 u.toNat)) (a : Nat) (ha : a ≤ l.length) (c' : Nat) (hc : l.length - a ≤ c') (o' : Nat) (ho : a < l.length → o' = a) :
    Byt (fun _ => True) w (.slice (some ⟨g, o', none⟩) (l.length - a) c') (l.drop a) := by
  refine ⟨_, c', by rw [List.length_drop], by rw [List.length_drop]; exact hc, fun hne => ⟨_, rfl, trivial, fun i u hu => ?_⟩⟩
  have hi : i < l.length - a := by
    have := (List.getElem?_eq_some_iff.1 hu).1
    rw [List.length_drop] at this
    exact this
  rw [List.getElem?_drop] at hu
  rw [ho (by omega)]
  have ha : (⟨g, a, none⟩ : Addr).add i = ⟨g, 0 + (a + i), none⟩ := by unfold Addr.add; split <;> simp_all
  rw [ha]
  exact hcell _ _ hu
theorem info24b : (Try.prog.info? 36).map (fun i => (i.zero, i.size, i.bytes)) = some (some (.slice none 0 0), 1, 24) := by kernel_rfl
/-- Where reading stands: what was read, and what is still there. -/
def Mid (l : Bs) (done : List Bs) (a : Nat) : Prop := a ≤ l.length ∧ recs l = (done ++ (recs (l.drop a)).1, a + (recs (l.drop a)).2) ∧ done.length ≤ a
theorem Mid.start (l : Bs) : Mid l [] 0 := by
  refine ⟨Nat.zero_le _, ?_, Nat.le_refl _⟩
  rw [List.drop_zero]
  simp
theorem Mid.next {l : Bs} {done : List Bs} {a : Nat} (h : Mid l done a) (h0 : (takeR (l.drop a)).2.2 = 0) : Mid l (done ++ [(takeR (l.drop a)).1]) (a + (takeR (l.drop a)).2.1) ∧ 4 ≤ (takeR (l.drop a)).2.1 := by
  obtain ⟨h1, h2, h3⟩ := h
  obtain ⟨k1, k2, k3, k4, _, _⟩ := takeR_ok h0
  rw [List.length_drop] at k3 k4
  refine ⟨⟨by omega, ?_, by rw [List.length_append, List.length_singleton]; omega⟩, by omega⟩
  rw [h2, recs_yes h0, List.drop_drop]
  simp [Nat.add_assoc]
theorem Mid.last {l : Bs} {done : List Bs} {a : Nat} (h : Mid l done a) (h0 : (takeR (l.drop a)).2.2 ≠ 0) : recs l = (done, a) := by
  obtain ⟨h1, h2, h3⟩ := h
  rw [h2, recs_no h0]
  simp
def RecPost (w : World) (l : Bs) (e : Ending) (w' : World) : Prop := ∃ v' vs, e = .returned (.tuple #[v', .int .i64 ((recs l).2 : Nat)]) ∧ OwnRows w.heap.size w' v' vs (recs l).1 ∧ Ext (fun _ => False) w w'
theorem OwnB.byt0 {w : World} {v : Value} {l : Bs} (h : OwnB w v l) : l = [] ∧ v = .slice none 0 0 ∨ ∃ g c, v = .slice (some ⟨g, 0, none⟩) l.length c ∧ l.length ≤ c ∧ ∀ (j : Nat) (u : UInt8), l[j]? = some u → w.cell? ⟨g, 0 + j, none⟩ = some (.int .u8 u.toNat) := by
  rcases h with ⟨rfl, rfl⟩ | ⟨g, c, cells, fr, rfl, hg, h1, h2, h3, h4, h5⟩
  · exact .inl ⟨rfl, rfl⟩
  · refine .inr ⟨g, c, rfl, h1, fun j u hu => ?_⟩
    rw [cells_at hg, Nat.zero_add]
    exact h5 j u hu

theorem takeR_num (l : Bs) : (takeR l).2.2 = 0 ∨ (takeR l).2.2 = 2 ∨ (takeR l).2.2 = 3 := by
  unfold takeR
  split
  · exact .inr (.inr rfl)
  · split
    · exact .inr (.inl rfl)
    · split
      · exact .inr (.inr rfl)
      · exact .inl rfl
def TBAny (w : World) (p : Bs) (u : Nat) (k : Int) (e : Ending) (w' : World) : Prop := ∃ v', e = .returned (.tuple #[v', .int .i64 (u : Nat), .int .i64 k]) ∧ FreshB w p v' w'
theorem TBPost_ok {w : World} {l : Bs} (h : (takeR l).2.2 = 0) : TBPost w l = TBAny w (takeR l).1 (takeR l).2.1 0 := by
  funext e w'
  simp only [TBPost, TBAny, h]
theorem takeR_bad {l : Bs} (h : (takeR l).2.2 ≠ 0) : ∃ k : Int, takeR l = ([], 0, k) := by
  unfold takeR at *
  by_cases h1 : l.length < 4
  · rw [if_pos h1]; exact ⟨3, rfl⟩
  · rw [if_neg h1] at h ⊢
    by_cases h2 : 65536 < be4 l
    · rw [if_pos h2]; exact ⟨2, rfl⟩
    · rw [if_neg h2] at h ⊢
      by_cases h3 : l.length < 4 + be4 l
      · rw [if_pos h3]; exact ⟨3, rfl⟩
      · rw [if_neg h3] at h
        exact absurd rfl h
theorem TBPost_bad {l : Bs} (h : (takeR l).2.2 ≠ 0) : ∃ k : Int, takeR l = ([], 0, k) := takeR_bad h
set_option maxRecDepth 100000 in
set_option maxHeartbeats 1000000 in
theorem records_walk {w : World} {v : Value} {l : Bs} (hb : OwnB w v l) (hl : l.length ≤ 4194304) : Calls Try.prog 30 #[v] w (RecPost w l) := by
  rcases hb.byt0 with ⟨rfl, rfl⟩ | ⟨g, c, rfl, hcap, hcell⟩
  · have HT := Lib.hid (takeblob_walk (w := w) (l := []) (D := fun _ => True) (v := .slice none 0 0) ⟨none, 0, rfl, Nat.le_refl _, fun h => absurd rfl h⟩ (by simp))
    have hr : recs [] = ([], 0) := recs_no takeR_nil
    have ht : takeR [] = ([], 0, 3) := rfl
    have Hr := Lib.hid (And.intro hr ht)
    clear hb hr ht
    go_enter Try.func30, Try.ntmps30
    go_wp2_with fail
    go_step3
    go_wp2_with fail
    go_step3
    go_wp2_with fail
    go_loopw [2, 3] (fun out i W => out = .slice none 0 0 ∧ i = .int .i64 0 ∧ W = w) (fun _ i _ => 0)
    case atStart => exact ⟨rfl, rfl, rfl⟩
    case round =>
      obtain ⟨rfl, rfl, rfl⟩ := hrel
      go_wp2_with fail
      refine HT.out.mono ?_
      rintro e w2 ⟨v2, rfl, h2⟩
      rw [Hr.out.2] at h2 ⊢
      have H2 := Lib.hid h2.ext
      clear h2
      go_wp2_with fail
      rw [Exit.noGoto_ret]
      refine bodyPost_ret (results_tmp2 rfl _ _ _) rfl ?_
      exact ⟨_, [], by rw [Hr.out.1]; rfl, by rw [Hr.out.1]; exact OwnRows.nil _ _, H2.out⟩
  · have Hcell := Lib.hid hcell
    clear hb hcell
    go_enter Try.func30, Try.ntmps30
    go_wp2_with fail
    go_step3
    go_wp2_with fail
    go_step3
    go_wp2_with fail
    go_loopw [2, 3] (fun out i W => ∃ (a : Nat) (vs : List Value) (done : List Bs), i = .int .i64 a ∧ Mid l done a ∧ OwnRows w.heap.size W out vs done ∧ Ext (fun _ => False) w W) (fun _ i _ => l.length + 1 - (intOf i).toNat)
    case atStart => exact ⟨0, [], [], rfl, Mid.start l, OwnRows.nil _ _, Ext.refl _ _⟩
    case round =>
      obtain ⟨a, vs, done, rfl, hM, hR, hx⟩ := hrel
      have hal := hM.1
      have hdl := hM.2.2
      have hac : a ≤ c := by omega
      have hai : (a : Int) ≤ 4194304 := by omega
      have hcell := fun (j : Nat) (u : UInt8) (hu : l[j]? = some u) => cell_same (Hcell.out j u hu) hx
      obtain ⟨RA, Rc, hform⟩ := own_slice_form hR.row
      subst hform
      by_cases hca : c = a
      · have hle : l.length - a = 0 := by omega
        have hla : l.length = a := by omega
        have HT := Lib.hid (takeblob_walk (byt_from hcell a hal 0 (by omega) 0 (by omega)) (by rw [List.length_drop]; omega))
        have hd : l.drop a = [] := List.drop_of_length_le (by omega)
        have hr := hM.last (by rw [hd]; exact takeR_nil)
        have ht : takeR (l.drop a) = ([], 0, 3) := by rw [hd]; rfl
        have Hr := Lib.hid (And.intro hr (And.intro ht (And.intro hR hx)))
        rw [hle] at HT
        clear hcell hR hx hr ht hd hM
        subst hca
        go_wp2_with fail
        first | refine HT.out.mono ?_ | (rw [hla, Nat.sub_self]; refine HT.out.mono ?_)
        rintro e w2 ⟨v2, rfl, h2⟩
        rw [Hr.out.2.1] at h2 ⊢
        have H2 := Lib.hid h2.ext
        clear h2
        go_wp2_with fail
        rw [Exit.noGoto_ret]
        refine bodyPost_ret (results_tmp2 rfl _ _ _) rfl ?_
        refine ⟨_, vs, by rw [Hr.out.1]; rfl, by rw [Hr.out.1]; exact Hr.out.2.2.1.ext H2.out (fun _ _ => id) (fun k hk => own_from Hr.out.2.2.1.row k hk), Hr.out.2.2.2.trans H2.out⟩
      · have hac2 : a < c := by omega
        have hac3 : ¬ c - a = 0 := by omega
        have hac4 : ¬ c ≤ a := by omega
        have HT := Lib.hid (takeblob_walk (byt_from hcell a hal (c - a) (by omega) a (fun _ => rfl)) (by rw [List.length_drop]; omega))
        have HM := Lib.hid (And.intro hM (And.intro hR hx))
        clear hcell hR hx hM
        by_cases h0 : (takeR (l.drop a)).2.2 = 0
        · have hn := HM.out.1.next h0
          have HN := Lib.hid hn
          rw [TBPost_ok h0] at HT
          have hu4 := hn.2
          have hu5 := hn.1.1
          clear hn
          generalize (takeR (l.drop a)).2.1 = used at *
          generalize (takeR (l.drop a)).1 = pl at *
          clear h0
          go_wp2_with fail
          refine HT.out.mono ?_
          rintro e w2 ⟨v2, rfl, h2⟩
          obtain ⟨B2, d2, hf2, _, _⟩ := h2.own.formP
          subst hf2
          have hx2 := HM.out.2.2.trans h2.ext
          have hsz := HM.out.2.2.size
          have hsz2 := h2.ext.size
          have hR2 := HM.out.2.1.ext h2.ext (fun _ _ => id) (fun k hk => own_from HM.out.2.1.row k hk)
          have H2 := Lib.hid (And.intro h2 (And.intro hx2 hR2))
          clear h2 hx2 hR2
          go_wp2_with (at_builtin; refine Hid.out ?_)
          refine Lib.hid ?_
          have hxa := (Ext.refl (fun _ => False) w2).alloc (Obj.cells #[Value.slice B2 pl.length d2] 36)
          refine wpList_append_lit rfl _ _ 33 rfl Try.underlying33 info24b rfl (by decide) (v := .slice RA done.length Rc) rfl (own_ext H2.out.2.2.row hxa fun _ _ => id) (by simp; omega) rfl (heap_alloc_self _ _) rfl (by simp [Value.oneCell']) (by decide) (by omega) (by omega) ?_
          intro g3 c3 w3 ho3 hx3 hg3 hl3
          have hx23 : Ext (fun k => (Value.slice RA done.length Rc).ownBlock = some k) w2 w3 := (hxa.mono fun _ _ => False.elim).trans hx3
          have hb3 := (H2.out.1.own.ext hxa fun _ _ => id).ext hx3 fun k hk e => by
            have h1 := own_below HM.out.2.1.row k e
            have h2 := H2.out.1.new k hk
            omega
          have hx13 : Ext (fun k => (Value.slice RA done.length Rc).ownBlock = some k) wr w3 := (H2.out.1.ext.mono fun _ _ => False.elim).trans hx23
          have hR3 := HM.out.2.1.snoc hx13 ho3 hb3 (fun k hk => H2.out.1.new k hk) hsz
          have hxx : Ext (fun _ => False) w w3 := H2.out.2.1.trans' hx23 fun b hb => .inr (own_from HM.out.2.1.row b hb)
          have H3 := Lib.hid (And.intro hR3 hxx)
          clear hR3 hxx hx3 hg3 ho3 hx23 hx13 hb3 hxa
          go_wp2_with fail
          refine ⟨⟨a + used, vs ++ [Value.slice B2 pl.length d2], done ++ [pl], by go_num, HN.out.1, H3.out.1, H3.out.2⟩, by simp [intOf]; omega⟩
        · have hr := HM.out.1.last h0
          obtain ⟨k, hk⟩ := TBPost_bad h0
          rw [show TBPost wr (l.drop a) = TBAny wr [] 0 k from by funext e w'; simp only [TBPost, TBAny, hk]] at HT
          have Hr := Lib.hid hr
          have hkk : k = 2 ∨ k = 3 := by
            have h2 : (takeR (l.drop a)).2.2 = k := by rw [hk]
            have := takeR_num (l.drop a)
            rw [h2] at this
            rw [h2] at h0
            omega
          clear hr h0 hk
          have hk0 : ((k : Int) != 0) = true := by rcases hkk with rfl | rfl <;> rfl
          have hk1 : (k == 0) = false := by rcases hkk with rfl | rfl <;> rfl
          clear hkk
          go_wp2_with fail
          refine HT.out.mono ?_
          rintro e w2 ⟨v2, rfl, h2⟩
          have H2 := Lib.hid h2
          clear h2
          go_wp2_with fail
          rw [Exit.noGoto_ret]
          refine bodyPost_ret (results_tmp2 rfl _ _ _) rfl ?_
          refine ⟨_, vs, by rw [Hr.out]; rfl, by rw [Hr.out]; exact HM.out.2.1.ext H2.out.ext (fun _ _ => id) (fun k hk => own_from HM.out.2.1.row k hk), HM.out.2.2.trans H2.out.ext⟩
set_option maxRecDepth 100000 in
set_option maxHeartbeats 1000000 in
theorem drecords_walk {w : World} {v : Value} {l : Bs} (hb : OwnB w v l) (hl : l.length ≤ 4194304) : Calls Try.prog 37 #[v] w (RecPost w l) := by
  rcases hb.byt0 with ⟨rfl, rfl⟩ | ⟨g, c, rfl, hcap, hcell⟩
  · have HT := Lib.hid (dtakeblob_walk (w := w) (l := []) (D := fun _ => True) (v := .slice none 0 0) ⟨none, 0, rfl, Nat.le_refl _, fun h => absurd rfl h⟩ (by simp))
    have hr : recs [] = ([], 0) := recs_no takeR_nil
    have ht : takeR [] = ([], 0, 3) := rfl
    have Hr := Lib.hid (And.intro hr ht)
    clear hb hr ht
    go_enter Try.func37, Try.ntmps37
    go_wp2_with fail
    go_loopw [4, 5] (fun out i W => out = .slice none 0 0 ∧ i = .int .i64 0 ∧ W = w) (fun _ i _ => 0)
    case atStart => exact ⟨rfl, rfl, rfl⟩
    case round =>
      obtain ⟨rfl, rfl, rfl⟩ := hrel
      go_wp2_with fail
      refine HT.out.mono ?_
      rintro e w2 ⟨v2, rfl, h2⟩
      rw [Hr.out.2] at h2 ⊢
      have H2 := Lib.hid h2.ext
      clear h2
      go_wp2_with fail
      refine bodyPost_ret (results_tmp2 rfl _ _ _) rfl ?_
      exact ⟨_, [], by rw [Hr.out.1]; rfl, by rw [Hr.out.1]; exact OwnRows.nil _ _, H2.out⟩
  · have Hcell := Lib.hid hcell
    clear hb hcell
    go_enter Try.func37, Try.ntmps37
    go_wp2_with fail
    go_loopw [4, 5] (fun out i W => ∃ (a : Nat) (vs : List Value) (done : List Bs), i = .int .i64 a ∧ Mid l done a ∧ OwnRows w.heap.size W out vs done ∧ Ext (fun _ => False) w W) (fun _ i _ => l.length + 1 - (intOf i).toNat)
    case atStart => exact ⟨0, [], [], rfl, Mid.start l, OwnRows.nil _ _, Ext.refl _ _⟩
    case round =>
      obtain ⟨a, vs, done, rfl, hM, hR, hx⟩ := hrel
      have hal := hM.1
      have hdl := hM.2.2
      have hac : a ≤ c := by omega
      have hai : (a : Int) ≤ 4194304 := by omega
      have hcell := fun (j : Nat) (u : UInt8) (hu : l[j]? = some u) => cell_same (Hcell.out j u hu) hx
      obtain ⟨RA, Rc, hform⟩ := own_slice_form hR.row
      subst hform
      by_cases hca : c = a
      · have hle : l.length - a = 0 := by omega
        have hla : l.length = a := by omega
        have HT := Lib.hid (dtakeblob_walk (byt_from hcell a hal 0 (by omega) 0 (by omega)) (by rw [List.length_drop]; omega))
        have hd : l.drop a = [] := List.drop_of_length_le (by omega)
        have hr := hM.last (by rw [hd]; exact takeR_nil)
        have ht : takeR (l.drop a) = ([], 0, 3) := by rw [hd]; rfl
        have Hr := Lib.hid (And.intro hr (And.intro ht (And.intro hR hx)))
        rw [hle] at HT
        clear hcell hR hx hr ht hd hM
        subst hca
        go_wp2_with fail
        first | refine HT.out.mono ?_ | (rw [hla, Nat.sub_self]; refine HT.out.mono ?_)
        rintro e w2 ⟨v2, rfl, h2⟩
        rw [Hr.out.2.1] at h2 ⊢
        have H2 := Lib.hid h2.ext
        clear h2
        go_wp2_with fail
        refine bodyPost_ret (results_tmp2 rfl _ _ _) rfl ?_
        refine ⟨_, vs, by rw [Hr.out.1]; rfl, by rw [Hr.out.1]; exact Hr.out.2.2.1.ext H2.out (fun _ _ => id) (fun k hk => own_from Hr.out.2.2.1.row k hk), Hr.out.2.2.2.trans H2.out⟩
      · have hac2 : a < c := by omega
        have hac3 : ¬ c - a = 0 := by omega
        have hac4 : ¬ c ≤ a := by omega
        have HT := Lib.hid (dtakeblob_walk (byt_from hcell a hal (c - a) (by omega) a (fun _ => rfl)) (by rw [List.length_drop]; omega))
        have HM := Lib.hid (And.intro hM (And.intro hR hx))
        clear hcell hR hx hM
        by_cases h0 : (takeR (l.drop a)).2.2 = 0
        · have hn := HM.out.1.next h0
          have HN := Lib.hid hn
          rw [TBPost_ok h0] at HT
          have hu4 := hn.2
          have hu5 := hn.1.1
          clear hn
          generalize (takeR (l.drop a)).2.1 = used at *
          generalize (takeR (l.drop a)).1 = pl at *
          clear h0
          go_wp2_with fail
          refine HT.out.mono ?_
          rintro e w2 ⟨v2, rfl, h2⟩
          obtain ⟨B2, d2, hf2, _, _⟩ := h2.own.formP
          subst hf2
          have hx2 := HM.out.2.2.trans h2.ext
          have hsz := HM.out.2.2.size
          have hsz2 := h2.ext.size
          have hR2 := HM.out.2.1.ext h2.ext (fun _ _ => id) (fun k hk => own_from HM.out.2.1.row k hk)
          have H2 := Lib.hid (And.intro h2 (And.intro hx2 hR2))
          clear h2 hx2 hR2
          go_wp2_with (at_builtin; refine Hid.out ?_)
          refine Lib.hid ?_
          have hxa := (Ext.refl (fun _ => False) w2).alloc (Obj.cells #[Value.slice B2 pl.length d2] 36)
          refine wpList_append_lit rfl _ _ 33 rfl Try.underlying33 info24b rfl (by decide) (v := .slice RA done.length Rc) rfl (own_ext H2.out.2.2.row hxa fun _ _ => id) (by simp; omega) rfl (heap_alloc_self _ _) rfl (by simp [Value.oneCell']) (by decide) (by omega) (by omega) ?_
          intro g3 c3 w3 ho3 hx3 hg3 hl3
          have hx23 : Ext (fun k => (Value.slice RA done.length Rc).ownBlock = some k) w2 w3 := (hxa.mono fun _ _ => False.elim).trans hx3
          have hb3 := (H2.out.1.own.ext hxa fun _ _ => id).ext hx3 fun k hk e => by
            have h1 := own_below HM.out.2.1.row k e
            have h2 := H2.out.1.new k hk
            omega
          have hx13 : Ext (fun k => (Value.slice RA done.length Rc).ownBlock = some k) wr w3 := (H2.out.1.ext.mono fun _ _ => False.elim).trans hx23
          have hR3 := HM.out.2.1.snoc hx13 ho3 hb3 (fun k hk => H2.out.1.new k hk) hsz
          have hxx : Ext (fun _ => False) w w3 := H2.out.2.1.trans' hx23 fun b hb => .inr (own_from HM.out.2.1.row b hb)
          have H3 := Lib.hid (And.intro hR3 hxx)
          clear hR3 hxx hx3 hg3 ho3 hx23 hx13 hb3 hxa
          go_wp2_with fail
          refine ⟨⟨a + used, vs ++ [Value.slice B2 pl.length d2], done ++ [pl], by go_num, HN.out.1, H3.out.1, H3.out.2⟩, by simp [intOf]; omega⟩
        · have hr := HM.out.1.last h0
          obtain ⟨k, hk⟩ := TBPost_bad h0
          rw [show TBPost wr (l.drop a) = TBAny wr [] 0 k from by funext e w'; simp only [TBPost, TBAny, hk]] at HT
          have Hr := Lib.hid hr
          have hkk : k = 2 ∨ k = 3 := by
            have h2 : (takeR (l.drop a)).2.2 = k := by rw [hk]
            have := takeR_num (l.drop a)
            rw [h2] at this
            rw [h2] at h0
            omega
          clear hr h0 hk
          have hk0 : ((k : Int) != 0) = true := by rcases hkk with rfl | rfl <;> rfl
          have hk1 : (k == 0) = false := by rcases hkk with rfl | rfl <;> rfl
          clear hkk
          go_wp2_with fail
          refine HT.out.mono ?_
          rintro e w2 ⟨v2, rfl, h2⟩
          have H2 := Lib.hid h2
          clear h2
          go_wp2_with fail
          refine bodyPost_ret (results_tmp2 rfl _ _ _) rfl ?_
          refine ⟨_, vs, by rw [Hr.out]; rfl, by rw [Hr.out]; exact HM.out.2.1.ext H2.out.ext (fun _ _ => id) (fun k hk => own_from HM.out.2.1.row k hk), HM.out.2.2.trans H2.out.ext⟩
end Go.Proofs.Ytebcpacenoedfaa
