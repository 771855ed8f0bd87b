/- Rows of blobs taken from bytes: the program's and the document's; no condition. -/
import Derived.Test.YtcedpdjjjfdbiaaDTake
import Derived.Test.YtcedpdjjjfdbiaaOwned
import Derived.WalkMore
namespace Go.Proofs.Ytcedpdjjjfdbiaa
set_option linter.unusedVariables false
set_option linter.unusedSimpArgs false
open Go.RowKit

theorem byt_from {w : World} {g : Nat} {l : Bs} (hcell : ∀ (j : Nat) (u : UInt8), l[j]? = some u → w.cell? ⟨g, 0 + j, none⟩ = some (.int .u8 u.toNat)) (a : Nat) (ha : a ≤ l.length) (c' : Nat) (hc : l.length - a ≤ c') (o' : Nat) (ho : a < l.length → o' = a) :
    Byt (fun _ => True) w (.slice (some ⟨g, o', none⟩) (l.length - a) c') (l.drop a) := by
  refine ⟨_, c', by rw [List.length_drop], by rw [List.length_drop]; exact hc, fun hne => ⟨_, rfl, trivial, fun i u hu => ?_⟩⟩
  have hi : i < l.length - a := by
    have := (List.getElem?_eq_some_iff.1 hu).1
    rw [List.length_drop] at this
    exact this
  rw [List.getElem?_drop] at hu
  rw [ho (by omega)]
  have ha : (⟨g, a, none⟩ : Addr).add i = ⟨g, 0 + (a + i), none⟩ := by unfold Addr.add; split <;> simp_all
  rw [ha]
  exact hcell _ _ hu
theorem info24b : (Try.prog.info? 33).map (fun i => (i.zero, i.size, i.bytes)) = some (some (.slice none 0 0), 1, 24) := by kernel_rfl
theorem OwnB.byt0 {w : World} {v : Value} {l : Bs} (h : OwnB w v l) : l = [] ∧ v = .slice none 0 0 ∨ ∃ g c, v = .slice (some ⟨g, 0, none⟩) l.length c ∧ l.length ≤ c ∧ ∀ (j : Nat) (u : UInt8), l[j]? = some u → w.cell? ⟨g, 0 + j, none⟩ = some (.int .u8 u.toNat) := by
  rcases h with ⟨rfl, rfl⟩ | ⟨g, c, cells, fr, rfl, hg, h1, h2, h3, h4, h5⟩
  · exact .inl ⟨rfl, rfl⟩
  · refine .inr ⟨g, c, rfl, h1, fun j u hu => ?_⟩
    rw [cells_at hg, Nat.zero_add]
    exact h5 j u hu

theorem takeR_num (l : Bs) : (takeR l).2.2 = 0 ∨ (takeR l).2.2 = 2 ∨ (takeR l).2.2 = 3 := by
  unfold takeR
  split
  · exact .inr (.inr rfl)
  · split
    · exact .inr (.inl rfl)
    · split
      · exact .inr (.inr rfl)
      · exact .inl rfl
def TBAny (w : World) (p : Bs) (u : Nat) (k : Int) (e : Ending) (w' : World) : Prop := ∃ v', e = .returned (.tuple #[v', .int .i64 (u : Nat), .int .i64 k]) ∧ FreshB w p v' w'
theorem TBPost_ok {w : World} {l : Bs} (h : (takeR l).2.2 = 0) : TBPost w l = TBAny w (takeR l).1 (takeR l).2.1 0 := by
  funext e w'
  simp only [TBPost, TBAny, h]
/-- So many blobs of bytes, from a place on: those, where they end, the answer's number. -/
def takeG : Nat → Bs → Nat → List Bs → List Bs × Nat × Int
  | 0, _, a, done => (done, a, 0)
  | n + 1, l, a, done => if (takeR (l.drop a)).2.2 = 0 then takeG n l (a + (takeR (l.drop a)).2.1) (done ++ [(takeR (l.drop a)).1]) else ([], 0, (takeR (l.drop a)).2.2)
def takeRow (l : Bs) : List Bs × Nat × Int := if l.length < 4 then ([], 0, 3) else if 4096 < be4 l then ([], 0, 2) else takeG (be4 l) l 4 []
def TRPost (w : World) (l : Bs) (e : Ending) (w' : World) : Prop := ∃ v' vs, e = .returned (.tuple #[v', .int .i64 ((takeRow l).2.1 : Nat), .int .i64 (takeRow l).2.2]) ∧ OwnRows w.heap.size w' v' vs (takeRow l).1 ∧ Ext (fun _ => False) w w'
theorem tr_bad {w w' : World} {l : Bs} {k : Int} (h : takeRow l = ([], 0, k)) (hx : Ext (fun _ => False) w w') : TRPost w l (.returned (.tuple #[.slice none 0 0, .int .i64 0, .int .i64 k])) w' :=
  ⟨_, [], by rw [h]; rfl, by rw [h]; exact OwnRows.nil _ _, hx⟩
/-- Where reading stands. -/
def MidR (l : Bs) (k : Nat) (done : List Bs) (a : Nat) : Prop := a ≤ l.length ∧ k ≤ be4 l ∧ takeRow l = takeG (be4 l - k) l a done ∧ done.length = k
theorem MidR.start {l : Bs} (h : ¬ l.length < 4) (h2 : ¬ 4096 < be4 l) : MidR l 0 [] 4 := ⟨by omega, by omega, by rw [takeRow, if_neg h, if_neg h2, Nat.sub_zero], rfl⟩
theorem MidR.next {l : Bs} {k : Nat} {done : List Bs} {a : Nat} (h : MidR l k done a) (hk : k < be4 l) (h0 : (takeR (l.drop a)).2.2 = 0) : MidR l (k + 1) (done ++ [(takeR (l.drop a)).1]) (a + (takeR (l.drop a)).2.1) ∧ a + (takeR (l.drop a)).2.1 ≤ l.length := by
  obtain ⟨h1, h2, h3, h4⟩ := h
  obtain ⟨k1, k2, k3, k4, _, _⟩ := takeR_ok h0
  rw [List.length_drop] at k3 k4
  have he : be4 l - k = (be4 l - (k + 1)) + 1 := by omega
  refine ⟨⟨by omega, by omega, ?_, by rw [List.length_append, h4]; rfl⟩, by omega⟩
  rw [h3, he, takeG, if_pos h0]
theorem MidR.stop {l : Bs} {k : Nat} {done : List Bs} {a : Nat} (h : MidR l k done a) (hk : k < be4 l) (h0 : (takeR (l.drop a)).2.2 ≠ 0) : takeRow l = ([], 0, (takeR (l.drop a)).2.2) := by
  obtain ⟨h1, h2, h3, h4⟩ := h
  have he : be4 l - k = (be4 l - (k + 1)) + 1 := by omega
  rw [h3, he, takeG, if_neg h0]
theorem MidR.done {l : Bs} {k : Nat} {done : List Bs} {a : Nat} (h : MidR l k done a) (hk : ¬ k < be4 l) : takeRow l = (done, a, 0) := by
  obtain ⟨h1, h2, h3, h4⟩ := h
  have he : be4 l - k = 0 := by omega
  rw [h3, he, takeG]
theorem takeR_err {l : Bs} (h : (takeR l).2.2 ≠ 0) : takeR l = ([], 0, (takeR l).2.2) := by
  unfold takeR at *
  by_cases h1 : l.length < 4
  · rw [if_pos h1]
  · rw [if_neg h1] at h ⊢
    by_cases h2 : 65536 < be4 l
    · rw [if_pos h2]
    · rw [if_neg h2] at h ⊢
      by_cases h3 : l.length < 4 + be4 l
      · rw [if_pos h3]
      · rw [if_neg h3] at h
        exact absurd rfl h
def countQ (l : Bs) : Nat × Int := if l.length < 4 then (0, 3) else if 4096 < be4 l then (0, 2) else (be4 l, 0)
set_option maxRecDepth 100000 in
theorem count4_walk {w : World} {D : Nat → Prop} {v : Value} {l : Bs} (hb : Byt D w v l) :
    Calls Try.prog 62 #[v, .int .i64 4096] w fun e w' => e = .returned (.tuple #[.int .i64 ((countQ l).1 : Nat), .int .i64 (countQ l).2]) ∧ w = w' := by
  obtain ⟨A, c, rfl, _, _⟩ := id hb
  by_cases h4 : l.length < 4
  · have hr : countQ l = (0, 3) := if_pos h4
    have H := Lib.hid (take_short hb h4)
    rw [hr]
    clear hb
    go_enter Try.func62, Try.ntmps62
    go_wp2_with fail
    refine H.out.mono ?_
    rintro e _ ⟨rfl, rfl⟩
    go_wp2_with fail
    refine bodyPost_ret (results_tmp2 rfl _ _ _) rfl ?_
    exact ⟨rfl, rfl⟩
  · have H := Lib.hid (take_long hb (by omega))
    have hlt := be4_lt l
    clear hb
    by_cases h5 : 4096 < be4 l
    · have hr : countQ l = (0, 2) := by rw [countQ, if_neg h4, if_pos h5]
      rw [hr]
      generalize be4 l = n at *
      have n1 : (4096 : Int) < (n : Int) := by omega
      have n1' : decide ((4096 : Int) < (n : Int)) = true := by simp; omega
      go_enter Try.func62, Try.ntmps62
      go_wp2_with fail
      refine H.out.mono ?_
      rintro e _ ⟨rfl, rfl⟩
      go_wp2_with fail
      refine bodyPost_ret (results_tmp2 rfl _ _ _) rfl ?_
      exact ⟨rfl, rfl⟩
    · have hr : countQ l = (be4 l, 0) := by rw [countQ, if_neg h4, if_neg h5]
      rw [hr]
      generalize be4 l = n at *
      have n1 : ¬ (4096 : Int) < (n : Int) := by omega
      have n1' : decide ((4096 : Int) < (n : Int)) = false := by simp; omega
      go_enter Try.func62, Try.ntmps62
      go_wp2_with fail
      refine H.out.mono ?_
      rintro e _ ⟨rfl, rfl⟩
      go_wp2_with fail
      refine bodyPost_ret (results_tmp2 rfl _ _ _) rfl ?_
      exact ⟨rfl, rfl⟩

set_option maxRecDepth 100000 in
set_option maxHeartbeats 1000000 in
theorem takerow_walk {w : World} {v : Value} {l : Bs} (hb : OwnB w v l) (hl : l.length ≤ 4194304) : Calls Try.prog 47 #[v] w (TRPost w l) := by
  have HC := Lib.hid (count4_walk hb.byt)
  by_cases h4 : l.length < 4
  · have hq : countQ l = (0, 3) := if_pos h4
    have hr : takeRow l = ([], 0, 3) := if_pos h4
    rw [hq] at HC
    obtain ⟨A, c, rfl, _, _⟩ := hb.form
    clear hb h4
    go_enter Try.func47, Try.ntmps47
    go_wp2_with fail
    refine HC.out.mono ?_
    rintro e _ ⟨rfl, rfl⟩
    go_wp2_with fail
    refine bodyPost_ret (results_tmp3 rfl _ _ _) rfl ?_
    exact tr_bad hr (Ext.refl _ _)
  by_cases h5 : 4096 < be4 l
  · have hq : countQ l = (0, 2) := by rw [countQ, if_neg h4, if_pos h5]
    have hr : takeRow l = ([], 0, 2) := by rw [takeRow, if_neg h4, if_pos h5]
    rw [hq] at HC
    obtain ⟨A, c, rfl, _, _⟩ := hb.form
    clear hb h4 h5
    go_enter Try.func47, Try.ntmps47
    go_wp2_with fail
    refine HC.out.mono ?_
    rintro e _ ⟨rfl, rfl⟩
    go_wp2_with fail
    refine bodyPost_ret (results_tmp3 rfl _ _ _) rfl ?_
    exact tr_bad hr (Ext.refl _ _)
  have hq : countQ l = (be4 l, 0) := by rw [countQ, if_neg h4, if_neg h5]
  rw [hq] at HC
  rcases hb.byt0 with ⟨rfl, _⟩ | ⟨g, c, rfl, hcap, hcell⟩
  · exact absurd (by decide) h4
  have Hcell := Lib.hid hcell
  have HS := Lib.hid (MidR.start h4 h5)
  clear hb hcell hq
  go_enter Try.func47, Try.ntmps47
  go_wp2_with fail
  refine HC.out.mono ?_
  rintro e _ ⟨rfl, rfl⟩
  clear HC
  go_wp2_with fail
  go_loopw [7, 8, 21] (fun at_ out i W => ∃ (k a : Nat) (vs : List Value) (done : List Bs), at_ = .int .i64 a ∧ i = .int .i64 k ∧ MidR l k done a ∧ OwnRows w.heap.size W out vs done ∧ Ext (fun _ => False) w W) (fun _ _ i _ => be4 l - (intOf i).toNat)
  case atStart => exact ⟨0, 4, [], [], rfl, rfl, HS.out, OwnRows.nil _ _, Ext.refl _ _⟩
  case round =>
    obtain ⟨k, a, vs, done, rfl, rfl, hM, hR, hx⟩ := hrel
    have hal := hM.1
    have hkb := hM.2.1
    have hdl : done.length ≤ 4096 := by have := hM.2.2.2; omega
    have hac : a ≤ c := by omega
    have hai : (a : Int) ≤ 4194304 := by omega
    obtain ⟨RA, Rc, hform⟩ := own_slice_form hR.row
    subst hform
    by_cases hlt : k < be4 l
    · have hlt' : (k : Int) < (be4 l : Int) := by omega
      have hlt2 : decide ((k : Int) < (be4 l : Int)) = true := by simpa using hlt'
      have hcell := fun (j : Nat) (u : UInt8) (hu : l[j]? = some u) => cell_same (Hcell.out j u hu) hx
      generalize hc4 : be4 l = n4 at *
      have Hc4 := Lib.hid hc4
      clear hc4
      by_cases hca : c = a
      · have hle : l.length - a = 0 := by omega
        have hla : l.length = a := by omega
        have HT := Lib.hid (takeblob_walk (byt_from hcell a hal 0 (by omega) 0 (by omega)) (by rw [List.length_drop]; omega))
        have hd : l.drop a = [] := List.drop_of_length_le (by omega)
        have ht : takeR (l.drop a) = ([], 0, 3) := by rw [hd]; rfl
        have hr := hM.stop (by rw [Hc4.out]; exact hlt) (by rw [ht]; show (3 : Int) ≠ 0; decide)
        rw [ht] at hr
        have Hr := Lib.hid (And.intro hr (And.intro ht (And.intro hR hx)))
        rw [hle] at HT
        clear hcell hR hx hr ht hd hM
        subst hca
        go_wp2_with fail
        first | refine HT.out.mono ?_ | (rw [hla, Nat.sub_self]; refine HT.out.mono ?_)
        rintro e w2 ⟨v2, rfl, h2⟩
        rw [Hr.out.2.1] at h2 ⊢
        have H2 := Lib.hid h2.ext
        clear h2
        go_wp2_with fail
        refine bodyPost_ret (results_tmp3 rfl _ _ _) rfl ?_
        exact tr_bad Hr.out.1 (Hr.out.2.2.2.trans H2.out)
      · have hac2 : a < c := by omega
        have hac3 : ¬ c - a = 0 := by omega
        have hac4 : ¬ c ≤ a := by omega
        have HT := Lib.hid (takeblob_walk (byt_from hcell a hal (c - a) (by omega) a (fun _ => rfl)) (by rw [List.length_drop]; omega))
        have HM := Lib.hid (And.intro hM (And.intro hR hx))
        clear hcell hR hx hM
        by_cases h0 : (takeR (l.drop a)).2.2 = 0
        · have hn := HM.out.1.next (by rw [Hc4.out]; exact hlt) h0
          have HN := Lib.hid hn
          rw [TBPost_ok h0] at HT
          have hu5 := hn.2
          clear hn
          generalize (takeR (l.drop a)).2.1 = used at *
          generalize (takeR (l.drop a)).1 = pl at *
          clear h0
          go_wp2_with fail
          refine HT.out.mono ?_
          rintro e w2 ⟨v2, rfl, h2⟩
          obtain ⟨B2, d2, hf2, _, _⟩ := h2.own.formP
          subst hf2
          have hx2 := HM.out.2.2.trans h2.ext
          have hsz := HM.out.2.2.size
          have hsz2 := h2.ext.size
          have hR2 := HM.out.2.1.ext h2.ext (fun _ _ => id) (fun k hk => own_from HM.out.2.1.row k hk)
          have H2 := Lib.hid (And.intro h2 (And.intro hx2 hR2))
          clear h2 hx2 hR2
          go_wp2_with (at_builtin; refine Hid.out ?_)
          refine Lib.hid ?_
          have hxa := (Ext.refl (fun _ => False) w2).alloc (Obj.cells #[Value.slice B2 pl.length d2] 33)
          refine wpList_append_lit rfl _ _ 45 rfl Try.underlying45 info24b rfl (by decide) (v := .slice RA done.length Rc) rfl (own_ext H2.out.2.2.row hxa fun _ _ => id) (by simp; omega) rfl (heap_alloc_self _ _) rfl (by simp [Value.oneCell']) (by decide) (by omega) (by omega) ?_
          intro g3 c3 w3 ho3 hx3 hg3 hl3
          have hx23 : Ext (fun k => (Value.slice RA done.length Rc).ownBlock = some k) w2 w3 := (hxa.mono fun _ _ => False.elim).trans hx3
          have hb3 := (H2.out.1.own.ext hxa fun _ _ => id).ext hx3 fun k hk e => by
            have h1 := own_below HM.out.2.1.row k e
            have h2 := H2.out.1.new k hk
            omega
          have hx13 : Ext (fun k => (Value.slice RA done.length Rc).ownBlock = some k) wr w3 := (H2.out.1.ext.mono fun _ _ => False.elim).trans hx23
          have hR3 := HM.out.2.1.snoc hx13 ho3 hb3 (fun k hk => H2.out.1.new k hk) hsz
          have hxx : Ext (fun _ => False) w w3 := H2.out.2.1.trans' hx23 fun b hb => .inr (own_from HM.out.2.1.row b hb)
          have H3 := Lib.hid (And.intro hR3 hxx)
          clear hR3 hxx hx3 hg3 ho3 hx23 hx13 hb3 hxa
          go_wp2_with fail
          exact ⟨⟨k + 1, a + used, vs ++ [Value.slice B2 pl.length d2], done ++ [pl], by go_num, by go_num, HN.out.1, H3.out.1, H3.out.2⟩, by simp [intOf]; omega⟩
        · have hr := HM.out.1.stop (by rw [Hc4.out]; exact hlt) h0
          have hte := takeR_err h0
          have hkk := takeR_num (l.drop a)
          generalize hkv : (takeR (l.drop a)).2.2 = kv at *
          rw [show TBPost wr (l.drop a) = TBAny wr [] 0 kv from by funext e w'; simp only [TBPost, TBAny, hte]] at HT
          have Hr := Lib.hid hr
          have hkk' : kv = 2 ∨ kv = 3 := by omega
          clear hr h0 hte hkk hkv
          have hk0 : ((kv : Int) != 0) = true := by rcases hkk' with rfl | rfl <;> rfl
          have hk1 : (kv == 0) = false := by rcases hkk' with rfl | rfl <;> rfl
          clear hkk'
          go_wp2_with fail
          refine HT.out.mono ?_
          rintro e w2 ⟨v2, rfl, h2⟩
          have H2 := Lib.hid h2
          clear h2
          go_wp2_with fail
          refine bodyPost_ret (results_tmp3 rfl _ _ _) rfl ?_
          exact tr_bad Hr.out (HM.out.2.2.trans H2.out.ext)
    · have hlt' : ¬ (k : Int) < (be4 l : Int) := by omega
      have hlt2 : decide ((k : Int) < (be4 l : Int)) = false := by simpa using hlt'
      have hr := hM.done hlt
      have HM := Lib.hid (And.intro hR (And.intro hx hr))
      generalize be4 l = n4 at *
      clear hR hx hM hr
      go_wp2_with fail
      refine bodyPost_ret (results_tmp3 rfl _ _ _) rfl ?_
      exact ⟨_, vs, by rw [HM.out.2.2]; rfl, by rw [HM.out.2.2]; exact HM.out.1, HM.out.2.1⟩

set_option maxRecDepth 100000 in
set_option maxHeartbeats 1000000 in
theorem dtakerow_walk {w : World} {v : Value} {l : Bs} (hb : OwnB w v l) (hl : l.length ≤ 4194304) : Calls Try.prog 43 #[v] w (TRPost w l) := by
  by_cases h4 : l.length < 4
  · have h4' : decide ((l.length : Int) < 4) = true := by simp; omega
    have hr : takeRow l = ([], 0, 3) := if_pos h4
    obtain ⟨A, c, rfl, _, _⟩ := hb.form
    clear hb h4
    go_enter Try.func43, Try.ntmps43
    go_wp2_with fail
    refine bodyPost_ret (results_tmp3 rfl _ _ _) rfl ?_
    exact tr_bad hr (Ext.refl _ _)
  have h4' : decide ((l.length : Int) < 4) = false := by simp; omega
  have HC := Lib.hid (dcount_walk hb.byt (by omega))
  have hlt4 := be4_lt l
  by_cases h5 : 4096 < be4 l
  · have h5' : decide ((4096 : Int) < (be4 l : Int)) = true := by simp; omega
    have hr : takeRow l = ([], 0, 2) := by rw [takeRow, if_neg h4, if_pos h5]
    obtain ⟨A, c, rfl, _, _⟩ := hb.form
    generalize be4 l = n4 at *
    clear hb h4 h5
    go_enter Try.func43, Try.ntmps43
    go_wp2_with fail
    refine HC.out.mono ?_
    rintro e w1 ⟨rfl, hx1⟩
    go_wp2_with fail
    refine bodyPost_ret (results_tmp3 rfl _ _ _) rfl ?_
    exact tr_bad hr hx1
  have h5' : decide ((4096 : Int) < (be4 l : Int)) = false := by simp; omega
  rcases hb.byt0 with ⟨rfl, _⟩ | ⟨g, c, rfl, hcap, hcell⟩
  · exact absurd (by decide) h4
  have Hcell := Lib.hid hcell
  have HS := Lib.hid (MidR.start h4 h5)
  clear hb hcell
  go_enter Try.func43, Try.ntmps43
  go_wp2_with fail
  refine HC.out.mono ?_
  rintro e w1 ⟨rfl, hx1⟩
  have HX1 := Lib.hid hx1
  clear HC hx1
  go_wp2_with fail
  go_loopw [6, 7, 8] (fun at_ out i W => ∃ (k a : Nat) (vs : List Value) (done : List Bs), at_ = .int .i64 a ∧ i = .int .i64 k ∧ MidR l k done a ∧ OwnRows w.heap.size W out vs done ∧ Ext (fun _ => False) w W) (fun _ _ i _ => be4 l - (intOf i).toNat)
  case atStart => exact ⟨0, 4, [], [], rfl, rfl, HS.out, OwnRows.nil _ _, HX1.out⟩
  case round =>
    obtain ⟨k, a, vs, done, rfl, rfl, hM, hR, hx⟩ := hrel
    have hal := hM.1
    have hkb := hM.2.1
    have hdl : done.length ≤ 4096 := by have := hM.2.2.2; omega
    have hac : a ≤ c := by omega
    have hai : (a : Int) ≤ 4194304 := by omega
    obtain ⟨RA, Rc, hform⟩ := own_slice_form hR.row
    subst hform
    by_cases hlt : k < be4 l
    · have hlt' : (k : Int) < (be4 l : Int) := by omega
      have hlt2 : decide ((k : Int) < (be4 l : Int)) = true := by simpa using hlt'
      have hcell := fun (j : Nat) (u : UInt8) (hu : l[j]? = some u) => cell_same (Hcell.out j u hu) hx
      generalize hc4 : be4 l = n4 at *
      have Hc4 := Lib.hid hc4
      clear hc4
      by_cases hca : c = a
      · have hle : l.length - a = 0 := by omega
        have hla : l.length = a := by omega
        have HT := Lib.hid (dtakeblob_walk (byt_from hcell a hal 0 (by omega) 0 (by omega)) (by rw [List.length_drop]; omega))
        have hd : l.drop a = [] := List.drop_of_length_le (by omega)
        have ht : takeR (l.drop a) = ([], 0, 3) := by rw [hd]; rfl
        have hr := hM.stop (by rw [Hc4.out]; exact hlt) (by rw [ht]; show (3 : Int) ≠ 0; decide)
        rw [ht] at hr
        have Hr := Lib.hid (And.intro hr (And.intro ht (And.intro hR hx)))
        rw [hle] at HT
        clear hcell hR hx hr ht hd hM
        subst hca
        go_wp2_with fail
        first | refine HT.out.mono ?_ | (rw [hla, Nat.sub_self]; refine HT.out.mono ?_)
        rintro e w2 ⟨v2, rfl, h2⟩
        rw [Hr.out.2.1] at h2 ⊢
        have H2 := Lib.hid h2.ext
        clear h2
        go_wp2_with fail
        refine bodyPost_ret (results_tmp3 rfl _ _ _) rfl ?_
        exact tr_bad Hr.out.1 (Hr.out.2.2.2.trans H2.out)
      · have hac2 : a < c := by omega
        have hac3 : ¬ c - a = 0 := by omega
        have hac4 : ¬ c ≤ a := by omega
        have HT := Lib.hid (dtakeblob_walk (byt_from hcell a hal (c - a) (by omega) a (fun _ => rfl)) (by rw [List.length_drop]; omega))
        have HM := Lib.hid (And.intro hM (And.intro hR hx))
        clear hcell hR hx hM
        by_cases h0 : (takeR (l.drop a)).2.2 = 0
        · have hn := HM.out.1.next (by rw [Hc4.out]; exact hlt) h0
          have HN := Lib.hid hn
          rw [TBPost_ok h0] at HT
          have hu5 := hn.2
          clear hn
          generalize (takeR (l.drop a)).2.1 = used at *
          generalize (takeR (l.drop a)).1 = pl at *
          clear h0
          go_wp2_with fail
          refine HT.out.mono ?_
          rintro e w2 ⟨v2, rfl, h2⟩
          obtain ⟨B2, d2, hf2, _, _⟩ := h2.own.formP
          subst hf2
          have hx2 := HM.out.2.2.trans h2.ext
          have hsz := HM.out.2.2.size
          have hsz2 := h2.ext.size
          have hR2 := HM.out.2.1.ext h2.ext (fun _ _ => id) (fun k hk => own_from HM.out.2.1.row k hk)
          have H2 := Lib.hid (And.intro h2 (And.intro hx2 hR2))
          clear h2 hx2 hR2
          go_wp2_with (at_builtin; refine Hid.out ?_)
          refine Lib.hid ?_
          have hxa := (Ext.refl (fun _ => False) w2).alloc (Obj.cells #[Value.slice B2 pl.length d2] 33)
          refine wpList_append_lit rfl _ _ 45 rfl Try.underlying45 info24b rfl (by decide) (v := .slice RA done.length Rc) rfl (own_ext H2.out.2.2.row hxa fun _ _ => id) (by simp; omega) rfl (heap_alloc_self _ _) rfl (by simp [Value.oneCell']) (by decide) (by omega) (by omega) ?_
          intro g3 c3 w3 ho3 hx3 hg3 hl3
          have hx23 : Ext (fun k => (Value.slice RA done.length Rc).ownBlock = some k) w2 w3 := (hxa.mono fun _ _ => False.elim).trans hx3
          have hb3 := (H2.out.1.own.ext hxa fun _ _ => id).ext hx3 fun k hk e => by
            have h1 := own_below HM.out.2.1.row k e
            have h2 := H2.out.1.new k hk
            omega
          have hx13 : Ext (fun k => (Value.slice RA done.length Rc).ownBlock = some k) wr w3 := (H2.out.1.ext.mono fun _ _ => False.elim).trans hx23
          have hR3 := HM.out.2.1.snoc hx13 ho3 hb3 (fun k hk => H2.out.1.new k hk) hsz
          have hxx : Ext (fun _ => False) w w3 := H2.out.2.1.trans' hx23 fun b hb => .inr (own_from HM.out.2.1.row b hb)
          have H3 := Lib.hid (And.intro hR3 hxx)
          clear hR3 hxx hx3 hg3 ho3 hx23 hx13 hb3 hxa
          go_wp2_with fail
          exact ⟨⟨k + 1, a + used, vs ++ [Value.slice B2 pl.length d2], done ++ [pl], by go_num, by go_num, HN.out.1, H3.out.1, H3.out.2⟩, by simp [intOf]; omega⟩
        · have hr := HM.out.1.stop (by rw [Hc4.out]; exact hlt) h0
          have hte := takeR_err h0
          have hkk := takeR_num (l.drop a)
          generalize hkv : (takeR (l.drop a)).2.2 = kv at *
          rw [show TBPost wr (l.drop a) = TBAny wr [] 0 kv from by funext e w'; simp only [TBPost, TBAny, hte]] at HT
          have Hr := Lib.hid hr
          have hkk' : kv = 2 ∨ kv = 3 := by omega
          clear hr h0 hte hkk hkv
          have hk0 : ((kv : Int) != 0) = true := by rcases hkk' with rfl | rfl <;> rfl
          have hk1 : (kv == 0) = false := by rcases hkk' with rfl | rfl <;> rfl
          clear hkk'
          go_wp2_with fail
          refine HT.out.mono ?_
          rintro e w2 ⟨v2, rfl, h2⟩
          have H2 := Lib.hid h2
          clear h2
          go_wp2_with fail
          refine bodyPost_ret (results_tmp3 rfl _ _ _) rfl ?_
          exact tr_bad Hr.out (HM.out.2.2.trans H2.out.ext)
    · have hlt' : ¬ (k : Int) < (be4 l : Int) := by omega
      have hlt2 : decide ((k : Int) < (be4 l : Int)) = false := by simpa using hlt'
      have hr := hM.done hlt
      have HM := Lib.hid (And.intro hR (And.intro hx hr))
      generalize be4 l = n4 at *
      clear hR hx hM hr
      go_wp2_with fail
      refine bodyPost_ret (results_tmp3 rfl _ _ _) rfl ?_
      exact ⟨_, vs, by rw [HM.out.2.2]; rfl, by rw [HM.out.2.2]; exact HM.out.1, HM.out.2.1⟩
end Go.Proofs.Ytcedpdjjjfdbiaa
