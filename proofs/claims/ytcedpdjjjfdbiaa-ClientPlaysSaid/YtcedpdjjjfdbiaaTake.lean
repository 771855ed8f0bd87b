/- Blobs taken from bytes; no condition. -/
import Derived.Test.YtcedpdjjjfdbiaaVoteLaw
import Derived.Test.YtcedpdjjjfdbiaaDisk3
namespace Go.Proofs.Ytcedpdjjjfdbiaa
set_option linter.unusedVariables false
set_option linter.unusedSimpArgs false
open Go.RowKit

/-- Bytes that are not none stand in plain cells. -/
theorem Byt.flat {D : Nat → Prop} {w : World} {v : Value} {l : Bs} (hb : Byt D w v l) (hne : l ≠ []) : ∃ g o c, v = .slice (some ⟨g, o, none⟩) l.length c ∧ l.length ≤ c ∧ D g ∧ ∀ (j : Nat) (u : UInt8), l[j]? = some u → w.cell? ⟨g, o + j, none⟩ = some (.int .u8 u.toNat) := by
  obtain ⟨A, c, rfl, hcap, hat⟩ := hb
  obtain ⟨⟨g, o, sp⟩, rfl, hD, hcell⟩ := hat hne
  cases sp with
  | none =>
    refine ⟨g, o, c, rfl, hcap, hD, fun j u hu => ?_⟩
    have := hcell j u hu
    have ha : (⟨g, o, none⟩ : Addr).add j = ⟨g, o + j, none⟩ := by unfold Addr.add; split <;> simp_all
    rwa [ha] at this
  | some s =>
    obtain ⟨u, hu⟩ : ∃ u, l[0]? = some u := ⟨_, List.getElem?_eq_getElem (List.length_pos_iff.2 hne)⟩
    have h0 := hcell 0 u hu
    have e1 : (⟨g, o, some s⟩ : Addr).add 0 = ⟨g, o, some s⟩ := by simp [Addr.add]
    have : w.cell? ⟨g, o, some s⟩ = none := by
      unfold World.cell?
      split <;> simp
    rw [e1, this] at h0
    cases h0
/-- The first k bytes as a number. -/
def beP (l : Bs) : Nat → Nat
  | 0 => 0
  | k + 1 => beP l k * 256 + (l.getD k 0).toNat
theorem beP_lt (l : Bs) : ∀ k, beP l k < 256 ^ k
  | 0 => by show 0 < 1; decide
  | k + 1 => by
    have := beP_lt l k
    have h := UInt8.toNat_lt (l.getD k 0)
    rw [beP, Nat.pow_succ]
    omega
theorem beP_four (l : Bs) : beP l 4 = be4 l := by
  simp [beP, be4]
theorem be_facts (x c : Nat) (hx : x < 16777216) (hc : c < 256) : ∃ a : Nat, IntKind.i64.wrap ((x : Int) * 256) = (a : Int) ∧ (x : Int) * 256 = (a : Int) ∧ bits .or .i64 (a : Int) (c : Int) = ((x * 256 + c : Nat) : Int) := by
  refine ⟨x * 256, by rw [IntKind.wrap_i64]; omega, by omega, ?_⟩
  rw [(bits_nat .i64 63 (by decide) (fun n h0 h1 => by rw [IntKind.wrap_i64]; omega) (x * 256) c (by omega) (by omega)).2]
  have := Nat.two_pow_add_eq_or_of_lt (i := 8) (b := c) (by omega) x
  rw [Nat.mul_comm] at this
  rw [← this]
theorem take_short {w : World} {D : Nat → Prop} {v : Value} {l : Bs} (hb : Byt D w v l) (hl : l.length < 4) :
    Calls Try.prog 72 #[v, .int .i64 4] w fun e w' => e = .returned (.tuple #[.int .i64 0, .bool false]) ∧ w = w' := by
  obtain ⟨A, c, rfl, _, _⟩ := hb
  have n1 : (l.length : Int) < 4 := by omega
  have n1' : decide ((l.length : Int) < 4) = true := by simp; omega
  go_enter Try.func72, Try.ntmps72
  go_wp2_with fail
  refine bodyPost_ret (results_tmp2 rfl _ _ _) rfl ?_
  exact ⟨rfl, rfl⟩
set_option maxRecDepth 100000 in
theorem take_long {w : World} {D : Nat → Prop} {v : Value} {l : Bs} (hb : Byt D w v l) (hl : 4 ≤ l.length) :
    Calls Try.prog 72 #[v, .int .i64 4] w fun e w' => e = .returned (.tuple #[.int .i64 (be4 l : Nat), .bool true]) ∧ w = w' := by
  obtain ⟨g, o, c, rfl, hcap, _, hcell⟩ := hb.flat (by intro e; rw [e] at hl; simp at hl)
  have n1 : ¬ (l.length : Int) < 4 := by omega
  have n1' : decide ((l.length : Int) < 4) = false := by simp; omega
  have hc4 : 4 ≤ c := by omega
  go_enter Try.func72, Try.ntmps72
  go_wp2_with fail
  go_loop [6, 17] (fun n i => ∃ k : Nat, k ≤ 4 ∧ i = .int .i64 k ∧ n = .int .i64 (beP l k : Nat)) (fun _ i => 4 - (intOf i).toNat)
  case atStart => exact ⟨0, by omega, rfl, rfl⟩
  case round =>
    obtain ⟨k, hk, rfl, rfl⟩ := hrel
    by_cases hk4 : k < 4
    · have hk' : decide ((k : Int) < 4) = true := by simp; omega
      have hk'' : (k : Int) < 4 := by omega
      have hc := hcell k _ (List.getElem?_eq_getElem (by omega))
      have hgd : (l.getD k 0) = l[k]'(by omega) := by rw [List.getD_eq_getElem?_getD, List.getElem?_eq_getElem (by omega)]; rfl
      have hlt := beP_lt l k
      have hlt2 : beP l k < 16777216 := Nat.lt_of_lt_of_le hlt (by
        have : k = 0 ∨ k = 1 ∨ k = 2 ∨ k = 3 := by omega
        rcases this with rfl | rfl | rfl | rfl <;> decide)
      have hs : beP l (k + 1) = beP l k * 256 + (l[k]'(by omega)).toNat := by rw [beP, hgd]
      have hu := UInt8.toNat_lt (l[k]'(by omega))
      obtain ⟨a, q1, q2, q3⟩ := be_facts _ _ hlt2 hu
      rw [← hs] at q3
      have HS := Lib.hid hs
      generalize (l[k]'(by omega)).toNat = u at *
      generalize hy : beP l (k + 1) = y at *
      have Hy := Lib.hid hy
      generalize beP l k = x at *
      clear hs hgd hcell hlt hy
      go_wp2_with fail
      exact ⟨⟨k + 1, by omega, by go_num, by rw [Hy.out]⟩, by simp [intOf]; omega⟩
    · have : k = 4 := by omega
      subst this
      have hk' : decide ((4 : Int) < 4) = false := by decide
      rw [beP_four]
      go_wp2_with fail
      refine bodyPost_ret (results_tmp2 rfl _ _ _) rfl ?_
      exact ⟨rfl, rfl⟩
/-- A count, and the answer's number. -/
def countR (l : Bs) : Nat × Int := if l.length < 4 then (0, 3) else if 65536 < be4 l then (0, 2) else (be4 l, 0)
set_option maxRecDepth 100000 in
theorem count_walk {w : World} {D : Nat → Prop} {v : Value} {l : Bs} (hb : Byt D w v l) :
    Calls Try.prog 62 #[v, .int .i64 65536] w fun e w' => e = .returned (.tuple #[.int .i64 ((countR l).1 : Nat), .int .i64 (countR l).2]) ∧ w = w' := by
  obtain ⟨A, c, rfl, _, _⟩ := id hb
  by_cases h4 : l.length < 4
  · have hr : countR l = (0, 3) := if_pos h4
    have H := Lib.hid (take_short hb h4)
    rw [hr]
    clear hb
    go_enter Try.func62, Try.ntmps62
    go_wp2_with fail
    refine H.out.mono ?_
    rintro e _ ⟨rfl, rfl⟩
    go_wp2_with fail
    refine bodyPost_ret (results_tmp2 rfl _ _ _) rfl ?_
    exact ⟨rfl, rfl⟩
  · have H := Lib.hid (take_long hb (by omega))
    have hlt := be4_lt l
    clear hb
    by_cases h5 : 65536 < be4 l
    · have hr : countR l = (0, 2) := by rw [countR, if_neg h4, if_pos h5]
      rw [hr]
      generalize be4 l = n at *
      have n1 : (65536 : Int) < (n : Int) := by omega
      have n1' : decide ((65536 : Int) < (n : Int)) = true := by simp; omega
      go_enter Try.func62, Try.ntmps62
      go_wp2_with fail
      refine H.out.mono ?_
      rintro e _ ⟨rfl, rfl⟩
      go_wp2_with fail
      refine bodyPost_ret (results_tmp2 rfl _ _ _) rfl ?_
      exact ⟨rfl, rfl⟩
    · have hr : countR l = (be4 l, 0) := by rw [countR, if_neg h4, if_neg h5]
      rw [hr]
      generalize be4 l = n at *
      have n1 : ¬ (65536 : Int) < (n : Int) := by omega
      have n1' : decide ((65536 : Int) < (n : Int)) = false := by simp; omega
      go_enter Try.func62, Try.ntmps62
      go_wp2_with fail
      refine H.out.mono ?_
      rintro e _ ⟨rfl, rfl⟩
      go_wp2_with fail
      refine bodyPost_ret (results_tmp2 rfl _ _ _) rfl ?_
      exact ⟨rfl, rfl⟩
theorem clone_some {w : World} {D : Nat → Prop} {g o c : Nat} {l : Bs} {n : Nat} (hn : n = l.length) (hb : Byt D w (.slice (some ⟨g, o, none⟩) n c) l) (hl : l.length ≤ 140737488355328) : Calls Try.prog 73 #[.slice (some ⟨g, o, none⟩) n c] w (Fresh w l) := by
  subst hn
  have kn := fun (W : World) (a : Option Addr) (n c : Nat) => Lib.run_eql_slice_nil (P := Try.prog) W 33 5 a n c 0 0 Try.underlying33
  have Hb := Lib.hid hb
  clear hb
  go_enter Try.func73, Try.ntmps73
  go_wp2_with (at_builtin; refine Hid.out ?_)
  refine Lib.hid ?_
  have hxa : ∀ o, Ext (fun _ => False) w (w.alloc o) := fun o => (Ext.refl _ _).alloc o
  refine wpList_append_bytes rfl _ _ 33 rfl Try.underlying33 info_u8 (sv := .slice (some ⟨w.heap.size, 0, none⟩) 0 0) (xv := .slice (some ⟨g, o, none⟩) l.length c) (l := []) rfl rfl
    (.inr ⟨w.heap.size, 0, #[], (0, 0), rfl, heap_alloc_self _ _, Nat.le_refl _, Nat.le_refl _, by decide, fun i hi => by omega, fun j u hu => by simp at hu⟩) (Hb.out.same (hxa _)) (by simpa using hl) ?_
  intro v2 w2 hown2 hx2 hb2
  obtain ⟨A2, c2, hv2, _, _⟩ := hown2.form
  subst hv2
  have hx : Ext (fun _ => False) w w2 := (hxa _).trans' hx2 fun b hb => .inr (by simp [Value.ownBlock] at hb; omega)
  have hb3 : ∀ k, (Value.slice A2 ([] ++ l).length c2).ownBlock = some k → w.heap.size ≤ k := by
    intro k hk
    rcases hb2 with h | ⟨b, h, hle⟩
    · rw [h] at hk; simp [Value.ownBlock] at hk; omega
    · rw [h] at hk; simp at hk hle; omega
  have H := Lib.hid (And.intro hown2 (And.intro hx hb3))
  clear hb2 hx2 hb3 hx hown2
  go_wp2_with fail
  go_ret
  exact ⟨_, rfl, H.out.1, H.out.2.1, H.out.2.2⟩
def TBPost (w : World) (l : Bs) (e : Ending) (w' : World) : Prop := ∃ v', e = .returned (.tuple #[v', .int .i64 ((takeR l).2.1 : Nat), .int .i64 (takeR l).2.2]) ∧ FreshB w (takeR l).1 v' w'
theorem byt_mid {w : World} {g o : Nat} {l : Bs} {n : Nat} (hcell : ∀ (j : Nat) (u : UInt8), l[j]? = some u → w.cell? ⟨g, o + j, none⟩ = some (.int .u8 u.toNat)) (hn : 4 + n ≤ l.length) (c' : Nat) (hc : n ≤ c') (o' : Nat) (ho : n ≠ 0 → o' = o + 4) :
    Byt (fun _ => True) w (.slice (some ⟨g, o', none⟩) n c') ((l.drop 4).take n) := by
  have hl : ((l.drop 4).take n).length = n := by rw [List.length_take, List.length_drop]; omega
  refine ⟨_, c', by rw [hl], by rw [hl]; exact hc, fun hne => ⟨_, rfl, trivial, fun i u hu => ?_⟩⟩
  have hi : i < n := by
    have := (List.getElem?_eq_some_iff.1 hu).1
    omega
  rw [List.getElem?_take_of_lt hi, List.getElem?_drop] at hu
  rw [ho (by omega)]
  have ha : (⟨g, o + 4, none⟩ : Addr).add i = ⟨g, o + (4 + i), none⟩ := by unfold Addr.add; split <;> simp_all [Nat.add_assoc]
  rw [ha]
  exact hcell _ _ hu
set_option maxRecDepth 100000 in
theorem takeblob_walk {w : World} {D : Nat → Prop} {v : Value} {l : Bs} (hb : Byt D w v l) (hl : l.length ≤ 140737488355328) : Calls Try.prog 63 #[v] w (TBPost w l) := by
  obtain ⟨A, c, rfl, _, _⟩ := id hb
  have HC := Lib.hid (count_walk hb)
  by_cases h4 : l.length < 4
  · have hr : countR l = (0, 3) := if_pos h4
    have ht : takeR l = ([], 0, 3) := if_pos h4
    rw [hr] at HC
    have Ht := Lib.hid ht
    clear hb ht hr
    go_enter Try.func63, Try.ntmps63
    go_wp2_with fail
    refine HC.out.mono ?_
    rintro e _ ⟨rfl, rfl⟩
    go_wp2_with fail
    refine bodyPost_ret (results_tmp3 rfl _ _ _) rfl ?_
    exact ⟨_, by rw [Ht.out]; rfl, by rw [Ht.out]; exact FreshB.nil _⟩
  · by_cases h5 : 65536 < be4 l
    · have hr : countR l = (0, 2) := by rw [countR, if_neg h4, if_pos h5]
      have ht : takeR l = ([], 0, 2) := by rw [takeR, if_neg h4, if_pos h5]
      rw [hr] at HC
      have Ht := Lib.hid ht
      clear hb ht hr
      go_enter Try.func63, Try.ntmps63
      go_wp2_with fail
      refine HC.out.mono ?_
      rintro e _ ⟨rfl, rfl⟩
      go_wp2_with fail
      refine bodyPost_ret (results_tmp3 rfl _ _ _) rfl ?_
      exact ⟨_, by rw [Ht.out]; rfl, by rw [Ht.out]; exact FreshB.nil _⟩
    · have hr : countR l = (be4 l, 0) := by rw [countR, if_neg h4, if_neg h5]
      rw [hr] at HC
      by_cases h6 : l.length < 4 + be4 l
      · have ht : takeR l = ([], 0, 3) := by rw [takeR, if_neg h4, if_neg h5, if_pos h6]
        have Ht := Lib.hid ht
        generalize be4 l = n at *
        have n1 : (l.length : Int) - 4 < (n : Int) := by omega
        have n1' : decide ((l.length : Int) - 4 < (n : Int)) = true := by simp; omega
        clear hb ht hr
        go_enter Try.func63, Try.ntmps63
        go_wp2_with fail
        refine HC.out.mono ?_
        rintro e _ ⟨rfl, rfl⟩
        go_wp2_with fail
        refine bodyPost_ret (results_tmp3 rfl _ _ _) rfl ?_
        exact ⟨_, by rw [Ht.out]; rfl, by rw [Ht.out]; exact FreshB.nil _⟩
      · have ht : takeR l = ((l.drop 4).take (be4 l), 4 + be4 l, 0) := by rw [takeR, if_neg h4, if_neg h5, if_neg h6]
        obtain ⟨g, o, c', he, hcap, _, hcell⟩ := hb.flat (by intro e; rw [e] at h4; simp at h4)
        simp only [Value.slice.injEq, true_and] at he
        obtain ⟨rfl, rfl⟩ := he
        generalize hbn : be4 l = n at *
        have hml : ((l.drop 4).take n).length = n := by rw [List.length_take, List.length_drop]; omega
        have n1 : ¬ (l.length : Int) - 4 < (n : Int) := by omega
        have n1' : decide ((l.length : Int) - 4 < (n : Int)) = false := by simp; omega
        have hc4 : 4 ≤ c := by omega
        have hcn : 4 + n ≤ c := by omega
        have Hc := Lib.hid hcell
        have Ht := Lib.hid (And.intro ht hml)
        clear hb ht hr hcell hml hbn
        by_cases hce : c = 4
        · have hn0 : n = 0 := by omega
          subst hn0
          subst hce
          go_enter Try.func63, Try.ntmps63
          go_wp2_with fail
          refine HC.out.mono ?_
          rintro e _ ⟨rfl, rfl⟩
          go_wp2_with fail
          refine (clone_some Ht.out.2.symm (byt_mid Hc.out (by omega) _ (by omega) _ (by omega)) (by have := Ht.out.2; omega)).mono ?_
          rintro e w2 ⟨v2, rfl, hown, hx, hb⟩
          have H2 := Lib.hid (And.intro hown (And.intro hx hb))
          clear hown hx hb
          go_wp2_with fail
          refine bodyPost_ret (results_tmp3 rfl _ _ _) rfl ?_
          refine ⟨v2, by rw [Ht.out.1]; rfl, ?_⟩
          rw [Ht.out.1]
          exact ⟨H2.out.1, H2.out.2.1, H2.out.2.2⟩
        · have hc5 : 4 < c := by omega
          have hc6 : ¬ c - 4 = 0 := by omega
          have hc7 : ¬ c ≤ 4 := by omega
          go_enter Try.func63, Try.ntmps63
          go_wp2_with fail
          refine HC.out.mono ?_
          rintro e _ ⟨rfl, rfl⟩
          go_wp2_with fail
          refine (clone_some Ht.out.2.symm (byt_mid Hc.out (by omega) _ (by omega) _ (by omega)) (by have := Ht.out.2; omega)).mono ?_
          rintro e w2 ⟨v2, rfl, hown, hx, hb⟩
          have H2 := Lib.hid (And.intro hown (And.intro hx hb))
          clear hown hx hb
          go_wp2_with fail
          refine bodyPost_ret (results_tmp3 rfl _ _ _) rfl ?_
          refine ⟨v2, by rw [Ht.out.1]; rfl, ?_⟩
          rw [Ht.out.1]
          exact ⟨H2.out.1, H2.out.2.1, H2.out.2.2⟩
end Go.Proofs.Ytcedpdjjjfdbiaa
