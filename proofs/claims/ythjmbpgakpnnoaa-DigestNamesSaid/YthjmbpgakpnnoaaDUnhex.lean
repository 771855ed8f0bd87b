/- Digits read by the document; no condition. -/
import Derived.Test.YthjmbpgakpnnoaaUnhex
namespace Go.Proofs.Ythjmbpgakpnnoaa
set_option linter.unusedVariables false
set_option linter.unusedSimpArgs false
open Go.RowKit

def digR (c : Nat) : Int := if dval c < 16 then (dval c : Int) else -1
set_option maxRecDepth 100000 in
theorem digit_walk (c : Nat) (hc : c < 256) (w : World) : Calls Try.prog 36 #[.int .u8 (c : Int)] w fun e w' => e = .returned (.int .i64 (digR c)) ∧ w = w' := by
  by_cases h1 : 48 ≤ c
  · have n1 : (48 : Int) ≤ (c : Int) := by omega
    have n1' : decide ((48 : Int) ≤ (c : Int)) = true := by simp; omega
    by_cases h2 : c ≤ 57
    · have e : digR c = (c : Int) - 48 := by
        have e0 : dval c = c - 48 := if_pos ⟨h1, h2⟩
        rw [digR, e0, if_pos (by omega)]
        omega
      have n2 : (c : Int) ≤ 57 := by omega
      have n2' : decide ((c : Int) ≤ 57) = true := by simp; omega
      have q : IntKind.u8.wrap ((c : Int) - 48) = digR c := by rw [e, IntKind.wrap_u8]; omega
      have q2 : 0 ≤ digR c := by rw [e]; omega
      have q3 : digR c ≤ 15 := by rw [e]; omega
      generalize digR c = r at *
      clear e
      go_enter Try.func36, Try.ntmps36
      go_wp2_with fail
      go_ret
      exact ⟨rfl, rfl⟩
    · have n2 : ¬ (c : Int) ≤ 57 := by omega
      have n2' : decide ((c : Int) ≤ 57) = false := by simp; omega
      by_cases h3 : 97 ≤ c
      · have n3 : (97 : Int) ≤ (c : Int) := by omega
        have n3' : decide ((97 : Int) ≤ (c : Int)) = true := by simp; omega
        by_cases h4 : c ≤ 102
        · have e : digR c = (c : Int) - 87 := by
            have e0 : dval c = c - 87 := by rw [dval, if_neg (by omega), if_pos ⟨h3, h4⟩]
            rw [digR, e0, if_pos (by omega)]
            omega
          obtain ⟨d, hd⟩ : ∃ d : Nat, d = c - 97 := ⟨_, rfl⟩
          have n4 : (c : Int) ≤ 102 := by omega
          have n4' : decide ((c : Int) ≤ 102) = true := by simp; omega
          have q : IntKind.u8.wrap ((c : Int) - 97) = (d : Int) := by rw [IntKind.wrap_u8]; omega
          have q2 : IntKind.i64.wrap ((d : Int) + 10) = digR c := by rw [e, IntKind.wrap_i64]; omega
          have q3 : (d : Int) + 10 = digR c := by rw [e]; omega
          have hd5 : (d : Int) ≤ 5 := by omega
          generalize digR c = r at *
          clear e hd
          go_enter Try.func36, Try.ntmps36
          go_wp2_with fail
          go_ret
          exact ⟨rfl, rfl⟩
        · have e : digR c = -1 := by
            have e0 : dval c = 16 := by rw [dval, if_neg (by omega), if_neg (by omega)]
            rw [digR, e0]
            rfl
          have n4 : ¬ (c : Int) ≤ 102 := by omega
          have n4' : decide ((c : Int) ≤ 102) = false := by simp; omega
          rw [e]
          go_enter Try.func36, Try.ntmps36
          go_wp2_with fail
          go_ret
          exact ⟨rfl, rfl⟩
      · have e : digR c = -1 := by
          have e0 : dval c = 16 := by rw [dval, if_neg (by omega), if_neg (by omega)]
          rw [digR, e0]
          rfl
        have n3 : ¬ (97 : Int) ≤ (c : Int) := by omega
        have n3' : decide ((97 : Int) ≤ (c : Int)) = false := by simp; omega
        rw [e]
        go_enter Try.func36, Try.ntmps36
        go_wp2_with fail
        go_ret
        exact ⟨rfl, rfl⟩
  · have e : digR c = -1 := by
      have e0 : dval c = 16 := by rw [dval, if_neg (by omega), if_neg (by omega)]
      rw [digR, e0]
      rfl
    have n1 : ¬ (48 : Int) ≤ (c : Int) := by omega
    have n1' : decide ((48 : Int) ≤ (c : Int)) = false := by simp; omega
    have n3 : ¬ (97 : Int) ≤ (c : Int) := by omega
    have n3' : decide ((97 : Int) ≤ (c : Int)) = false := by simp; omega
    rw [e]
    go_enter Try.func36, Try.ntmps36
    go_wp2_with fail
    go_ret
    exact ⟨rfl, rfl⟩
theorem u8_add_dig (x d : Nat) (hx : x < 16) (hd : d < 16) : ∃ y : Nat, IntKind.u8.wrap ((x : Int) * 16) = (y : Int) ∧ (x : Int) * 16 = (y : Int) ∧ IntKind.u8.wrap ((y : Int) + (d : Int)) = ((x * 16 + d : Nat) : Int) ∧ (y : Int) + (d : Int) = ((x * 16 + d : Nat) : Int) ∧ (d : Int) % 256 = (d : Int) ∧ IntKind.u8.wrap (d : Int) = (d : Int) :=
  ⟨x * 16, by rw [IntKind.wrap_u8]; omega, by omega, by rw [IntKind.wrap_u8]; omega, by omega, by omega, by rw [IntKind.wrap_u8]; omega⟩

set_option maxRecDepth 100000 in
set_option maxHeartbeats 2000000 in
theorem dunhex_walk (w : World) (t : Bs) (hl63 : t.length ≤ 9223372036854775807) : Calls Try.prog 21 #[str t] w fun e w' => e = .returned (.tuple #[sumV (unhexR t).1, .int .i64 (unhexR t).2]) ∧ Ext (fun _ => False) w w' := by
  have H0 := Lib.hid (two_arrs w _ zeros_cells.symm)
  by_cases hl : t.length = 64
  · have hne : (((t.length : Int)) != 64) = false := by simp; omega
    have Hl := Lib.hid hl
    have hlp : (t.length : Int) = 64 := by omega
    go_enter Try.func21, Try.ntmps21
    go_wp2_with fail
    generalize hw1 : (w.alloc _).alloc _ = w1
    obtain ⟨hA2, hA4, hx1⟩ := H0.out _ hw1.symm
    have H1 := Lib.hid (And.intro hA2 (And.intro hA4 hx1))
    clear hA2 hA4 hx1 H0 hw1
    go_loopw [5] (fun i W => ∃ k : Nat, k ≤ 64 ∧ i = .int .i64 k ∧ Arr W (w.heap.size + 1) 26 (outK t k) ∧ (∀ i, i < k → dv t i < 16) ∧ Ext (· = w.heap.size + 1) w1 W) (fun i _ => 64 - (intOf i).toNat)
    case atStart => exact ⟨0, by omega, rfl, by rw [outK_zero]; exact H1.out.2.1, fun i h => by omega, Ext.refl _ _⟩
    case round =>
      obtain ⟨k, hk, rfl, hA, hdd, hx⟩ := hrel
      have hx01 : Ext (fun _ => False) w wr := H1.out.2.2.trans' hx fun b hb => .inr (by omega)
      have hB := H1.out.1.ext hx (by omega)
      by_cases hk64 : k < 64
      · have hk' : decide ((k : Int) < 64) = true := by simp; omega
        have hk'' : (k : Int) < 64 := by omega
        have hidx := fun W => run_index_str t k (by omega) .i64 W
        obtain ⟨c, hc⟩ : ∃ c, (t.getD k 0).toNat = c := ⟨_, rfl⟩
        have hc256 : c < 256 := by rw [← hc]; exact UInt8.toNat_lt _
        have hdv : dv t k = dval c := by rw [dv, hc]
        rw [hc] at hidx
        have hdw := digit_walk c hc256
        by_cases hd : dval c < 16
        · rw [show digR c = (dval c : Int) from if_pos hd] at hdw
          have hnow := outAt_now t k hdd
          have hget := outK_get t k (k / 2) (by omega)
          have hset := outK_set t k hk64 hdd
          rw [hdv] at hset hnow
          have hcell := hA.cell (i := k / 2) (by rw [outK_len]; omega)
          have hce : (outK t k)[k / 2]'(by rw [outK_len]; omega) = UInt8.ofNat (outAt t k (k / 2)) := by
            rw [List.getElem?_eq_getElem (by rw [outK_len]; omega)] at hget
            exact Option.some.inj hget
          rw [hce] at hcell
          have hput := hA.put (k / 2) (UInt8.ofNat (outAt t k (k / 2) * 16 + dval c))
          rw [hset] at hput
          generalize outAt t k (k / 2) = x at *
          have hx16 : x < 16 := hnow.1
          have hxn : (UInt8.ofNat x).toNat = x := by rw [UInt8.toNat_ofNat']; exact Nat.mod_eq_of_lt (by omega)
          have hyn : (UInt8.ofNat (x * 16 + dval c)).toNat = x * 16 + dval c := by rw [UInt8.toNat_ofNat']; exact Nat.mod_eq_of_lt (by omega)
          rw [hyn] at hput
          unfold byteV at hcell
          rw [hxn] at hcell
          obtain ⟨y, f1, f2, f3, f4, f5, f6⟩ := u8_add_dig x (dval c) hx16 hd
          have hfr := hA.melt (k / 2)
          have hal := lt_of_heap hA.obj
          have hnext : ∀ i, i < k + 1 → dv t i < 16 := fun i hi => by
            by_cases hik : i = k
            · subst hik; rw [hdv]; exact hd
            · exact hdd i (by omega)
          generalize x * 16 + dval c = z at *
          generalize dval c = d at *
          have n0 : ¬ (d : Int) < 0 := by omega
          have n0' : decide ((d : Int) < 0) = false := by simp
          have HP := Lib.hid (And.intro hput (And.intro hnext (And.intro hx hdw)))
          clear hput hnext hx hA hdd hset hget hce hxn hyn hnow hdv hc hB hx01 hdw
          go_wp2_with fail
          refine (HP.out.2.2.2 _).mono ?_
          rintro e _ ⟨rfl, rfl⟩
          go_wp2_with fail
          refine ⟨⟨k + 1, by omega, by go_num, HP.out.1, HP.out.2.1, HP.out.2.2.1.setCell (a := ⟨w.heap.size + 1, k / 2, none⟩) (.inl rfl) _⟩, by simp [intOf]; omega⟩
        · rw [show digR c = -1 from if_neg hd] at hdw
          have hr : unhexR t = (List.replicate 32 0, 4) := by
            rw [unhexR, if_neg]
            intro ha
            have := (allD_dv ha).2 k hk64
            rw [hdv] at this
            exact hd this
          have HP := Lib.hid (And.intro hr (And.intro hB (And.intro hx01 hdw)))
          clear hr hB hx01 hA hdd hx hdv hc hd hdw
          go_wp2_with fail
          refine (HP.out.2.2.2 _).mono ?_
          rintro e _ ⟨rfl, rfl⟩
          go_wp2_with (refine wpList_store_row rfl 26 _ _ rfl w.heap.size _ rfl rfl 26 _ HP.out.2.1.obj (by kernel_rfl) (by kernel_rfl) (by kernel_rfl) ?_)
          refine bodyPost_ret (results_cell_tmp rfl _ _ w.heap.size 26 _ (0, 0) _ rfl (setRow_heap _ _ _ _ _ _ HP.out.2.1.obj) Try.underlying26 rfl (by kernel_rfl)) rfl ?_
          refine ⟨?_, HP.out.2.2.1.setRow (.inr (Nat.le_refl _)) _⟩
          rw [HP.out.1]
          rfl
      · have : k = 64 := by omega
        subst this
        have hk' : decide ((64 : Int) < 64) = false := by decide
        rw [show ((64 : Nat) : Int) = (64 : Int) from rfl]
        have ha := allD_mk Hl.out hdd
        have hr : unhexR t = (outK t 64, 0) := by rw [unhexR, if_pos ha]
        have hcz := sum_size (outK t 64) (outK_len _ _)
        have hco := sum_one (outK t 64)
        have hob := hA.obj
        generalize hcs : ((outK t 64).map byteV).toArray = cs at *
        have Hc := Lib.hid (And.intro (And.intro hcz hco) (And.intro hcs (And.intro hob (And.intro hB (And.intro hx01 hr)))))
        clear hcz hco hcs hob hB hx01 hr ha hA hdd hx
        go_wp2_with (first
          | refine wpList_load_row rfl 26 _ rfl (w.heap.size + 1) rfl 26 cs (0, 0) _ Hc.out.2.2.1 Try.underlying26 rfl (by rw [Hc.out.1.1]; kernel_rfl) ?_
          | refine wpList_store_row rfl 26 _ _ rfl w.heap.size cs rfl rfl 26 _ Hc.out.2.2.2.1.obj (by rw [Hc.out.1.1]; kernel_rfl) (by rw [Hc.out.1.1]; rfl) Hc.out.1.2 ?_)
        refine bodyPost_ret (results_cell_tmp rfl _ _ w.heap.size 26 cs (0, 0) _ rfl (setRow_heap _ _ _ _ _ _ Hc.out.2.2.2.1.obj) Try.underlying26 rfl (by rw [Hc.out.1.1]; kernel_rfl)) rfl ?_
        refine ⟨?_, Hc.out.2.2.2.2.1.setRow (.inr (Nat.le_refl _)) _⟩
        rw [Hc.out.2.2.2.2.2, sumV_cells, Hc.out.2.1]
        rfl
  · have hne : (((t.length : Int)) != 64) = true := by simp; omega
    have hr : unhexR t = (List.replicate 32 0, 4) := by
      rw [unhexR, if_neg]
      intro ha
      exact hl (allD_dv ha).1
    have HR := Lib.hid hr
    have hz := zeros_cells
    have HZ := Lib.hid hz
    clear hr hz
    go_enter Try.func21, Try.ntmps21
    go_wp2_with (first
      | refine wpList_load_row rfl 26 _ rfl (w.heap.size + 1) rfl 26 _ (0, 0) _ (H0.out _ rfl).2.1.obj Try.underlying26 rfl (by kernel_rfl) ?_
      | refine wpList_store_row rfl 26 _ _ rfl w.heap.size _ rfl rfl 26 _ (H0.out _ rfl).1.obj (by kernel_rfl) (by kernel_rfl) (by kernel_rfl) ?_)
    refine bodyPost_ret (results_cell_tmp rfl _ _ w.heap.size 26 _ (0, 0) _ rfl (setRow_heap _ _ _ _ _ _ (H0.out _ rfl).1.obj) Try.underlying26 rfl (by kernel_rfl)) rfl ?_
    refine ⟨?_, (H0.out _ rfl).2.2.setRow (.inr (Nat.le_refl _)) _⟩
    rw [HR.out]
    rfl
end Go.Proofs.Ythjmbpgakpnnoaa
