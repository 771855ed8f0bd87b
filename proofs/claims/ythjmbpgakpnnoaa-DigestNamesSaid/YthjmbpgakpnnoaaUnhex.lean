/- Digits read: the code's and the document's; no condition. -/
import Derived.Test.YthjmbpgakpnnoaaUnhexLaw
import Derived.Test.YthjmbpgakpnnoaaDigOf
namespace Go.Proofs.Ythjmbpgakpnnoaa
set_option linter.unusedVariables false
set_option linter.unusedSimpArgs false
open Go.RowKit

theorem run_index_str (t : Bs) (i : Nat) (h : i < t.length) (kk : IntKind) (w : World) : (Instr.index 9 (str t) (.int kk (i : Int))).run Try.prog w = .ok (.int .u8 ((t.getD i 0).toNat : Int)) w := by
  have hl : i < t.toArray.size := by simpa using h
  have hd : t.getD i 0 = t[i] := by rw [List.getD_eq_getElem?_getD, List.getElem?_eq_getElem h]; rfl
  have hs : (⟨t.toArray⟩ : ByteArray).size = t.length := rfl
  have h0 : (0 : Int) ≤ (i : Int) ∧ (i : Int) < (t.length : Int) := by omega
  rw [hd]
  simp [Instr.index, run_underlying Try.underlying9, asIntOf, go_sem, hs, h0, h]
  rfl
/-- What the code reckons of a digit c. -/
theorem digit_yes (c : Nat) (hc : c < 256) (hd : dval c < 16) :
    (48 ≤ c ∧ c ≤ 57 ∧ IntKind.u8.wrap ((c : Int) - 48) = (dval c : Int) ∧ dval c ≤ 9) ∨
    (97 ≤ c ∧ c ≤ 102 ∧ (∃ d1 d2 : Nat, IntKind.u8.wrap ((c : Int) - 48) = (d1 : Int) ∧ 9 < d1 ∧ IntKind.u8.wrap ((c : Int) - 97) = (d2 : Int) ∧ IntKind.u8.wrap ((d2 : Int) + 10) = (dval c : Int)) ∧ 10 ≤ dval c) := by
  by_cases h1 : 48 ≤ c ∧ c ≤ 57
  · have e : dval c = c - 48 := if_pos h1
    refine .inl ⟨h1.1, h1.2, ?_, by omega⟩
    rw [e, IntKind.wrap_u8]
    omega
  · have e0 : dval c = if 97 ≤ c ∧ c ≤ 102 then c - 87 else 16 := if_neg h1
    by_cases h2 : 97 ≤ c ∧ c ≤ 102
    · rw [if_pos h2] at e0
      refine .inr ⟨h2.1, h2.2, ⟨c - 48, c - 97, ?_, by omega, ?_, ?_⟩, by omega⟩
      · rw [IntKind.wrap_u8]; omega
      · rw [IntKind.wrap_u8]; omega
      · rw [e0, IntKind.wrap_u8]; omega
    · rw [if_neg h2] at e0
      omega
theorem digit_no (c : Nat) (hc : c < 256) (hd : ¬ dval c < 16) :
    ∃ d1 d2 d3 : Nat, IntKind.u8.wrap ((c : Int) - 48) = (d1 : Int) ∧ 9 < d1 ∧ IntKind.u8.wrap ((c : Int) - 97) = (d2 : Int) ∧ IntKind.u8.wrap ((d2 : Int) + 10) = (d3 : Int) ∧ (15 < d3 ∨ (d3 ≤ 15 ∧ 57 < c ∧ d3 < 10)) := by
  have h1 : ¬ (48 ≤ c ∧ c ≤ 57) := fun h => hd (by rw [dval, if_pos h]; omega)
  have h2 : ¬ (97 ≤ c ∧ c ≤ 102) := fun h => hd (by rw [dval, if_neg h1, if_pos h]; omega)
  refine ⟨(c + 208) % 256, (c + 159) % 256, (c + 169) % 256, ?_, by omega, ?_, ?_, by omega⟩
  · rw [IntKind.wrap_u8]; omega
  · rw [IntKind.wrap_u8]; omega
  · rw [IntKind.wrap_u8]; omega
theorem u8_or_dig (x d : Nat) (hx : x < 16) (hd : d < 16) : ∃ y : Nat, IntKind.u8.wrap ((x : Int) * 16) = (y : Int) ∧ (x : Int) * 16 = (y : Int) ∧ bits .or .u8 (y : Int) (d : Int) = ((x * 16 + d : Nat) : Int) := by
  refine ⟨x * 16, by rw [IntKind.wrap_u8]; omega, by omega, ?_⟩
  rw [(bits_nat .u8 8 (by decide) (fun n h0 h1 => by rw [IntKind.wrap_u8]; omega) (x * 16) d (by omega) (by omega)).2]
  have := Nat.two_pow_add_eq_or_of_lt (i := 4) (b := d) (by omega) x
  rw [Nat.mul_comm] at this
  rw [← this]

theorem two_arrs (w : World) (cs : Array Value) (h : cs = ((List.replicate 32 (0 : UInt8)).map byteV).toArray) : ∀ W, W = (w.alloc (.cells cs 26)).alloc (.cells cs 26) →
    Arr W w.heap.size 26 (List.replicate 32 0) ∧ Arr W (w.heap.size + 1) 26 (List.replicate 32 0) ∧ Ext (fun _ => False) w W := by
  rintro W rfl
  subst h
  exact ⟨⟨two_first _ _ _⟩, ⟨heap_alloc_at (by simp)⟩, ((Ext.refl _ _).alloc _).alloc _⟩

set_option maxRecDepth 100000 in
set_option maxHeartbeats 2000000 in
theorem unhex_walk (w : World) (t : Bs) (hl63 : t.length ≤ 9223372036854775807) : Calls Try.prog 20 #[str t] w fun e w' => e = .returned (.tuple #[sumV (unhexR t).1, .int .i64 (unhexR t).2]) ∧ Ext (fun _ => False) w w' := by
  have H0 := Lib.hid (two_arrs w _ zeros_cells.symm)
  by_cases hl : t.length = 64
  · have hne : (((t.length : Int)) != 64) = false := by simp; omega
    have Hl := Lib.hid hl
    have hlp : (t.length : Int) = 64 := by omega
    go_enter Try.func20, Try.ntmps20
    go_wp2_with fail
    generalize hw1 : (w.alloc _).alloc _ = w1
    obtain ⟨hA2, hA4, hx1⟩ := H0.out _ hw1.symm
    have H1 := Lib.hid (And.intro hA2 (And.intro hA4 hx1))
    clear hA2 hA4 hx1 H0 hw1
    go_loopw [13] (fun i W => ∃ k : Nat, k ≤ 64 ∧ i = .int .i64 k ∧ Arr W (w.heap.size + 1) 26 (outK t k) ∧ (∀ i, i < k → dv t i < 16) ∧ Ext (· = w.heap.size + 1) w1 W) (fun i _ => 64 - (intOf i).toNat)
    case atStart => exact ⟨0, by omega, rfl, by rw [outK_zero]; exact H1.out.2.1, fun i h => by omega, Ext.refl _ _⟩
    case round =>
      obtain ⟨k, hk, rfl, hA, hdd, hx⟩ := hrel
      have hx01 : Ext (fun _ => False) w wr := H1.out.2.2.trans' hx fun b hb => .inr (by omega)
      have hB := H1.out.1.ext hx (by omega)
      by_cases hk64 : k < 64
      · have hk' : decide ((k : Int) < 64) = true := by simp; omega
        have hk'' : (k : Int) < 64 := by omega
        have hidx := fun W => run_index_str t k (by omega) .i64 W
        obtain ⟨c, hc⟩ : ∃ c, (t.getD k 0).toNat = c := ⟨_, rfl⟩
        have hc256 : c < 256 := by rw [← hc]; exact UInt8.toNat_lt _
        have hdv : dv t k = dval c := by rw [dv, hc]
        rw [hc] at hidx
        by_cases hd : dval c < 16
        · have hnow := outAt_now t k hdd
          have hget := outK_get t k (k / 2) (by omega)
          have hset := outK_set t k hk64 hdd
          rw [hdv] at hset hnow
          have hcell := hA.cell (i := k / 2) (by rw [outK_len]; omega)
          have hce : (outK t k)[k / 2]'(by rw [outK_len]; omega) = UInt8.ofNat (outAt t k (k / 2)) := by
            rw [List.getElem?_eq_getElem (by rw [outK_len]; omega)] at hget
            exact Option.some.inj hget
          rw [hce] at hcell
          have hput := hA.put (k / 2) (UInt8.ofNat (outAt t k (k / 2) * 16 + dval c))
          rw [hset] at hput
          generalize outAt t k (k / 2) = x at *
          have hx16 : x < 16 := hnow.1
          have hxn : (UInt8.ofNat x).toNat = x := by rw [UInt8.toNat_ofNat']; exact Nat.mod_eq_of_lt (by omega)
          have hyn : (UInt8.ofNat (x * 16 + dval c)).toNat = x * 16 + dval c := by rw [UInt8.toNat_ofNat']; exact Nat.mod_eq_of_lt (by omega)
          rw [hyn] at hput
          unfold byteV at hcell
          rw [hxn] at hcell
          obtain ⟨y, f1, f2, f3⟩ := u8_or_dig x (dval c) hx16 hd
          have hfr := hA.melt (k / 2)
          have hal := lt_of_heap hA.obj
          have hnext : ∀ i, i < k + 1 → dv t i < 16 := fun i hi => by
            by_cases hik : i = k
            · subst hik; rw [hdv]; exact hd
            · exact hdd i (by omega)
          have hdy := digit_yes c hc256 hd
          generalize x * 16 + dval c = z at *
          generalize dval c = d at *
          have HP := Lib.hid (And.intro hput (And.intro hnext hx))
          clear hput hnext hx hA hdd hset hget hce hxn hyn hnow hdv hc hB hx01
          rcases hdy with ⟨g1, g2, g3, g4⟩ | ⟨g1, g2, ⟨d1, d2, g3, g4, g5, g6⟩, g7⟩
          · have n1 : ¬ (9 : Int) < (d : Int) := by omega
            have n1' : decide ((9 : Int) < (d : Int)) = false := by simp; omega
            have n2 : ¬ (15 : Int) < (d : Int) := by omega
            have n2' : decide ((15 : Int) < (d : Int)) = false := by simp; omega
            have n3 : ¬ (57 : Int) < (c : Int) := by omega
            have n3' : decide ((57 : Int) < (c : Int)) = false := by simp; omega
            go_wp2_with fail
            refine ⟨⟨k + 1, by omega, by go_num, HP.out.1, HP.out.2.1, HP.out.2.2.setCell (a := ⟨w.heap.size + 1, k / 2, none⟩) (.inl rfl) _⟩, by simp [intOf]; omega⟩
          · have n1 : (9 : Int) < (d1 : Int) := by omega
            have n1' : decide ((9 : Int) < (d1 : Int)) = true := by simp; omega
            have n2 : ¬ (15 : Int) < (d : Int) := by omega
            have n2' : decide ((15 : Int) < (d : Int)) = false := by simp; omega
            have n3 : (57 : Int) < (c : Int) := by omega
            have n3' : decide ((57 : Int) < (c : Int)) = true := by simp; omega
            have n4 : ¬ (d : Int) < 10 := by omega
            have n4' : decide ((d : Int) < 10) = false := by simp; omega
            go_wp2_with fail
            refine ⟨⟨k + 1, by omega, by go_num, HP.out.1, HP.out.2.1, HP.out.2.2.setCell (a := ⟨w.heap.size + 1, k / 2, none⟩) (.inl rfl) _⟩, by simp [intOf]; omega⟩
        · have hr : unhexR t = (List.replicate 32 0, 4) := by
            rw [unhexR, if_neg]
            intro ha
            have := (allD_dv ha).2 k hk64
            rw [hdv] at this
            exact hd this
          obtain ⟨d1, d2, d3, g3, g4, g5, g6, g7⟩ := digit_no c hc256 hd
          have HP := Lib.hid (And.intro hr (And.intro hB hx01))
          have n1 : (9 : Int) < (d1 : Int) := by omega
          have n1' : decide ((9 : Int) < (d1 : Int)) = true := by simp; omega
          clear hr hB hx01 hA hdd hx hdv hc hd
          rcases g7 with g7 | ⟨g7, g8, g9⟩
          · have n2 : (15 : Int) < (d3 : Int) := by omega
            have n2' : decide ((15 : Int) < (d3 : Int)) = true := by simp; omega
            go_wp2_with (refine wpList_store_row rfl 26 _ _ rfl w.heap.size _ rfl rfl 26 _ HP.out.2.1.obj (by kernel_rfl) (by kernel_rfl) (by kernel_rfl) ?_)
            refine bodyPost_ret (results_cell_tmp rfl _ _ w.heap.size 26 _ (0, 0) _ rfl (setRow_heap _ _ _ _ _ _ HP.out.2.1.obj) Try.underlying26 rfl (by kernel_rfl)) rfl ?_
            refine ⟨?_, HP.out.2.2.setRow (.inr (Nat.le_refl _)) _⟩
            rw [HP.out.1]
            rfl
          · have n2 : ¬ (15 : Int) < (d3 : Int) := by omega
            have n2' : decide ((15 : Int) < (d3 : Int)) = false := by simp; omega
            have n3 : (57 : Int) < (c : Int) := by omega
            have n3' : decide ((57 : Int) < (c : Int)) = true := by simp; omega
            have n4 : (d3 : Int) < 10 := by omega
            have n4' : decide ((d3 : Int) < 10) = true := by simp; omega
            go_wp2_with (refine wpList_store_row rfl 26 _ _ rfl w.heap.size _ rfl rfl 26 _ HP.out.2.1.obj (by kernel_rfl) (by kernel_rfl) (by kernel_rfl) ?_)
            refine bodyPost_ret (results_cell_tmp rfl _ _ w.heap.size 26 _ (0, 0) _ rfl (setRow_heap _ _ _ _ _ _ HP.out.2.1.obj) Try.underlying26 rfl (by kernel_rfl)) rfl ?_
            refine ⟨?_, HP.out.2.2.setRow (.inr (Nat.le_refl _)) _⟩
            rw [HP.out.1]
            rfl
      · have : k = 64 := by omega
        subst this
        have hk' : decide ((64 : Int) < 64) = false := by decide
        rw [show ((64 : Nat) : Int) = (64 : Int) from rfl]
        have ha := allD_mk Hl.out hdd
        have hr : unhexR t = (outK t 64, 0) := by rw [unhexR, if_pos ha]
        have hho := hex_out t Hl.out hdd
        have hH := hex_walk wr (outK t 64) (outK_len _ _)
        rw [hho, sumV_cells] at hH
        have hcz := sum_size (outK t 64) (outK_len _ _)
        have hco := sum_one (outK t 64)
        have hob := hA.obj
        generalize hcs : ((outK t 64).map byteV).toArray = cs at *
        have Hc := Lib.hid (And.intro (And.intro hcz hco) (And.intro hcs (And.intro hob (And.intro hB (And.intro hx01 (And.intro hr hH))))))
        clear hcz hco hcs hob hB hx01 hr hH hho ha hA hdd hx
        go_wp2_with (refine wpList_load_row rfl 26 _ rfl (w.heap.size + 1) rfl 26 cs (0, 0) _ Hc.out.2.2.1 Try.underlying26 rfl (by rw [Hc.out.1.1]; kernel_rfl) ?_)
        refine Hc.out.2.2.2.2.2.2.mono ?_
        rintro e w3 ⟨rfl, hx3⟩
        have hob3 := hx3.heap Hc.out.2.2.1 id
        have hB3 := Hc.out.2.2.2.1.ext hx3 id
        have H3 := Lib.hid (And.intro hob3 (And.intro hB3 (Hc.out.2.2.2.2.1.trans hx3)))
        clear hob3 hB3 hx3
        go_wp2_with (first
          | refine wpList_load_row rfl 26 _ rfl (w.heap.size + 1) rfl 26 cs (0, 0) _ H3.out.1 Try.underlying26 rfl (by rw [Hc.out.1.1]; kernel_rfl) ?_
          | refine wpList_store_row rfl 26 _ _ rfl w.heap.size cs rfl rfl 26 _ H3.out.2.1.obj (by rw [Hc.out.1.1]; kernel_rfl) (by rw [Hc.out.1.1]; rfl) Hc.out.1.2 ?_)
        refine bodyPost_ret (results_cell_tmp rfl _ _ w.heap.size 26 cs (0, 0) _ rfl (setRow_heap _ _ _ _ _ _ H3.out.2.1.obj) Try.underlying26 rfl (by rw [Hc.out.1.1]; kernel_rfl)) rfl ?_
        refine ⟨?_, H3.out.2.2.setRow (.inr (Nat.le_refl _)) _⟩
        rw [Hc.out.2.2.2.2.2.1, sumV_cells, Hc.out.2.1]
        rfl
  · have hne : (((t.length : Int)) != 64) = true := by simp; omega
    have hr : unhexR t = (List.replicate 32 0, 4) := by
      rw [unhexR, if_neg]
      intro ha
      exact hl (allD_dv ha).1
    have HR := Lib.hid hr
    clear hr
    go_enter Try.func20, Try.ntmps20
    go_wp2_with (refine wpList_store_row rfl 26 _ _ rfl w.heap.size _ rfl rfl 26 _ (H0.out _ rfl).1.obj (by kernel_rfl) (by kernel_rfl) (by kernel_rfl) ?_)
    refine bodyPost_ret (results_cell_tmp rfl _ _ w.heap.size 26 _ (0, 0) _ rfl (setRow_heap _ _ _ _ _ _ (H0.out _ rfl).1.obj) Try.underlying26 rfl (by kernel_rfl)) rfl ?_
    refine ⟨?_, (H0.out _ rfl).2.2.setRow (.inr (Nat.le_refl _)) _⟩
    rw [HR.out]
    rfl
end Go.Proofs.Ythjmbpgakpnnoaa
