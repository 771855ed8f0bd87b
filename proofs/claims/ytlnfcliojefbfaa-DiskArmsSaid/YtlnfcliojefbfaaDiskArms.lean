/- DiskArms: what the statement's function computes; no condition. -/
import Derived.Test.YtlnfcliojefbfaaDisk4
import Derived.Deep.DeepCutAuto
import Derived.Laws.BitsLemmas
namespace Go.Proofs.Ytlnfcliojefbfaa
set_option linter.unusedVariables false
set_option linter.unusedSimpArgs false
open Go.RowKit

theorem append_goes {x : Dk} {m : Bs} {n : Int} (h1 : x.off = false) (h2 : x.armed = true) (h3 : x.acts = n) (h4 : 0 < n) (h5 : x.l.length + m.length ≤ 4194304) : appendD m x = (0, { x with acts := n - 1, l := x.l ++ m }) := by
  unfold appendD goesD
  simp [h1, h2, h3, h4]
  omega
theorem sync_goes {x : Dk} {n : Int} (h1 : x.off = false) (h2 : x.armed = true) (h3 : x.acts = n) (h4 : 0 < n) : syncD x = (0, { x with acts := n - 1, s := x.l.length }) := by
  unfold syncD goesD
  simp [h1, h2, h3, h4]
theorem cut_goes {x : Dk} {n : Int} (h1 : x.off = false) (h2 : x.armed = true) (h3 : x.acts = n) (h4 : 0 < n) (h5 : x.s ≤ x.l.length) : cutD x.s x = (0, keepD x.s { x with acts := n - 1 }) := by
  have : ¬ ((x.l.length : Int) < (x.s : Int)) := by omega
  have : ¬ ((x.s : Int) < 0) := by omega
  unfold cutD goesD
  simp [h1, h2, h3, h4]
  omega

theorem and31 (x : Int) : ∃ n : Nat, bits .and .i64 x 31 = n ∧ n ≤ 31 := by
  have hle : (BitVec.ofInt 64 x).toNat &&& 31 ≤ 31 := Nat.and_le_right
  refine ⟨(BitVec.ofInt 64 x).toNat &&& 31, ?_, hle⟩
  show IntKind.i64.wrap ((BitVec.ofInt 64 x &&& BitVec.ofInt 64 31).toNat : Int) = _
  rw [BitVec.toNat_and, show (BitVec.ofInt 64 31).toNat = 31 by decide, IntKind.wrap_i64]
  omega
theorem tmod3 (k r : Nat) (h : k % 3 = r) : ((k : Int).tmod 3) = r := by
  rw [Int.tmod_eq_emod_of_nonneg (by omega)]
  omega

set_option maxRecDepth 100000 in
theorem arms_walk {w : World} {bv : Value} {b : Bs} (acts part : Int) (hb : Byt (· < w.heap.size) w bv b) (hl : b.length ≤ maxLen) :
    Calls Try.prog 9 #[.int .i64 acts, .int .i64 part, bv] w fun e w' => e = .returned (.bool true) ∧ Ext (fun _ => False) w w' := by
  obtain ⟨bA, bc, rfl, _, _⟩ := id hb
  go_enter Try.func9, Try.ntmps9
  go_wp2_with fail
  refine (disk_small _).mono ?_
  rintro e w1 ⟨rfl, hx1⟩
  go_wp2_with fail
  refine (inv_new w hx1).mono ?_
  rintro e w2 ⟨a, rfl, h2⟩
  by_cases hbig : (4096 : Int) < (b.length : Int)
  · have hbig' : decide ((4096 : Int) < (b.length : Int)) = true := by simpa using hbig
    have Hx := Lib.hid h2.old
    clear h2
    go_wp2_with fail
    go_ret
    exact ⟨rfl, Hx.out⟩
  · have hbig' : decide ((4096 : Int) < (b.length : Int)) = false := by simpa using hbig
    go_wp2_with fail
    obtain ⟨n, hn, hn31⟩ := and31 acts
    rw [hn]
    refine (inv_arm h2 n part (by omega)).mono ?_
    rintro e w3 ⟨rfl, h3⟩
    have hs : armD n part ⟨false, false, 0, 0, [], 0⟩ = ⟨false, true, n, part, [], 0⟩ := by simp [armD]
    rw [hs] at h3
    have Hn := Lib.hid hn
    clear hn hs
    go_wp2_with fail
    go_loopw [10] (fun i W => ∃ (k : Nat) (x : Dk), k ≤ n ∧ i = .int .i64 k ∧ DInv w W a x ∧ x.off = false ∧ x.armed = true ∧ x.acts = (n : Int) - k ∧ x.l.length ≤ k * 4096)
      (fun i _ => n - (intOf i).toNat)
    case atStart => exact ⟨0, _, by omega, rfl, h3, rfl, rfl, by simp, by simp⟩
    case round =>
      obtain ⟨k, x, hk, rfl, hD, ho, ha, hac, hxl⟩ := hrel
      have hbr := hb.same hD.old
      have hds : ∀ j, j < w.heap.size → j < w.heap.size ∨ wr.heap.size ≤ j := fun j h => .inl h
      have hsf := hD.safe
      by_cases hkn : k < n
      · have hkn' : (k : Int) < (n : Int) := by omega
        have hup := fun W (x' : Dk) (h : DInv w W a x') (h0 : x'.off = false) => inv_up h
        have Hac := Lib.hid hac
        have Hsf := Lib.hid hsf
        clear hac hsf
        by_cases m0 : k % 3 = 0
        · have ht := tmod3 k 0 m0
          go_wp2_with fail
          refine (inv_append hD (Ext.refl _ _) hbr hds (by omega)).mono ?_
          rintro e w4 ⟨he, h4⟩
          rw [append_goes ho ha Hac.out (by omega) (by omega)] at he h4
          subst he
          go_wp2_with fail
          refine (inv_up h4).mono ?_
          rintro e _ ⟨rfl, rfl⟩
          rw [ho]
          go_wp2_with fail
          have hac := Hac.out
          go_roundw
          case rel => exact ⟨k + 1, _, by omega, by go_num, h4, ho, ha, by simp; omega, by simp; omega⟩
          case measure => simp [intOf]; omega
        · by_cases m1 : k % 3 = 1
          · have ht := tmod3 k 1 m1
            go_wp2_with fail
            refine (inv_sync hD).mono ?_
            rintro e w4 ⟨he, h4⟩
            rw [sync_goes ho ha Hac.out (by omega)] at he h4
            subst he
            go_wp2_with fail
            refine (inv_up h4).mono ?_
            rintro e _ ⟨rfl, rfl⟩
            rw [ho]
            go_wp2_with fail
            have hac := Hac.out
            go_roundw
            case rel => exact ⟨k + 1, _, by omega, by go_num, h4, ho, ha, by simp; omega, by simp; omega⟩
            case measure => simp [intOf]; omega
          · have ht := tmod3 k 2 (by omega)
            go_wp2_with fail
            refine (inv_safe hD).mono ?_
            rintro e _ ⟨rfl, rfl⟩
            go_wp2_with fail
            refine (inv_cut hD x.s).mono ?_
            rintro e w4 ⟨he, h4⟩
            rw [cut_goes ho ha Hac.out (by omega) Hsf.out.1] at he h4
            subst he
            go_wp2_with fail
            refine (inv_up h4).mono ?_
            rintro e _ ⟨rfl, rfl⟩
            rw [show (keepD x.s { x with acts := (n : Int) - k - 1 }).off = false from ho]
            go_wp2_with fail
            have hac := Hac.out
            go_roundw
            case rel => exact ⟨k + 1, _, by omega, by go_num, h4, ho, ha, by simp [keepD]; omega, by simp [keepD]; omega⟩
            case measure => simp [intOf]; omega
      · have : k = n := by omega
        subst this
        have hkn' : decide ((k : Int) < (k : Int)) = false := by simp
        have ha0 : x.acts = 0 := by omega
        have e1 : appendD b x = (18, { x with off := true, l := x.l ++ b.take (x.part % (b.length + 1 : Nat)).toNat }) := by
          unfold appendD goesD
          simp [ho, ha, ha0]
          omega
        go_wp2_with fail
        refine (inv_append hD (Ext.refl _ _) hbr hds (by omega)).mono ?_
        rintro e w4 ⟨he, h4⟩
        rw [e1] at he h4
        subst he
        go_wp2_with fail
        have hlen4 : ({ x with off := true, l := x.l ++ b.take (x.part % (b.length + 1 : Nat)).toNat } : Dk).l.length ≤ 200000 := by simp; omega
        generalize hx4 : ({ x with off := true, l := x.l ++ b.take (x.part % (b.length + 1 : Nat)).toNat } : Dk) = x4 at h4 hlen4
        have ho4 : x4.off = true := by rw [← hx4]
        refine (inv_sync h4).mono ?_
        rintro e w5 ⟨he, h5⟩
        rw [show syncD x4 = (18, x4) by simp [syncD, ho4]] at he h5
        subst he
        go_wp2_with fail
        refine (inv_boot h5 part).mono ?_
        rintro e w6 ⟨rfl, h6⟩
        go_wp2_with fail
        have hlen6 : (bootD part x4).l.length ≤ 200000 := by simp [bootD, keepD]; omega
        have e7 : appendD b (bootD part x4) = (0, { bootD part x4 with l := (bootD part x4).l ++ b }) := by
          unfold appendD goesD
          simp [show (bootD part x4).off = false from rfl, show (bootD part x4).armed = false from rfl]
          omega
        refine (inv_append h6 (Ext.refl _ _) (hb.same h6.old) (fun j h => .inl h) (by omega)).mono ?_
        rintro e w7 ⟨he, h7⟩
        rw [e7] at he h7
        subst he
        go_wp2_with fail
        refine (inv_up h7).mono ?_
        rintro e _ ⟨rfl, rfl⟩
        have Hx := Lib.hid h7.old
        clear h7
        rw [show (bootD part x4).off = false from rfl]
        go_wp2_with fail
        go_ret
        exact ⟨rfl, Hx.out⟩
end Go.Proofs.Ytlnfcliojefbfaa
