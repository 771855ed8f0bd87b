/- The document's Bit, Fork, Side; no condition. -/
import Derived.Test.YtoflfhjeabpcjaaTrieMade
import Derived.Test.YtoflfhjeabpcjaaOpenEntry
namespace Go.Proofs.Ytoflfhjeabpcjaa
set_option linter.unusedVariables false
set_option linter.unusedSimpArgs false
open Go.RowKit

theorem byte_bit2 : ∀ (c : Nat), c < 256 → ∀ (j : Nat), j < 9 → 0 < j → (((c : Int) / 2 ^ (8 - j)).tmod 2 == 1) = c.testBit (8 - j) := by
  have h : ∀ (c : Fin 256) (j : Fin 9), 0 < j.val → (((c.val : Int) / 2 ^ (8 - j.val)).tmod 2 == 1) = c.val.testBit (8 - j.val) := by decide +kernel
  exact fun c hc j h0 hj => h ⟨c, hc⟩ ⟨j, h0⟩ hj
set_option maxRecDepth 100000 in
theorem dbit_walk {w : World} {D : Nat → Prop} {v : Value} {k : Bs} (hb : Byt D w v k) (hk : k.length ≤ 140737488355328) (i : Int) :
    Calls Try.prog 26 #[v, .int .i64 i] w fun e w' => e = .returned (.bool (bitI k i)) ∧ w = w' := by
  have hw9 : IntKind.i64.wrap (9 * (k.length : Int)) = 9 * (k.length : Int) := IntWalk.i64_in _ (by omega)
  by_cases h0 : i < 0
  · have hr : bitI k i = false := by unfold bitI; rw [if_pos h0]
    obtain ⟨A, c, rfl, hcap, _⟩ := hb
    have h0' : decide (i < 0) = true := by simpa using h0
    go_enter Try.func26, Try.ntmps26
    go_wp2_with fail
    go_ret
    exact ⟨by first | rfl | (rw [hr]; rfl), rfl⟩
  have h0' : decide (i < 0) = false := by simpa using h0
  obtain ⟨n, rfl⟩ : ∃ n : Nat, i = (n : Int) := ⟨i.toNat, by omega⟩
  by_cases h1 : 9 * (k.length : Int) ≤ (n : Int)
  · have hr : bitI k n = false := by rw [bitI_nat]; unfold bitB; rw [if_pos (by omega)]
    obtain ⟨A, c, rfl, hcap, _⟩ := hb
    have h1' : decide (9 * (k.length : Int) ≤ (n : Int)) = true := by simpa using h1
    go_enter Try.func26, Try.ntmps26
    go_wp2_with fail
    go_ret
    exact ⟨by first | rfl | (rw [hr]; rfl), rfl⟩
  have h1' : decide (9 * (k.length : Int) ≤ (n : Int)) = false := by simpa using h1
  have hne : k ≠ [] := by rintro rfl; simp at h1
  obtain ⟨ad, c, rfl, hcap, hcell⟩ := hb.cell hne
  by_cases h2 : n % 9 = 0
  · have hr : bitI k n = true := by rw [bitI_nat]; unfold bitB; rw [if_neg (by omega), if_pos h2]
    go_enter Try.func26, Try.ntmps26
    go_wp2_with fail
    go_ret
    exact ⟨by first | rfl | (rw [hr]; rfl), rfl⟩
  have hlt : n / 9 < k.length := by omega
  have hc := hcell (n / 9) _ (List.getElem?_eq_getElem hlt)
  have hr : bitI k n = (k[n / 9]).toNat.testBit (8 - n % 9) := by
    rw [bitI_nat]; unfold bitB; rw [if_neg (by omega), if_neg h2]; simp [hlt]
  go_enter Try.func26, Try.ntmps26
  go_wp2_with fail
  go_ret
  refine ⟨?_, rfl⟩
  show Ending.returned (.bool (((k[n / 9].toNat : Int) / 2 ^ (8 - n % 9)).tmod 2 == 1)) = _
  rw [byte_bit2 _ k[n / 9].toNat_lt _ (by omega) (by omega)]
set_option maxRecDepth 100000 in
set_option maxHeartbeats 2000000 in
/-- The first place at which not all keys' bits are the same. -/
theorem dfork_walk {w : World} {D : Nat → Prop} {lv : Value} {l : List (Bs × Bs)} (hL : Row (EntryIs D) 2 D w lv l) (hl : l.length ≤ 1099511627776) (h0 : 0 < l.length) {b : Nat} (hb : b ≤ 1080)
    (hlow : ∀ i, i < b → ∀ e ∈ l, bitB e.1 i = bitB l[0].1 i) (hat : ∃ e ∈ l, bitB e.1 b ≠ bitB l[0].1 b) :
    Calls Try.prog 96 #[lv] w fun e w' => e = .returned (.int .i64 b) ∧ w = w' := by
  obtain ⟨A, cp, hav, hcap, _⟩ := id hL
  subst hav
  obtain ⟨g, off, c', hav, _, ⟨⟨a0, b0, c0, _, ha0, _⟩, la0, _⟩⟩ := hL.at h0
  simp only [Value.slice.injEq, true_and] at hav
  obtain ⟨rfl, rfl⟩ := hav
  have z0 : w.cell? ⟨g, off, none⟩ = some a0 := by simpa using c0
  have HL := Lib.hid hL
  have HA := Lib.hid (And.intro hlow hat)
  have HB0 := Lib.hid ha0
  clear hL hlow hat ha0 c0
  go_enter Try.func96, Try.ntmps96
  go_wp2_with fail
  go_loopw [3] (fun i W => ∃ k : Nat, k ≤ b ∧ i = .int .i64 k ∧ w = W) (fun i _ => b - (intOf i).toNat)
  case atStart => exact ⟨0, Nat.zero_le _, rfl, rfl⟩
  case round =>
    obtain ⟨k, hk, rfl, rfl⟩ := hrel
    have hk1080 : decide ((k : Int) ≤ 1080) = true := by simp; omega
    go_wp2_with fail
    refine (dbit_walk HB0.out (by omega) (k : Int)).mono ?_
    rintro e _ ⟨rfl, rfl⟩
    rw [bitI_nat]
    go_wp2_with fail
    go_loopw [5] (fun i W => ∃ j : Nat, 1 ≤ j ∧ j ≤ l.length ∧ i = .int .i64 j ∧ w = W ∧ ∀ m (h : m < l.length), m < j → bitB l[m].1 k = bitB l[0].1 k) (fun i _ => l.length - (intOf i).toNat)
    case atStart =>
      refine ⟨1, Nat.le_refl _, by omega, rfl, rfl, fun m h hm => ?_⟩
      have : m = 0 := by omega
      subst this
      rfl
    case round =>
      obtain ⟨j, hj1, hjl, rfl, rfl, hall⟩ := hrel
      by_cases hlt : j < l.length
      · obtain ⟨g', off', c'', hav, _, ⟨⟨aj, bj, cj, _, haj, _⟩, laj, _⟩⟩ := HL.out.at hlt
        simp only [Value.slice.injEq, Option.some.injEq, Addr.mk.injEq, true_and, and_true] at hav
        obtain ⟨⟨rfl, rfl⟩, rfl⟩ := hav
        have hjd : decide ((j : Int) < (l.length : Int)) = true := by simp; omega
        have HJ := Lib.hid (And.intro haj (And.intro hall laj))
        clear haj hall
        go_wp2_with fail
        refine (dbit_walk HJ.out.1 (by have := HJ.out.2.2; omega) (k : Int)).mono ?_
        rintro e _ ⟨rfl, rfl⟩
        rw [bitI_nat]
        by_cases hbe : bitB l[j].1 k = bitB l[0].1 k
        · have hx : (bitB l[j].1 k == bitB l[0].1 k) = true := by simpa using hbe
          have HX := Lib.hid hbe
          clear hbe
          go_wp2_with fail
          refine ⟨⟨j + 1, by omega, by omega, by go_num, trivial, fun m h hm => ?_⟩, by simp [intOf]; omega⟩
          by_cases hmj : m < j
          · exact HJ.out.2.1 m h hmj
          · have : m = j := by omega
            subst this
            exact HX.out
        · have hx : (bitB l[j].1 k == bitB l[0].1 k) = false := by simpa using hbe
          have hkb : k = b := by
            apply Classical.byContradiction
            intro hne
            exact hbe (HA.out.1 k (by omega) _ (List.getElem_mem hlt))
          subst hkb
          clear hbe
          go_wp2_with fail
          go_ret
          exact ⟨rfl, rfl⟩
      · have hjd : decide ((j : Int) < (l.length : Int)) = false := by simp; omega
        have hkb : k < b := by
          apply Classical.byContradiction
          intro hne
          have hkb : k = b := by omega
          subst hkb
          obtain ⟨e, he, hne⟩ := HA.out.2
          obtain ⟨m, hm, rfl⟩ := List.mem_iff_getElem.1 he
          exact hne (hall m hm (by omega))
        clear hall
        go_wp2_with fail
        exact ⟨⟨k + 1, by omega, by go_num, trivial⟩, by simp [intOf]; omega⟩
end Go.Proofs.Ytoflfhjeabpcjaa
