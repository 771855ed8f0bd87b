/- A key's bits in the program: Bit, side, apart; no condition. -/
import Derived.Test.YtoflfhjeabpcjaaTrieLaw
import Derived.Test.YtoflfhjeabpcjaaBufs2
namespace Go.Proofs.Ytoflfhjeabpcjaa
set_option linter.unusedVariables false
set_option linter.unusedSimpArgs false
open Go.RowKit

theorem Byt.cell {D : Nat → Prop} {w : World} {v : Value} {l : Bs} (hb : Byt D w v l) (hne : l ≠ []) : ∃ ad c, v = .slice (some ad) l.length c ∧ l.length ≤ c ∧ ∀ (j : Nat) (u : UInt8), l[j]? = some u → w.cell? (ad.add j) = some (.int .u8 u.toNat) := by
  obtain ⟨A, c, rfl, hcap, hat⟩ := hb
  obtain ⟨ad, rfl, _, hcell⟩ := hat hne
  exact ⟨ad, c, rfl, hcap, hcell⟩
theorem byte_bit : ∀ (c : Nat), c < 256 → ∀ (j : Nat), 0 < j → j < 9 → ((c : Int) * 2 ^ (j - 1) % 256 / 128 == 1) = c.testBit (8 - j) := by
  have h : ∀ (c : Fin 256) (j : Fin 9), 0 < j.val → ((c.val : Int) * 2 ^ (j.val - 1) % 256 / 128 == 1) = c.val.testBit (8 - j.val) := by decide +kernel
  exact fun c hc j h0 hj => h ⟨c, hc⟩ ⟨j, hj⟩ h0
/-- A key's bit at any place. -/
def bitI (k : Bs) (i : Int) : Bool := if i < 0 then false else bitB k i.toNat
theorem bitI_nat (k : Bs) (i : Nat) : bitI k (i : Int) = bitB k i := by
  unfold bitI
  rw [if_neg (by omega), Int.toNat_natCast]
set_option maxRecDepth 100000 in
theorem bit_walk {w : World} {D : Nat → Prop} {v : Value} {k : Bs} (hb : Byt D w v k) (hk : k.length ≤ 140737488355328) (i : Int) :
    Calls Try.prog 18 #[v, .int .i64 i] w fun e w' => e = .returned (.bool (bitI k i)) ∧ w = w' := by
  have hw9 : IntKind.i64.wrap (9 * (k.length : Int)) = 9 * (k.length : Int) := IntWalk.i64_in _ (by omega)
  by_cases h0 : i < 0
  · have hr : bitI k i = false := by unfold bitI; rw [if_pos h0]
    obtain ⟨A, c, rfl, hcap, _⟩ := hb
    have h0' : decide (i < 0) = true := by simpa using h0
    go_enter Try.func18, Try.ntmps18
    go_wp2_with fail
    go_ret
    exact ⟨by first | rfl | (rw [hr]; rfl), rfl⟩
  have h0' : decide (i < 0) = false := by simpa using h0
  obtain ⟨n, rfl⟩ : ∃ n : Nat, i = (n : Int) := ⟨i.toNat, by omega⟩
  by_cases h1 : 9 * (k.length : Int) ≤ (n : Int)
  · have hr : bitI k n = false := by rw [bitI_nat]; unfold bitB; rw [if_pos (by omega)]
    obtain ⟨A, c, rfl, hcap, _⟩ := hb
    have h1' : decide (9 * (k.length : Int) ≤ (n : Int)) = true := by simpa using h1
    go_enter Try.func18, Try.ntmps18
    go_wp2_with fail
    go_ret
    exact ⟨by first | rfl | (rw [hr]; rfl), rfl⟩
  have h1' : decide (9 * (k.length : Int) ≤ (n : Int)) = false := by simpa using h1
  have hne : k ≠ [] := by rintro rfl; simp at h1
  obtain ⟨ad, c, rfl, hcap, hcell⟩ := hb.cell hne
  by_cases h2 : n % 9 = 0
  · have hr : bitI k n = true := by rw [bitI_nat]; unfold bitB; rw [if_neg (by omega), if_pos h2]
    go_enter Try.func18, Try.ntmps18
    go_wp2_with fail
    go_ret
    exact ⟨by first | rfl | (rw [hr]; rfl), rfl⟩
  have hlt : n / 9 < k.length := by omega
  have hc := hcell (n / 9) _ (List.getElem?_eq_getElem hlt)
  have hr : bitI k n = (k[n / 9]).toNat.testBit (8 - n % 9) := by
    rw [bitI_nat]; unfold bitB; rw [if_neg (by omega), if_neg h2]; simp [hlt]
  go_enter Try.func18, Try.ntmps18
  go_wp2_with fail
  go_ret
  refine ⟨?_, rfl⟩
  show Ending.returned (.bool ((k[n / 9].toNat : Int) * 2 ^ (n % 9 - 1) % 256 / 128 == 1)) = _
  rw [byte_bit _ k[n / 9].toNat_lt _ (by omega) (by omega)]
theorem side_walk {w : World} {D : Nat → Prop} {v : Value} {k : Bs} (hb : Byt D w v k) (hk : k.length ≤ 140737488355328) (i : Nat) :
    Calls Try.prog 64 #[v, .int .i64 i] w fun e w' => e = .returned (.int .i64 (if bitB k i then 1 else 0)) ∧ w = w' := by
  have H := Lib.hid (bit_walk hb hk (i : Int))
  rw [bitI_nat] at H
  clear hb hk
  cases hx : bitB k i with
  | true =>
    rw [hx] at H
    go_enter Try.func64, Try.ntmps64
    go_wp2_with fail
    refine H.out.mono ?_
    rintro e _ ⟨rfl, rfl⟩
    go_wp2_with fail
    go_ret
    exact ⟨rfl, rfl⟩
  | false =>
    rw [hx] at H
    go_enter Try.func64, Try.ntmps64
    go_wp2_with fail
    refine H.out.mono ?_
    rintro e _ ⟨rfl, rfl⟩
    go_wp2_with fail
    go_ret
    exact ⟨rfl, rfl⟩
/-- The first place apart, of keys that are not the same. -/
theorem apart_walk {w : World} {D D' : Nat → Prop} {v v' : Value} {a b : Bs} (ha : Byt D w v a) (hb : Byt D' w v' b) (hka : a.length ≤ 140737488355328) (hkb : b.length ≤ 140737488355328) (hne : a ≠ b) :
    Calls Try.prog 61 #[v, v'] w fun e w' => ∃ i : Nat, e = .returned (.int .i64 i) ∧ bitB a i ≠ bitB b i ∧ (∀ j, j < i → bitB a j = bitB b j) ∧ w = w' := by
  obtain ⟨N, h1, h2, h3⟩ := first_apart hne
  have hN : N ≤ 1266637395197952 := by omega
  have HA := fun i : Nat => Lib.hid (bit_walk ha hka (i : Int))
  have HB := fun i : Nat => Lib.hid (bit_walk hb hkb (i : Int))
  simp only [bitI_nat] at HA HB
  have Hd := Lib.hid (And.intro h1 h2)
  clear ha hb h1 h2 h3 hne hka hkb
  go_enter Try.func61, Try.ntmps61
  go_wp2_with fail
  go_loopw [5] (fun i W => ∃ k : Nat, k ≤ N ∧ i = .int .i64 k ∧ w = W) (fun i _ => N - (intOf i).toNat)
  case atStart => exact ⟨0, Nat.zero_le _, rfl, rfl⟩
  case round =>
    obtain ⟨k, hkN, rfl, rfl⟩ := hrel
    go_wp2_with fail
    refine (HA k).out.mono ?_
    rintro e _ ⟨rfl, rfl⟩
    go_wp2_with fail
    refine (HB k).out.mono ?_
    rintro e _ ⟨rfl, rfl⟩
    by_cases hkN' : k = N
    · subst hkN'
      have hx : (bitB a k == bitB b k) = false := by simpa using Hd.out.1
      go_wp2_with fail
      go_ret
      exact ⟨k, rfl, Hd.out.1, Hd.out.2, rfl⟩
    · have hx : (bitB a k == bitB b k) = true := by simpa using Hd.out.2 k (by omega)
      go_wp2_with fail
      exact ⟨⟨k + 1, by omega, by go_num, by first | rfl | trivial⟩, by simp [intOf]; omega⟩
end Go.Proofs.Ytoflfhjeabpcjaa
