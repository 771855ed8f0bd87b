/- Digits and back, in plain lists; no condition. -/
import Derived.Test.YthjmbpgakpnnoaaHex
namespace Go.Proofs.Ythjmbpgakpnnoaa
set_option linter.unusedVariables false
set_option linter.unusedSimpArgs false
open Go.RowKit

/-- A digit's number; 16: it is none. -/
def dval (c : Nat) : Nat := if 48 ≤ c ∧ c ≤ 57 then c - 48 else if 97 ≤ c ∧ c ≤ 102 then c - 87 else 16
theorem dval_dig (n : Nat) (h : n < 16) : dval (dig n).toNat = n := by
  have : n = 0 ∨ n = 1 ∨ n = 2 ∨ n = 3 ∨ n = 4 ∨ n = 5 ∨ n = 6 ∨ n = 7 ∨ n = 8 ∨ n = 9 ∨ n = 10 ∨ n = 11 ∨ n = 12 ∨ n = 13 ∨ n = 14 ∨ n = 15 := by omega
  rcases this with rfl | rfl | rfl | rfl | rfl | rfl | rfl | rfl | rfl | rfl | rfl | rfl | rfl | rfl | rfl | rfl <;> rfl
theorem dig_dval : ∀ c : Fin 256, dval c.val < 16 → (dig (dval c.val)).toNat = c.val := by decide +kernel
theorem dig_dval' (c : UInt8) (h : dval c.toNat < 16) : dig (dval c.toNat) = c := UInt8.toNat_inj.1 (dig_dval ⟨c.toNat, UInt8.toNat_lt c⟩ h)
/-- Digit k of t. -/
def dv (t : Bs) (k : Nat) : Nat := dval (t.getD k 0).toNat
def outAt (t : Bs) (k j : Nat) : Nat := if 2 * j + 2 ≤ k then dv t (2 * j) * 16 + dv t (2 * j + 1) else if 2 * j + 1 ≤ k then dv t (2 * j) else 0
/-- What k digits of t make. -/
def outK (t : Bs) (k : Nat) : Bs := (List.range 32).map fun j => UInt8.ofNat (outAt t k j)
theorem outK_len (t : Bs) (k : Nat) : (outK t k).length = 32 := by simp [outK]
theorem outK_zero (t : Bs) : outK t 0 = List.replicate 32 0 := by
  apply List.ext_getElem?
  intro j
  by_cases hj : j < 32
  · rw [List.getElem?_replicate_of_lt hj]
    simp [outK, hj, outAt]
  · rw [List.getElem?_eq_none (by rw [outK_len]; omega), List.getElem?_eq_none (by simp; omega)]
theorem outK_get (t : Bs) (k j : Nat) (h : j < 32) : (outK t k)[j]? = some (UInt8.ofNat (outAt t k j)) := by simp [outK, h]
theorem outAt_now (t : Bs) (k : Nat) (hd : ∀ i, i < k → dv t i < 16) : outAt t k (k / 2) < 16 ∧ outAt t (k + 1) (k / 2) = outAt t k (k / 2) * 16 + dv t k := by
  unfold outAt
  by_cases he : k % 2 = 0
  · have e : 2 * (k / 2) = k := by omega
    rw [e, if_neg (by omega), if_neg (by omega), if_neg (by omega), if_pos (by omega)]
    omega
  · have e : 2 * (k / 2) = k - 1 := by omega
    rw [e, if_neg (by omega), if_pos (by omega), if_pos (by omega), show k - 1 + 1 = k by omega]
    exact ⟨hd _ (by omega), rfl⟩
theorem outK_set (t : Bs) (k : Nat) (hk : k < 64) (hd : ∀ i, i < k → dv t i < 16) : (outK t k).set (k / 2) (UInt8.ofNat (outAt t k (k / 2) * 16 + dv t k)) = outK t (k + 1) := by
  apply List.ext_getElem?
  intro j
  by_cases hj : j < 32
  · by_cases hjk : k / 2 = j
    · subst hjk
      rw [List.getElem?_set_self (by rw [outK_len]; exact hj), outK_get _ _ _ hj, (outAt_now t k hd).2]
    · rw [List.getElem?_set_ne hjk, outK_get _ _ _ hj, outK_get _ _ _ hj]
      congr 2
      unfold outAt
      split
      · rw [if_pos (by omega)]
      · split
        · rw [if_neg (by omega), if_pos (by omega)]
        · rw [if_neg (by omega), if_neg (by omega)]
  · rw [List.getElem?_eq_none (by rw [List.length_set, outK_len]; omega), List.getElem?_eq_none (by rw [outK_len]; omega)]
theorem pairs_take (t : Bs) : ∀ m, 2 * m ≤ t.length → (List.range m).flatMap (fun j => [t.getD (2 * j) 0, t.getD (2 * j + 1) 0]) = t.take (2 * m)
  | 0, _ => by simp
  | m + 1, h => by
    have h1 : t.take (2 * m + 1) = t.take (2 * m) ++ [t[2 * m]'(by omega)] := List.take_succ_eq_append_getElem (by omega)
    have h2 : t.take (2 * m + 1 + 1) = t.take (2 * m + 1) ++ [t[2 * m + 1]'(by omega)] := List.take_succ_eq_append_getElem (by omega)
    rw [List.range_succ, List.flatMap_append, pairs_take t m (by omega), List.flatMap_singleton, show 2 * (m + 1) = 2 * m + 1 + 1 by omega, h2, h1, List.append_assoc]
    rw [List.getD_eq_getElem?_getD, List.getD_eq_getElem?_getD, List.getElem?_eq_getElem (show 2 * m < t.length by omega), List.getElem?_eq_getElem (show 2 * m + 1 < t.length by omega)]
    rfl
theorem hex_out (t : Bs) (hl : t.length = 64) (hd : ∀ i, i < 64 → dv t i < 16) : hexB (outK t 64) = t := by
  have h := pairs_take t 32 (by omega)
  rw [List.take_of_length_le (by omega)] at h
  rw [hexB, outK, List.flatMap_map]
  refine Eq.trans ?_ h
  have key : ∀ j ∈ List.range 32, [dig ((UInt8.ofNat (outAt t 64 j)).toNat / 16), dig ((UInt8.ofNat (outAt t 64 j)).toNat % 16)] = [t.getD (2 * j) 0, t.getD (2 * j + 1) 0] := by
    intro j hj
    rw [List.mem_range] at hj
    have h0 := hd (2 * j) (by omega)
    have h1 := hd (2 * j + 1) (by omega)
    have e : (UInt8.ofNat (outAt t 64 j)).toNat = dv t (2 * j) * 16 + dv t (2 * j + 1) := by
      rw [outAt, if_pos (by omega), UInt8.toNat_ofNat', Nat.mod_eq_of_lt (by omega)]
    rw [e, show (dv t (2 * j) * 16 + dv t (2 * j + 1)) / 16 = dv t (2 * j) by omega, show (dv t (2 * j) * 16 + dv t (2 * j + 1)) % 16 = dv t (2 * j + 1) by omega]
    unfold dv at *
    rw [dig_dval' _ h0, dig_dval' _ h1]
  clear h
  generalize List.range 32 = is at *
  induction is with
  | nil => rfl
  | cons j is ih =>
    rw [List.flatMap_cons, List.flatMap_cons]
    rw [ih fun k hk => key k (List.mem_cons_of_mem _ hk)]
    congr 1
    exact key j (List.mem_cons_self ..)
theorem dig_inj {a b : Nat} (ha : a < 16) (hb : b < 16) (h : dig a = dig b) : a = b := by
  have := congrArg (fun c : UInt8 => dval c.toNat) h
  simpa [dval_dig a ha, dval_dig b hb] using this
theorem hexB_inj : ∀ (s t : Bs), hexB s = hexB t → s = t
  | [], [], _ => rfl
  | [], b :: t, h => by simp [hexB] at h
  | a :: s, [], h => by simp [hexB] at h
  | a :: s, b :: t, h => by
    simp only [hexB, List.flatMap_cons, List.cons_append, List.nil_append, List.cons.injEq] at h
    obtain ⟨h1, h2, h3⟩ := h
    have la := UInt8.toNat_lt a
    have lb := UInt8.toNat_lt b
    have e1 := dig_inj (by omega) (by omega) h1
    have e2 := dig_inj (by omega) (by omega) h2
    have e : a.toNat = b.toNat := by omega
    rw [UInt8.toNat_inj.1 e, hexB_inj s t h3]
/-- What is read of digits, and the answer's number. -/
def allD (t : Bs) : Bool := t.length == 64 && t.all fun c => decide (dval c.toNat < 16)
def unhexR (t : Bs) : Bs × Int := if allD t = true then (outK t 64, 0) else (List.replicate 32 0, 4)
theorem allD_dv {t : Bs} (h : allD t = true) : t.length = 64 ∧ ∀ i, i < 64 → dv t i < 16 := by
  simp only [allD, Bool.and_eq_true, beq_iff_eq, List.all_eq_true, decide_eq_true_eq] at h
  refine ⟨h.1, fun i hi => ?_⟩
  have := h.2 (t[i]'(by omega)) (List.getElem_mem _)
  rwa [dv, List.getD_eq_getElem?_getD, List.getElem?_eq_getElem (by omega)]
theorem allD_mk {t : Bs} (hl : t.length = 64) (h : ∀ i, i < 64 → dv t i < 16) : allD t = true := by
  simp only [allD, Bool.and_eq_true, beq_iff_eq, List.all_eq_true, decide_eq_true_eq]
  refine ⟨hl, fun c hc => ?_⟩
  obtain ⟨i, hi, rfl⟩ := List.getElem_of_mem hc
  have := h i (by omega)
  rwa [dv, List.getD_eq_getElem?_getD, List.getElem?_eq_getElem (by omega)] at this
theorem allD_not {t : Bs} {k : Nat} (hk : k < 64) (hl : t.length = 64) (h : ¬ dv t k < 16) : allD t = false := by
  cases ha : allD t with
  | false => rfl
  | true => exact absurd ((allD_dv ha).2 k hk) h
theorem unhexR_len (t : Bs) : (unhexR t).1.length = 32 := by
  unfold unhexR
  split
  · exact outK_len _ _
  · rfl
theorem hexB_dig : ∀ (s : Bs), ∀ c ∈ hexB s, dval c.toNat < 16
  | [], c, h => by simp [hexB] at h
  | a :: s, c, h => by
    simp only [hexB, List.flatMap_cons, List.cons_append, List.nil_append, List.mem_cons] at h
    have la := UInt8.toNat_lt a
    rcases h with rfl | rfl | h
    · rw [dval_dig _ (by omega)]; omega
    · rw [dval_dig _ (by omega)]; omega
    · exact hexB_dig s c h
theorem unhex_hex (s : Bs) (h : s.length = 32) : unhexR (hexB s) = (s, 0) := by
  have ha : allD (hexB s) = true := by
    simp only [allD, Bool.and_eq_true, beq_iff_eq, List.all_eq_true, decide_eq_true_eq]
    exact ⟨by rw [hexB_len, h], hexB_dig s⟩
  obtain ⟨h1, h2⟩ := allD_dv ha
  rw [unhexR, if_pos ha, hexB_inj _ _ (hex_out _ h1 h2)]
theorem hex_unhex (t : Bs) (h : (unhexR t).2 = 0) : hexB (unhexR t).1 = t := by
  unfold unhexR at *
  split at h
  · rename_i ha
    rw [if_pos ha]
    obtain ⟨h1, h2⟩ := allD_dv ha
    exact hex_out t h1 h2
  · cases h
theorem unhexR_num (t : Bs) : (unhexR t).2 = 0 ∨ unhexR t = (List.replicate 32 0, 4) := by
  unfold unhexR
  split
  · exact .inl rfl
  · exact .inr rfl
end Go.Proofs.Ythjmbpgakpnnoaa
