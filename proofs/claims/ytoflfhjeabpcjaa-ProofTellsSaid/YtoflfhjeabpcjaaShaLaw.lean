/- Words of a block in one row, as the document has them; no condition. -/
import Derived.Test.YtoflfhjeabpcjaaSha4
namespace Go.Proofs.Ytoflfhjeabpcjaa
set_option linter.unusedVariables false
set_option linter.unusedSimpArgs false
open Go.RowKit

def nextW (l : Bs) (ws : List Nat) (t : Nat) : Nat :=
  if t < 16 then word l t else (sig1 (ws.getD (t - 2) 0) + ws.getD (t - 7) 0 + sig0 (ws.getD (t - 15) 0) + ws.getD (t - 16) 0) % 4294967296
/-- The first t words of block l. -/
def expL (l : Bs) : Nat → List Nat
  | 0 => []
  | t + 1 => expL l t ++ [nextW l (expL l t) t]
theorem expL_len (l : Bs) : ∀ t, (expL l t).length = t
  | 0 => rfl
  | t + 1 => by simp [expL, expL_len l t]
def wE (l : Bs) (t : Nat) : Nat := nextW l (expL l t) t
theorem expL_get (l : Bs) : ∀ (t i : Nat), i < t → (expL l t).getD i 0 = wE l i
  | 0, i, h => by omega
  | t + 1, i, h => by
    have hl := expL_len l t
    by_cases hi : i = t
    · subst hi
      rw [expL, List.getD_eq_getElem?_getD, List.getElem?_append_right (by omega), hl]
      simp [wE]
    · have := expL_get l t i (by omega)
      rw [List.getD_eq_getElem?_getD] at this
      rw [expL, List.getD_eq_getElem?_getD, List.getElem?_append_left (by omega)]
      exact this
theorem wE_early (l : Bs) (t : Nat) (h : t < 16) : wE l t = word l t := if_pos h
theorem wE_late (l : Bs) (t : Nat) (h : 16 ≤ t) : wE l t = (sig1 (wE l (t - 2)) + wE l (t - 7) + sig0 (wE l (t - 15)) + wE l (t - 16)) % 4294967296 := by
  unfold wE
  rw [nextW, if_neg (by omega), expL_get l t _ (by omega), expL_get l t _ (by omega), expL_get l t _ (by omega), expL_get l t _ (by omega)]
  rfl
theorem wE_lt (l : Bs) (t : Nat) : wE l t < 4294967296 := by
  by_cases h : t < 16
  · rw [wE_early l t h]; exact part_lt l t 4
  · rw [wE_late l t (by omega)]; exact mod_u32 _
/-- What the window holds ahead of time t. -/
def WinOk (l : Bs) (ws : List Nat) (t : Nat) : Prop := ws.length = 16 ∧ ∀ s, (s < t ∨ s < 16) → t ≤ s + 16 → ws.getD (s % 16) 0 = wE l s
theorem win_start (l : Bs) : WinOk l (wordsOf l) 0 := by
  refine ⟨by simp [wordsOf], fun s h _ => ?_⟩
  have hs : s < 16 := by omega
  rw [wE_early l s hs, Nat.mod_eq_of_lt hs]
  simp [wordsOf, List.getD_eq_getElem?_getD, hs]
theorem mod_join (a b c d : Nat) : ((a + b) % 4294967296 + (c + d) % 4294967296) % 4294967296 = (b + c + d + a) % 4294967296 := by omega
theorem win_step {l : Bs} {ws : List Nat} {t : Nat} (h : WinOk l ws t) : WinOk l (winAt ws t) (t + 1) ∧ (winAt ws t).getD (t % 16) 0 = wE l t := by
  obtain ⟨hl, h⟩ := h
  unfold winAt
  by_cases ht : t < 16
  · rw [if_pos ht]
    exact ⟨⟨hl, fun s h1 h2 => h s (by omega) (by omega)⟩, h t (by omega) (by omega)⟩
  · rw [if_neg ht]
    have hv : (((ws.getD (t % 16) 0 + sig1 (ws.getD ((t - 2) % 16) 0)) % 4294967296 + (ws.getD ((t - 7) % 16) 0 + sig0 (ws.getD ((t - 15) % 16) 0)) % 4294967296) % 4294967296) = wE l t := by
      have h0 := h (t - 16) (by omega) (by omega)
      rw [show (t - 16) % 16 = t % 16 by omega] at h0
      rw [h0, h (t - 2) (by omega) (by omega), h (t - 7) (by omega) (by omega), h (t - 15) (by omega) (by omega), mod_join, wE_late l t (by omega)]
    unfold winNext
    rw [hv]
    refine ⟨⟨by simpa using hl, fun s h1 h2 => ?_⟩, getD_set _ _ _ (by omega)⟩
    by_cases hs : s = t
    · subst hs
      exact getD_set _ _ _ (by omega)
    · rw [List.getD_eq_getElem?_getD, List.getElem?_set_ne (by omega), ← List.getD_eq_getElem?_getD]
      exact h s (by omega) (by omega)
/-- The state behind t rounds over the words of block l. -/
def runsE (ks : List Nat) (s : St) (l : Bs) : Nat → St
  | 0 => s
  | t + 1 => rnd (runsE ks s l t) (ks.getD t 0) (wE l t)
theorem runs_eq (ks : List Nat) (s : St) (l : Bs) : ∀ t, (runs ks s (wordsOf l) t).1 = runsE ks s l t ∧ WinOk l (runs ks s (wordsOf l) t).2 t
  | 0 => ⟨rfl, win_start l⟩
  | t + 1 => by
    obtain ⟨h1, h2⟩ := runs_eq ks s l t
    have h3 := win_step h2
    refine ⟨?_, h3.1⟩
    show rnd _ _ _ = rnd _ _ _
    rw [h1, h3.2]
theorem runsE_ok (ks : List Nat) (s : St) (l : Bs) (h : StOk s) : ∀ t, StOk (runsE ks s l t)
  | 0 => h
  | t + 1 => rnd_ok (runsE_ok ks s l h t) _ _
theorem mixS_eq (ks : List Nat) (x0 x1 x2 x3 x4 x5 x6 x7 : Nat) (l : Bs) : mixS ks [x0, x1, x2, x3, x4, x5, x6, x7] l = sums [x0, x1, x2, x3, x4, x5, x6, x7] (runsE ks ⟨x0, x1, x2, x3, x4, x5, x6, x7⟩ l 64).list := by
  unfold mixS
  simp only
  rw [(runs_eq ks _ l 64).1]
/-- The document's sums, reduced once, are the same. -/
theorem rnd_a (s : St) (k w : Nat) : ((s.i + three1 s.e + ch s.e s.f s.g + k + w) + (three0 s.a + maj s.a s.b s.c)) % 4294967296 = (rnd s k w).a := by
  simp only [rnd, rndP, rndQ]
  omega
theorem rnd_e (s : St) (k w : Nat) : (s.d + (s.i + three1 s.e + ch s.e s.f s.g + k + w)) % 4294967296 = (rnd s k w).e := by
  simp only [rnd, rndP]
  omega
/-- A number turned, as the document does it. -/
theorem rot_doc (x n : Nat) : (x / 2 ^ n) ||| (x * 2 ^ (32 - n) % 4294967296) = rot x n := Nat.or_comm _ _
theorem not_xor (e : Nat) (h : e < 4294967296) : 4294967295 - e = 4294967295 ^^^ e := by
  have := BitVec.toNat_not (x := BitVec.ofNat 32 e)
  rw [BitVec.toNat_ofNat, Nat.mod_eq_of_lt (by simpa using h)] at this
  have h2 : (~~~ BitVec.ofNat 32 e) = BitVec.ofNat 32 4294967295 ^^^ BitVec.ofNat 32 e := by
    rw [← BitVec.allOnes_xor]
    rfl
  rw [h2, BitVec.toNat_xor, BitVec.toNat_ofNat, BitVec.toNat_ofNat, Nat.mod_eq_of_lt (show e < 2 ^ 32 by simpa using h)] at this
  have h3 : 4294967295 % 2 ^ 32 = 4294967295 := by decide
  rw [h3] at this
  omega
end Go.Proofs.Ytoflfhjeabpcjaa
