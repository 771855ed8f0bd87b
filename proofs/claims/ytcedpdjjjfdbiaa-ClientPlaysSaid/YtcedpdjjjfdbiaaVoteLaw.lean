/- Records in bytes, in plain lists; no condition. -/
import Derived.Test.YtcedpdjjjfdbiaaPlain2
namespace Go.Proofs.Ytcedpdjjjfdbiaa
set_option linter.unusedVariables false
set_option linter.unusedSimpArgs false
open Go.RowKit

theorem byteAt_num (n : Nat) (s : Nat) : (byteAt (n : Int) s).toNat = n / 2 ^ s % 256 := by
  have := byteAt_wrap (n : Int) s
  have e : ((n : Int) / 2 ^ s % 256) = ((n / 2 ^ s % 256 : Nat) : Int) := by rw [Int.natCast_emod, Int.natCast_ediv, Int.natCast_pow]; rfl
  rw [e] at this
  omega
/-- The count of four bytes. -/
def be4 (l : Bs) : Nat := (((l.getD 0 0).toNat * 256 + (l.getD 1 0).toNat) * 256 + (l.getD 2 0).toNat) * 256 + (l.getD 3 0).toNat
theorem be4_beB (n : Nat) (hn : n < 4294967296) (rest : Bs) : be4 (beB (n : Int) 4 ++ rest) = n := by
  have h : beB (n : Int) 4 = [byteAt n 24, byteAt n 16, byteAt n 8, byteAt n 0] := rfl
  rw [h]
  have e0 := byteAt_num n 24
  have e1 := byteAt_num n 16
  have e2 := byteAt_num n 8
  have e3 := byteAt_num n 0
  show (((byteAt n 24).toNat * 256 + (byteAt n 16).toNat) * 256 + (byteAt n 8).toNat) * 256 + (byteAt n 0).toNat = n
  rw [e0, e1, e2, e3]
  omega
theorem be4_lt (l : Bs) : be4 l < 4294967296 := by
  unfold be4
  have h0 := UInt8.toNat_lt (l.getD 0 0)
  have h1 := UInt8.toNat_lt (l.getD 1 0)
  have h2 := UInt8.toNat_lt (l.getD 2 0)
  have h3 := UInt8.toNat_lt (l.getD 3 0)
  omega
/-- What bytes begin with: a blob, how many bytes it takes, the answer's number. -/
def takeR (l : Bs) : Bs × Nat × Int :=
  if l.length < 4 then ([], 0, 3) else if 65536 < be4 l then ([], 0, 2) else if l.length < 4 + be4 l then ([], 0, 3) else ((l.drop 4).take (be4 l), 4 + be4 l, 0)
theorem takeR_blob (a rest : Bs) (ha : a.length ≤ 65536) : takeR (blobB a ++ rest) = (a, 4 + a.length, 0) := by
  have hb : be4 (blobB a ++ rest) = a.length := by
    rw [blobB, List.append_assoc]
    exact be4_beB _ (by omega) _
  have hl : (blobB a ++ rest).length = 4 + a.length + rest.length := by rw [List.length_append, blobB_len]
  rw [takeR, hb, if_neg (by omega), if_neg (by omega), if_neg (by omega)]
  have hd : (blobB a ++ rest).drop 4 = a ++ rest := by
    rw [blobB, List.append_assoc, List.drop_left' (beB_len _ _)]
  rw [hd, List.take_left' rfl]
theorem takeR_ok {l : Bs} (h : (takeR l).2.2 = 0) : (takeR l).1.length ≤ 65536 ∧ (takeR l).2.1 = 4 + (takeR l).1.length ∧ (takeR l).2.1 ≤ l.length ∧ 4 ≤ l.length ∧ be4 l = (takeR l).1.length ∧ (takeR l).1 = (l.drop 4).take (be4 l) := by
  unfold takeR at *
  by_cases h1 : l.length < 4
  · rw [if_pos h1] at h; cases h
  · rw [if_neg h1] at h ⊢
    by_cases h2 : 65536 < be4 l
    · rw [if_pos h2] at h; cases h
    · rw [if_neg h2] at h ⊢
      by_cases h3 : l.length < 4 + be4 l
      · rw [if_pos h3] at h; cases h
      · rw [if_neg h3] at h ⊢
        have : ((l.drop 4).take (be4 l)).length = be4 l := by rw [List.length_take, List.length_drop]; omega
        refine ⟨?_, ?_, ?_, by omega, this.symm, rfl⟩
        · show ((l.drop 4).take (be4 l)).length ≤ 65536
          omega
        · show 4 + be4 l = 4 + ((l.drop 4).take (be4 l)).length
          omega
        · show 4 + be4 l ≤ l.length
          omega
theorem list4 (l : Bs) (h : 4 ≤ l.length) : l.take 4 = [l.getD 0 0, l.getD 1 0, l.getD 2 0, l.getD 3 0] := by
  match l, h with
  | a :: b :: c :: d :: r, _ => rfl
theorem beB_be4 (l : Bs) (h : 4 ≤ l.length) : beB (be4 l : Int) 4 = l.take 4 := by
  rw [list4 l h]
  have hb : beB (be4 l : Int) 4 = [byteAt (be4 l) 24, byteAt (be4 l) 16, byteAt (be4 l) 8, byteAt (be4 l) 0] := rfl
  rw [hb]
  have h0 := UInt8.toNat_lt (l.getD 0 0)
  have h1 := UInt8.toNat_lt (l.getD 1 0)
  have h2 := UInt8.toNat_lt (l.getD 2 0)
  have h3 := UInt8.toNat_lt (l.getD 3 0)
  have e0 := byteAt_num (be4 l) 24
  have e1 := byteAt_num (be4 l) 16
  have e2 := byteAt_num (be4 l) 8
  have e3 := byteAt_num (be4 l) 0
  have hd : be4 l = (((l.getD 0 0).toNat * 256 + (l.getD 1 0).toNat) * 256 + (l.getD 2 0).toNat) * 256 + (l.getD 3 0).toNat := rfl
  simp only [List.cons.injEq, and_true]
  refine ⟨UInt8.toNat_inj.1 ?_, UInt8.toNat_inj.1 ?_, UInt8.toNat_inj.1 ?_, UInt8.toNat_inj.1 ?_⟩ <;> omega
/-- What was taken is a blob's bytes. -/
theorem takeR_take {l : Bs} (h : (takeR l).2.2 = 0) : l.take (takeR l).2.1 = blobB (takeR l).1 := by
  obtain ⟨h1, h2, h3, h4, h5, h6⟩ := takeR_ok h
  rw [h2, List.take_add, blobB, ← h5, beB_be4 l h4, h5, ← h5, ← h6]
def recsF : Nat → Bs → List Bs × Nat
  | 0, _ => ([], 0)
  | f + 1, l => if (takeR l).2.2 = 0 then ((takeR l).1 :: (recsF f (l.drop (takeR l).2.1)).1, (takeR l).2.1 + (recsF f (l.drop (takeR l).2.1)).2) else ([], 0)
theorem recsF_same : ∀ (f g : Nat) (l : Bs), l.length < f → l.length < g → recsF f l = recsF g l
  | 0, _, _, h, _ => by omega
  | _ + 1, 0, _, _, h => by omega
  | f + 1, g + 1, l, hf, hg => by
    simp only [recsF]
    by_cases h : (takeR l).2.2 = 0
    · obtain ⟨h1, h2, h3, h4, _, _⟩ := takeR_ok h
      rw [if_pos h, if_pos h, recsF_same f g (l.drop (takeR l).2.1) (by rw [List.length_drop]; omega) (by rw [List.length_drop]; omega)]
    · rw [if_neg h, if_neg h]
/-- The records that bytes begin with, and how many bytes they take. -/
def recs (l : Bs) : List Bs × Nat := recsF (l.length + 1) l
theorem recs_yes {l : Bs} (h : (takeR l).2.2 = 0) : recs l = ((takeR l).1 :: (recs (l.drop (takeR l).2.1)).1, (takeR l).2.1 + (recs (l.drop (takeR l).2.1)).2) := by
  obtain ⟨h1, h2, h3, h4, _, _⟩ := takeR_ok h
  unfold recs
  rw [recsF, if_pos h, recsF_same l.length ((l.drop (takeR l).2.1).length + 1) (l.drop (takeR l).2.1) (by rw [List.length_drop]; omega) (by omega)]
theorem recs_no {l : Bs} (h : (takeR l).2.2 ≠ 0) : recs l = ([], 0) := by
  unfold recs
  rw [recsF, if_neg h]
theorem takeR_nil : (takeR []).2.2 ≠ 0 := by decide
theorem recs_blob (a rest : Bs) (ha : a.length ≤ 65536) : recs (blobB a ++ rest) = (a :: (recs rest).1, (blobB a).length + (recs rest).2) := by
  have h := takeR_blob a rest ha
  have h0 : (takeR (blobB a ++ rest)).2.2 = 0 := by rw [h]
  rw [recs_yes h0, h]
  have hd : (blobB a ++ rest).drop (4 + a.length) = rest := List.drop_left' (blobB_len a)
  simp only [hd, blobB_len]
theorem recs_app : ∀ (ls : List Bs) (rest : Bs), (∀ l ∈ ls, l.length ≤ 65536) → recs (ls.flatMap blobB ++ rest) = (ls ++ (recs rest).1, (ls.flatMap blobB).length + (recs rest).2)
  | [], rest, _ => by simp
  | l :: ls, rest, h => by
    rw [List.flatMap_cons, List.append_assoc, recs_blob l _ (h l (by simp)), recs_app ls rest fun x hx => h x (by simp [hx])]
    simp [Nat.add_assoc]
theorem recs_flat (ls : List Bs) (h : ∀ l ∈ ls, l.length ≤ 65536) : recs (ls.flatMap blobB) = (ls, (ls.flatMap blobB).length) := by
  have := recs_app ls [] h
  rw [List.append_nil, recs_no takeR_nil] at this
  simpa using this
/-- Induction along the records. -/
theorem recs_ind {P : Bs → Prop} (hn : ∀ l, (takeR l).2.2 ≠ 0 → P l) (hy : ∀ l, (takeR l).2.2 = 0 → P (l.drop (takeR l).2.1) → P l) : ∀ (n : Nat) (l : Bs), l.length ≤ n → P l
  | 0, l, h => by
    obtain rfl : l = [] := List.eq_nil_of_length_eq_zero (by omega)
    exact hn _ takeR_nil
  | n + 1, l, h => by
    by_cases h0 : (takeR l).2.2 = 0
    · obtain ⟨h1, h2, h3, h4, _, _⟩ := takeR_ok h0
      exact hy l h0 (recs_ind hn hy n _ (by rw [List.length_drop]; omega))
    · exact hn l h0
theorem recs_spec (l : Bs) : (recs l).2 ≤ l.length ∧ (recs l).1.flatMap blobB = l.take (recs l).2 ∧ (∀ r ∈ (recs l).1, r.length ≤ 65536) ∧ (recs l).1.length ≤ l.length := by
  refine recs_ind (P := fun l => (recs l).2 ≤ l.length ∧ (recs l).1.flatMap blobB = l.take (recs l).2 ∧ (∀ r ∈ (recs l).1, r.length ≤ 65536) ∧ (recs l).1.length ≤ l.length) (fun l h => ?_) (fun l h ih => ?_) l.length l (Nat.le_refl _)
  · rw [recs_no h]
    simp
  · obtain ⟨h1, h2, h3, h4, _, _⟩ := takeR_ok h
    obtain ⟨i1, i2, i3, i4⟩ := ih
    rw [List.length_drop] at i1 i4
    rw [recs_yes h]
    refine ⟨by simp only; omega, ?_, fun r hr => ?_, by simp only [List.length_cons]; omega⟩
    · simp only [List.flatMap_cons]
      rw [i2, ← takeR_take h, List.take_add]
    · rcases List.mem_cons.1 hr with rfl | hr
      · exact h1
      · exact i3 r hr
/-- The records' own bytes hold the same records. -/
theorem recs_cut (l : Bs) : recs (l.take (recs l).2) = recs l := by
  obtain ⟨h1, h2, h3, _⟩ := recs_spec l
  have h := recs_flat _ h3
  rw [h2] at h
  rw [h, List.length_take, Nat.min_eq_left h1]
end Go.Proofs.Ytcedpdjjjfdbiaa
