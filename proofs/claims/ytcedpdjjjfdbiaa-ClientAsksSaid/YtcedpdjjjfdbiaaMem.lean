/- Members of a set, in order; no condition. -/
import Derived.Test.YtcedpdjjjfdbiaaTz2
import Derived.WalkMore
import Derived.Test.YtcedpdjjjfdbiaaBufs
namespace Go.Proofs.Ytcedpdjjjfdbiaa
set_option linter.unusedVariables false
set_option linter.unusedSimpArgs false
open Go.RowKit

def memB (p : Nat → Bool) (i : Nat) : Nat → List Int
  | 0 => []
  | c + 1 => if p i then ((i : Int) + 1) :: memB p (i + 1) c else memB p (i + 1) c
def mem (s : Nat) : List Int := memB s.testBit 0 16
theorem memB_congr {p q : Nat → Bool} : ∀ (c i : Nat), (∀ j, i ≤ j → j < i + c → p j = q j) → memB p i c = memB q i c
  | 0, _, _ => rfl
  | c + 1, i, h => by
    simp only [memB]
    rw [h i (Nat.le_refl _) (by omega), memB_congr c (i + 1) fun j h1 h2 => h j (by omega) (by omega)]
theorem memB_step {p q : Nat → Bool} (k : Nat) (hp : p k = true) (hq : q k = false) (hlow : ∀ j, j < k → p j = false ∧ q j = false) (hhi : ∀ j, k < j → p j = q j) :
    ∀ (c i : Nat), i ≤ k → k < i + c → memB p i c = ((k : Int) + 1) :: memB q i c
  | 0, i, h1, h2 => by omega
  | c + 1, i, h1, h2 => by
    simp only [memB]
    by_cases hik : i = k
    · subst hik
      rw [if_pos hp, hq, memB_congr c (i + 1) fun j h1 h2 => hhi j (by omega)]
      simp
    · have hl := hlow i (by omega)
      rw [hl.1, hl.2, memB_step k hp hq hlow hhi c (i + 1) (by omega) (by omega)]
      simp
theorem mem_zero : mem 0 = [] := by decide
theorem low_bits {s k : Nat} (h3 : s % 2 ^ k = 0) (h4 : s / 2 ^ k % 2 = 1) :
    s.testBit k = true ∧ (s - 2 ^ k).testBit k = false ∧ (∀ j, j < k → s.testBit j = false ∧ (s - 2 ^ k).testBit j = false) ∧ ∀ j, k < j → s.testBit j = (s - 2 ^ k).testBit j := by
  obtain ⟨q, hq⟩ : ∃ q, s = 2 ^ k * q := ⟨s / 2 ^ k, (Nat.mul_div_cancel' (Nat.dvd_of_mod_eq_zero h3)).symm⟩
  have hp : 0 < 2 ^ k := Nat.two_pow_pos k
  rw [hq, Nat.mul_div_cancel_left _ hp] at h4
  obtain ⟨r, hr⟩ : ∃ r, q = 2 * r + 1 := ⟨q / 2, by omega⟩
  have h1 : s - 2 ^ k = 2 ^ k * (2 * r) := by rw [hq, hr, Nat.mul_add, Nat.mul_one]; omega
  rw [h1, hq, hr]
  simp only [Nat.testBit_two_pow_mul]
  refine ⟨by simp, by simp, fun j hj => by simp [Nat.not_le.2 hj], fun j hj => ?_⟩
  obtain ⟨d, hd⟩ : ∃ d, j - k = d + 1 := ⟨j - k - 1, by omega⟩
  rw [hd, Nat.testBit_succ, Nat.testBit_succ]
  have e1 : (2 * r + 1) / 2 = r := by omega
  have e2 : 2 * r / 2 = r := by omega
  rw [e1, e2]
theorem mem_step {s : Nat} (h0 : s ≠ 0) (hm : s < 65536) : mem s = (((low s : Nat) : Int) + 1) :: mem (s - 2 ^ low s) := by
  obtain ⟨h1, _, h3, h4, _⟩ := low_spec h0 hm
  obtain ⟨b1, b2, b3, b4⟩ := low_bits h3 h4
  exact memB_step (low s) b1 b2 b3 b4 16 0 (by omega) (by omega)

/-- Numbers in a block of one's own. -/
def OwnI (N : Nat) (w : World) (v : Value) (l : List Int) : Prop := w.ownsRow N 3 1 v l.length (l.map (.int .i64 ·))
theorem OwnI.form {N : Nat} {w : World} {v : Value} {l : List Int} (h : OwnI N w v l) : ∃ A c, v = .slice A l.length c := by
  rcases h.2 with ⟨rfl, hl⟩ | ⟨g, cap, cur, rfl, _⟩
  · exact ⟨none, 0, by rw [hl]⟩
  · exact ⟨_, _, rfl⟩
theorem OwnI.ints {N : Nat} {w : World} {v : Value} {l : List Int} (h : OwnI N w v l) : Ints (fun _ => True) w v l := by
  rcases h.2 with ⟨rfl, hl⟩ | ⟨g, cap, cur, rfl, _, h3, h4, _, h5, h6⟩
  · exact ⟨none, 0, by rw [hl], by rw [hl]; exact Nat.le_refl _, fun hne => absurd (List.eq_nil_of_length_eq_zero hl) hne⟩
  · refine ⟨_, cap, rfl, h4, fun _ => ⟨g, 0, rfl, trivial, fun i x hx => ?_⟩⟩
    have h7 := congrArg (fun l => l[i]?) h6
    have hlt : i < l.length := (List.getElem?_eq_some_iff.1 hx).1
    simp only [List.getElem?_map, hx, Option.map_some] at h7
    rw [List.getElem?_take_of_lt (by omega)] at h7
    show w.cell? ⟨g, 0 + i * 1, none⟩ = some (.int .i64 x)
    rw [cells_at h3, show 0 + i * 1 = i by omega]
    simpa using h7
theorem info_int : (Try.prog.info? 3).map (fun i => (i.zero, i.size, i.bytes)) = some (some (.int .i64 0), 1, 8) := by kernel_rfl
theorem mem_len (p : Nat → Bool) : ∀ (c i : Nat), (memB p i c).length ≤ c
  | 0, _ => by simp [memB]
  | c + 1, i => by
    have := mem_len p c (i + 1)
    simp only [memB]
    split
    · simp; exact this
    · omega

theorem low_le {s : Nat} (h0 : s ≠ 0) (hs : s < 65536) : 2 ^ low s ≤ s := by
  obtain ⟨l1, _, l3, l4, l5⟩ := low_spec h0 hs
  rcases Nat.lt_or_ge s (2 ^ low s) with hh | hh
  · rw [Nat.div_eq_of_lt hh] at l4; omega
  · exact hh
theorem and_pred {s : Nat} (h0 : s ≠ 0) (hs : s < 65536) : bits .and .u64 (s : Int) ((s : Int) - 1) = ((s &&& (s - 1) : Nat) : Int) := by
  rw [show ((s : Int) - 1) = ((s - 1 : Nat) : Int) by omega]
  exact u64_and s (s - 1) (by omega) (by omega)
end Go.Proofs.Ytcedpdjjjfdbiaa
