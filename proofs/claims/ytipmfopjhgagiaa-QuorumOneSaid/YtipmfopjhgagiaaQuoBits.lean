/- Bits of numbers, summed: plain laws; texts that come in; no condition. -/
import Derived.Test.YtipmfopjhgagiaaQuoLaws
import Derived.Test.YtipmfopjhgagiaaLawBase
namespace Go.Proofs.Ytipmfopjhgagiaa
set_option linter.unusedVariables false
set_option linter.unusedSimpArgs false
open Go.RowKit Go.ChangeShapes Go.WideShapes Go.ChangeAt

theorem opens_text {H : Type} {enc : TypeId × Value → H} {W : World} {spare : Nat → Bool} {held : Bool} (fuel : Nat) (cs : List Value) (x : DataW H × List MemPlace) (g n : Nat)
    (h : DataW.trod enc Try.prog W 0 spare held fuel 9 cs = some x) (_ : cs.length = 1) (hat : ∀ j u, cs[j]? = some u → W.cell? ⟨g, n + j, none⟩ = some u) : ∃ s : Bs, (fun w g n x => w.cell? ⟨g, n, none⟩ = some (str x)) W g n s := by
  obtain ⟨s, rfl, _, _⟩ := DataW.trod_string Try.underlying9 h
  refine ⟨s.data.toList, ?_⟩
  have := hat 0 _ rfl
  simpa [str] using this

def bit (m j : Nat) : Nat := m / 2 ^ j % 2
def cnt (m : Nat) : Nat → Nat
  | 0 => 0
  | k + 1 => cnt m k + bit m k
theorem pc_cnt (m : Nat) : pc m = cnt m 16 := by
  simp only [cnt, bit, pc]
  simp
theorem bit_test (m j : Nat) : bit m j = if m.testBit j then 1 else 0 := by
  rw [Nat.testBit_eq_decide_div_mod_eq, bit]
  by_cases h : m / 2 ^ j % 2 = 1
  · simp [h]
  · simp [h]; omega
theorem cnt_le {a b c d : Nat} (h : ∀ j, bit a j + bit b j ≤ bit c j + bit d j) : ∀ k, cnt a k + cnt b k ≤ cnt c k + cnt d k
  | 0 => by simp [cnt]
  | k + 1 => by
    have := cnt_le h k
    have := h k
    simp only [cnt]
    omega
theorem cnt_zero : ∀ k, cnt 0 k = 0
  | 0 => rfl
  | k + 1 => by simp [cnt, cnt_zero k, bit]
theorem cnt_mono (m : Nat) {i k : Nat} (h : i ≤ k) : cnt m i ≤ cnt m k := by
  induction h with
  | refl => exact Nat.le_refl _
  | step _ ih => exact Nat.le_trans ih (by simp [cnt])

set_option maxRecDepth 100000 in
theorem one_walk {w : World} {D : Nat → Prop} {v : Value} {l : List Bs} (f faulty : Int) (h : Texts D w v l) (hl : l.length ≤ maxLen) :
    Calls Try.prog 7 #[.int .i64 f, v, .int .i64 faulty] w fun e w' => e = .returned (.bool true) ∧ Ext (fun _ => False) w w' := by
  obtain ⟨A, c, rfl, _, _⟩ := id h
  have hl' : l.length ≤ 9223372036854775807 := hl
  have same : ∀ W : World, Ext (fun _ => False) w W → Texts D W (.slice A l.length c) l := fun _ hx => h.same fun g n x hc => cell_same hc hx
  have Hs := Lib.hid same
  clear h same
  have hs := quo_size f
  by_cases hf : 1 ≤ f ∧ f ≤ 5
  · rw [sizeQ, if_pos hf] at hs
    have hok : okN (3 * f + 1) := by unfold okN; omega
    have h3 : (3 * f + 1) / 3 = f := by omega
    have hfew : fewQ (3 * f + 1) = f + 1 := by rw [fewQ, if_pos hok, h3]
    have hn1 : 4 ≤ 3 * f + 1 ∧ 3 * f + 1 ≤ 16 := by omega
    have H := Lib.hid (And.intro hs (And.intro hok hfew))
    clear hs hok h3 hfew
    by_cases hf0 : faulty < 0
    · have hf0' : decide (faulty < 0) = true := by simpa using hf0
      go_enter Try.func7, Try.ntmps7
      go_wp2_with fail
      refine (quo_small _).mono ?_
      rintro e w1 ⟨rfl, hx1⟩
      have Hx := Lib.hid hx1
      clear hx1
      go_wp2_with fail
      refine (H.out.1 _).mono ?_
      rintro e _ ⟨rfl, rfl⟩
      go_wp2_with fail
      go_ret
      exact ⟨rfl, Hx.out⟩
    have hf0' : decide (faulty < 0) = false := by simpa using hf0
    by_cases hf1 : 65535 < faulty
    · have hf1' : decide (65535 < faulty) = true := by simpa using hf1
      go_enter Try.func7, Try.ntmps7
      go_wp2_with fail
      refine (quo_small _).mono ?_
      rintro e w1 ⟨rfl, hx1⟩
      have Hx := Lib.hid hx1
      clear hx1
      go_wp2_with fail
      refine (H.out.1 _).mono ?_
      rintro e _ ⟨rfl, rfl⟩
      go_wp2_with fail
      go_ret
      exact ⟨rfl, Hx.out⟩
    have hf1' : decide (65535 < faulty) = false := by simpa using hf1
    have hcn := quo_count faulty
    have hhas := quo_has faulty
    generalize setN faulty = m at *
    generalize hp : pc m = p at *
    have Hp := Lib.hid (And.intro hp (And.intro hcn hhas))
    clear hp hcn hhas
    by_cases hpf : f < (p : Int)
    · have hpf' : decide (f < (p : Int)) = true := by simpa using hpf
      go_enter Try.func7, Try.ntmps7
      go_wp2_with fail
      refine (quo_small _).mono ?_
      rintro e w1 ⟨rfl, hx1⟩
      have Hx := Lib.hid hx1
      clear hx1
      go_wp2_with fail
      refine (H.out.1 _).mono ?_
      rintro e _ ⟨rfl, rfl⟩
      go_wp2_with fail
      refine (Hp.out.2.1 _).mono ?_
      rintro e _ ⟨rfl, rfl⟩
      go_wp2_with fail
      go_ret
      exact ⟨rfl, Hx.out⟩
    · have hpf' : decide (f < (p : Int)) = false := by simpa using hpf
      go_enter Try.func7, Try.ntmps7
      go_wp2_with fail
      refine (quo_small _).mono ?_
      rintro e w1 ⟨rfl, hx1⟩
      go_wp2_with fail
      refine (H.out.1 _).mono ?_
      rintro e _ ⟨rfl, rfl⟩
      go_wp2_with fail
      refine (Hp.out.2.1 _).mono ?_
      rintro e _ ⟨rfl, rfl⟩
      go_wp2_with fail
      refine (quo_agreed (Hs.out _ hx1) hl' (3 * f + 1)).mono ?_
      rintro e w2 ⟨b, rfl, hx2, hb⟩
      have hx12 := hx1.trans hx2
      by_cases hbn : b = []
      · subst hbn
        have Hx := Lib.hid hx12
        clear hx1 hx2 hx12 hb
        go_wp2_with fail
        go_ret
        exact ⟨rfl, Hx.out⟩
      · have hbe : (b == []) = false := by simpa using hbn
        have hbe' : b.isEmpty = false := by simpa using hbn
        have hpass : (f + 1).toNat ≤ (l.take (3 * f + 1).toNat).count b := by
          rcases hb with ⟨h1, _⟩ | ⟨_, h2⟩
          · exact absurd H.out.2.1 h1
          · rcases h2 with ⟨h2, _⟩ | ⟨h2, _⟩
            · exact absurd h2 hbn
            · rw [H.out.2.2] at h2
              exact h2.2
        have Hpass := Lib.hid (And.intro hpass hbn)
        have Hx := Lib.hid hx12
        clear hx1 hx2 hb hpass hbn
        go_wp2_with fail
        go_loopw [12] (fun i W => ∃ k : Nat, k ≤ l.length ∧ (k : Int) ≤ 3 * f + 1 ∧ i = .int .i64 k ∧ Ext (fun _ => False) w W ∧ (l.take k).count b ≤ cnt m k) (fun i _ => 16 - (intOf i).toNat)
        case atStart => exact ⟨0, by omega, by omega, rfl, Hx.out, by simp [cnt]⟩
        case round =>
          obtain ⟨k, hk, hk1, rfl, hx, hcnt⟩ := hrel
          have hend : ∀ w', (l.length ≤ k ∨ 3 * f + 1 ≤ (k : Int)) → Ext (fun _ => False) w w' → False := by
            intro w' hk2 _
            have h1 : l.take k = l.take (3 * f + 1).toNat := by rw [List.take_eq_take_iff]; omega
            rw [h1] at hcnt
            have h2 := Hpass.out.1
            have h4 : cnt m k ≤ p := by rw [← Hp.out.1, pc_cnt]; exact cnt_mono m (by omega)
            omega
          by_cases hkl : k < l.length
          · by_cases hkn : (k : Int) < 3 * f + 1
            · have hkl' : (k : Int) < (l.length : Int) := by omega
              have hkn' : decide ((k : Int) < 3 * f + 1) = true := by simpa using hkn
              obtain ⟨g, o, c', hav, _, hcell⟩ := (Hs.out _ hx).at hkl
              obtain ⟨rfl, rfl⟩ : A = some ⟨g, o, none⟩ ∧ c = c' := by simpa using hav
              clear hav
              rw [Nat.mul_one] at hcell
              have hsucc : (l.take (k + 1)).count b = (l.take k).count b + if l[k] = b then 1 else 0 := count_step l k hkl b
              generalize l[k] = t at *
              have Hc := Lib.hid (And.intro hsucc (And.intro hcnt hx))
              clear hsucc hcnt hx hend
              by_cases ht : t = b
              · have ht' : (t == b) = true := by simpa using ht
                have hh := Hp.out.2.2 ((k : Int) + 1)
                by_cases hbit : m.testBit k = true
                · have hr : decide (1 ≤ (k : Int) + 1 ∧ (k : Int) + 1 ≤ 16 ∧ m.testBit ((k : Int) + 1 - 1).toNat = true) = true := by
                    rw [show ((k : Int) + 1 - 1).toNat = k by omega]; simp [hbit]; omega
                  rw [hr] at hh
                  have Hh := Lib.hid (And.intro hh (And.intro ht hbit))
                  clear hh hr ht hbit
                  go_wp2_with fail
                  refine (Hh.out.1 _).mono ?_
                  rintro e _ ⟨rfl, rfl⟩
                  go_wp2_with fail
                  refine ⟨⟨k + 1, by omega, by omega, by go_num, Hc.out.2.2, ?_⟩, by simp [intOf]; omega⟩
                  rw [Hc.out.1, if_pos Hh.out.2.1, cnt, bit_test, if_pos Hh.out.2.2]
                  have := Hc.out.2.1
                  omega
                · have hr : decide (1 ≤ (k : Int) + 1 ∧ (k : Int) + 1 ≤ 16 ∧ m.testBit ((k : Int) + 1 - 1).toNat = true) = false := by
                    rw [show ((k : Int) + 1 - 1).toNat = k by omega]; simp [hbit]
                  rw [hr] at hh
                  have Hh := Lib.hid hh
                  clear hh hr ht hbit
                  go_wp2_with fail
                  refine (Hh.out _).mono ?_
                  rintro e _ ⟨rfl, rfl⟩
                  go_wp2_with fail
                  go_ret
                  exact ⟨rfl, Hc.out.2.2⟩
              · have ht' : (t == b) = false := by simpa using ht
                have Ht := Lib.hid ht
                clear ht
                go_wp2_with fail
                refine ⟨⟨k + 1, by omega, by omega, by go_num, Hc.out.2.2, ?_⟩, by simp [intOf]; omega⟩
                rw [Hc.out.1, if_neg Ht.out, cnt]
                have := Hc.out.2.1
                omega
            · exact (hend wr (.inr (by omega)) hx).elim
          · exact (hend wr (.inl (by omega)) hx).elim
  · rw [sizeQ, if_neg hf] at hs
    have H := Lib.hid hs
    clear hs
    go_enter Try.func7, Try.ntmps7
    go_wp2_with fail
    refine (quo_small _).mono ?_
    rintro e w1 ⟨rfl, hx1⟩
    have Hx := Lib.hid hx1
    clear hx1
    go_wp2_with fail
    refine (H.out _).mono ?_
    rintro e _ ⟨rfl, rfl⟩
    go_wp2_with fail
    go_ret
    exact ⟨rfl, Hx.out⟩
end Go.Proofs.Ytipmfopjhgagiaa
