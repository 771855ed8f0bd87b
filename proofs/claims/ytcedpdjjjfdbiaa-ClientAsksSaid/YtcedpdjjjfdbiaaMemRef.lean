/- The document's sets and members; no condition. -/
import Derived.Test.YtcedpdjjjfdbiaaMemLaw
import Derived.Deep.DeepCutAuto
import Derived.Deep.CutBlock
namespace Go.Proofs.Ytcedpdjjjfdbiaa
set_option linter.unusedVariables false
set_option linter.unusedSimpArgs false
open Go.RowKit

theorem memB_snoc (p : Nat → Bool) : ∀ (c i : Nat), memB p i (c + 1) = memB p i c ++ (if p (i + c) then [((i + c : Nat) : Int) + 1] else [])
  | 0, i => by simp [memB]
  | c + 1, i => by
    have ih := memB_snoc p c (i + 1)
    rw [show i + 1 + c = i + (c + 1) by omega] at ih
    simp only [memB] at ih ⊢
    rw [ih]
    by_cases h : p i = true <;> simp [h]
theorem shr_bit (m k : Nat) : (((m : Int) / 2 ^ k).tmod 2 == 1) = m.testBit k := by
  have e : ((m / 2 ^ k : Nat) : Int) = (m : Int) / 2 ^ k := by simp
  rw [← e, Int.tmod_eq_emod_of_nonneg (Int.natCast_nonneg _), Nat.testBit_eq_decide_div_mod_eq]
  by_cases hb : m / 2 ^ k % 2 = 1
  · have : ((m / 2 ^ k : Nat) : Int) % 2 = 1 := by omega
    rw [this, hb]; simp
  · have h0 : m / 2 ^ k % 2 = 0 := by omega
    have : ((m / 2 ^ k : Nat) : Int) % 2 = 0 := by omega
    rw [this, h0]; simp

set_option maxRecDepth 100000 in
theorem ref_members (n : Int) (w : World) : Calls Try.prog 29 #[.int .i64 n] w fun e w' => ∃ v, e = .returned v ∧ OwnI w.heap.size w' v (mem (setN n)) ∧ Ext (fun _ => False) w w' := by
  by_cases hr : 0 ≤ n ∧ n ≤ 65535
  · obtain ⟨m, rfl⟩ : ∃ m : Nat, n = m := ⟨n.toNat, by omega⟩
    have hm : m < 65536 := by omega
    have hs : setN (m : Int) = m := setN_nat hm
    rw [hs]
    have r1 : decide ((m : Int) < 0) = false := by rw [decide_eq_false_iff_not]; omega
    have r2 : decide (65536 ≤ (m : Int)) = false := by rw [decide_eq_false_iff_not]; omega
    have r3 : decide (65536 ≤ m) = false := by rw [decide_eq_false_iff_not]; omega
    clear hr hs
    go_enter Try.func29, Try.ntmps29
    go_wp2_with fail
    go_loopw [3, 4] (fun out i W => ∃ k : Nat, k ≤ 16 ∧ i = .int .i64 ((k : Int) + 1) ∧ OwnI w.heap.size W out (memB m.testBit 0 k) ∧ Ext (fun _ => False) w W) (fun _ i _ => 17 - (intOf i).toNat)
    case atStart => exact ⟨0, by omega, rfl, ⟨rfl, .inl ⟨rfl, rfl⟩⟩, Ext.refl _ _⟩
    case round =>
      obtain ⟨k, hk, rfl, hO, hx⟩ := hrel
      have hsn := memB_snoc m.testBit k 0
      rw [Nat.zero_add] at hsn
      have hll := mem_len m.testBit k 0
      obtain ⟨A, c, rfl⟩ := id hO.form
      by_cases hk16 : k < 16
      · have hk' : decide ((k : Int) + 1 ≤ 16) = true := by simp; omega
        have hb := shr_bit m k
        generalize memB m.testBit 0 k = l at *
        by_cases hbit : m.testBit k = true
        · rw [hbit] at hb hsn
          rw [if_pos rfl] at hsn
          have H := Lib.hid (And.intro hsn (And.intro hO (And.intro hx hll)))
          clear hsn hO hx hbit hll
          go_wp2_with (at_builtin; refine Hid.out ?_)
          refine Lib.hid ?_
          have hxa : Ext (fun _ => False) wr (wr.alloc (Obj.cells #[Value.int IntKind.i64 ((k : Int) + 1)] 3)) := (Ext.refl _ _).alloc _
          refine wpList_append_lit rfl _ _ 44 rfl Try.underlying44 info_int rfl (by decide) (v := .slice A l.length c) rfl (own_ext H.out.2.1 hxa fun _ _ => id) (by have := H.out.2.2.1.size; simp; omega) rfl (heap_alloc_self _ _) rfl (by simp [Value.oneCell']) (by decide) (by have := H.out.2.2.2; omega) (by have := H.out.2.2.2; omega) ?_
          intro g2 c2 w2 ho2 hx2 hg2 hl2
          have hfin : OwnI w.heap.size w2 (.slice (some ⟨g2, 0, none⟩) (l.length + 1) c2) (l ++ [(k : Int) + 1]) ∧ Ext (fun _ => False) w w2 := by
            refine ⟨?_, (H.out.2.2.1.trans hxa).trans' hx2 fun b hb => .inr (own_from H.out.2.1 b hb)⟩
            unfold OwnI
            simpa using ho2
          have H2 := Lib.hid hfin
          clear hfin hx2 hg2 ho2 hxa hl2
          go_wp2_with fail
          exact ⟨⟨k + 1, by omega, by go_num, by rw [H.out.1]; exact H2.out.1, H2.out.2⟩, by simp [intOf]; omega⟩
        · have hbf : m.testBit k = false := by simpa using hbit
          rw [hbf] at hb hsn
          rw [if_neg (by simp), List.append_nil] at hsn
          have H := Lib.hid (And.intro hsn (And.intro hO hx))
          clear hsn hO hx hbit hbf hll
          go_wp2_with fail
          exact ⟨⟨k + 1, by omega, by go_num, by rw [H.out.1]; exact H.out.2.1, H.out.2.2⟩, by simp [intOf]; omega⟩
      · have : k = 16 := by omega
        subst this
        have hk' : decide ((16 : Int) + 1 ≤ 16) = false := by decide
        have H := Lib.hid (And.intro hO hx)
        clear hO hx
        go_wp2_with fail
        go_ret
        exact ⟨_, rfl, H.out⟩
  · have hs : setN n = 0 := by unfold setN; rw [if_neg hr]
    rw [hs, mem_zero]
    by_cases h0 : n < 0
    · have r1 : decide (n < 0) = true := by simpa using h0
      go_enter Try.func29, Try.ntmps29
      go_wp2_with fail
      go_ret
      exact ⟨_, rfl, ⟨rfl, .inl ⟨rfl, rfl⟩⟩, Ext.refl _ _⟩
    · have r1 : decide (n < 0) = false := by simpa using h0
      have r2 : decide (65536 ≤ n) = true := by simp; omega
      go_enter Try.func29, Try.ntmps29
      go_wp2_with fail
      go_ret
      exact ⟨_, rfl, ⟨rfl, .inl ⟨rfl, rfl⟩⟩, Ext.refl _ _⟩

theorem ref_count (n : Int) (w : World) : Calls Try.prog 11 #[.int .i64 n] w fun e w' => e = .returned (.int .i64 (pc (setN n))) ∧ Ext (fun _ => False) w w' := by
  have hm := ref_members n w
  have hp := mem_pc (setN n)
  generalize mem (setN n) = l at *
  generalize pc (setN n) = p at *
  have H := Lib.hid (And.intro hm hp)
  clear hm hp
  go_enter Try.func11, Try.ntmps11
  go_wp2_with fail
  refine H.out.1.mono ?_
  rintro e w1 ⟨v, rfl, hO, hx⟩
  obtain ⟨A, c, rfl⟩ := hO.form
  have Hx := Lib.hid hx
  clear hO hx
  go_wp2_with fail
  go_ret
  exact ⟨by rw [← H.out.2]; rfl, Hx.out⟩

theorem ref_has (n who : Int) (w : World) : Calls Try.prog 15 #[.int .i64 n, .int .i64 who] w fun e w' => e = .returned (.bool (decide (1 ≤ who ∧ who ≤ 16 ∧ (setN n).testBit (who - 1).toNat = true))) ∧ Ext (fun _ => False) w w' := by
  have hm := ref_members n w
  have hi := mem_iff (setN n) (setN_lt n) who
  have hl := mem_len (setN n).testBit 16 0
  have hd : decide (1 ≤ who ∧ who ≤ 16 ∧ (setN n).testBit (who - 1).toNat = true) = decide (who ∈ mem (setN n)) := by rw [decide_eq_decide]; exact hi.symm
  rw [hd]
  have hl' : (mem (setN n)).length ≤ 16 := hl
  clear hi hd hl
  generalize mem (setN n) = l at *
  have H := Lib.hid hm
  clear hm
  go_enter Try.func15, Try.ntmps15
  go_wp2_with fail
  refine H.out.mono ?_
  rintro e w1 ⟨v, rfl, hO, hx⟩
  have hI := hO.ints
  obtain ⟨A, c, rfl⟩ := hO.form
  have HI := Lib.hid (And.intro hI hx)
  clear hO hx hI
  go_wp2_with fail
  go_loopw [6] (fun i W => ∃ k : Nat, k ≤ l.length ∧ i = .int .i64 k ∧ who ∉ l.take k ∧ w1 = W) (fun i _ => l.length - (intOf i).toNat)
  case atStart => exact ⟨0, by omega, rfl, by simp, rfl⟩
  case round =>
    obtain ⟨k, hk, rfl, hnot, rfl⟩ := hrel
    by_cases hkl : k < l.length
    · have hkl' : (k : Int) < (l.length : Int) := by omega
      obtain ⟨g, o, c', hav, _, hcell⟩ := HI.out.1.at hkl
      obtain ⟨rfl, rfl⟩ : A = some ⟨g, o, none⟩ ∧ c = c' := by simpa using hav
      clear hav
      rw [Nat.mul_one] at hcell
      have hin : l[k] ∈ l := List.getElem_mem hkl
      have hsucc : l.take (k + 1) = l.take k ++ [l[k]] := List.take_succ_eq_append_getElem hkl
      generalize l[k] = x at *
      have Hn := Lib.hid (And.intro hnot (And.intro hin hsucc))
      clear hnot hin hsucc
      by_cases hxw : x = who
      · have hxw' : (x == who) = true := by simpa using hxw
        have Hw := Lib.hid hxw
        clear hxw
        go_wp2_with fail
        go_ret
        exact ⟨by rw [decide_eq_true (Hw.out ▸ Hn.out.2.1)]; rfl, HI.out.2⟩
      · have hxw' : (x == who) = false := by simpa using hxw
        have Hw := Lib.hid hxw
        clear hxw
        go_wp2_with fail
        refine ⟨⟨k + 1, by omega, by go_num, ?_, by first | rfl | trivial⟩, by simp [intOf]; omega⟩
        rw [Hn.out.2.2]
        intro hh
        rcases List.mem_append.1 hh with hh | hh
        · exact Hn.out.1 hh
        · simp at hh; exact Hw.out hh.symm
    · have : k = l.length := by omega
      subst this
      have hkl' : decide ((l.length : Int) < (l.length : Int)) = false := by simp
      rw [List.take_length] at hnot
      have Hn := Lib.hid hnot
      clear hnot
      go_wp2_with fail
      go_ret
      exact ⟨by rw [decide_eq_false Hn.out]; rfl, HI.out.2⟩
end Go.Proofs.Ytcedpdjjjfdbiaa
