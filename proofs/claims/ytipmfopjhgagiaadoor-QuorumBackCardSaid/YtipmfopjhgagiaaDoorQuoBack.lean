/- QuorumBack: what the statement's function computes; no condition. -/
import Derived.Test.YtipmfopjhgagiaaDoorMemLaw
import Derived.Deep.DeepCutAuto
import Derived.Deep.CutBlock
namespace Go.Proofs.YtipmfopjhgagiaaDoor
set_option linter.unusedVariables false
set_option linter.unusedSimpArgs false
open Go.RowKit

set_option maxRecDepth 100000 in
set_option maxHeartbeats 2000000 in
theorem back_walk {w : World} (hT : TabOk w) {D : Nat → Prop} {v : Value} {l : List Int} (set : Int) (h : Ints D w v l) (hl : l.length ≤ maxLen) :
    Calls Tryd.prog 4 #[.int .i64 set, v] w fun e w' => e = .returned (.bool true) ∧ Ext (fun _ => False) w w' := by
  obtain ⟨A, c, rfl, _, _⟩ := id h
  have hl' : l.length ≤ 9223372036854775807 := hl
  have same : ∀ W : World, Ext (fun _ => False) w W → Ints D W (.slice A l.length c) l := fun _ hx => h.same fun g n x hc => cell_same hc hx
  have hmem := fun (W : World) (hx : Ext (fun _ => False) w W) => quo_members (hT.same hx) set
  have hcount := quo_count set
  have hMr : ∃ M : Nat, setN set = M ∧ M < 65536 ∧ ((0 ≤ set ∧ set ≤ 65535 ∧ (M : Int) = set) ∨ ((set < 0 ∨ 65535 < set) ∧ M = 0)) := by
    refine ⟨setN set, rfl, setN_lt set, ?_⟩
    unfold setN
    by_cases hh : 0 ≤ set ∧ set ≤ 65535
    · rw [if_pos hh]; exact .inl ⟨hh.1, hh.2, by omega⟩
    · rw [if_neg hh]; exact .inr ⟨by omega, rfl⟩
  obtain ⟨M, hM, hMlt, hMc⟩ := hMr
  rw [hM] at hcount hmem
  have hset : setS (mem M) = (((M : Nat) : Int), 0) := by rw [setS, if_pos (mem_ok M), orAll_mem hMlt]
  have hpc := mem_pc M
  have hll : (mem M).length ≤ 16 := mem_len _ 16 0
  generalize pc M = p at *
  generalize hml : mem M = L at *
  have H := Lib.hid (And.intro (And.intro hmem hcount) (And.intro same (And.intro hset (And.intro hpc hll))))
  clear h same hmem hcount hM hset hpc hml hT hll
  go_enter Tryd.func4, Tryd.ntmps4
  go_wp2_with fail
  refine (quo_small _).mono ?_
  rintro e w1 ⟨rfl, hx1⟩
  have Hx1 := Lib.hid hx1
  clear hx1
  go_wp2_with fail
  refine (H.out.1.1 _ Hx1.out).mono ?_
  rintro e w2 ⟨v2, rfl, hO2, hx2⟩
  obtain ⟨A2, c2, rfl⟩ := hO2.form
  have hS := quo_Set hO2.ints (by have := H.out.2.2.2.2; omega)
  rw [H.out.2.2.1] at hS
  have HS := Lib.hid hS
  have Hx2 := Lib.hid (Hx1.out.trans hx2)
  clear hO2 hS hx2
  go_wp2_with fail
  refine HS.out.mono ?_
  rintro e _ ⟨rfl, rfl⟩
  have hlp : (L.length : Int) = (p : Int) := by rw [H.out.2.2.2.1]
  have hlp' : ((L.length : Int) != (p : Int)) = false := by rw [hlp]; simp
  have hlp2 : (L.length != p) = false := by rw [H.out.2.2.2.1]; simp
  have hlp3 : (L.length == p) = true := by rw [H.out.2.2.2.1]; simp
  clear hlp
  go_upto_region 4 with (fail)
  go_cut [49] (fun u W => u = .bool false ∧ W = w2)
  case first =>
    rcases hMc with ⟨r1, r2, r3⟩ | ⟨r1, r2⟩
    · have f1 : ((M : Int) != set) = false := by simpa using r3
      have f2 : ((M : Int) == set) = true := by simpa using r3
      clear r3
      go_wp2_with fail
      refine (H.out.1.2 _).mono ?_
      rintro e _ ⟨rfl, rfl⟩
      go_wp2_with fail
      go_meet
      case rel => exact ⟨rfl, rfl⟩
    · subst r2
      have f1 : ((0 : Int) != set) = true := by simp; omega
      have f2 : ((0 : Int) == set) = false := by simp; omega
      by_cases r0 : set < 0
      · have f3 : decide (0 ≤ set) = false := by simp; omega
        have f4 : decide (set ≤ 65535) = true := by simp; omega
        clear r1 r0
        go_wp2_with fail
        refine (H.out.1.2 _).mono ?_
        rintro e _ ⟨rfl, rfl⟩
        go_wp2_with fail
        go_meet
        case rel => exact ⟨rfl, rfl⟩
      · have f3 : decide (0 ≤ set) = true := by simp; omega
        have f4 : decide (set ≤ 65535) = false := by simp; omega
        clear r1 r0
        go_wp2_with fail
        refine (H.out.1.2 _).mono ?_
        rintro e _ ⟨rfl, rfl⟩
        go_wp2_with fail
        go_meet
        case rel => exact ⟨rfl, rfl⟩
  case rest =>
    obtain ⟨rfl, rfl⟩ := hcut
    clear hMc hlp' hlp2 hlp3 hMlt
    go_wp2_with fail
    have hS2 := quo_Set (H.out.2.1 _ Hx2.out) hl'
    have HS2 := Lib.hid hS2
    clear hS2
    by_cases hok : okS l
    · have hr : setS l = (((orAll l : Nat) : Int), 0) := by rw [setS, if_pos hok]
      have hlt := orAll_lt hok
      have hhas := orAll_has hok
      have hcn := quo_count ((orAll l : Nat) : Int)
      have hhs := fun x => quo_has ((orAll l : Nat) : Int) x
      have hple := orAll_pc hok
      rw [setN_nat hlt] at hcn hhs
      rw [hr] at HS2
      generalize orAll l = q at *
      generalize pc q = pq at *
      have hpd : decide ((pq : Int) ≤ (l.length : Int)) = true := by simp; omega
      have hpd2 : decide (pq ≤ l.length) = true := by simpa using hple
      have Hq := Lib.hid (And.intro (And.intro hok hhas) (And.intro hcn hhs))
      clear hr hlt hhas hcn hhs hple hok
      refine HS2.out.mono ?_
      rintro e _ ⟨rfl, rfl⟩
      go_wp2_with fail
      go_loopw [11] (fun i W => ∃ k : Nat, k ≤ l.length ∧ i = .int .i64 k ∧ Ext (fun _ => False) w W) (fun i _ => l.length - (intOf i).toNat)
      case atStart => exact ⟨0, by omega, rfl, Hx2.out⟩
      case round =>
        obtain ⟨k, hk, rfl, hx⟩ := hrel
        by_cases hkl : k < l.length
        · have hkl' : (k : Int) < (l.length : Int) := by omega
          obtain ⟨g, o, c', hav, _, hcell⟩ := (H.out.2.1 _ hx).at hkl
          obtain ⟨rfl, rfl⟩ : A = some ⟨g, o, none⟩ ∧ c = c' := by simpa using hav
          clear hav
          rw [Nat.mul_one] at hcell
          have hin : l[k] ∈ l := List.getElem_mem hkl
          have hh := Hq.out.2.2 l[k]
          have hb := Hq.out.1.1 l[k] hin
          rw [decide_eq_true ⟨hb.1, hb.2, Hq.out.1.2 l[k] hin⟩] at hh
          generalize l[k] = x at *
          have Hh := Lib.hid (And.intro hh hx)
          clear hin hh hb hx
          go_wp2_with fail
          refine (Hh.out.1 _).mono ?_
          rintro e _ ⟨rfl, rfl⟩
          go_wp2_with fail
          exact ⟨⟨k + 1, by omega, by go_num, Hh.out.2⟩, by simp [intOf]; omega⟩
        · have hkl' : decide ((k : Int) < (l.length : Int)) = false := by simp; omega
          have Hx := Lib.hid hx
          clear hx
          go_wp2_with fail
          refine (Hq.out.2.1 _).mono ?_
          rintro e _ ⟨rfl, rfl⟩
          go_wp2_with fail
          go_ret
          exact ⟨rfl, Hx.out⟩
    · have hr : setS l = (0, 6) := by rw [setS, if_neg hok]
      rw [hr] at HS2
      clear hr hok
      refine HS2.out.mono ?_
      rintro e _ ⟨rfl, rfl⟩
      go_wp2_with fail
      go_ret
      exact ⟨rfl, Hx2.out⟩
end Go.Proofs.YtipmfopjhgagiaaDoor
