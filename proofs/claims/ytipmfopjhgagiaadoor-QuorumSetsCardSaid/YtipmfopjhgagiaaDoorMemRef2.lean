/- The document's Set and Is; rows of numbers; no condition. -/
import Derived.Test.YtipmfopjhgagiaaDoorMemRef
import Derived.ArgAppend
import Derived.Laws.IdiomCopy
import Derived.Deep.Upon
namespace Go.Proofs.YtipmfopjhgagiaaDoor
set_option linter.unusedVariables false
set_option linter.unusedSimpArgs false
open Go.RowKit

set_option maxRecDepth 100000 in
theorem ref_Set {w : World} {D : Nat → Prop} {v : Value} {l : List Int} (h : Ints D w v l) (hl : l.length ≤ 9223372036854775807) :
    Calls Tryd.prog 7 #[v] w fun e w' => e = .returned (.tuple #[.int .i64 (setS l).1, .int .i64 (setS l).2]) ∧ w = w' := by
  obtain ⟨A, c, rfl, _, _⟩ := id h
  go_enter Tryd.func7, Tryd.ntmps7
  go_wp2_with fail
  go_loopw [4, 5] (fun s i W => ∃ k : Nat, k ≤ l.length ∧ i = .int .i64 k ∧ s = .int .i64 (orAll (l.take k) : Nat) ∧ okS (l.take k) ∧ w = W) (fun _ i _ => l.length - (intOf i).toNat)
  case atStart => exact ⟨0, by omega, rfl, rfl, by simp [okS], rfl⟩
  case round =>
    obtain ⟨k, hk, rfl, rfl, hok, rfl⟩ := hrel
    have hlt := orAll_lt hok
    by_cases hkl : k < l.length
    · have hkl' : (k : Int) < (l.length : Int) := by omega
      obtain ⟨g, o, c', hav, _, hcell⟩ := h.at hkl
      obtain ⟨rfl, rfl⟩ : A = some ⟨g, o, none⟩ ∧ c = c' := by simpa using hav
      clear hav
      rw [Nat.mul_one] at hcell
      have htk : l.take (k + 1) = l.take k ++ [l[k]] := List.take_succ_eq_append_getElem hkl
      have hin : l[k] ∈ l := List.getElem_mem hkl
      generalize l[k] = x at *
      have Htk := Lib.hid (And.intro htk (And.intro hin hok))
      clear htk hin hok
      by_cases h1 : x < 1
      · have h1' : decide (x < 1) = true := by simpa using h1
        have hr : setS l = (0, 6) := by rw [setS, if_neg (fun hh => by have := (hh x Htk.out.2.1).1; omega)]
        have Hr := Lib.hid hr
        clear hr
        go_wp2_with fail
        go_ret2
        exact ⟨by rw [Hr.out]; rfl, rfl⟩
      have h1' : decide (x < 1) = false := by simpa using h1
      by_cases h2 : 16 < x
      · have h2' : decide (16 < x) = true := by simpa using h2
        have hr : setS l = (0, 6) := by rw [setS, if_neg (fun hh => by have := (hh x Htk.out.2.1).2; omega)]
        have Hr := Lib.hid hr
        clear hr
        go_wp2_with fail
        go_ret2
        exact ⟨by rw [Hr.out]; rfl, rfl⟩
      have h2' : decide (16 < x) = false := by simpa using h2
      obtain ⟨j, rfl⟩ : ∃ j : Nat, x = j + 1 := ⟨(x - 1).toNat, by omega⟩
      have hj : j < 16 := by omega
      have hp : 2 ^ j < 65536 := Nat.lt_of_lt_of_le (Nat.pow_lt_pow_right (by decide) hj) (by decide)
      have hor : bits .or .i64 (orAll (l.take k) : Int) ((2 : Int) ^ j) = ((orAll (l.take k) ||| 2 ^ j : Nat) : Int) := by
        have := i64_or (orAll (l.take k)) (2 ^ j) hlt hp
        rwa [Int.natCast_pow] at this
      have hpi : ((2 : Int) ^ j) < 65536 := by have : (((2 ^ j : Nat)) : Int) < ((65536 : Nat) : Int) := Int.ofNat_lt.2 hp; rwa [Int.natCast_pow] at this
      have hpi0 : 0 ≤ ((2 : Int) ^ j) := Int.pow_nonneg (by decide)
      have hw : wrap64 ((2 : Int) ^ j) = (2 : Int) ^ j := by unfold wrap64; omega
      have Hw := Lib.hid (And.intro hw hor)
      clear hw hor hpi hpi0
      go_wp2_with fail
      obtain ⟨hw, hor⟩ := Hw.out
      refine ⟨⟨k + 1, by omega, by go_num, ?_, ?_, by first | rfl | trivial⟩, by simp [intOf]; omega⟩
      · rw [hw, hor, Htk.out.1, orAll_snoc, show ((j : Int) + 1 - 1).toNat = j by omega]
      · rw [Htk.out.1]
        intro y hy
        rcases List.mem_append.1 hy with hy | hy
        · exact Htk.out.2.2 y hy
        · simp at hy
          omega
    · have : k = l.length := by omega
      subst this
      have hkl' : decide ((l.length : Int) < (l.length : Int)) = false := by simp
      rw [List.take_length] at hok ⊢
      have hr : setS l = (((orAll l : Nat) : Int), 0) := by rw [setS, if_pos hok]
      have Hr := Lib.hid hr
      clear hr
      go_wp2_with fail
      go_ret2
      exact ⟨by rw [Hr.out]; rfl, rfl⟩

theorem memB_filter (p : Nat → Bool) (n : Nat) : ∀ (c i : Nat), (memB p i c).filter (fun x => decide (x ≤ (n : Int))) = memB (fun j => p j && decide (j < n)) i c
  | 0, _ => rfl
  | c + 1, i => by
    have ih := memB_filter p n c (i + 1)
    simp only [memB]
    by_cases hp : p i = true
    · rw [if_pos hp, List.filter_cons, ih]
      by_cases hn : i < n
      · have : (i : Int) + 1 ≤ (n : Int) := by omega
        simp [hp, hn, this]
      · have : ¬ (i : Int) + 1 ≤ (n : Int) := by omega
        simp [hp, hn, this]
    · rw [if_neg hp, ih]
      simp [hp]
theorem mem_below (s n : Nat) : ((mem s).filter (fun x => decide (x ≤ (n : Int)))).length = pc (s &&& (2 ^ n - 1)) := by
  rw [mem, memB_filter, ← mem_pc, mem]
  congr 1
  refine memB_congr 16 0 fun j _ _ => ?_
  rw [Nat.testBit_and, Nat.testBit_two_pow_sub_one]

set_option maxRecDepth 100000 in
theorem ref_is (n s : Int) (w : World) : Calls Tryd.prog 16 #[.int .i64 n, .int .i64 s] w fun e w' => e = .returned (.bool (decide (isQ n s))) ∧ Ext (fun _ => False) w w' := by
  have hm := ref_members s
  have hq := ref_most n
  have hl : (mem (setN s)).length ≤ 16 := mem_len _ 16 0
  have hfin : ∃ q : Nat, mostQ n = q ∧ (isQ n s ↔ 0 < q ∧ q ≤ ((mem (setN s)).filter (fun x => decide (x ≤ n))).length) := by
    by_cases hok : okN n
    · obtain ⟨h1, h2, h3⟩ := id hok
      refine ⟨(2 * (n / 3) + 1).toNat, by rw [mostQ, if_pos hok]; omega, ?_⟩
      obtain ⟨m, rfl⟩ : ∃ m : Nat, n = m := ⟨n.toNat, by omega⟩
      have hb := mem_below (setN s) m
      rw [hb]
      unfold isQ
      rw [mostQ, if_pos hok, show (m : Int).toNat = m by omega]
      constructor
      · rintro ⟨_, h⟩; omega
      · rintro ⟨_, h⟩; exact ⟨hok, by omega⟩
    · exact ⟨0, by rw [mostQ, if_neg hok]; rfl, by unfold isQ; simp [hok]⟩
  obtain ⟨q, hq1, hq2⟩ := hfin
  rw [hq1] at hq
  generalize mem (setN s) = l at *
  have hr : decide (isQ n s) = (decide (0 < q) && decide (q ≤ (l.filter (fun x => decide (x ≤ n))).length)) := by
    rw [← Bool.decide_and, decide_eq_decide]; exact hq2
  rw [hr]
  have H := Lib.hid (And.intro hm hq)
  clear hm hq hq1 hq2 hr
  go_enter Tryd.func16, Tryd.ntmps16
  go_wp2_with fail
  refine (H.out.2 _).mono ?_
  rintro e _ ⟨rfl, rfl⟩
  go_wp2_with fail
  refine (H.out.1 _).mono ?_
  rintro e w1 ⟨v, rfl, hO, hx⟩
  have hI := hO.ints
  obtain ⟨A, c, rfl⟩ := hO.form
  have HI := Lib.hid (And.intro hI hx)
  clear hO hx hI
  go_wp2_with fail
  go_loopw [7, 8] (fun cn i W => ∃ k : Nat, k ≤ l.length ∧ i = .int .i64 k ∧ cn = .int .i64 (((l.take k).filter (fun x => decide (x ≤ n))).length : Nat) ∧ w1 = W) (fun _ i _ => l.length - (intOf i).toNat)
  case atStart => exact ⟨0, by omega, rfl, rfl, rfl⟩
  case round =>
    obtain ⟨k, hk, rfl, rfl, rfl⟩ := hrel
    have hcb : ((l.take k).filter (fun x => decide (x ≤ n))).length ≤ k := by
      have := List.length_filter_le (fun x => decide (x ≤ n)) (l.take k)
      simp at this
      omega
    by_cases hkl : k < l.length
    · have hkl' : (k : Int) < (l.length : Int) := by omega
      obtain ⟨g, o, c', hav, _, hcell⟩ := HI.out.1.at hkl
      obtain ⟨rfl, rfl⟩ : A = some ⟨g, o, none⟩ ∧ c = c' := by simpa using hav
      clear hav
      rw [Nat.mul_one] at hcell
      have hsucc : (l.take (k + 1)).filter (fun x => decide (x ≤ n)) = (l.take k).filter (fun x => decide (x ≤ n)) ++ (if l[k] ≤ n then [l[k]] else []) := by
        rw [List.take_succ_eq_append_getElem hkl, List.filter_append]
        by_cases hh : l[k] ≤ n <;> simp [hh]
      generalize l[k] = x at *
      by_cases hxn : x ≤ n
      · have hxn' : decide (x ≤ n) = true := by simpa using hxn
        rw [if_pos hxn] at hsucc
        have hl2 := congrArg List.length hsucc
        rw [List.length_append] at hl2
        generalize ((l.take k).filter (fun x => decide (x ≤ n))).length = cn at *
        have Hl2 := Lib.hid hl2
        clear hl2 hsucc hxn
        go_wp2_with fail
        exact ⟨⟨k + 1, by omega, by go_num, by rw [Hl2.out]; go_num, by first | rfl | trivial⟩, by simp [intOf]; omega⟩
      · have hxn' : decide (x ≤ n) = false := by simpa using hxn
        rw [if_neg hxn, List.append_nil] at hsucc
        have Hs := Lib.hid hsucc
        clear hsucc hxn
        go_wp2_with fail
        exact ⟨⟨k + 1, by omega, by go_num, by rw [Hs.out], by first | rfl | trivial⟩, by simp [intOf]; omega⟩
    · have : k = l.length := by omega
      subst this
      have hkl' : decide ((l.length : Int) < (l.length : Int)) = false := by simp
      rw [List.take_length] at hcb ⊢
      generalize hcn : (l.filter (fun x => decide (x ≤ n))).length = cn at *
      have Hcn := Lib.hid hcn
      clear hcn
      by_cases hq0 : 0 < q
      · have hq0' : decide (0 < q) = true := by simpa using hq0
        have hq0'' : decide ((0 : Int) < (q : Int)) = true := by simpa using hq0
        clear hq0
        go_wp2_with fail
        go_ret
        refine ⟨?_, HI.out.2⟩
        rw [Hcn.out, hq0', Bool.true_and]
        first | rfl | (congr 2; simp)
      · have hq0' : decide (0 < q) = false := by simpa using hq0
        have hq0'' : decide ((0 : Int) < (q : Int)) = false := by simpa using hq0
        clear hq0
        go_wp2_with fail
        go_ret
        exact ⟨by rw [hq0']; rfl, HI.out.2⟩

theorem same_ints {D D' : Nat → Prop} {w : World} {v v' : Value} {l : List Int} (h : Ints D w v l) (h' : Ints D' w v' l) (hl : l.length ≤ 9223372036854775807) :
    Calls Tryd.prog 8 #[v, v'] w fun e w' => e = .returned (.bool true) ∧ Ext (fun _ => False) w w' := by
  obtain ⟨A, c, rfl, _, _⟩ := id h
  obtain ⟨A', c', rfl, _, _⟩ := id h'
  have same : ∀ W : World, Ext (fun _ => False) w W → Ints D W (.slice A l.length c) l ∧ Ints D' W (.slice A' l.length c') l := fun _ hx => ⟨h.same fun g n x hc => cell_same hc hx, h'.same fun g n x hc => cell_same hc hx⟩
  have Hs := Lib.hid same
  clear h h' same
  go_enter Tryd.func8, Tryd.ntmps8
  go_wp2_with fail
  go_loopw [5] (fun i W => ∃ k : Nat, k ≤ l.length ∧ i = .int .i64 k ∧ Ext (fun _ => False) w W) (fun i _ => l.length - (intOf i).toNat)
  case atStart => exact ⟨0, by omega, rfl, Ext.refl _ _⟩
  case round =>
    obtain ⟨k, hk, rfl, hx⟩ := hrel
    by_cases hlt : k < l.length
    · have hlt' : (k : Int) < (l.length : Int) := by omega
      obtain ⟨h1, h2⟩ := Hs.out _ hx
      obtain ⟨g1, o1, c1, hA1, _, hcell1⟩ := h1.at hlt
      obtain ⟨g2, o2, c2, hA2, _, hcell2⟩ := h2.at hlt
      obtain ⟨rfl, rfl⟩ : A = some ⟨g1, o1, none⟩ ∧ c = c1 := by simpa using hA1
      obtain ⟨rfl, rfl⟩ : A' = some ⟨g2, o2, none⟩ ∧ c' = c2 := by simpa using hA2
      clear hA1 hA2 h1 h2
      rw [Nat.mul_one] at hcell1 hcell2
      have hg1 := World.block_lt_of_cell? _ _ hcell1
      have hg2 := World.block_lt_of_cell? _ _ hcell2
      generalize l[k] = x at *
      have Hx := Lib.hid hx
      clear hx
      go_wp2_with fail
      refine wp_region_mix (Cls [g1, g2] _) [] [0, 1, 2, 3, 4, 5, 6, 7, 8] (by kernel_rfl) (by kernel_rfl) (Cls.refl _ _) ?_
      try dsimp only [wpMix, wpSegs, pick, List.getElem?_cons_zero, List.getElem?_cons_succ]
      generalize hz : Act.mk _ _ = z
      repeat (first | (refine wpQuiet_step (fun K hK => ?_); replace hK := Lib.hid hK; subst hz; go_simp; generalize hz : Act.mk _ _ = z; refine hK.out z ?_; clear hK K) | (refine wpQuiet_step (fun K hK => ?_); replace hK := Lib.hid hK; subst hz; refine iteSkip (by kernel_rfl) ?_; go_simp; generalize hz : Act.mk _ _ = z; refine hK.out z ?_; clear hK K))
      refine wpQuiet_nil ?_
      subst hz
      try dsimp only [NoPan]
      go_wp2_with fail
      exact ⟨⟨k + 1, by omega, by go_num, Hx.out.drew⟩, by simp [intOf]; omega⟩
    · have hlt' : decide ((k : Int) < (l.length : Int)) = false := by simp; omega
      have Hx := Lib.hid hx
      clear hx
      go_wp2_with fail
      go_ret
      exact ⟨rfl, Hx.out⟩

theorem run_append_ints {D : Nat → Prop} {w : World} {g : Nat} {xv : Value} {l : List Int} (ty : TypeId) (hg : w.heap[g]? = some (.cells #[] 3 (0, 0))) (h : Ints D w xv l) (hl : l.length * 8 ≤ 140737488355328) :
    ∃ v' w', (Builtin.append_ #[22, 22] ty #[.slice (some ⟨g, 0, none⟩) 0 0, xv]).run Tryd.prog w = .ok v' w' ∧ OwnI 0 w' v' l ∧ Ext (fun _ => False) w w' := by
  obtain ⟨i, hi1, hi2⟩ := Option.map_eq_some_iff.1 info_int
  simp only [Prod.mk.injEq] at hi2
  obtain ⟨z1, z2, z3⟩ := hi2
  obtain ⟨A, c, rfl, hc, hat⟩ := h
  by_cases hm : l = []
  · subst hm
    have hf : (Builtin.firstCells i.size 0 (.slice A 0 c)).run Tryd.prog w = .ok #[] w := by
      cases A with
      | none => exact run_firstCells_none (P := Tryd.prog) w i.size 0 0 c
      | some a => exact run_firstCells_some (P := Tryd.prog) w i.size 0 a 0 c [] (by simp) (by simp)
    refine ⟨.slice (some ⟨g, 0, none⟩) 0 0, w, ?_, ⟨rfl, .inr ⟨g, 0, #[], rfl, Nat.zero_le _, hg, Nat.le_refl _, by decide, rfl, rfl⟩⟩, Ext.refl _ _⟩
    simp [Builtin.append_, run_underlying Tryd.underlying22, sizeOf, typeInfo, hi1, Builtin.lenOf, hf, storeCells]
  · obtain ⟨g1, o1, rfl, _, hcell⟩ := hat hm
    have hpos : 0 < l.length := List.length_pos_iff.2 hm
    have hnews : ∀ j v, (l.map fun x => Value.int .i64 x)[j]? = some v → w.cell? ((⟨g1, o1, none⟩ : Addr).add j) = some v := by
      intro j v hv
      simp only [List.getElem?_map, Option.map_eq_some_iff] at hv
      obtain ⟨u, hu, rfl⟩ := hv
      have ha : (⟨g1, o1, none⟩ : Addr).add j = ⟨g1, o1 + j, none⟩ := by unfold Addr.add; split <;> simp_all
      rw [ha]
      have := hcell j u hu
      rwa [Nat.mul_one] at this
    have hr := run_append_grow (P := Tryd.prog) w 22 ty _ i _ Tryd.underlying22 hi1 z1 ⟨g, 0, none⟩ 0 0 [] (by simp) (fun j v hv => by simp at hv) ⟨g1, o1, none⟩ l.length c (l.map fun x => Value.int .i64 x) (by simp [z2]) hnews (by omega) (by omega) (growslice_fits (by omega) (by rw [z3]; omega))
    rw [Nat.zero_add] at hr
    have hge := grownCap_ge w l.length 0 3
    have hmax := grownCap_le_maxLen w l.length 0 3 (by unfold maxLen; omega)
    refine ⟨_, _, hr, ⟨by simp, .inr ⟨w.heap.size, _, _, rfl, Nat.zero_le _, heap_alloc_self _ _, hge, hmax, ?_, ?_⟩⟩, ((Ext.refl _ _).drew).alloc _⟩
    · simp [size_zeroCells, Value.cells]
      omega
    · simp
end Go.Proofs.YtipmfopjhgagiaaDoor
