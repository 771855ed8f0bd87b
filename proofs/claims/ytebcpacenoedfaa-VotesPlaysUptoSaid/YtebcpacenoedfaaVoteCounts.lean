/- As many records are found as Count tells; no condition but the bound on the rows. -/
import Derived.Test.YtebcpacenoedfaaVoteSmall
namespace Go.Proofs.Ytebcpacenoedfaa
set_option linter.unusedVariables false
set_option linter.unusedSimpArgs false
open Go.RowKit

/-- A disk whose power is not to go, with all safe: records and nothing else. -/
def Quiet (x : Dk) (n sz : Nat) : Prop := x.off = false ∧ x.armed = false ∧ x.s = x.l.length ∧ sz = x.l.length ∧ x.l.length ≤ 4194304 ∧ ∃ ms : List Bs, x.l = ms.flatMap blobB ∧ (∀ l ∈ ms, l.length ≤ 65536) ∧ n = ms.length
theorem quiet_open {x : Dk} {n sz : Nat} (h : Quiet x n sz) : openD x = (0, x) ∧ (recs x.l).1.length = n ∧ (recs x.l).2 = sz := by
  obtain ⟨h1, h2, h3, h4, h5, ms, h6, h7, h8⟩ := h
  have hr : recs x.l = (ms, x.l.length) := by rw [h6]; exact recs_flat ms h7
  have hc : openC x = (0, x) := by rw [openC, hr, if_neg (Nat.lt_irrefl _)]
  refine ⟨?_, by rw [hr, h8], by rw [hr, h4]⟩
  rw [openD, hc, h1, if_neg (by decide), if_neg (by simp), hr, if_neg (by simp [h3])]
theorem quiet_ap {x : Dk} {m : Bs} (h1 : x.off = false) (h2 : x.armed = false) (h : x.l.length + m.length ≤ 4194304) : apS m x = (0, { x with l := x.l ++ m, s := x.l.length + m.length }) := by
  obtain ⟨off, armed, acts, part, l, s⟩ := x
  simp only at h1 h2 h
  subst h1 h2
  have ha : appendD m ⟨false, false, acts, part, l, s⟩ = (0, ⟨false, false, acts, part, l ++ m, s⟩) := by
    rw [appendD, if_neg (by simp), if_neg (by simp only; omega)]
    simp [goesD]
  have hs : syncD ⟨false, false, acts, part, l ++ m, s⟩ = (0, ⟨false, false, acts, part, l ++ m, (l ++ m).length⟩) := by
    rw [syncD, if_neg (by simp)]
    simp [goesD]
  rw [apS, ha]
  simp only [if_true]
  rw [hs, List.length_append]
theorem quiet_put {x : Dk} {n sz : Nat} (h : Quiet x n sz) (ls : List Bs) : (putR x n sz false ls).bad = false ∧ Quiet (putR x n sz false ls).x (putR x n sz false ls).n (putR x n sz false ls).sz ∧
    (((putR x n sz false ls).e = 0 ∧ (putR x n sz false ls).n = n + ls.length) ∨ (((putR x n sz false ls).e = 2 ∨ (putR x n sz false ls).e = 16) ∧ (putR x n sz false ls).n = n)) := by
  have hq := h
  obtain ⟨h1, h2, h3, h4, h5, ms, h6, h7, h8⟩ := h
  unfold putR
  rw [if_neg (by decide)]
  by_cases ha : anyLong ls = true
  · rw [if_pos ha]
    exact ⟨rfl, hq, .inr ⟨.inl rfl, rfl⟩⟩
  · rw [if_neg ha]
    by_cases h0 : ls.length = 0
    · rw [if_pos h0]
      exact ⟨rfl, hq, .inl ⟨rfl, by simp [h0]⟩⟩
    · rw [if_neg h0]
      by_cases hf : 4194304 - sz < (joinS ls).length
      · rw [if_pos hf]
        exact ⟨rfl, hq, .inr ⟨.inr rfl, rfl⟩⟩
      · rw [if_neg hf]
        have hok : ∀ l ∈ ls, l.length ≤ 65536 := fun l hl => by
          by_cases hc : l.length ≤ 65536
          · exact hc
          · exact absurd (anyLong_at hl (by omega)) ha
        have hap := quiet_ap (m := joinS ls) h1 h2 (by omega)
        rw [hap, if_pos rfl]
        refine ⟨rfl, ⟨h1, h2, ?_, ?_, ?_, ms ++ ls, ?_, ?_, ?_⟩, .inl ⟨rfl, rfl⟩⟩
        · simp only [List.length_append]
        · simp only [List.length_append]; omega
        · simp only [List.length_append]; omega
        · simp only [h6, joinS_ok hok, List.flatMap_append]
        · intro l hl
          rcases List.mem_append.1 hl with hl | hl
          · exact h7 l hl
          · exact hok l hl
        · simp only [List.length_append, h8]

abbrev Bytss (D : Nat → Prop) (w : World) (v : Value) (lss : List (List Bs)) : Prop := Row (fun w g n x => ∃ u, w.cell? ⟨g, n, none⟩ = some u ∧ Byts D w u x) 1 D w v lss
theorem Bytss.ext {D F : Nat → Prop} {w w' : World} {v : Value} {ls : List (List Bs)} (h : Bytss D w v ls) (hx : Ext F w w') (hF : ∀ b, D b → ¬ F b) : Bytss D w' v ls :=
  h.imp fun _ _ _ hg ⟨u, hc, hb⟩ => ⟨u, cell_ext hc hx (hF _ hg), hb.ext hx hF⟩

set_option maxRecDepth 100000 in
set_option maxHeartbeats 1000000 in
theorem counts_walk {w : World} {v : Value} {lss : List (List Bs)} (hv : Bytss (· < w.heap.size) w v lss) (hl : lss.length ≤ 1048576) (hls : ∀ ls ∈ lss, ls.length ≤ 1048576) :
    Calls Try.prog 5 #[v] w fun e w' => e = .returned (.bool true) ∧ Ext (fun _ => False) w w' := by
  obtain ⟨A, c, rfl, _⟩ := id hv
  have HV := Lib.hid hv
  have HS := Lib.hid (votes_small w)
  clear hv
  go_enter Try.func5, Try.ntmps5
  go_wp2_with fail
  refine HS.out.mono ?_
  rintro e w1 ⟨rfl, hx1⟩
  have HI := Lib.hid (inv_new w hx1)
  clear hx1
  go_wp2_with fail
  refine HI.out.mono ?_
  rintro e w2 ⟨a, rfl, h2⟩
  have HO := Lib.hid (d_open h2 (by kernel_rfl))
  rw [show openD ⟨false, false, 0, 0, [], 0⟩ = (0, ⟨false, false, 0, 0, [], 0⟩) by kernel_rfl, show recs (Dk.l ⟨false, false, 0, 0, [], 0⟩) = ([], 0) by kernel_rfl] at HO
  clear h2 HI HS
  go_wp2_with fail
  refine HO.out.mono ?_
  rintro e w3 ⟨va, A3, c3, vs3, rfl, h3, _⟩
  have H3 := Lib.hid (show VInv w w3 a va ⟨false, false, 0, 0, [], 0⟩ 0 0 false from h3)
  clear h3 HO
  go_wp2_with fail
  go_loopw [8, 9] (fun m i W => ∃ (k n sz : Nat) (x : Dk), k ≤ lss.length ∧ k ≤ 20 ∧ i = .int .i64 k ∧ m = .int .i64 n ∧ VInv w W a va x n sz false ∧ Quiet x n sz ∧ n ≤ k * 1048576) (fun _ i _ => lss.length - (intOf i).toNat)
  case atStart => exact ⟨0, 0, 0, _, by omega, by omega, rfl, rfl, H3.out, ⟨rfl, rfl, rfl, rfl, by simp, [], rfl, by simp, rfl⟩, by omega⟩
  case round =>
    obtain ⟨k, n, sz, x, hk, hk20, rfl, rfl, hi, hq, hn⟩ := hrel
    by_cases hlt : k < lss.length
    · have hlt1 : decide ((k : Int) < (lss.length : Int)) = true := by simpa using hlt
      have hlt' : (k : Int) < (lss.length : Int) := by omega
      by_cases h20 : k < 20
      · have h20' : decide ((k : Int) < 20) = true := by simpa using (by omega : (k : Int) < 20)
        have h20'' : (k : Int) < 20 := by omega
        obtain ⟨g1, o1, cc, hA1, hg1, u1, hc1, hu1⟩ := (HV.out.ext hi.old fun _ _ => id).at hlt
        obtain ⟨rfl, rfl⟩ : A = some ⟨g1, o1, none⟩ ∧ c = cc := by simpa using hA1
        rw [Nat.mul_one] at hc1
        have hm := hls _ (List.getElem_mem hlt)
        generalize lss[k] = ls at *
        have hszb : sz ≤ 4194304 := by obtain ⟨_, _, _, h4, h5, _⟩ := hq; omega
        have hp := v_put hi hu1 hm hszb (by omega)
        obtain ⟨B1, b1, rfl, _⟩ := id hu1
        obtain ⟨p1, p2, p3⟩ := quiet_put hq ls
        generalize putR x n sz false ls = r at *
        obtain ⟨e, y, n', sz', bad'⟩ := r
        simp only at p1 p2 p3
        subst p1
        have hxr := hi.old
        have HP := Lib.hid (And.intro hp (And.intro p2 (And.intro hxr hg1)))
        clear hp hi hq hu1 hA1 hg1 p2 hxr
        go_wp2_with fail
        refine HP.out.1.mono ?_
        rintro e' w4 ⟨rfl, h4⟩
        have hcx : w4.cell? ⟨g1, o1 + k, none⟩ = some (.slice B1 ls.length b1) := by
          rw [World.cell?_of_block ((h4.old.block g1 HP.out.2.2.2 id).trans (HP.out.2.2.1.block g1 HP.out.2.2.2 id).symm)]
          exact hc1
        have H4 := Lib.hid h4
        clear h4
        rcases p3 with ⟨rfl, rfl⟩ | ⟨rfl | rfl, rfl⟩
        · have hne : (((n + ls.length : Nat) : Int) != ((n + ls.length : Nat) : Int)) = false := by simp
          go_wp2_with fail
          refine (v_count H4.out).mono ?_
          rintro e' _ ⟨rfl, rfl⟩
          go_wp2_with fail
          exact ⟨⟨k + 1, n + ls.length, sz', y, by omega, by omega, by go_num, by go_num, H4.out, HP.out.2.1, by omega⟩, by simp [intOf]; omega⟩
        · go_wp2_with fail
          refine (v_count H4.out).mono ?_
          rintro e' _ ⟨rfl, rfl⟩
          go_wp2_with fail
          exact ⟨⟨k + 1, n', sz', y, by omega, by omega, by go_num, rfl, H4.out, HP.out.2.1, Nat.le_trans hn (Nat.mul_le_mul_right 1048576 (Nat.le_succ k))⟩, by simp [intOf]; omega⟩
        · go_wp2_with fail
          refine (v_count H4.out).mono ?_
          rintro e' _ ⟨rfl, rfl⟩
          go_wp2_with fail
          exact ⟨⟨k + 1, n', sz', y, by omega, by omega, by go_num, rfl, H4.out, HP.out.2.1, Nat.le_trans hn (Nat.mul_le_mul_right 1048576 (Nat.le_succ k))⟩, by simp [intOf]; omega⟩
      · have h20' : decide ((k : Int) < 20) = false := by simpa using (by omega : ¬ (k : Int) < 20)
        have h20'' : ¬ (k : Int) < 20 := by omega
        obtain ⟨q1, q2, q3⟩ := quiet_open hq
        have ho := v_open hi (by rw [q1])
        rw [q1, q2, q3] at ho
        have HO := Lib.hid (And.intro ho (And.intro hi.old hq))
        clear ho hi hq q1 q2 q3 hn
        go_wp2_with fail
        refine HO.out.1.mono ?_
        rintro e w5 ⟨vb, A5, c5, vs5, rfl, _, h5, _⟩
        have hs := inv_safe h5.disk
        rw [HO.out.2.2.2.2.1] at hs
        have HT := Lib.hid (And.intro hs (And.intro (inv_bytes h5.disk) h5.old))
        clear hs h5
        have hnn : ((n : Int) == (n : Int)) = true := by simp
        have hnx : (((x.l.length : Nat) : Int) == ((x.l.length : Nat) : Int)) = true := by simp
        go_wp2_with fail
        refine HT.out.1.mono ?_
        rintro e _ ⟨rfl, rfl⟩
        go_wp2_with fail
        refine HT.out.2.1.mono ?_
        rintro e w6 ⟨A6, c6, rfl, _, hx6, _, _⟩
        have HX := Lib.hid (HT.out.2.2.trans hx6)
        clear hx6
        go_wp2_with fail
        go_ret
        exact ⟨rfl, HX.out⟩
    · have hlt1 : decide ((k : Int) < (lss.length : Int)) = false := by simpa using (by omega : ¬ (k : Int) < (lss.length : Int))
      have hlt' : ¬ (k : Int) < (lss.length : Int) := by omega
      obtain ⟨q1, q2, q3⟩ := quiet_open hq
      have ho := v_open hi (by rw [q1])
      rw [q1, q2, q3] at ho
      have HO := Lib.hid (And.intro ho (And.intro hi.old hq))
      clear ho hi hq q1 q2 q3 hn
      go_wp2_with fail
      refine HO.out.1.mono ?_
      rintro e w5 ⟨vb, A5, c5, vs5, rfl, _, h5, _⟩
      have hs := inv_safe h5.disk
      rw [HO.out.2.2.2.2.1] at hs
      have HT := Lib.hid (And.intro hs (And.intro (inv_bytes h5.disk) h5.old))
      clear hs h5
      have hnn : ((n : Int) == (n : Int)) = true := by simp
      have hnx : (((x.l.length : Nat) : Int) == ((x.l.length : Nat) : Int)) = true := by simp
      go_wp2_with fail
      refine HT.out.1.mono ?_
      rintro e _ ⟨rfl, rfl⟩
      go_wp2_with fail
      refine HT.out.2.1.mono ?_
      rintro e w6 ⟨A6, c6, rfl, _, hx6, _, _⟩
      have HX := Lib.hid (HT.out.2.2.trans hx6)
      clear hx6
      go_wp2_with fail
      go_ret
      exact ⟨rfl, HX.out⟩
end Go.Proofs.Ytebcpacenoedfaa
