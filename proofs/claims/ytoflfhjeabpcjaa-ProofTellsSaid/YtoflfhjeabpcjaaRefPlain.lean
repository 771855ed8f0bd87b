/- The document's numbers, blobs and rows in bytes; no condition. -/
import Derived.Test.YtoflfhjeabpcjaaPlain2
import Derived.Test.YtoflfhjeabpcjaaLent
namespace Go.Proofs.Ytoflfhjeabpcjaa
set_option linter.unusedVariables false
set_option linter.unusedSimpArgs false
open Go.RowKit

theorem div_256 (n : Int) (s : Nat) : n / 2 ^ s / 256 = n / 2 ^ (s + 8) := by
  rw [Int.ediv_ediv_of_nonneg (by exact Int.pow_nonneg (by decide)), Int.pow_add]
  rfl
/-- The last j bytes of a number of 8, ahead of them none yet. -/
def numPart (n : Int) (j : Nat) : Bs := List.replicate (8 - j) 0 ++ (beB n 8).drop (8 - j)
theorem numPart_len (n : Int) (j : Nat) (h : j ≤ 8) : (numPart n j).length = 8 := by simp [numPart, beB_len] <;> omega
theorem numPart_set (n : Int) (j : Nat) (h : j < 8) : (numPart n j).set (7 - j) (byteAt n (8 * j)) = numPart n (j + 1) := by
  unfold numPart
  have hb : beB n 8 = [byteAt n 56, byteAt n 48, byteAt n 40, byteAt n 32, byteAt n 24, byteAt n 16, byteAt n 8, byteAt n 0] := rfl
  rw [hb]
  have hj : j = 0 ∨ j = 1 ∨ j = 2 ∨ j = 3 ∨ j = 4 ∨ j = 5 ∨ j = 6 ∨ j = 7 := by omega
  rcases hj with rfl | rfl | rfl | rfl | rfl | rfl | rfl | rfl <;> rfl
theorem fresh_at {w W : World} {g : Nat} {l : Bs} (n : Nat) (hn : n = l.length) (hm : n ≤ 9223372036854775807) (h : W.heap[g]? = some (.cells (l.map byteV).toArray 5 (0, 0))) (hx : Ext (fun _ => False) w W) (hg : w.heap.size ≤ g) :
    FreshB w l (.slice (some ⟨g, 0, none⟩) n n) W := by
  subst hn
  refine ⟨.inr ⟨g, l.length, _, (0, 0), rfl, h, Nat.le_refl _, by simp, hm, fun i _ h => by simp at h, fun k u hu => ?_⟩, hx, fun k hk => ?_⟩
  · simp [hu, byteV]
  · simp only [Value.ownBlock, Option.some.injEq] at hk
    omega
set_option maxRecDepth 100000 in
set_option maxHeartbeats 1000000 in
theorem dnum_walk (w : World) (n : Int) : Calls Try.prog 79 #[.int .i64 n] w fun e w' => ∃ v', e = .returned v' ∧ FreshB w (beB n 8) v' w' := by
  have hmk : ∀ u : World, (Instr.makeSlice 22 (.int .i64 8) (.int .i64 8)).run Try.prog u = .ok (.slice (some ⟨u.heap.size, 0, none⟩) 8 8) (u.alloc (.cells (madeCells #[.int .u8 0] 8) 5)) := run_make_bytes 8 8 (by omega) (by omega)
  have h0 : (w.alloc (.cells (madeCells #[.int .u8 0] 8) 5)).heap[w.heap.size]? = some (.cells ((numPart n 0).map byteV).toArray 5 (0, 0)) := by
    rw [heap_alloc_self]
    have hn : numPart n 0 = List.replicate 8 0 := by unfold numPart; rw [List.drop_of_length_le (by simp [beB_len])]; simp
    rw [hn]
    have hc : madeCells #[Value.int .u8 0] 8 = ((List.replicate 8 (0 : UInt8)).map byteV).toArray := by kernel_rfl
    rw [hc]
  have hx0 := (Ext.refl (fun _ => False) w).alloc (.cells (madeCells #[.int .u8 0] 8) 5)
  have H0 := Lib.hid (And.intro h0 hx0)
  have hn0 : n = n / 2 ^ (8 * 0) := by simp
  have HN := Lib.hid hn0
  clear h0 hx0 hn0
  go_enter Try.func79, Try.ntmps79
  go_wp2_with fail
  generalize hw1 : w.alloc _ = w1
  rw [hw1] at H0
  go_loopw [0, 4] (fun m i W => ∃ j : Nat, j ≤ 8 ∧ i = .int .i64 (7 - (j : Int)) ∧ m = .int .i64 (n / 2 ^ (8 * j)) ∧ W.heap[w.heap.size]? = some (.cells ((numPart n j).map byteV).toArray 5 (0, 0)) ∧ Ext (fun _ => False) w W) (fun _ i _ => (intOf i + 1).toNat)
  case atStart => exact ⟨0, by omega, rfl, by rw [← HN.out], H0.out.1, H0.out.2⟩
  case round =>
    obtain ⟨j, hj, rfl, rfl, hW, hx⟩ := hrel
    by_cases hj8 : j < 8
    · obtain ⟨i, hi⟩ : ∃ i : Nat, i = 7 - j := ⟨_, rfl⟩
      have hii : 7 - (j : Int) = (i : Int) := by omega
      rw [hii]
      have hge : decide ((0 : Int) ≤ (i : Int)) = true := by simp
      have hi8 : (i : Int) < 8 := by omega
      have hnx : IntKind.i64.wrap ((i : Int) - 1) = 7 - ((j + 1 : Nat) : Int) := by rw [IntKind.wrap_i64]; omega
      obtain ⟨v0, hc⟩ : ∃ v0, wr.cell? ⟨w.heap.size, i, none⟩ = some v0 := ⟨_, by rw [cells_at hW, Array.getElem?_eq_getElem (by simp [numPart_len n j hj]; omega)]⟩
      have hf : wr.frozen? ⟨w.heap.size, i, none⟩ = false := by simp [World.frozen?, hW]
      have hal := lt_of_heap hW
      have hby := byteAt_wrap n (8 * j)
      have hdv := div_256 n (8 * j)
      have hset : (wr.setCell ⟨w.heap.size, i, none⟩ (.int .u8 (byteAt n (8 * j)).toNat)).heap[w.heap.size]? = some (.cells ((numPart n (j + 1)).map byteV).toArray 5 (0, 0)) := by
        rw [heap_setCell_self hW, ← numPart_set n j hj8, ← hi]
        simp [byteV]
      generalize byteAt n (8 * j) = c at *
      have e8 : 8 * (j + 1) = 8 * j + 8 := by omega
      generalize n / 2 ^ (8 * j) = nj at *
      have HH := Lib.hid (And.intro hset (And.intro hx (And.intro hby (And.intro hdv (And.intro e8 hi)))))
      clear hset hx hW hby hdv hii e8 hi
      go_wp2_with fail
      rw [HH.out.2.2.1]
      refine ⟨⟨j + 1, by omega, by go_num, ?_, HH.out.1, HH.out.2.1.setCell (a := ⟨w.heap.size, i, none⟩) (.inr (Nat.le_refl _)) _⟩, by have := HH.out.2.2.2.2.2; simp [intOf]; omega⟩
      rw [HH.out.2.2.2.1, HH.out.2.2.2.2.1]
    · have : j = 8 := by omega
      subst this
      have hge : decide ((0 : Int) ≤ 7 - ((8 : Nat) : Int)) = false := by decide
      have HH := Lib.hid (And.intro hW hx)
      clear hW hx
      go_wp2_with fail
      go_ret
      have h1 := HH.out.1
      have hp : numPart n 8 = beB n 8 := by simp [numPart]
      rw [hp] at h1
      exact ⟨_, rfl, fresh_at 8 (by rw [beB_len]) (by decide) h1 HH.out.2 (Nat.le_refl _)⟩

theorem four_eq (n : Nat) : beB (n : Int) 4 = [byteAt n 24, byteAt n 16, byteAt n 8, byteAt n 0] := rfl
set_option maxRecDepth 100000 in
theorem four_walk (w : World) (n : Nat) (hn : n ≤ 9223372036854775807) : Calls Try.prog 120 #[.int .i64 (n : Int)] w fun e w' => ∃ v', e = .returned v' ∧ FreshB w (beB (n : Int) 4) v' w' := by
  have h0 : (n : Int) % 256 = ((byteAt n 0).toNat : Int) := by have := byteAt_wrap n 0; simpa using this
  have h8 : (n : Int) / 256 % 256 = ((byteAt n 8).toNat : Int) := byteAt_wrap n 8
  have h16 : (n : Int) / 65536 % 256 = ((byteAt n 16).toNat : Int) := byteAt_wrap n 16
  have h24 : (n : Int) / 16777216 % 256 = ((byteAt n 24).toNat : Int) := byteAt_wrap n 24
  have hle : (n : Int) ≤ 9223372036854775807 := by omega
  rw [four_eq]
  generalize byteAt n 0 = c0 at *
  generalize byteAt n 8 = c1 at *
  generalize byteAt n 16 = c2 at *
  generalize byteAt n 24 = c3 at *
  have HH := Lib.hid (And.intro h0 (And.intro h8 (And.intro h16 h24)))
  clear h0 h8 h16 h24
  go_enter Try.func120, Try.ntmps120
  go_wp2_with fail
  go_ret
  refine ⟨_, rfl, fresh_at 4 rfl (by decide) ?_ ((Ext.refl _ _).alloc _) (Nat.le_refl _)⟩
  rw [heap_alloc_self, HH.out.1, HH.out.2.1, HH.out.2.2.1, HH.out.2.2.2]
  rfl
set_option maxRecDepth 100000 in
theorem dblob_walk {w : World} {D : Nat → Prop} {v : Value} {l : Bs} (hv : Byt D w v l) (hl : l.length ≤ 65536) :
    Calls Try.prog 121 #[v] w fun e w' => ∃ v', e = .returned (.tuple #[v', .int .i64 0]) ∧ FreshB w (blobB l) v' w' := by
  have H := Lib.hid (four_walk w l.length (by omega))
  obtain ⟨A, c, rfl, hle, _⟩ := id hv
  have Hv := Lib.hid hv
  have hcm : decide ((65536 : Int) < (l.length : Int)) = false := by simp; omega
  have hcm' : ¬ (65536 : Int) < (l.length : Int) := by omega
  clear hv hle
  go_enter Try.func121, Try.ntmps121
  go_wp2_with fail
  refine H.out.mono ?_
  rintro e w1 ⟨v1, rfl, h1⟩
  obtain ⟨A1, c1, hf1, _, _⟩ := h1.own.formP
  subst hf1
  have H1 := Lib.hid h1
  clear h1
  go_wp2_with (at_builtin; refine Hid.out ?_)
  refine Lib.hid ?_
  refine wpList_append_bytes rfl _ _ 22 rfl Try.underlying22 info8p (sv := .slice A1 _ c1) rfl rfl H1.out.own (Hv.out.same H1.out.ext) (by simp [beB_len]; omega) ?_
  intro v2 w2 hown2 hx2 hb2
  have hfr := H1.out.appended hown2 hx2 hb2
  have HF := Lib.hid hfr
  clear hown2 hx2 hb2 hfr
  go_wp2_with fail
  refine bodyPost_ret (results_tmp2 rfl _ _ _) rfl ?_
  exact ⟨_, rfl, HF.out⟩
set_option maxRecDepth 100000 in
theorem dblob_long {w : World} {D : Nat → Prop} {v : Value} {l : Bs} (hv : Byt D w v l) (hl : 65536 < l.length) :
    Calls Try.prog 121 #[v] w fun e w' => e = .returned (.tuple #[.slice none 0 0, .int .i64 2]) ∧ Ext (fun _ => False) w w' := by
  obtain ⟨A, c, rfl, hle, _⟩ := id hv
  have hcm : decide ((65536 : Int) < (l.length : Int)) = true := by simp; omega
  have hcm' : (65536 : Int) < (l.length : Int) := by omega
  clear hv hle
  go_enter Try.func121, Try.ntmps121
  go_wp2_with fail
  refine bodyPost_ret (results_tmp2 rfl _ _ _) rfl ?_
  exact ⟨rfl, Ext.refl _ _⟩
set_option maxRecDepth 100000 in
set_option maxHeartbeats 1000000 in
theorem drow_walk {w : World} {D : Nat → Prop} {v : Value} {ls : List Bs} (hv : Byts D w v ls) (h63 : ls.length ≤ 9223372036854775807) :
    Calls Try.prog 101 #[v] w (RowPost w ls) := by
  obtain ⟨A, c, rfl, hle, _⟩ := id hv
  have Hv := Lib.hid hv
  by_cases hbig : 4096 < ls.length
  · have hcm : decide ((4096 : Int) < (ls.length : Int)) = true := by simp; omega
    have hcm' : (4096 : Int) < (ls.length : Int) := by omega
    clear hv hle
    go_enter Try.func101, Try.ntmps101
    go_wp2_with fail
    refine bodyPost_ret (results_tmp2 rfl _ _ _) rfl ?_
    have hr : rowR ls = ([], 2) := by unfold rowR; rw [if_neg]; omega
    exact ⟨_, by rw [hr]; rfl, by rw [hr]; exact FreshB.nil w⟩
  have hcm : decide ((4096 : Int) < (ls.length : Int)) = false := by simp; omega
  have hcm' : ¬ (4096 : Int) < (ls.length : Int) := by omega
  have H := Lib.hid (four_walk w ls.length h63)
  clear hv hle
  go_enter Try.func101, Try.ntmps101
  go_wp2_with fail
  refine H.out.mono ?_
  rintro e w1 ⟨v1, rfl, h1⟩
  have H1 := Lib.hid h1
  clear h1
  go_wp2_with fail
  go_loopw [4, 5] (fun u i W => ∃ k : Nat, k ≤ ls.length ∧ i = .int .i64 k ∧ FreshB w (beB ls.length 4 ++ (ls.take k).flatMap blobB) u W ∧ ∀ l ∈ ls.take k, l.length ≤ 65536) (fun _ i _ => ls.length - (intOf i).toNat)
  case atStart => exact ⟨0, by omega, rfl, by simpa using H1.out, by simp⟩
  case round =>
    obtain ⟨k, hk, rfl, hu, hall⟩ := hrel
    by_cases hlt : k < ls.length
    · obtain ⟨g, o, c', hav, hD, x, hcell, hbx⟩ := Hv.out.at hlt
      obtain ⟨rfl, rfl⟩ : A = some ⟨g, o, none⟩ ∧ c = c' := by simpa using hav
      clear hav
      rw [Nat.mul_one] at hcell
      have hcell' := cell_same hcell hu.ext
      have hbx' := hbx.same hu.ext
      have hlt' : (k : Int) < (ls.length : Int) := by omega
      have htk : ls.take (k + 1) = ls.take k ++ [ls[k]] := List.take_succ_eq_append_getElem hlt
      generalize hxl : ls[k] = xl at *
      have hmem : xl ∈ ls := by rw [← hxl]; exact List.getElem_mem hlt
      have hlen : (beB ls.length 4 ++ (ls.take k).flatMap blobB).length + 65540 ≤ 140737488355328 := by
        have := flat_len _ hall
        rw [List.length_append, beB_len]
        have h2 : (ls.take k).length * 65540 ≤ 4096 * 65540 := Nat.mul_le_mul_right _ (by simp; omega)
        omega
      have Hlen := Lib.hid hlen
      obtain ⟨A2, c2, hform, _, _⟩ := hu.own.formP
      subst hform
      have Hu := Lib.hid (And.intro hu (And.intro hall htk))
      clear hu hall htk hlen hcell hbx hxl
      generalize hp : beB ls.length 4 ++ (ls.take k).flatMap blobB = p at *
      have Hp := Lib.hid hp
      clear hp
      by_cases hxs : xl.length ≤ 65536
      · have HB := Lib.hid (dblob_walk hbx' hxs)
        clear hbx'
        go_wp2_with fail
        refine HB.out.mono ?_
        rintro e w2 ⟨v2, rfl, h2⟩
        have hu2 := Hu.out.1.step h2.ext
        obtain ⟨A3, c3, hform3, _, _⟩ := h2.own.formP
        subst hform3
        have H2 := Lib.hid (And.intro h2 hu2)
        clear h2 hu2
        go_wp2_with (at_builtin; refine Hid.out ?_)
        refine Lib.hid ?_
        refine wpList_append_bytes rfl _ _ 22 rfl Try.underlying22 info8p (sv := .slice A2 _ c2) rfl rfl H2.out.2.own H2.out.1.byt (by have := Hlen.out; rw [blobB_len]; omega) ?_
        intro v3 w3 hown3 hx3 hb3
        have hfr := H2.out.2.appended hown3 hx3 hb3
        have HF := Lib.hid hfr
        clear hown3 hx3 hb3 hfr
        go_wp2_with fail
        refine ⟨⟨k + 1, by omega, by go_num, ?_, ?_⟩, by simp [intOf]; omega⟩
        · rw [Hu.out.2.2, List.flatMap_append, ← List.append_assoc, Hp.out]
          simpa using HF.out
        · rw [Hu.out.2.2]
          intro l hl
          rcases List.mem_append.1 hl with hl | hl
          · exact Hu.out.2.1 l hl
          · simp at hl; subst hl; exact hxs
      · have HB := Lib.hid (dblob_long hbx' (by omega))
        clear hbx'
        go_wp2_with fail
        refine HB.out.mono ?_
        rintro e w2 ⟨rfl, h2⟩
        have H2 := Lib.hid h2
        clear h2
        go_wp2_with fail
        refine bodyPost_ret (results_tmp2 rfl _ _ _) rfl ?_
        have hr : rowR ls = ([], 2) := by unfold rowR; rw [if_neg]; intro h; exact hxs (h.2 _ hmem)
        exact ⟨_, by rw [hr]; rfl, by rw [hr]; exact (FreshB.nil _).base (Hu.out.1.ext.trans H2.out)⟩
    · have : k = ls.length := by omega
      subst this
      have hlt' : ¬ (ls.length : Int) < (ls.length : Int) := by omega
      have Hu := Lib.hid (And.intro hu hall)
      clear hu hall
      go_wp2_with fail
      refine bodyPost_ret (results_tmp2 rfl _ _ _) rfl ?_
      obtain ⟨hu, hall⟩ := Hu.out
      rw [List.take_of_length_le (Nat.le_refl _)] at hu hall
      have hr : rowR ls = (rowB ls, 0) := by unfold rowR; rw [if_pos ⟨by omega, hall⟩]
      exact ⟨_, by rw [hr]; rfl, by rw [hr]; exact hu⟩
end Go.Proofs.Ytoflfhjeabpcjaa
