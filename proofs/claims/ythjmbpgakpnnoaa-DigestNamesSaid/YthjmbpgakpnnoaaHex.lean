/- Digests in digits, the code's and the document's; no condition. -/
import Derived.Test.YthjmbpgakpnnoaaSha7
namespace Go.Proofs.Ythjmbpgakpnnoaa
set_option linter.unusedVariables false
set_option linter.unusedSimpArgs false
open Go.RowKit

def digs : Bs := [48, 49, 50, 51, 52, 53, 54, 55, 56, 57, 97, 98, 99, 100, 101, 102]
def dig (n : Nat) : UInt8 := digs.getD n 0
def hexB (s : Bs) : Bs := s.flatMap fun c => [dig (c.toNat / 16), dig (c.toNat % 16)]
theorem hexB_len (s : Bs) : (hexB s).length = 2 * s.length := by
  induction s with
  | nil => rfl
  | cons c s ih => simp only [hexB, List.flatMap_cons, List.length_append, List.length_cons, List.length_nil] at *; omega
theorem hexB_take (s : Bs) (k : Nat) (h : k < s.length) : hexB (s.take (k + 1)) = hexB (s.take k) ++ [dig (s[k].toNat / 16), dig (s[k].toNat % 16)] := by
  rw [List.take_succ_eq_append_getElem h, hexB, hexB, List.flatMap_append, List.flatMap_singleton]
theorem digs_at (n : Nat) (h : n < 16) : (#[48, 49, 50, 51, 52, 53, 54, 55, 56, 57, 97, 98, 99, 100, 101, 102] : Array UInt8)[n]? = some (dig n) := by
  have : n = 0 ∨ n = 1 ∨ n = 2 ∨ n = 3 ∨ n = 4 ∨ n = 5 ∨ n = 6 ∨ n = 7 ∨ n = 8 ∨ n = 9 ∨ n = 10 ∨ n = 11 ∨ n = 12 ∨ n = 13 ∨ n = 14 ∨ n = 15 := by omega
  rcases this with rfl | rfl | rfl | rfl | rfl | rfl | rfl | rfl | rfl | rfl | rfl | rfl | rfl | rfl | rfl | rfl <;> rfl
theorem run_index_digs (n : Nat) (h : n < 16) (w : World) : (Instr.index 9 (.string ⟨#[48, 49, 50, 51, 52, 53, 54, 55, 56, 57, 97, 98, 99, 100, 101, 102]⟩) (.int .u8 (n : Int))).run Try.prog w = .ok (.int .u8 ((dig n).toNat : Int)) w := by
  have : n = 0 ∨ n = 1 ∨ n = 2 ∨ n = 3 ∨ n = 4 ∨ n = 5 ∨ n = 6 ∨ n = 7 ∨ n = 8 ∨ n = 9 ∨ n = 10 ∨ n = 11 ∨ n = 12 ∨ n = 13 ∨ n = 14 ∨ n = 15 := by omega
  rcases this with rfl | rfl | rfl | rfl | rfl | rfl | rfl | rfl | rfl | rfl | rfl | rfl | rfl | rfl | rfl | rfl <;> (simp [Instr.index, run_underlying Try.underlying9, asIntOf, go_sem]; rfl)
theorem u8_and15 (c : Nat) (h : c < 256) : bits .and .u8 (c : Int) 15 = ((c % 16 : Nat) : Int) := by
  have := (bits_nat .u8 8 (by decide) (fun n h0 h1 => by rw [IntKind.wrap_u8]; omega) c 15 (by omega) (by decide)).1
  rw [show (c &&& 15) = c % 16 from Nat.and_two_pow_sub_one_eq_mod c 4] at this
  exact this
theorem sumV_cells (s : Bs) : sumV s = .agg (s.map byteV).toArray := rfl

set_option maxRecDepth 100000 in
set_option maxHeartbeats 1000000 in
theorem hex_walk (w : World) (s : Bs) (hs : s.length = 32) : Calls Try.prog 22 #[sumV s] w fun e w' => e = .returned (str (hexB s)) ∧ Ext (fun _ => False) w w' := by
  have hmk : ∀ u : World, (Instr.makeSlice 22 (.int .i64 0) (.int .i64 64)).run Try.prog u = .ok (.slice (some ⟨u.heap.size, 0, none⟩) 0 64) (u.alloc (.cells (madeCells #[.int .u8 0] 64) 5)) := run_make_bytes 0 64 (by omega) (by omega)
  have hcz : ((s.map byteV).toArray).size = 32 := by simp [hs]
  have hce : ∀ k (h : k < s.length), ((s.map byteV).toArray)[k]? = some (.int .u8 (s[k].toNat : Int)) := fun k h => by simp [h, byteV]
  rw [sumV_cells]
  generalize (s.map byteV).toArray = cs at *
  have hxa : ∀ o, Ext (fun _ => False) w (w.alloc o) := fun o => (Ext.refl _ w).alloc o
  have H0 := Lib.hid (And.intro hcz (And.intro hce (And.intro hxa (heap_alloc_self w))))
  clear hcz hce hxa
  go_enter Try.func22, Try.ntmps22
  go_wp2_with (refine wpList_load_row rfl 26 _ rfl w.heap.size rfl 26 cs (0, 0) _ (two_first _ _ _) Try.underlying26 rfl (by rw [H0.out.1]; kernel_rfl) ?_)
  have h0 : FreshB (w.alloc (Obj.cells cs 26)) [] (.slice (some ⟨w.heap.size + 1, 0, none⟩) 0 64) ((w.alloc (Obj.cells cs 26)).alloc (Obj.cells (madeCells #[Value.int IntKind.u8 0] 64) 5)) := by
    have := made_fresh (w.alloc (Obj.cells cs 26)) 64 (by decide)
    simpa using this
  have h1 := h0.base (H0.out.2.2.1 _)
  generalize ((w.alloc (Obj.cells cs 26)).alloc (Obj.cells (madeCells #[Value.int IntKind.u8 0] 64) 5)) = w1 at *
  have H1 := Lib.hid h1
  clear h0 h1
  go_loopw [3, 8] (fun u i W => ∃ k : Nat, k ≤ 32 ∧ i = .int .i64 k ∧ FreshB w (hexB (s.take k)) u W) (fun _ i _ => 32 - (intOf i).toNat)
  case atStart => exact ⟨0, by omega, rfl, by simpa [hexB] using H1.out⟩
  case round =>
    obtain ⟨k, hk, rfl, hu⟩ := hrel
    by_cases hk32 : k < 32
    · have hk' : decide ((k : Int) < 32) = true := by simp; omega
      have hk'' : (k : Int) < 32 := by omega
      have hsv := H0.out.2.1 k (by omega)
      have htk := hexB_take s k (by omega)
      have hc := UInt8.toNat_lt (s[k]'(by omega))
      have d1 := fun W => run_index_digs ((s[k]'(by omega)).toNat / 16) (by omega) W
      have d2 := fun W => run_index_digs ((s[k]'(by omega)).toNat % 16) (by omega) W
      have e1 : ((s[k]'(by omega)).toNat : Int) / 16 = (((s[k]'(by omega)).toNat / 16 : Nat) : Int) := by omega
      have e2 := u8_and15 (s[k]'(by omega)).toNat hc
      generalize hcc : (s[k]'(by omega)).toNat = cc at *
      generalize hx1 : dig (cc / 16) = x1 at *
      generalize hx2 : dig (cc % 16) = x2 at *
      generalize cc / 16 = n1 at *
      generalize cc % 16 = n2 at *
      obtain ⟨A2, c2, hform, hle, _⟩ := hu.own.formP
      subst hform
      have hlen : (hexB (s.take k)).length = 2 * k := by rw [hexB_len, List.length_take]; omega
      have Hu := Lib.hid (And.intro hu (And.intro htk (And.intro hsv hlen)))
      have hkw : IntKind.i64.wrap (k + 1) = ((k + 1 : Nat) : Int) := by rw [IntKind.wrap_i64] <;> omega
      clear hu htk hsv hcc hx1 hx2 hle hlen
      generalize hexB (s.take k) = p at *
      go_wp2_with fail
      rw [run_index_arr (w := wr) _ _ _ _ _ k _ rfl (by kernel_rfl) (by kernel_rfl) hk32 Hu.out.2.2.1]
      go_wp2_with fail
      refine wp_region_bar (Cls [] _) [([0, 1, 2, 3, 4, 5, 6], 7)] [] 8 [] [9] (by kernel_rfl) (by kernel_rfl) (Cls.refl _ _) ?_
      try dsimp only [wpMix, wpSegs, pick, List.getElem?_cons_zero, List.getElem?_cons_succ]
      generalize hz : Act.mk _ _ = z
      repeat (first | (refine wpQuiet_step (fun K hK => ?_); replace hK := Lib.hid hK; subst hz; go_simp; generalize hz : Act.mk _ _ = z; refine hK.out z ?_; clear hK K) | (refine wpQuiet_step (fun K hK => ?_); replace hK := Lib.hid hK; subst hz; refine iteSkip (by kernel_rfl) ?_; go_simp; generalize hz : Act.mk _ _ = z; refine hK.out z ?_; clear hK K))
      refine wpQuiet_nil ?_
      subst hz
      try dsimp only [NoPan]
      go_wp2_with fail
      refine ⟨Cls.mk fun b hb => by simp at hb, ?_⟩
      try dsimp only [wpMix, wpSegs, pick, List.getElem?_cons_zero, List.getElem?_cons_succ]
      generalize hz : Act.mk _ _ = z
      repeat (first | (refine wpQuiet_step (fun K hK => ?_); replace hK := Lib.hid hK; subst hz; go_simp; generalize hz : Act.mk _ _ = z; refine hK.out z ?_; clear hK K) | (refine wpQuiet_step (fun K hK => ?_); replace hK := Lib.hid hK; subst hz; refine iteSkip (by kernel_rfl) ?_; go_simp; generalize hz : Act.mk _ _ = z; refine hK.out z ?_; clear hK K))
      refine wpQuiet_nil ?_
      subst hz
      try dsimp only [NoPan]
      go_wp2_with (at_builtin; refine Hid.out ?_)
      refine Lib.hid ?_
      have hu1 := Hu.out.1.step ((Ext.refl (fun _ => False) wr).alloc (Obj.cells #[Value.int IntKind.u8 ↑x1.toNat, Value.int IntKind.u8 ↑x2.toNat] 5)).drew
      refine wpList_append_bytes (m := [x1, x2]) (xv := .slice (some ⟨wr.heap.size, 0, none⟩) 2 2) rfl _ _ 22 rfl Try.underlying22 info8p (sv := .slice A2 p.length c2) rfl rfl hu1.own ((byt_lit wr [x1, x2] (0, 0)).same ((Ext.refl _ _).drew)) (by have := Hu.out.2.2.2; show p.length + 2 ≤ 140737488355328; omega) ?_
      intro v3 w3 hown3 hx3 hb3
      have h3 := hu1.appended hown3 hx3 hb3
      rw [← Hu.out.2.1] at h3
      have H3 := Lib.hid h3
      clear hown3 hx3 hb3 h3 hu1
      go_wp2_with fail
      try dsimp only [wpMix, wpSegs, pick, List.getElem?_cons_zero, List.getElem?_cons_succ]
      generalize hz : Act.mk _ _ = z
      repeat (first | (refine wpQuiet_step (fun K hK => ?_); replace hK := Lib.hid hK; subst hz; go_simp; generalize hz : Act.mk _ _ = z; refine hK.out z ?_; clear hK K) | (refine wpQuiet_step (fun K hK => ?_); replace hK := Lib.hid hK; subst hz; refine iteSkip (by kernel_rfl) ?_; go_simp; generalize hz : Act.mk _ _ = z; refine hK.out z ?_; clear hK K))
      refine wpQuiet_nil ?_
      subst hz
      try dsimp only [NoPan]
      go_wp2_with fail
      exact ⟨⟨k + 1, by omega, by go_num, H3.out⟩, by simp [intOf]; omega⟩
    · have : k = 32 := by omega
      subst this
      have hk' : decide ((32 : Int) < 32) = false := by decide
      rw [show ((32 : Nat) : Int) = (32 : Int) from rfl]
      have Hu := Lib.hid hu
      obtain ⟨A2, c2, hform, hle, _⟩ := hu.own.formP
      have hconv := hu.own.byt.conv 22 5 9 Try.underlying22 Try.underlying5 Try.underlying9 wr rfl
      have hfull : s.take 32 = s := List.take_of_length_le (by omega)
      rw [hfull] at hconv hform
      subst hform
      have hp : hexB s = hexB s := rfl
      generalize hpe : hexB s = p at *
      have Hp := Lib.hid hpe
      clear hu hle hfull hp hpe
      go_wp2_with fail
      go_ret
      exact ⟨by rw [Hp.out]; rfl, Hu.out.ext⟩

set_option maxRecDepth 100000 in
set_option maxHeartbeats 1000000 in
theorem dhex_walk (w : World) (s : Bs) (hs : s.length = 32) : Calls Try.prog 23 #[sumV s] w fun e w' => e = .returned (str (hexB s)) ∧ Ext (fun _ => False) w w' := by
  have hcz : ((s.map byteV).toArray).size = 32 := by simp [hs]
  have hce : ∀ k (h : k < s.length), ((s.map byteV).toArray)[k]? = some (.int .u8 (s[k].toNat : Int)) := fun k h => by simp [h, byteV]
  rw [sumV_cells]
  generalize (s.map byteV).toArray = cs at *
  have hxa : Ext (fun _ => False) w (w.alloc (Obj.cells cs 26)) := (Ext.refl _ w).alloc _
  have H0 := Lib.hid (And.intro hcz (And.intro hce (And.intro hxa (heap_alloc_self w (Obj.cells cs 26)))))
  clear hcz hce hxa
  go_enter Try.func23, Try.ntmps23
  go_wp2_with fail
  generalize hw1 : w.alloc _ = w1 at *
  go_loopw [4, 5] (fun u i W => ∃ k : Nat, k ≤ 32 ∧ i = .int .i64 k ∧ FreshB w1 (hexB (s.take k)) u W) (fun _ i _ => 32 - (intOf i).toNat)
  case atStart => exact ⟨0, by omega, rfl, by simpa [hexB] using FreshB.nil w1⟩
  case round =>
    obtain ⟨k, hk, rfl, hu⟩ := hrel
    by_cases hk32 : k < 32
    · have hk' : decide ((k : Int) < 32) = true := by simp; omega
      have hk'' : (k : Int) < 32 := by omega
      have hcell : wr.cell? ⟨w.heap.size, k, none⟩ = some (.int .u8 ((s[k]'(by omega)).toNat : Int)) := by
        rw [cells_at (hu.ext.heap H0.out.2.2.2 id)]
        exact H0.out.2.1 k (by omega)
      have hlt0 := lt_of_heap (hu.ext.heap H0.out.2.2.2 id)
      have htk := hexB_take s k (by omega)
      have hc := UInt8.toNat_lt (s[k]'(by omega))
      have d1 := fun W => run_index_digs ((s[k]'(by omega)).toNat / 16) (by omega) W
      have d2 := fun W => run_index_digs ((s[k]'(by omega)).toNat % 16) (by omega) W
      have e1 : ((s[k]'(by omega)).toNat : Int) / 16 = (((s[k]'(by omega)).toNat / 16 : Nat) : Int) := by omega
      have e2 : ((s[k]'(by omega)).toNat : Int) % 16 = (((s[k]'(by omega)).toNat % 16 : Nat) : Int) := by omega
      have e3 : IntKind.u8.wrap (((s[k]'(by omega)).toNat : Int).tdiv 16) = (((s[k]'(by omega)).toNat / 16 : Nat) : Int) := by rw [Int.tdiv_eq_ediv_of_nonneg (by omega), IntKind.wrap_u8]; omega
      have e5 : IntKind.u8.wrap (((s[k]'(by omega)).toNat / 16 : Nat) : Int) = (((s[k]'(by omega)).toNat / 16 : Nat) : Int) := by rw [IntKind.wrap_u8]; omega
      have e4 : ((s[k]'(by omega)).toNat : Int).tmod 16 = (((s[k]'(by omega)).toNat % 16 : Nat) : Int) := by rw [Int.tmod_eq_emod_of_nonneg (by omega)]; omega
      generalize hcc : (s[k]'(by omega)).toNat = cc at *
      generalize hx1 : dig (cc / 16) = x1 at *
      generalize hx2 : dig (cc % 16) = x2 at *
      generalize cc / 16 = n1 at *
      generalize cc % 16 = n2 at *
      obtain ⟨A2, c2, hform, hle, _⟩ := hu.own.formP
      subst hform
      have hlen : (hexB (s.take k)).length = 2 * k := by rw [hexB_len, List.length_take]; omega
      have Hu := Lib.hid (And.intro hu (And.intro htk hlen))
      clear hu htk hcc hx1 hx2 hle hlen
      generalize hexB (s.take k) = p at *
      go_wp2_with fail
      refine wp_region_bar (Cls [w.heap.size] _) [([0, 1, 2, 3, 4, 5, 6, 7, 8, 9, 10, 11, 12], 13)] [] 14 [] [15] (by kernel_rfl) (by kernel_rfl) (Cls.refl _ _) ?_
      try dsimp only [wpMix, wpSegs, pick, List.getElem?_cons_zero, List.getElem?_cons_succ]
      generalize hz : Act.mk _ _ = z
      repeat (first | (refine wpQuiet_step (fun K hK => ?_); replace hK := Lib.hid hK; subst hz; go_simp; generalize hz : Act.mk _ _ = z; refine hK.out z ?_; clear hK K) | (refine wpQuiet_step (fun K hK => ?_); replace hK := Lib.hid hK; subst hz; refine iteSkip (by kernel_rfl) ?_; go_simp; generalize hz : Act.mk _ _ = z; refine hK.out z ?_; clear hK K))
      refine wpQuiet_nil ?_
      subst hz
      try dsimp only [NoPan]
      go_wp2_with fail
      refine ⟨?_, ?_⟩
      · refine Cls.mk fun b hb => ?_
        simp only [List.mem_singleton] at hb
        subst hb
        exact Below.heap_alloc wr _ _ hlt0
      try dsimp only [wpMix, wpSegs, pick, List.getElem?_cons_zero, List.getElem?_cons_succ]
      generalize hz : Act.mk _ _ = z
      repeat (first | (refine wpQuiet_step (fun K hK => ?_); replace hK := Lib.hid hK; subst hz; go_simp; generalize hz : Act.mk _ _ = z; refine hK.out z ?_; clear hK K) | (refine wpQuiet_step (fun K hK => ?_); replace hK := Lib.hid hK; subst hz; refine iteSkip (by kernel_rfl) ?_; go_simp; generalize hz : Act.mk _ _ = z; refine hK.out z ?_; clear hK K))
      refine wpQuiet_nil ?_
      subst hz
      try dsimp only [NoPan]
      go_wp2_with (at_builtin; refine Hid.out ?_)
      refine Lib.hid ?_
      have hu1 := Hu.out.1.step ((Ext.refl (fun _ => False) wr).alloc (Obj.cells #[Value.int IntKind.u8 ↑x1.toNat, Value.int IntKind.u8 ↑x2.toNat] 5)).drew
      refine wpList_append_bytes (m := [x1, x2]) (xv := .slice (some ⟨wr.heap.size, 0, none⟩) 2 2) rfl _ _ 22 rfl Try.underlying22 info8p (sv := .slice A2 p.length c2) rfl rfl hu1.own ((byt_lit wr [x1, x2] (0, 0)).same ((Ext.refl _ _).drew)) (by have := Hu.out.2.2; show p.length + 2 ≤ 140737488355328; omega) ?_
      intro v3 w3 hown3 hx3 hb3
      have h3 := hu1.appended hown3 hx3 hb3
      rw [← Hu.out.2.1] at h3
      have hcl : w3.heap[w.heap.size]? = wr.heap[w.heap.size]? := by rw [h3.ext.heap H0.out.2.2.2 id, Hu.out.1.ext.heap H0.out.2.2.2 id]
      have H3 := Lib.hid (And.intro h3 hcl)
      clear hown3 hx3 hb3 h3 hu1 hcl
      go_wp2_with fail
      trace_state
      try dsimp only [wpMix, wpSegs, pick, List.getElem?_cons_zero, List.getElem?_cons_succ]
      generalize hz : Act.mk _ _ = z
      repeat (first | (refine wpQuiet_step (fun K hK => ?_); replace hK := Lib.hid hK; subst hz; go_simp; generalize hz : Act.mk _ _ = z; refine hK.out z ?_; clear hK K) | (refine wpQuiet_step (fun K hK => ?_); replace hK := Lib.hid hK; subst hz; refine iteSkip (by kernel_rfl) ?_; go_simp; generalize hz : Act.mk _ _ = z; refine hK.out z ?_; clear hK K))
      refine wpQuiet_nil ?_
      subst hz
      try dsimp only [NoPan]
      go_wp2_with fail
      exact ⟨⟨k + 1, by omega, by go_num, H3.out.1⟩, by simp [intOf]; omega⟩
    · have : k = 32 := by omega
      subst this
      have hk' : decide ((32 : Int) < 32) = false := by decide
      rw [show ((32 : Nat) : Int) = (32 : Int) from rfl]
      have Hu := Lib.hid hu
      obtain ⟨A2, c2, hform, hle, _⟩ := hu.own.formP
      have hconv := hu.own.byt.conv 22 5 9 Try.underlying22 Try.underlying5 Try.underlying9 wr rfl
      have hfull : s.take 32 = s := List.take_of_length_le (by omega)
      rw [hfull] at hconv hform
      subst hform
      have hp : hexB s = hexB s := rfl
      generalize hpe : hexB s = p at *
      have Hp := Lib.hid hpe
      clear hu hle hfull hp hpe
      go_wp2_with fail
      go_ret
      exact ⟨by rw [Hp.out]; rfl, H0.out.2.2.1.trans Hu.out.ext⟩
end Go.Proofs.Ythjmbpgakpnnoaa
