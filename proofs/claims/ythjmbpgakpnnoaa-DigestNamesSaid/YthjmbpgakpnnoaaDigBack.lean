/- DigestBack answers true; no condition. -/
import Derived.Test.YthjmbpgakpnnoaaDigHexes
namespace Go.Proofs.Ythjmbpgakpnnoaa
set_option linter.unusedVariables false
set_option linter.unusedSimpArgs false
open Go.RowKit

theorem wpList_load_row_g {P : Program} {ops : Array Oper} {rest : List Oper} {o : Oper} {a : Act} {w : World} {Q : Exit → Act → World → Prop} (ty : TypeId) (x : Operand) (ho : o.op = .load ty x) (hw : Region.wanted o (yielded ops a.tmps) = true)
    (g : Nat) (hx : a.eval x = .pointer (some ⟨g, 0, none⟩)) (t : TypeId) (cs : Array Value) (fr : Nat × Nat) (d : TypeDesc) (hg : w.heap[g]? = some (.cells cs t fr))
    (hu : P.underlying ty = some d) (hd : (match d with | .struct _ | .array _ _ => true | _ => false) = true) (hi : (P.info? ty).map (·.size) = some cs.size)
    (h : wpList P ops Q rest (a.put o.dst (.agg cs)) w) : wpList P ops Q (o :: rest) a w := by
  simp only [wpList, hw, if_true]
  exact .inl (wp_load_row ty x ho g hx t cs fr d hg hu hd hi h)
theorem heap_stored {w : World} (o : Obj) (cs : Array Value) {b : Nat} {ob : Obj} (h : w.heap[b]? = some ob) : ((w.alloc o).setRow w.heap.size cs).heap[b]? = some ob := by
  rw [setRow_other _ _ _ _ (by have := lt_of_heap h; omega), heap_alloc_lt _ _ _ (lt_of_heap h)]
  exact h
theorem ext_stored (w : World) (o : Obj) (cs : Array Value) : Ext (fun _ => False) w ((w.alloc o).setRow w.heap.size cs) := ((Ext.refl _ _).alloc _).setRow (.inr (Nat.le_refl _)) _

set_option maxRecDepth 100000 in
set_option maxHeartbeats 2000000 in
theorem back_walk {w : World} {s t : Bs} (hs : s.length = 32) (ht : t.length ≤ 9223372036854775807) :
    Calls Try.prog 8 #[sumV s, str t] w fun e w' => e = .returned (.bool true) ∧ Ext (fun _ => False) w w' := by
  rw [sumV_cells]
  have hcz := sum_size s hs
  have hco := sum_one s
  have hH := fun W => hex_walk W s hs
  rw [sumV_cells] at hH
  have hU := fun W => unhex_walk W (hexB s) (by rw [hexB_len]; omega)
  rw [unhex_hex s hs] at hU
  have hV := fun W => unhex_walk W t ht
  have hE := fun W => hex_walk W (unhexR t).1 (unhexR_len t)
  have huz := sum_size _ (unhexR_len t)
  have huo := sum_one (unhexR t).1
  have heq := run_eql_sum s s hs hs
  have hez := run_eql_sum (List.replicate 32 0) (List.replicate 32 0) rfl rfl
  have hbk := hex_unhex t
  have hun := unhexR_num t
  have hx1 : Ext (fun _ => False) w (w.alloc (.cells (s.map byteV).toArray 26)) := (Ext.refl _ _).alloc _
  have hb1 : (w.alloc (.cells (s.map byteV).toArray 26)).heap[w.heap.size]? = some (.cells (s.map byteV).toArray 26 (0, 0)) := heap_alloc_self _ _
  simp only [sumV_cells, decide_true] at hU hV heq hE hez
  generalize (s.map byteV).toArray = cs at *
  generalize hexB s = hx at *
  have H0 := Lib.hid (And.intro (And.intro hcz hco) (And.intro (And.intro huz huo) (And.intro (And.intro hH hU) (And.intro (And.intro hV hE) (And.intro hx1 hb1)))))
  have Heq := Lib.hid (And.intro heq (And.intro hez (And.intro hbk hun)))
  clear hcz hco huz huo hH hE hU hV hx1 hb1 heq hez hbk hun
  go_enter Try.func8, Try.ntmps8
  go_wp2_with fail
  refine (small_walk _).mono ?_
  rintro e w1 ⟨rfl, hx1⟩
  have hb1 := hx1.heap H0.out.2.2.2.2.2 id
  have H1 := Lib.hid (And.intro hb1 (H0.out.2.2.2.2.1.trans hx1))
  clear hb1 hx1
  go_wp2_with (refine wpList_load_row rfl 26 _ rfl w.heap.size rfl 26 cs (0, 0) _ H1.out.1 Try.underlying26 rfl (by rw [H0.out.1.1]; kernel_rfl) ?_)
  refine (H0.out.2.2.1.1 _).mono ?_
  rintro e w2 ⟨rfl, hx2⟩
  have H2 := Lib.hid (And.intro (hx2.heap H1.out.1 id) (H1.out.2.trans hx2))
  clear hx2
  go_wp2_with fail
  refine (H0.out.2.2.1.2 _).mono ?_
  rintro e w3 ⟨rfl, hx3⟩
  have hself := heap_alloc_self w3
  have Hs := Lib.hid hself
  have H3 := Lib.hid (And.intro (hx3.heap H2.out.1 id) (H2.out.2.trans hx3))
  clear hx3 hself
  go_wp2_with (refine wpList_store_row rfl 26 _ _ rfl w3.heap.size cs rfl rfl 26 _ (Hs.out _) (by rw [H0.out.1.1]; kernel_rfl) (by rw [H0.out.1.1]; rfl) H0.out.1.2 ?_)
  generalize hw4 : (w3.alloc _).setRow _ cs = w4
  have hu4 : w4.heap[w3.heap.size]? = some (.cells cs 26 (0, 0)) := by rw [← hw4]; exact setRow_heap _ _ _ _ _ _ (Hs.out _)
  have hx4 : Ext (fun _ => False) w3 w4 := by rw [← hw4]; exact ((Ext.refl _ _).alloc _).setRow (.inr (Nat.le_refl _)) _
  have H4 := Lib.hid (And.intro hu4 (And.intro (hx4.heap H3.out.1 id) (H3.out.2.trans hx4)))
  clear hu4 hx4 hw4 Hs
  generalize w3.heap.size = b3 at *
  refine (H0.out.2.2.2.1.1 _).mono ?_
  rintro e w5 ⟨rfl, hx5⟩
  have H5 := Lib.hid (And.intro (hx5.heap H4.out.1 id) (And.intro (hx5.heap H4.out.2.1 id) (H4.out.2.2.trans hx5)))
  clear hx5
  have hself := heap_alloc_self w5
  have Hs := Lib.hid hself
  clear hself
  rcases Heq.out.2.2.2 with h0 | h4
  · have hbt := Heq.out.2.2.1 h0
    have hE := H0.out.2.2.2.1.2
    have huz := H0.out.2.1.1
    have huo := H0.out.2.1.2
    rw [hbt] at hE
    rw [h0]
    generalize ((unhexR t).1.map byteV).toArray = us at *
    have HE := Lib.hid (And.intro hE (And.intro huz huo))
    clear hE huz huo hbt h0
    have heq := Heq.out.1
    go_wp2_with (first
      | refine wpList_store_row rfl 26 _ _ rfl w5.heap.size us rfl rfl 26 _ (Hs.out _) (by rw [HE.out.2.1]; kernel_rfl) (by rw [HE.out.2.1]; rfl) HE.out.2.2 ?_
      | refine wpList_load_row_g 26 _ rfl (by rfl) w5.heap.size rfl 26 us (0, 0) _ (setRow_heap _ _ _ _ _ _ (Hs.out _)) Try.underlying26 rfl (by rw [HE.out.2.1]; kernel_rfl) ?_)
    refine (HE.out.1 _).mono ?_
    rintro e w6 ⟨rfl, hx6⟩
    have H6 := Lib.hid (And.intro (hx6.heap (heap_stored _ _ H5.out.1) id) (And.intro (hx6.heap (heap_stored _ _ H5.out.2.1) id) ((H5.out.2.2.trans (ext_stored _ _ _)).trans hx6)))
    clear hx6
    go_wp2_with (first
      | refine wpList_load_row_g 26 _ rfl (by rfl) b3 rfl 26 cs (0, 0) _ H6.out.1 Try.underlying26 rfl (by rw [H0.out.1.1]; kernel_rfl) ?_
      | refine wpList_load_row_g 26 _ rfl (by rfl) w.heap.size rfl 26 cs (0, 0) _ H6.out.2.1 Try.underlying26 rfl (by rw [H0.out.1.1]; kernel_rfl) ?_)
    go_ret
    exact ⟨rfl, H6.out.2.2⟩
  · rw [h4, zeros_cells]
    have heq := Heq.out.1
    have hez := Heq.out.2.1
    rw [zeros_cells] at hez
    go_wp2_with (first
      | refine wpList_store_row rfl 26 _ _ rfl w5.heap.size _ rfl rfl 26 _ (Hs.out _) (by kernel_rfl) (by kernel_rfl) (by kernel_rfl) ?_
      | refine wpList_load_row_g 26 _ rfl (by rfl) w5.heap.size rfl 26 _ (0, 0) _ (setRow_heap _ _ _ _ _ _ (Hs.out _)) Try.underlying26 rfl (by kernel_rfl) ?_
      | refine wpList_load_row_g 26 _ rfl (by rfl) b3 rfl 26 cs (0, 0) _ (heap_stored _ _ H5.out.1) Try.underlying26 rfl (by rw [H0.out.1.1]; kernel_rfl) ?_
      | refine wpList_load_row_g 26 _ rfl (by rfl) w.heap.size rfl 26 cs (0, 0) _ (heap_stored _ _ H5.out.2.1) Try.underlying26 rfl (by rw [H0.out.1.1]; kernel_rfl) ?_)
    go_ret
    exact ⟨rfl, H5.out.2.2.trans (ext_stored _ _ _)⟩
end Go.Proofs.Ythjmbpgakpnnoaa
