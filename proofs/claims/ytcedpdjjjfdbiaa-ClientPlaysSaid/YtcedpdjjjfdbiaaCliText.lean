/- Replies and requests in bytes: the program's and the document's; no condition. -/
import Derived.Test.YtcedpdjjjfdbiaaTakeRow
import Derived.Test.YtcedpdjjjfdbiaaRefPlain
import Derived.Test.YtcedpdjjjfdbiaaConst
import Derived.Test.YtcedpdjjjfdbiaaMix3
import Derived.Laws.Pointers
namespace Go.Proofs.Ytcedpdjjjfdbiaa
set_option linter.unusedVariables false
set_option linter.unusedSimpArgs false
open Go.RowKit

theorem byts_row {w : World} {g : Nat} {t : TypeId} {fr : Nat × Nat} {cs : Array Value} {ls : List Bs} {n : Nat} (h : w.heap[g]? = some (.cells cs t fr)) (hn : n = ls.length) (hc : cs.size = ls.length)
    (he : ∀ (i : Nat) (l : Bs), ls[i]? = some l → ∃ u, cs[i]? = some u ∧ Byt (fun _ => True) w u l) : Byts (fun _ => True) w (.slice (some ⟨g, 0, none⟩) n n) ls := by
  subst hn
  refine ⟨_, _, rfl, Nat.le_refl _, fun _ => ⟨g, 0, rfl, trivial, fun i l hl => ?_⟩⟩
  obtain ⟨u, hu, hb⟩ := he i l hl
  refine ⟨u, ?_, hb⟩
  rw [cells_at h]
  simpa using hu
def replyN : Bs := [114, 101, 112, 108, 121]
def requestN : Bs := [114, 101, 113, 117, 101, 115, 116]
def replyB (id st : Int) (ans : Bs) : Bs := (rowR [replyN, beB id 8, beB st 8, ans]).1
def rightQ (id st : Int) (txt : Bs) : Bool := decide (1 ≤ id) && decide (id ≤ 8) && decide (1 ≤ st) && decide (st ≤ 1099511627776) && decide (txt.length ≤ 240)
def askI (id st : Int) (txt : Bs) : Bs := rowB [beB id 8, beB st 8, txt]
def askB (id st : Int) (txt : Bs) : Bs := rowB [requestN, askI id st txt]
theorem right_len {id st : Int} {txt : Bs} (h : rightQ id st txt = true) : txt.length ≤ 240 := by
  simp [rightQ] at h
  omega
theorem askI_row {id st : Int} {txt : Bs} (h : rightQ id st txt = true) : rowR [beB id 8, beB st 8, txt] = (askI id st txt, 0) := by
  have := right_len h
  refine if_pos ⟨by simp, fun l hl => ?_⟩
  simp only [List.mem_cons, List.not_mem_nil, or_false] at hl
  rcases hl with rfl | rfl | rfl
  · rw [beB_len]; omega
  · rw [beB_len]; omega
  · omega
theorem askI_len {id st : Int} {txt : Bs} (h : rightQ id st txt = true) : (askI id st txt).length ≤ 272 := by
  have := right_len h
  simp only [askI, rowB, List.length_append, List.flatMap_cons, List.flatMap_nil, blobB_len, beB_len, List.length_nil]
  omega
theorem askB_row {id st : Int} {txt : Bs} (h : rightQ id st txt = true) : rowR [requestN, askI id st txt] = (askB id st txt, 0) := by
  have := askI_len h
  refine if_pos ⟨by simp, fun l hl => ?_⟩
  simp only [List.mem_cons, List.not_mem_nil, or_false] at hl
  rcases hl with rfl | rfl
  · decide
  · omega
def BytPost (w : World) (b : Bs) (e : Ending) (w' : World) : Prop := ∃ v', e = .returned v' ∧ FreshB w b v' w'
def AskPost (w : World) (ok : Bool) (b : Bs) (e : Ending) (w' : World) : Prop :=
  if ok = true then ∃ v', e = .returned (.tuple #[v', .int .i64 0]) ∧ FreshB w b v' w' else e = .returned (.tuple #[.slice none 0 0, .int .i64 1]) ∧ Ext (fun _ => False) w w'
abbrev reqV (id st : Int) (txt : Bs) : Value := .agg #[.int .i64 id, .int .i64 st, str txt]
theorem row4 {w : World} {g : Nat} {v0 v1 v2 v3 : Value} {l0 l1 l2 l3 : Bs} (h : w.heap[g]? = some (.cells #[v0, v1, v2, v3] 33 (0, 0))) (h0 : Byt (fun _ => True) w v0 l0) (h1 : Byt (fun _ => True) w v1 l1) (h2 : Byt (fun _ => True) w v2 l2) (h3 : Byt (fun _ => True) w v3 l3) :
    Byts (fun _ => True) w (.slice (some ⟨g, 0, none⟩) 4 4) [l0, l1, l2, l3] := by
  refine byts_row h rfl rfl fun i l hl => ?_
  match i, hl with
  | 0, hl => simp at hl; subst hl; exact ⟨_, rfl, h0⟩
  | 1, hl => simp at hl; subst hl; exact ⟨_, rfl, h1⟩
  | 2, hl => simp at hl; subst hl; exact ⟨_, rfl, h2⟩
  | 3, hl => simp at hl; subst hl; exact ⟨_, rfl, h3⟩
  | i + 4, hl => simp at hl
theorem row3 {w : World} {g : Nat} {v0 v1 v2 : Value} {l0 l1 l2 : Bs} (h : w.heap[g]? = some (.cells #[v0, v1, v2] 33 (0, 0))) (h0 : Byt (fun _ => True) w v0 l0) (h1 : Byt (fun _ => True) w v1 l1) (h2 : Byt (fun _ => True) w v2 l2) :
    Byts (fun _ => True) w (.slice (some ⟨g, 0, none⟩) 3 3) [l0, l1, l2] := by
  refine byts_row h rfl rfl fun i l hl => ?_
  match i, hl with
  | 0, hl => simp at hl; subst hl; exact ⟨_, rfl, h0⟩
  | 1, hl => simp at hl; subst hl; exact ⟨_, rfl, h1⟩
  | 2, hl => simp at hl; subst hl; exact ⟨_, rfl, h2⟩
  | i + 3, hl => simp at hl
theorem row2 {w : World} {g : Nat} {v0 v1 : Value} {l0 l1 : Bs} (h : w.heap[g]? = some (.cells #[v0, v1] 33 (0, 0))) (h0 : Byt (fun _ => True) w v0 l0) (h1 : Byt (fun _ => True) w v1 l1) :
    Byts (fun _ => True) w (.slice (some ⟨g, 0, none⟩) 2 2) [l0, l1] := by
  refine byts_row h rfl rfl fun i l hl => ?_
  match i, hl with
  | 0, hl => simp at hl; subst hl; exact ⟨_, rfl, h0⟩
  | 1, hl => simp at hl; subst hl; exact ⟨_, rfl, h1⟩
  | i + 2, hl => simp at hl
theorem byt_any {D : Nat → Prop} {w w' : World} {v : Value} {l : Bs} (h : Byt D w v l) (hx : Ext (fun _ => False) w w') : Byt (fun _ => True) w' v l := (h.same hx).mono fun _ _ => trivial

theorem blockrow_walk {w : World} {D : Nat → Prop} {v : Value} {ls : List Bs} (hv : Byts D w v ls) (hl : ls.length ≤ 9223372036854775807) : Calls Try.prog 68 #[v] w (BytPost w (rowR ls).1) := by
  have H := Lib.hid (row_walk hv hl)
  clear hv
  go_enter Try.func68, Try.ntmps68
  go_wp2_with fail
  refine H.out.mono ?_
  rintro e w1 ⟨v', rfl, h1⟩
  have H1 := Lib.hid h1
  clear h1
  go_wp2_with fail
  go_ret
  exact ⟨_, rfl, H1.out⟩

theorem dall_walk {w : World} {D : Nat → Prop} {v : Value} {ls : List Bs} (hv : Byts D w v ls) (hl : ls.length ≤ 9223372036854775807) : Calls Try.prog 34 #[v] w (BytPost w (rowR ls).1) := by
  have H := Lib.hid (drow_walk hv hl)
  clear hv
  go_enter Try.func34, Try.ntmps34
  go_wp2_with fail
  refine H.out.mono ?_
  rintro e w1 ⟨v', rfl, h1⟩
  have H1 := Lib.hid h1
  clear h1
  go_wp2_with fail
  go_ret
  exact ⟨_, rfl, H1.out⟩

set_option maxRecDepth 100000 in
theorem reply_walk {w : World} {D : Nat → Prop} {v : Value} {ans : Bs} (hv : Byt D w v ans) (id st : Int) : Calls Try.prog 49 #[.int .i64 id, .int .i64 st, v] w (BytPost w (replyB id st ans)) := by
  obtain ⟨A, c, rfl, _, _⟩ := _root_.id hv
  have kc := fun (w : World) (C : Array Value) (n c : Nat) => Lib.run_convert_bytes_const (P := Try.prog) w 33 5 C n c Try.underlying33 Try.underlying5
  have hxa := fun (w : World) (o : Obj) => (Ext.refl (fun _ => False) w).alloc o
  have Hv := Lib.hid hv
  clear hv
  go_enter Try.func49, Try.ntmps49
  go_wp2_with fail
  have hA := byt_any (Byt.const (l := replyN) (heap_alloc_self w (.cells #[.int .u8 114, .int .u8 101, .int .u8 112, .int .u8 108, .int .u8 121] 5 (5, 6))) rfl 5 rfl) (Ext.refl _ _)
  have hw1 := hxa w (.cells #[.int .u8 114, .int .u8 101, .int .u8 112, .int .u8 108, .int .u8 121] 5 (5, 6))
  generalize w.alloc (.cells #[.int .u8 114, .int .u8 101, .int .u8 112, .int .u8 108, .int .u8 121] 5 (5, 6)) = w1 at *
  have HA := Lib.hid (And.intro hA hw1)
  clear hA hw1
  refine (num_walk _ _).mono ?_
  rintro e w2 ⟨v1, rfl, h1⟩
  obtain ⟨A1, c1, rfl, _, _⟩ := h1.own.formP
  have H1 := Lib.hid h1
  clear h1
  go_wp2_with fail
  refine (num_walk _ _).mono ?_
  rintro e w3 ⟨v2, rfl, h2⟩
  obtain ⟨A2, c2, rfl, _, _⟩ := h2.own.formP
  have H2 := Lib.hid h2
  clear h2
  go_wp2_with fail
  have hx13 := H1.out.ext.trans H2.out.ext
  have hx := (HA.out.2.trans hx13).trans (hxa w3 (.cells #[.slice (some ⟨w.heap.size, 0, none⟩) 5 5, .slice A1 (beB id 8).length c1, .slice A2 (beB st 8).length c2, .slice A ans.length c] 33))
  have hr := row4 (heap_alloc_self w3 (.cells #[.slice (some ⟨w.heap.size, 0, none⟩) 5 5, .slice A1 (beB id 8).length c1, .slice A2 (beB st 8).length c2, .slice A ans.length c] 33))
    (byt_any HA.out.1 (hx13.trans (hxa _ _))) (byt_any H1.out.own.byt (H2.out.ext.trans (hxa _ _))) (byt_any H2.out.own.byt (hxa _ _)) (byt_any Hv.out hx)
  refine (row_walk hr (by simp)).mono ?_
  rintro e w4 ⟨v3, rfl, h3⟩
  have H3 := Lib.hid (h3.base hx)
  clear h3 hx hr hx13
  go_wp2_with fail
  go_ret
  exact ⟨_, rfl, H3.out⟩

set_option maxRecDepth 100000 in
theorem dreply_walk {w : World} {D : Nat → Prop} {v : Value} {ans : Bs} (hv : Byt D w v ans) (id st : Int) : Calls Try.prog 17 #[.int .i64 id, .int .i64 st, v] w (BytPost w (replyB id st ans)) := by
  obtain ⟨A, c, rfl, _, _⟩ := _root_.id hv
  have kc := fun (w : World) (C : Array Value) (n c : Nat) => Lib.run_convert_bytes_const (P := Try.prog) w 33 5 C n c Try.underlying33 Try.underlying5
  have hxa := fun (w : World) (o : Obj) => (Ext.refl (fun _ => False) w).alloc o
  have Hv := Lib.hid hv
  clear hv
  go_enter Try.func17, Try.ntmps17
  go_wp2_with fail
  have hA := byt_any (Byt.const (l := replyN) (heap_alloc_self w (.cells #[.int .u8 114, .int .u8 101, .int .u8 112, .int .u8 108, .int .u8 121] 5 (5, 6))) rfl 5 rfl) (Ext.refl _ _)
  have hw1 := hxa w (.cells #[.int .u8 114, .int .u8 101, .int .u8 112, .int .u8 108, .int .u8 121] 5 (5, 6))
  generalize w.alloc (.cells #[.int .u8 114, .int .u8 101, .int .u8 112, .int .u8 108, .int .u8 121] 5 (5, 6)) = w1 at *
  have HA := Lib.hid (And.intro hA hw1)
  clear hA hw1
  refine (dnum_walk _ _).mono ?_
  rintro e w2 ⟨v1, rfl, h1⟩
  obtain ⟨A1, c1, rfl, _, _⟩ := h1.own.formP
  have H1 := Lib.hid h1
  clear h1
  go_wp2_with fail
  refine (dnum_walk _ _).mono ?_
  rintro e w3 ⟨v2, rfl, h2⟩
  obtain ⟨A2, c2, rfl, _, _⟩ := h2.own.formP
  have H2 := Lib.hid h2
  clear h2
  go_wp2_with fail
  have hx13 := H1.out.ext.trans H2.out.ext
  have hx := (HA.out.2.trans hx13).trans (hxa w3 (.cells #[.slice (some ⟨w.heap.size, 0, none⟩) 5 5, .slice A1 (beB id 8).length c1, .slice A2 (beB st 8).length c2, .slice A ans.length c] 33))
  have hr := row4 (heap_alloc_self w3 (.cells #[.slice (some ⟨w.heap.size, 0, none⟩) 5 5, .slice A1 (beB id 8).length c1, .slice A2 (beB st 8).length c2, .slice A ans.length c] 33))
    (byt_any HA.out.1 (hx13.trans (hxa _ _))) (byt_any H1.out.own.byt (H2.out.ext.trans (hxa _ _))) (byt_any H2.out.own.byt (hxa _ _)) (byt_any Hv.out hx)
  refine (dall_walk hr (by simp)).mono ?_
  rintro e w4 ⟨v3, rfl, h3⟩
  have H3 := Lib.hid (h3.base hx)
  clear h3 hx hr hx13
  go_wp2_with fail
  go_ret
  exact ⟨_, rfl, H3.out⟩

set_option maxRecDepth 100000 in
theorem right_walk {w : World} (id st : Int) (txt : Bs) : Calls Try.prog 67 #[reqV id st txt] w fun e w' => e = .returned (.bool (rightQ id st txt)) ∧ Ext (fun _ => False) w w' := by
  have hx := (Ext.refl (fun _ => False) w).alloc (.cells #[.int .i64 id, .int .i64 st, str txt] 65)
  by_cases h1 : 1 ≤ id
  case neg =>
    have hr : rightQ id st txt = false := by simp [rightQ]; omega
    have h1b : decide (1 ≤ id) = false := by simpa using h1
    rw [hr]
    clear hr
    go_enter Try.func67, Try.ntmps67
    go_wp2_with fail
    go_ret
    exact ⟨rfl, hx⟩
  have h1b : decide (1 ≤ id) = true := by simpa using h1
  by_cases h2 : id ≤ 8
  case neg =>
    have hr : rightQ id st txt = false := by simp [rightQ]; omega
    have h2b : decide (id ≤ 8) = false := by simpa using h2
    rw [hr]
    clear hr
    go_enter Try.func67, Try.ntmps67
    go_wp2_with fail
    go_ret
    exact ⟨rfl, hx⟩
  have h2b : decide (id ≤ 8) = true := by simpa using h2
  by_cases h3 : 1 ≤ st
  case neg =>
    have hr : rightQ id st txt = false := by simp [rightQ]; omega
    have h3b : decide (1 ≤ st) = false := by simpa using h3
    rw [hr]
    clear hr
    go_enter Try.func67, Try.ntmps67
    go_wp2_with fail
    go_ret
    exact ⟨rfl, hx⟩
  have h3b : decide (1 ≤ st) = true := by simpa using h3
  by_cases h4 : st ≤ 1099511627776
  case neg =>
    have hr : rightQ id st txt = false := by simp [rightQ]; omega
    have h4b : decide (st ≤ 1099511627776) = false := by simpa using h4
    rw [hr]
    clear hr
    go_enter Try.func67, Try.ntmps67
    go_wp2_with fail
    go_ret
    exact ⟨rfl, hx⟩
  have h4b : decide (st ≤ 1099511627776) = true := by simpa using h4
  by_cases h5 : (txt.length : Int) ≤ 240
  case neg =>
    have hr : rightQ id st txt = false := by simp [rightQ]; omega
    have h5b : decide ((txt.length : Int) ≤ 240) = false := by simpa using h5
    rw [hr]
    clear hr
    go_enter Try.func67, Try.ntmps67
    go_wp2_with fail
    go_ret
    exact ⟨rfl, hx⟩
  have h5b : decide ((txt.length : Int) ≤ 240) = true := by simpa using h5
  have hr : rightQ id st txt = true := by simp [rightQ]; omega
  rw [hr]
  clear hr
  go_enter Try.func67, Try.ntmps67
  go_wp2_with fail
  go_ret
  exact ⟨rfl, hx⟩

set_option maxRecDepth 100000 in
theorem dright_walk {w : World} (id st : Int) (txt : Bs) : Calls Try.prog 38 #[reqV id st txt] w fun e w' => e = .returned (.bool (rightQ id st txt)) ∧ Ext (fun _ => False) w w' := by
  have hx := (Ext.refl (fun _ => False) w).alloc (.cells #[.int .i64 id, .int .i64 st, str txt] 65)
  by_cases h1 : 1 ≤ id
  case neg =>
    have hr : rightQ id st txt = false := by simp [rightQ]; omega
    have h1b : decide (1 ≤ id) = false := by simpa using h1
    rw [hr]
    clear hr
    go_enter Try.func38, Try.ntmps38
    go_wp2_with fail
    go_ret
    exact ⟨rfl, hx⟩
  have h1b : decide (1 ≤ id) = true := by simpa using h1
  by_cases h2 : id ≤ 8
  case neg =>
    have hr : rightQ id st txt = false := by simp [rightQ]; omega
    have h2b : decide (id ≤ 8) = false := by simpa using h2
    rw [hr]
    clear hr
    go_enter Try.func38, Try.ntmps38
    go_wp2_with fail
    go_ret
    exact ⟨rfl, hx⟩
  have h2b : decide (id ≤ 8) = true := by simpa using h2
  by_cases h3 : 1 ≤ st
  case neg =>
    have hr : rightQ id st txt = false := by simp [rightQ]; omega
    have h3b : decide (1 ≤ st) = false := by simpa using h3
    rw [hr]
    clear hr
    go_enter Try.func38, Try.ntmps38
    go_wp2_with fail
    go_ret
    exact ⟨rfl, hx⟩
  have h3b : decide (1 ≤ st) = true := by simpa using h3
  by_cases h4 : st ≤ 1099511627776
  case neg =>
    have hr : rightQ id st txt = false := by simp [rightQ]; omega
    have h4b : decide (st ≤ 1099511627776) = false := by simpa using h4
    rw [hr]
    clear hr
    go_enter Try.func38, Try.ntmps38
    go_wp2_with fail
    go_ret
    exact ⟨rfl, hx⟩
  have h4b : decide (st ≤ 1099511627776) = true := by simpa using h4
  by_cases h5 : (txt.length : Int) ≤ 240
  case neg =>
    have hr : rightQ id st txt = false := by simp [rightQ]; omega
    have h5b : decide ((txt.length : Int) ≤ 240) = false := by simpa using h5
    rw [hr]
    clear hr
    go_enter Try.func38, Try.ntmps38
    go_wp2_with fail
    go_ret
    exact ⟨rfl, hx⟩
  have h5b : decide ((txt.length : Int) ≤ 240) = true := by simpa using h5
  have hr : rightQ id st txt = true := by simp [rightQ]; omega
  rw [hr]
  clear hr
  go_enter Try.func38, Try.ntmps38
  go_wp2_with fail
  go_ret
  exact ⟨rfl, hx⟩

set_option maxRecDepth 100000 in
set_option maxHeartbeats 1000000 in
theorem reqbytes_walk {w : World} (id st : Int) (txt : Bs) : Calls Try.prog 53 #[reqV id st txt] w (AskPost w (rightQ id st txt) (askI id st txt)) := by
  have hx0 := (Ext.refl (fun _ => False) w).alloc (.cells #[.int .i64 id, .int .i64 st, str txt] 65)
  have hob := heap_alloc_self w (.cells #[.int .i64 id, .int .i64 st, str txt] 65)
  have hR := fun w => Lib.hid (right_walk (w := w) id st txt)
  cases hq : rightQ id st txt with
  | false =>
    rw [hq] at hR
    go_enter Try.func53, Try.ntmps53
    go_wp2_with fail
    refine (hR _).out.mono ?_
    rintro e w2 ⟨rfl, hx2⟩
    have H2 := Lib.hid (hx0.trans hx2)
    clear hx2 hx0 hob
    go_wp2_with fail
    refine bodyPost_ret (results_tmp2 rfl _ _ _) rfl ?_
    exact ⟨rfl, H2.out⟩
  | true =>
    rw [hq] at hR
    have hlen := right_len hq
    have hrow := askI_row hq
    go_enter Try.func53, Try.ntmps53
    go_wp2_with fail
    refine (hR _).out.mono ?_
    rintro e w2 ⟨rfl, hx2⟩
    have hb := hx2.heap hob _root_.id
    have b0 : w2.cell? ⟨w.heap.size, 0, none⟩ = some (.int .i64 id) := cells_at hb 0
    have b1 : w2.cell? ⟨w.heap.size, 1, none⟩ = some (.int .i64 st) := cells_at hb 1
    have b2 : w2.cell? ⟨w.heap.size, 2, none⟩ = some (str txt) := cells_at hb 2
    have hbl := lt_of_heap hb
    have H2 := Lib.hid (And.intro (hx0.trans hx2) hrow)
    clear hx2 hb hx0 hob hq hR hrow
    go_wp2_with fail
    refine wp_region_tree (Cls [w.heap.size] _) (.two [0, 1, 3, 4, 6, 7] 2 (.two [] 5 (.one [] 8 (.one [] 9 (.one [] 10 (.last [11, 12])))) 8 (.one [] 5 (.one [] 9 (.one [] 10 (.last [11, 12]))))) 8 (.one [] 2 (.one [] 5 (.one [] 9 (.one [] 10 (.last [11, 12])))))) (by kernel_rfl) (by kernel_rfl) (Cls.refl _ _) ?_
    try dsimp only [wpM, wpSegs, pick, List.getElem?_cons_zero, List.getElem?_cons_succ]
    generalize hz : Act.mk _ _ = z
    repeat (first | (refine wpQuiet_step (fun K hK => ?_); replace hK := Lib.hid hK; subst hz; go_simp; generalize hz : Act.mk _ _ = z; refine hK.out z ?_; clear hK K) | (refine wpQuiet_step (fun K hK => ?_); replace hK := Lib.hid hK; subst hz; refine iteSkip (by kernel_rfl) ?_; go_simp; generalize hz : Act.mk _ _ = z; refine hK.out z ?_; clear hK K))
    refine wpQuiet_nil ?_
    subst hz
    try dsimp only [NoPan]
    refine ⟨?_, ?_⟩
    · skip
      go_wp2_with fail
      refine (num_walk _ _).mono ?_
      rintro e wx1 ⟨vv1, rfl, hh⟩
      obtain ⟨A1, c1, rfl, _, _⟩ := hh.own.formP
      have B1 := Lib.hid (byt_any hh.own.byt (Ext.refl _ _))
      have hxx := hh.ext
      clear hh
      have X1 := Lib.hid (hxx)
      clear hxx
      go_wp2_with fail
      refine ⟨Cls.of_ext X1.out fun b hb => ⟨by simp at hb; subst hb; exact hbl, _root_.id⟩, ?_⟩
      try dsimp only [wpM, wpSegs, pick, List.getElem?_cons_zero, List.getElem?_cons_succ]
      generalize hz : Act.mk _ _ = z
      repeat (first | (refine wpQuiet_step (fun K hK => ?_); replace hK := Lib.hid hK; subst hz; go_simp; generalize hz : Act.mk _ _ = z; refine hK.out z ?_; clear hK K) | (refine wpQuiet_step (fun K hK => ?_); replace hK := Lib.hid hK; subst hz; refine iteSkip (by kernel_rfl) ?_; go_simp; generalize hz : Act.mk _ _ = z; refine hK.out z ?_; clear hK K))
      refine wpQuiet_nil ?_
      subst hz
      try dsimp only [NoPan]
      refine ⟨?_, ?_⟩
      · skip
        go_wp2_with fail
        refine (num_walk _ _).mono ?_
        rintro e wx2 ⟨vv2, rfl, hh⟩
        obtain ⟨A2, c2, rfl, _, _⟩ := hh.own.formP
        have B2 := Lib.hid (byt_any hh.own.byt (Ext.refl _ _))
        have hxx := hh.ext
        clear hh
        replace B1 := Lib.hid (byt_any B1.out hxx)
        have X2 := Lib.hid (X1.out.trans hxx)
        clear hxx
        go_wp2_with fail
        refine ⟨Cls.of_ext X2.out fun b hb => ⟨by simp at hb; subst hb; exact hbl, _root_.id⟩, ?_⟩
        try dsimp only [wpM, wpSegs, pick, List.getElem?_cons_zero, List.getElem?_cons_succ]
        generalize hz : Act.mk _ _ = z
        repeat (first | (refine wpQuiet_step (fun K hK => ?_); replace hK := Lib.hid hK; subst hz; go_simp; generalize hz : Act.mk _ _ = z; refine hK.out z ?_; clear hK K) | (refine wpQuiet_step (fun K hK => ?_); replace hK := Lib.hid hK; subst hz; refine iteSkip (by kernel_rfl) ?_; go_simp; generalize hz : Act.mk _ _ = z; refine hK.out z ?_; clear hK K))
        refine wpQuiet_nil ?_
        subst hz
        try dsimp only [NoPan]
        refine wpList_str_bytes Try.underlying9 Try.underlying33 Try.underlying5 rfl _ rfl (l := txt) rfl (by omega) ?_
        intro c3 wx3 hh hxx hss
        clear hss
        have B3 := Lib.hid (byt_any hh.byt (Ext.refl _ _))
        clear hh
        replace B1 := Lib.hid (byt_any B1.out hxx)
        replace B2 := Lib.hid (byt_any B2.out hxx)
        have X3 := Lib.hid (X2.out.trans hxx)
        clear hxx
        go_wp2_with fail
        refine ⟨Cls.of_ext X3.out fun b hb => ⟨by simp at hb; subst hb; exact hbl, _root_.id⟩, ?_⟩
        try dsimp only [wpM, wpSegs, pick, List.getElem?_cons_zero, List.getElem?_cons_succ]
        generalize hz : Act.mk _ _ = z
        repeat (first | (refine wpQuiet_step (fun K hK => ?_); replace hK := Lib.hid hK; subst hz; go_simp; generalize hz : Act.mk _ _ = z; refine hK.out z ?_; clear hK K) | (refine wpQuiet_step (fun K hK => ?_); replace hK := Lib.hid hK; subst hz; refine iteSkip (by kernel_rfl) ?_; go_simp; generalize hz : Act.mk _ _ = z; refine hK.out z ?_; clear hK K))
        refine wpQuiet_nil ?_
        subst hz
        try dsimp only [NoPan]
        go_wp2_with fail
        refine ⟨Cls.of_ext (X3.out.alloc _) fun b hb => ⟨by simp at hb; subst hb; exact hbl, _root_.id⟩, ?_⟩
        try dsimp only [wpM, wpSegs, pick, List.getElem?_cons_zero, List.getElem?_cons_succ]
        generalize hz : Act.mk _ _ = z
        repeat (first | (refine wpQuiet_step (fun K hK => ?_); replace hK := Lib.hid hK; subst hz; go_simp; generalize hz : Act.mk _ _ = z; refine hK.out z ?_; clear hK K) | (refine wpQuiet_step (fun K hK => ?_); replace hK := Lib.hid hK; subst hz; refine iteSkip (by kernel_rfl) ?_; go_simp; generalize hz : Act.mk _ _ = z; refine hK.out z ?_; clear hK K))
        refine wpQuiet_nil ?_
        subst hz
        try dsimp only [NoPan]
        go_wp2_with fail
        refine (blockrow_walk (row3 (heap_alloc_self _ _) (byt_any B1.out ((Ext.refl _ _).alloc _)) (byt_any B2.out ((Ext.refl _ _).alloc _)) (byt_any B3.out ((Ext.refl _ _).alloc _))) (by simp)).mono ?_
        rintro e w6 ⟨v', rfl, h6⟩
        rw [H2.out.2] at h6
        have H6 := Lib.hid (And.intro (h6.base (H2.out.1.drew.trans (X3.out.alloc _))) ((X3.out.alloc _).trans h6.ext))
        clear h6
        go_wp2_with fail
        refine ⟨Cls.of_ext H6.out.2 fun b hb => ⟨by simp at hb; subst hb; exact hbl, _root_.id⟩, ?_⟩
        try dsimp only [wpM, wpSegs, pick, List.getElem?_cons_zero, List.getElem?_cons_succ]
        generalize hz : Act.mk _ _ = z
        repeat (first | (refine wpQuiet_step (fun K hK => ?_); replace hK := Lib.hid hK; subst hz; go_simp; generalize hz : Act.mk _ _ = z; refine hK.out z ?_; clear hK K) | (refine wpQuiet_step (fun K hK => ?_); replace hK := Lib.hid hK; subst hz; refine iteSkip (by kernel_rfl) ?_; go_simp; generalize hz : Act.mk _ _ = z; refine hK.out z ?_; clear hK K))
        refine wpQuiet_nil ?_
        subst hz
        try dsimp only [NoPan]
        go_wp2_with fail
        refine bodyPost_ret (results_tmp2 rfl _ _ _) rfl ?_
        exact ⟨_, rfl, H6.out.1⟩
      · skip
        refine wpList_str_bytes Try.underlying9 Try.underlying33 Try.underlying5 rfl _ rfl (l := txt) rfl (by omega) ?_
        intro c3 wx2 hh hxx hss
        clear hss
        have B3 := Lib.hid (byt_any hh.byt (Ext.refl _ _))
        clear hh
        replace B1 := Lib.hid (byt_any B1.out hxx)
        have X2 := Lib.hid (X1.out.trans hxx)
        clear hxx
        go_wp2_with fail
        refine ⟨Cls.of_ext X2.out fun b hb => ⟨by simp at hb; subst hb; exact hbl, _root_.id⟩, ?_⟩
        try dsimp only [wpM, wpSegs, pick, List.getElem?_cons_zero, List.getElem?_cons_succ]
        generalize hz : Act.mk _ _ = z
        repeat (first | (refine wpQuiet_step (fun K hK => ?_); replace hK := Lib.hid hK; subst hz; go_simp; generalize hz : Act.mk _ _ = z; refine hK.out z ?_; clear hK K) | (refine wpQuiet_step (fun K hK => ?_); replace hK := Lib.hid hK; subst hz; refine iteSkip (by kernel_rfl) ?_; go_simp; generalize hz : Act.mk _ _ = z; refine hK.out z ?_; clear hK K))
        refine wpQuiet_nil ?_
        subst hz
        try dsimp only [NoPan]
        go_wp2_with fail
        refine (num_walk _ _).mono ?_
        rintro e wx3 ⟨vv2, rfl, hh⟩
        obtain ⟨A2, c2, rfl, _, _⟩ := hh.own.formP
        have B2 := Lib.hid (byt_any hh.own.byt (Ext.refl _ _))
        have hxx := hh.ext
        clear hh
        replace B1 := Lib.hid (byt_any B1.out hxx)
        replace B3 := Lib.hid (byt_any B3.out hxx)
        have X3 := Lib.hid (X2.out.trans hxx)
        clear hxx
        go_wp2_with fail
        refine ⟨Cls.of_ext X3.out fun b hb => ⟨by simp at hb; subst hb; exact hbl, _root_.id⟩, ?_⟩
        try dsimp only [wpM, wpSegs, pick, List.getElem?_cons_zero, List.getElem?_cons_succ]
        generalize hz : Act.mk _ _ = z
        repeat (first | (refine wpQuiet_step (fun K hK => ?_); replace hK := Lib.hid hK; subst hz; go_simp; generalize hz : Act.mk _ _ = z; refine hK.out z ?_; clear hK K) | (refine wpQuiet_step (fun K hK => ?_); replace hK := Lib.hid hK; subst hz; refine iteSkip (by kernel_rfl) ?_; go_simp; generalize hz : Act.mk _ _ = z; refine hK.out z ?_; clear hK K))
        refine wpQuiet_nil ?_
        subst hz
        try dsimp only [NoPan]
        go_wp2_with fail
        refine ⟨Cls.of_ext (X3.out.alloc _) fun b hb => ⟨by simp at hb; subst hb; exact hbl, _root_.id⟩, ?_⟩
        try dsimp only [wpM, wpSegs, pick, List.getElem?_cons_zero, List.getElem?_cons_succ]
        generalize hz : Act.mk _ _ = z
        repeat (first | (refine wpQuiet_step (fun K hK => ?_); replace hK := Lib.hid hK; subst hz; go_simp; generalize hz : Act.mk _ _ = z; refine hK.out z ?_; clear hK K) | (refine wpQuiet_step (fun K hK => ?_); replace hK := Lib.hid hK; subst hz; refine iteSkip (by kernel_rfl) ?_; go_simp; generalize hz : Act.mk _ _ = z; refine hK.out z ?_; clear hK K))
        refine wpQuiet_nil ?_
        subst hz
        try dsimp only [NoPan]
        go_wp2_with fail
        refine (blockrow_walk (row3 (heap_alloc_self _ _) (byt_any B1.out ((Ext.refl _ _).alloc _)) (byt_any B2.out ((Ext.refl _ _).alloc _)) (byt_any B3.out ((Ext.refl _ _).alloc _))) (by simp)).mono ?_
        rintro e w6 ⟨v', rfl, h6⟩
        rw [H2.out.2] at h6
        have H6 := Lib.hid (And.intro (h6.base (H2.out.1.drew.trans (X3.out.alloc _))) ((X3.out.alloc _).trans h6.ext))
        clear h6
        go_wp2_with fail
        refine ⟨Cls.of_ext H6.out.2 fun b hb => ⟨by simp at hb; subst hb; exact hbl, _root_.id⟩, ?_⟩
        try dsimp only [wpM, wpSegs, pick, List.getElem?_cons_zero, List.getElem?_cons_succ]
        generalize hz : Act.mk _ _ = z
        repeat (first | (refine wpQuiet_step (fun K hK => ?_); replace hK := Lib.hid hK; subst hz; go_simp; generalize hz : Act.mk _ _ = z; refine hK.out z ?_; clear hK K) | (refine wpQuiet_step (fun K hK => ?_); replace hK := Lib.hid hK; subst hz; refine iteSkip (by kernel_rfl) ?_; go_simp; generalize hz : Act.mk _ _ = z; refine hK.out z ?_; clear hK K))
        refine wpQuiet_nil ?_
        subst hz
        try dsimp only [NoPan]
        go_wp2_with fail
        refine bodyPost_ret (results_tmp2 rfl _ _ _) rfl ?_
        exact ⟨_, rfl, H6.out.1⟩
    · skip
      refine wpList_str_bytes Try.underlying9 Try.underlying33 Try.underlying5 rfl _ rfl (l := txt) rfl (by omega) ?_
      intro c3 wx1 hh hxx hss
      clear hss
      have B3 := Lib.hid (byt_any hh.byt (Ext.refl _ _))
      clear hh
      have X1 := Lib.hid (hxx)
      clear hxx
      go_wp2_with fail
      refine ⟨Cls.of_ext X1.out fun b hb => ⟨by simp at hb; subst hb; exact hbl, _root_.id⟩, ?_⟩
      try dsimp only [wpM, wpSegs, pick, List.getElem?_cons_zero, List.getElem?_cons_succ]
      generalize hz : Act.mk _ _ = z
      repeat (first | (refine wpQuiet_step (fun K hK => ?_); replace hK := Lib.hid hK; subst hz; go_simp; generalize hz : Act.mk _ _ = z; refine hK.out z ?_; clear hK K) | (refine wpQuiet_step (fun K hK => ?_); replace hK := Lib.hid hK; subst hz; refine iteSkip (by kernel_rfl) ?_; go_simp; generalize hz : Act.mk _ _ = z; refine hK.out z ?_; clear hK K))
      refine wpQuiet_nil ?_
      subst hz
      try dsimp only [NoPan]
      go_wp2_with fail
      refine (num_walk _ _).mono ?_
      rintro e wx2 ⟨vv1, rfl, hh⟩
      obtain ⟨A1, c1, rfl, _, _⟩ := hh.own.formP
      have B1 := Lib.hid (byt_any hh.own.byt (Ext.refl _ _))
      have hxx := hh.ext
      clear hh
      replace B3 := Lib.hid (byt_any B3.out hxx)
      have X2 := Lib.hid (X1.out.trans hxx)
      clear hxx
      go_wp2_with fail
      refine ⟨Cls.of_ext X2.out fun b hb => ⟨by simp at hb; subst hb; exact hbl, _root_.id⟩, ?_⟩
      try dsimp only [wpM, wpSegs, pick, List.getElem?_cons_zero, List.getElem?_cons_succ]
      generalize hz : Act.mk _ _ = z
      repeat (first | (refine wpQuiet_step (fun K hK => ?_); replace hK := Lib.hid hK; subst hz; go_simp; generalize hz : Act.mk _ _ = z; refine hK.out z ?_; clear hK K) | (refine wpQuiet_step (fun K hK => ?_); replace hK := Lib.hid hK; subst hz; refine iteSkip (by kernel_rfl) ?_; go_simp; generalize hz : Act.mk _ _ = z; refine hK.out z ?_; clear hK K))
      refine wpQuiet_nil ?_
      subst hz
      try dsimp only [NoPan]
      go_wp2_with fail
      refine (num_walk _ _).mono ?_
      rintro e wx3 ⟨vv2, rfl, hh⟩
      obtain ⟨A2, c2, rfl, _, _⟩ := hh.own.formP
      have B2 := Lib.hid (byt_any hh.own.byt (Ext.refl _ _))
      have hxx := hh.ext
      clear hh
      replace B3 := Lib.hid (byt_any B3.out hxx)
      replace B1 := Lib.hid (byt_any B1.out hxx)
      have X3 := Lib.hid (X2.out.trans hxx)
      clear hxx
      go_wp2_with fail
      refine ⟨Cls.of_ext X3.out fun b hb => ⟨by simp at hb; subst hb; exact hbl, _root_.id⟩, ?_⟩
      try dsimp only [wpM, wpSegs, pick, List.getElem?_cons_zero, List.getElem?_cons_succ]
      generalize hz : Act.mk _ _ = z
      repeat (first | (refine wpQuiet_step (fun K hK => ?_); replace hK := Lib.hid hK; subst hz; go_simp; generalize hz : Act.mk _ _ = z; refine hK.out z ?_; clear hK K) | (refine wpQuiet_step (fun K hK => ?_); replace hK := Lib.hid hK; subst hz; refine iteSkip (by kernel_rfl) ?_; go_simp; generalize hz : Act.mk _ _ = z; refine hK.out z ?_; clear hK K))
      refine wpQuiet_nil ?_
      subst hz
      try dsimp only [NoPan]
      go_wp2_with fail
      refine ⟨Cls.of_ext (X3.out.alloc _) fun b hb => ⟨by simp at hb; subst hb; exact hbl, _root_.id⟩, ?_⟩
      try dsimp only [wpM, wpSegs, pick, List.getElem?_cons_zero, List.getElem?_cons_succ]
      generalize hz : Act.mk _ _ = z
      repeat (first | (refine wpQuiet_step (fun K hK => ?_); replace hK := Lib.hid hK; subst hz; go_simp; generalize hz : Act.mk _ _ = z; refine hK.out z ?_; clear hK K) | (refine wpQuiet_step (fun K hK => ?_); replace hK := Lib.hid hK; subst hz; refine iteSkip (by kernel_rfl) ?_; go_simp; generalize hz : Act.mk _ _ = z; refine hK.out z ?_; clear hK K))
      refine wpQuiet_nil ?_
      subst hz
      try dsimp only [NoPan]
      go_wp2_with fail
      refine (blockrow_walk (row3 (heap_alloc_self _ _) (byt_any B1.out ((Ext.refl _ _).alloc _)) (byt_any B2.out ((Ext.refl _ _).alloc _)) (byt_any B3.out ((Ext.refl _ _).alloc _))) (by simp)).mono ?_
      rintro e w6 ⟨v', rfl, h6⟩
      rw [H2.out.2] at h6
      have H6 := Lib.hid (And.intro (h6.base (H2.out.1.drew.trans (X3.out.alloc _))) ((X3.out.alloc _).trans h6.ext))
      clear h6
      go_wp2_with fail
      refine ⟨Cls.of_ext H6.out.2 fun b hb => ⟨by simp at hb; subst hb; exact hbl, _root_.id⟩, ?_⟩
      try dsimp only [wpM, wpSegs, pick, List.getElem?_cons_zero, List.getElem?_cons_succ]
      generalize hz : Act.mk _ _ = z
      repeat (first | (refine wpQuiet_step (fun K hK => ?_); replace hK := Lib.hid hK; subst hz; go_simp; generalize hz : Act.mk _ _ = z; refine hK.out z ?_; clear hK K) | (refine wpQuiet_step (fun K hK => ?_); replace hK := Lib.hid hK; subst hz; refine iteSkip (by kernel_rfl) ?_; go_simp; generalize hz : Act.mk _ _ = z; refine hK.out z ?_; clear hK K))
      refine wpQuiet_nil ?_
      subst hz
      try dsimp only [NoPan]
      go_wp2_with fail
      refine bodyPost_ret (results_tmp2 rfl _ _ _) rfl ?_
      exact ⟨_, rfl, H6.out.1⟩

set_option maxRecDepth 100000 in
set_option maxHeartbeats 1000000 in
theorem dreqbytes_walk {w : World} (id st : Int) (txt : Bs) : Calls Try.prog 55 #[reqV id st txt] w (AskPost w (rightQ id st txt) (askI id st txt)) := by
  have hx0 := (Ext.refl (fun _ => False) w).alloc (.cells #[.int .i64 id, .int .i64 st, str txt] 65)
  have hob := heap_alloc_self w (.cells #[.int .i64 id, .int .i64 st, str txt] 65)
  have hR := fun w => Lib.hid (dright_walk (w := w) id st txt)
  cases hq : rightQ id st txt with
  | false =>
    rw [hq] at hR
    go_enter Try.func55, Try.ntmps55
    go_wp2_with fail
    refine (hR _).out.mono ?_
    rintro e w2 ⟨rfl, hx2⟩
    have H2 := Lib.hid (hx0.trans hx2)
    clear hx2 hx0 hob
    go_wp2_with fail
    refine bodyPost_ret (results_tmp2 rfl _ _ _) rfl ?_
    exact ⟨rfl, H2.out⟩
  | true =>
    rw [hq] at hR
    have hlen := right_len hq
    have hrow := askI_row hq
    go_enter Try.func55, Try.ntmps55
    go_wp2_with fail
    refine (hR _).out.mono ?_
    rintro e w2 ⟨rfl, hx2⟩
    have hb := hx2.heap hob _root_.id
    have b0 : w2.cell? ⟨w.heap.size, 0, none⟩ = some (.int .i64 id) := cells_at hb 0
    have b1 : w2.cell? ⟨w.heap.size, 1, none⟩ = some (.int .i64 st) := cells_at hb 1
    have b2 : w2.cell? ⟨w.heap.size, 2, none⟩ = some (str txt) := cells_at hb 2
    have hbl := lt_of_heap hb
    have H2 := Lib.hid (And.intro (hx0.trans hx2) hrow)
    clear hx2 hb hx0 hob hq hR hrow
    go_wp2_with fail
    refine wp_region_tree (Cls [w.heap.size] _) (.two [0, 1, 3, 4, 6, 7] 2 (.two [] 5 (.one [] 8 (.one [] 9 (.one [] 10 (.last [11, 12])))) 8 (.one [] 5 (.one [] 9 (.one [] 10 (.last [11, 12]))))) 8 (.one [] 2 (.one [] 5 (.one [] 9 (.one [] 10 (.last [11, 12])))))) (by kernel_rfl) (by kernel_rfl) (Cls.refl _ _) ?_
    try dsimp only [wpM, wpSegs, pick, List.getElem?_cons_zero, List.getElem?_cons_succ]
    generalize hz : Act.mk _ _ = z
    repeat (first | (refine wpQuiet_step (fun K hK => ?_); replace hK := Lib.hid hK; subst hz; go_simp; generalize hz : Act.mk _ _ = z; refine hK.out z ?_; clear hK K) | (refine wpQuiet_step (fun K hK => ?_); replace hK := Lib.hid hK; subst hz; refine iteSkip (by kernel_rfl) ?_; go_simp; generalize hz : Act.mk _ _ = z; refine hK.out z ?_; clear hK K))
    refine wpQuiet_nil ?_
    subst hz
    try dsimp only [NoPan]
    refine ⟨?_, ?_⟩
    · skip
      go_wp2_with fail
      refine (dnum_walk _ _).mono ?_
      rintro e wx1 ⟨vv1, rfl, hh⟩
      obtain ⟨A1, c1, rfl, _, _⟩ := hh.own.formP
      have B1 := Lib.hid (byt_any hh.own.byt (Ext.refl _ _))
      have hxx := hh.ext
      clear hh
      have X1 := Lib.hid (hxx)
      clear hxx
      go_wp2_with fail
      refine ⟨Cls.of_ext X1.out fun b hb => ⟨by simp at hb; subst hb; exact hbl, _root_.id⟩, ?_⟩
      try dsimp only [wpM, wpSegs, pick, List.getElem?_cons_zero, List.getElem?_cons_succ]
      generalize hz : Act.mk _ _ = z
      repeat (first | (refine wpQuiet_step (fun K hK => ?_); replace hK := Lib.hid hK; subst hz; go_simp; generalize hz : Act.mk _ _ = z; refine hK.out z ?_; clear hK K) | (refine wpQuiet_step (fun K hK => ?_); replace hK := Lib.hid hK; subst hz; refine iteSkip (by kernel_rfl) ?_; go_simp; generalize hz : Act.mk _ _ = z; refine hK.out z ?_; clear hK K))
      refine wpQuiet_nil ?_
      subst hz
      try dsimp only [NoPan]
      refine ⟨?_, ?_⟩
      · skip
        go_wp2_with fail
        refine (dnum_walk _ _).mono ?_
        rintro e wx2 ⟨vv2, rfl, hh⟩
        obtain ⟨A2, c2, rfl, _, _⟩ := hh.own.formP
        have B2 := Lib.hid (byt_any hh.own.byt (Ext.refl _ _))
        have hxx := hh.ext
        clear hh
        replace B1 := Lib.hid (byt_any B1.out hxx)
        have X2 := Lib.hid (X1.out.trans hxx)
        clear hxx
        go_wp2_with fail
        refine ⟨Cls.of_ext X2.out fun b hb => ⟨by simp at hb; subst hb; exact hbl, _root_.id⟩, ?_⟩
        try dsimp only [wpM, wpSegs, pick, List.getElem?_cons_zero, List.getElem?_cons_succ]
        generalize hz : Act.mk _ _ = z
        repeat (first | (refine wpQuiet_step (fun K hK => ?_); replace hK := Lib.hid hK; subst hz; go_simp; generalize hz : Act.mk _ _ = z; refine hK.out z ?_; clear hK K) | (refine wpQuiet_step (fun K hK => ?_); replace hK := Lib.hid hK; subst hz; refine iteSkip (by kernel_rfl) ?_; go_simp; generalize hz : Act.mk _ _ = z; refine hK.out z ?_; clear hK K))
        refine wpQuiet_nil ?_
        subst hz
        try dsimp only [NoPan]
        refine wpList_str_bytes Try.underlying9 Try.underlying33 Try.underlying5 rfl _ rfl (l := txt) rfl (by omega) ?_
        intro c3 wx3 hh hxx hss
        clear hss
        have B3 := Lib.hid (byt_any hh.byt (Ext.refl _ _))
        clear hh
        replace B1 := Lib.hid (byt_any B1.out hxx)
        replace B2 := Lib.hid (byt_any B2.out hxx)
        have X3 := Lib.hid (X2.out.trans hxx)
        clear hxx
        go_wp2_with fail
        refine ⟨Cls.of_ext X3.out fun b hb => ⟨by simp at hb; subst hb; exact hbl, _root_.id⟩, ?_⟩
        try dsimp only [wpM, wpSegs, pick, List.getElem?_cons_zero, List.getElem?_cons_succ]
        generalize hz : Act.mk _ _ = z
        repeat (first | (refine wpQuiet_step (fun K hK => ?_); replace hK := Lib.hid hK; subst hz; go_simp; generalize hz : Act.mk _ _ = z; refine hK.out z ?_; clear hK K) | (refine wpQuiet_step (fun K hK => ?_); replace hK := Lib.hid hK; subst hz; refine iteSkip (by kernel_rfl) ?_; go_simp; generalize hz : Act.mk _ _ = z; refine hK.out z ?_; clear hK K))
        refine wpQuiet_nil ?_
        subst hz
        try dsimp only [NoPan]
        go_wp2_with fail
        refine ⟨Cls.of_ext (X3.out.alloc _) fun b hb => ⟨by simp at hb; subst hb; exact hbl, _root_.id⟩, ?_⟩
        try dsimp only [wpM, wpSegs, pick, List.getElem?_cons_zero, List.getElem?_cons_succ]
        generalize hz : Act.mk _ _ = z
        repeat (first | (refine wpQuiet_step (fun K hK => ?_); replace hK := Lib.hid hK; subst hz; go_simp; generalize hz : Act.mk _ _ = z; refine hK.out z ?_; clear hK K) | (refine wpQuiet_step (fun K hK => ?_); replace hK := Lib.hid hK; subst hz; refine iteSkip (by kernel_rfl) ?_; go_simp; generalize hz : Act.mk _ _ = z; refine hK.out z ?_; clear hK K))
        refine wpQuiet_nil ?_
        subst hz
        try dsimp only [NoPan]
        go_wp2_with fail
        refine (dall_walk (row3 (heap_alloc_self _ _) (byt_any B1.out ((Ext.refl _ _).alloc _)) (byt_any B2.out ((Ext.refl _ _).alloc _)) (byt_any B3.out ((Ext.refl _ _).alloc _))) (by simp)).mono ?_
        rintro e w6 ⟨v', rfl, h6⟩
        rw [H2.out.2] at h6
        have H6 := Lib.hid (And.intro (h6.base (H2.out.1.drew.trans (X3.out.alloc _))) ((X3.out.alloc _).trans h6.ext))
        clear h6
        go_wp2_with fail
        refine ⟨Cls.of_ext H6.out.2 fun b hb => ⟨by simp at hb; subst hb; exact hbl, _root_.id⟩, ?_⟩
        try dsimp only [wpM, wpSegs, pick, List.getElem?_cons_zero, List.getElem?_cons_succ]
        generalize hz : Act.mk _ _ = z
        repeat (first | (refine wpQuiet_step (fun K hK => ?_); replace hK := Lib.hid hK; subst hz; go_simp; generalize hz : Act.mk _ _ = z; refine hK.out z ?_; clear hK K) | (refine wpQuiet_step (fun K hK => ?_); replace hK := Lib.hid hK; subst hz; refine iteSkip (by kernel_rfl) ?_; go_simp; generalize hz : Act.mk _ _ = z; refine hK.out z ?_; clear hK K))
        refine wpQuiet_nil ?_
        subst hz
        try dsimp only [NoPan]
        go_wp2_with fail
        refine bodyPost_ret (results_tmp2 rfl _ _ _) rfl ?_
        exact ⟨_, rfl, H6.out.1⟩
      · skip
        refine wpList_str_bytes Try.underlying9 Try.underlying33 Try.underlying5 rfl _ rfl (l := txt) rfl (by omega) ?_
        intro c3 wx2 hh hxx hss
        clear hss
        have B3 := Lib.hid (byt_any hh.byt (Ext.refl _ _))
        clear hh
        replace B1 := Lib.hid (byt_any B1.out hxx)
        have X2 := Lib.hid (X1.out.trans hxx)
        clear hxx
        go_wp2_with fail
        refine ⟨Cls.of_ext X2.out fun b hb => ⟨by simp at hb; subst hb; exact hbl, _root_.id⟩, ?_⟩
        try dsimp only [wpM, wpSegs, pick, List.getElem?_cons_zero, List.getElem?_cons_succ]
        generalize hz : Act.mk _ _ = z
        repeat (first | (refine wpQuiet_step (fun K hK => ?_); replace hK := Lib.hid hK; subst hz; go_simp; generalize hz : Act.mk _ _ = z; refine hK.out z ?_; clear hK K) | (refine wpQuiet_step (fun K hK => ?_); replace hK := Lib.hid hK; subst hz; refine iteSkip (by kernel_rfl) ?_; go_simp; generalize hz : Act.mk _ _ = z; refine hK.out z ?_; clear hK K))
        refine wpQuiet_nil ?_
        subst hz
        try dsimp only [NoPan]
        go_wp2_with fail
        refine (dnum_walk _ _).mono ?_
        rintro e wx3 ⟨vv2, rfl, hh⟩
        obtain ⟨A2, c2, rfl, _, _⟩ := hh.own.formP
        have B2 := Lib.hid (byt_any hh.own.byt (Ext.refl _ _))
        have hxx := hh.ext
        clear hh
        replace B1 := Lib.hid (byt_any B1.out hxx)
        replace B3 := Lib.hid (byt_any B3.out hxx)
        have X3 := Lib.hid (X2.out.trans hxx)
        clear hxx
        go_wp2_with fail
        refine ⟨Cls.of_ext X3.out fun b hb => ⟨by simp at hb; subst hb; exact hbl, _root_.id⟩, ?_⟩
        try dsimp only [wpM, wpSegs, pick, List.getElem?_cons_zero, List.getElem?_cons_succ]
        generalize hz : Act.mk _ _ = z
        repeat (first | (refine wpQuiet_step (fun K hK => ?_); replace hK := Lib.hid hK; subst hz; go_simp; generalize hz : Act.mk _ _ = z; refine hK.out z ?_; clear hK K) | (refine wpQuiet_step (fun K hK => ?_); replace hK := Lib.hid hK; subst hz; refine iteSkip (by kernel_rfl) ?_; go_simp; generalize hz : Act.mk _ _ = z; refine hK.out z ?_; clear hK K))
        refine wpQuiet_nil ?_
        subst hz
        try dsimp only [NoPan]
        go_wp2_with fail
        refine ⟨Cls.of_ext (X3.out.alloc _) fun b hb => ⟨by simp at hb; subst hb; exact hbl, _root_.id⟩, ?_⟩
        try dsimp only [wpM, wpSegs, pick, List.getElem?_cons_zero, List.getElem?_cons_succ]
        generalize hz : Act.mk _ _ = z
        repeat (first | (refine wpQuiet_step (fun K hK => ?_); replace hK := Lib.hid hK; subst hz; go_simp; generalize hz : Act.mk _ _ = z; refine hK.out z ?_; clear hK K) | (refine wpQuiet_step (fun K hK => ?_); replace hK := Lib.hid hK; subst hz; refine iteSkip (by kernel_rfl) ?_; go_simp; generalize hz : Act.mk _ _ = z; refine hK.out z ?_; clear hK K))
        refine wpQuiet_nil ?_
        subst hz
        try dsimp only [NoPan]
        go_wp2_with fail
        refine (dall_walk (row3 (heap_alloc_self _ _) (byt_any B1.out ((Ext.refl _ _).alloc _)) (byt_any B2.out ((Ext.refl _ _).alloc _)) (byt_any B3.out ((Ext.refl _ _).alloc _))) (by simp)).mono ?_
        rintro e w6 ⟨v', rfl, h6⟩
        rw [H2.out.2] at h6
        have H6 := Lib.hid (And.intro (h6.base (H2.out.1.drew.trans (X3.out.alloc _))) ((X3.out.alloc _).trans h6.ext))
        clear h6
        go_wp2_with fail
        refine ⟨Cls.of_ext H6.out.2 fun b hb => ⟨by simp at hb; subst hb; exact hbl, _root_.id⟩, ?_⟩
        try dsimp only [wpM, wpSegs, pick, List.getElem?_cons_zero, List.getElem?_cons_succ]
        generalize hz : Act.mk _ _ = z
        repeat (first | (refine wpQuiet_step (fun K hK => ?_); replace hK := Lib.hid hK; subst hz; go_simp; generalize hz : Act.mk _ _ = z; refine hK.out z ?_; clear hK K) | (refine wpQuiet_step (fun K hK => ?_); replace hK := Lib.hid hK; subst hz; refine iteSkip (by kernel_rfl) ?_; go_simp; generalize hz : Act.mk _ _ = z; refine hK.out z ?_; clear hK K))
        refine wpQuiet_nil ?_
        subst hz
        try dsimp only [NoPan]
        go_wp2_with fail
        refine bodyPost_ret (results_tmp2 rfl _ _ _) rfl ?_
        exact ⟨_, rfl, H6.out.1⟩
    · skip
      refine wpList_str_bytes Try.underlying9 Try.underlying33 Try.underlying5 rfl _ rfl (l := txt) rfl (by omega) ?_
      intro c3 wx1 hh hxx hss
      clear hss
      have B3 := Lib.hid (byt_any hh.byt (Ext.refl _ _))
      clear hh
      have X1 := Lib.hid (hxx)
      clear hxx
      go_wp2_with fail
      refine ⟨Cls.of_ext X1.out fun b hb => ⟨by simp at hb; subst hb; exact hbl, _root_.id⟩, ?_⟩
      try dsimp only [wpM, wpSegs, pick, List.getElem?_cons_zero, List.getElem?_cons_succ]
      generalize hz : Act.mk _ _ = z
      repeat (first | (refine wpQuiet_step (fun K hK => ?_); replace hK := Lib.hid hK; subst hz; go_simp; generalize hz : Act.mk _ _ = z; refine hK.out z ?_; clear hK K) | (refine wpQuiet_step (fun K hK => ?_); replace hK := Lib.hid hK; subst hz; refine iteSkip (by kernel_rfl) ?_; go_simp; generalize hz : Act.mk _ _ = z; refine hK.out z ?_; clear hK K))
      refine wpQuiet_nil ?_
      subst hz
      try dsimp only [NoPan]
      go_wp2_with fail
      refine (dnum_walk _ _).mono ?_
      rintro e wx2 ⟨vv1, rfl, hh⟩
      obtain ⟨A1, c1, rfl, _, _⟩ := hh.own.formP
      have B1 := Lib.hid (byt_any hh.own.byt (Ext.refl _ _))
      have hxx := hh.ext
      clear hh
      replace B3 := Lib.hid (byt_any B3.out hxx)
      have X2 := Lib.hid (X1.out.trans hxx)
      clear hxx
      go_wp2_with fail
      refine ⟨Cls.of_ext X2.out fun b hb => ⟨by simp at hb; subst hb; exact hbl, _root_.id⟩, ?_⟩
      try dsimp only [wpM, wpSegs, pick, List.getElem?_cons_zero, List.getElem?_cons_succ]
      generalize hz : Act.mk _ _ = z
      repeat (first | (refine wpQuiet_step (fun K hK => ?_); replace hK := Lib.hid hK; subst hz; go_simp; generalize hz : Act.mk _ _ = z; refine hK.out z ?_; clear hK K) | (refine wpQuiet_step (fun K hK => ?_); replace hK := Lib.hid hK; subst hz; refine iteSkip (by kernel_rfl) ?_; go_simp; generalize hz : Act.mk _ _ = z; refine hK.out z ?_; clear hK K))
      refine wpQuiet_nil ?_
      subst hz
      try dsimp only [NoPan]
      go_wp2_with fail
      refine (dnum_walk _ _).mono ?_
      rintro e wx3 ⟨vv2, rfl, hh⟩
      obtain ⟨A2, c2, rfl, _, _⟩ := hh.own.formP
      have B2 := Lib.hid (byt_any hh.own.byt (Ext.refl _ _))
      have hxx := hh.ext
      clear hh
      replace B3 := Lib.hid (byt_any B3.out hxx)
      replace B1 := Lib.hid (byt_any B1.out hxx)
      have X3 := Lib.hid (X2.out.trans hxx)
      clear hxx
      go_wp2_with fail
      refine ⟨Cls.of_ext X3.out fun b hb => ⟨by simp at hb; subst hb; exact hbl, _root_.id⟩, ?_⟩
      try dsimp only [wpM, wpSegs, pick, List.getElem?_cons_zero, List.getElem?_cons_succ]
      generalize hz : Act.mk _ _ = z
      repeat (first | (refine wpQuiet_step (fun K hK => ?_); replace hK := Lib.hid hK; subst hz; go_simp; generalize hz : Act.mk _ _ = z; refine hK.out z ?_; clear hK K) | (refine wpQuiet_step (fun K hK => ?_); replace hK := Lib.hid hK; subst hz; refine iteSkip (by kernel_rfl) ?_; go_simp; generalize hz : Act.mk _ _ = z; refine hK.out z ?_; clear hK K))
      refine wpQuiet_nil ?_
      subst hz
      try dsimp only [NoPan]
      go_wp2_with fail
      refine ⟨Cls.of_ext (X3.out.alloc _) fun b hb => ⟨by simp at hb; subst hb; exact hbl, _root_.id⟩, ?_⟩
      try dsimp only [wpM, wpSegs, pick, List.getElem?_cons_zero, List.getElem?_cons_succ]
      generalize hz : Act.mk _ _ = z
      repeat (first | (refine wpQuiet_step (fun K hK => ?_); replace hK := Lib.hid hK; subst hz; go_simp; generalize hz : Act.mk _ _ = z; refine hK.out z ?_; clear hK K) | (refine wpQuiet_step (fun K hK => ?_); replace hK := Lib.hid hK; subst hz; refine iteSkip (by kernel_rfl) ?_; go_simp; generalize hz : Act.mk _ _ = z; refine hK.out z ?_; clear hK K))
      refine wpQuiet_nil ?_
      subst hz
      try dsimp only [NoPan]
      go_wp2_with fail
      refine (dall_walk (row3 (heap_alloc_self _ _) (byt_any B1.out ((Ext.refl _ _).alloc _)) (byt_any B2.out ((Ext.refl _ _).alloc _)) (byt_any B3.out ((Ext.refl _ _).alloc _))) (by simp)).mono ?_
      rintro e w6 ⟨v', rfl, h6⟩
      rw [H2.out.2] at h6
      have H6 := Lib.hid (And.intro (h6.base (H2.out.1.drew.trans (X3.out.alloc _))) ((X3.out.alloc _).trans h6.ext))
      clear h6
      go_wp2_with fail
      refine ⟨Cls.of_ext H6.out.2 fun b hb => ⟨by simp at hb; subst hb; exact hbl, _root_.id⟩, ?_⟩
      try dsimp only [wpM, wpSegs, pick, List.getElem?_cons_zero, List.getElem?_cons_succ]
      generalize hz : Act.mk _ _ = z
      repeat (first | (refine wpQuiet_step (fun K hK => ?_); replace hK := Lib.hid hK; subst hz; go_simp; generalize hz : Act.mk _ _ = z; refine hK.out z ?_; clear hK K) | (refine wpQuiet_step (fun K hK => ?_); replace hK := Lib.hid hK; subst hz; refine iteSkip (by kernel_rfl) ?_; go_simp; generalize hz : Act.mk _ _ = z; refine hK.out z ?_; clear hK K))
      refine wpQuiet_nil ?_
      subst hz
      try dsimp only [NoPan]
      go_wp2_with fail
      refine bodyPost_ret (results_tmp2 rfl _ _ _) rfl ?_
      exact ⟨_, rfl, H6.out.1⟩

set_option maxRecDepth 100000 in
theorem text_walk {w : World} (id st : Int) (txt : Bs) : Calls Try.prog 37 #[reqV id st txt] w (AskPost w (rightQ id st txt) (askB id st txt)) := by
  have hx0 := (Ext.refl (fun _ => False) w).alloc (.cells #[.int .i64 id, .int .i64 st, str txt] 65)
  have kc := fun (w : World) (C : Array Value) (n c : Nat) => Lib.run_convert_bytes_const (P := Try.prog) w 33 5 C n c Try.underlying33 Try.underlying5
  have hxa := fun (w : World) (o : Obj) => (Ext.refl (fun _ => False) w).alloc o
  have hR := fun w => Lib.hid (reqbytes_walk (w := w) id st txt)
  cases hq : rightQ id st txt with
  | false =>
    rw [hq] at hR
    go_enter Try.func37, Try.ntmps37
    go_wp2_with fail
    refine (hR _).out.mono ?_
    rintro e w2 ⟨rfl, hx2⟩
    have H2 := Lib.hid (hx0.trans hx2)
    clear hx2 hx0
    go_wp2_with fail
    refine bodyPost_ret (results_tmp2 rfl _ _ _) rfl ?_
    exact ⟨rfl, H2.out⟩
  | true =>
    rw [hq] at hR
    have hrow := askB_row hq
    go_enter Try.func37, Try.ntmps37
    go_wp2_with fail
    refine (hR _).out.mono ?_
    rintro e w2 ⟨v1, rfl, h2⟩
    obtain ⟨A1, c1, rfl, _, _⟩ := h2.own.formP
    have H2 := Lib.hid (And.intro h2 (And.intro (hx0.trans h2.ext) hrow))
    clear h2 hx0 hrow hq hR
    go_wp2_with fail
    have hA := byt_any (Byt.const (l := requestN) (heap_alloc_self w2 (.cells #[.int .u8 114, .int .u8 101, .int .u8 113, .int .u8 117, .int .u8 101, .int .u8 115, .int .u8 116] 5 (7, 8))) rfl 7 rfl) (Ext.refl _ _)
    have hw1 := hxa w2 (.cells #[.int .u8 114, .int .u8 101, .int .u8 113, .int .u8 117, .int .u8 101, .int .u8 115, .int .u8 116] 5 (7, 8))
    have hsz3 : (w2.alloc (.cells #[.int .u8 114, .int .u8 101, .int .u8 113, .int .u8 117, .int .u8 101, .int .u8 115, .int .u8 116] 5 (7, 8))).heap.size = w2.heap.size + 1 := by simp
    generalize w2.alloc (.cells #[.int .u8 114, .int .u8 101, .int .u8 113, .int .u8 117, .int .u8 101, .int .u8 115, .int .u8 116] 5 (7, 8)) = w3 at *
    have hxf := (H2.out.2.1.trans hw1).trans (hxa w3 (.cells #[.slice (some ⟨w2.heap.size, 0, none⟩) 7 7, .slice A1 (askI id st txt).length c1] 33))
    have hr := row2 (heap_alloc_self w3 (.cells #[.slice (some ⟨w2.heap.size, 0, none⟩) 7 7, .slice A1 (askI id st txt).length c1] 33)) (byt_any hA (hxa _ _)) (byt_any H2.out.1.own.byt (hw1.trans (hxa _ _)))
    rw [hsz3] at hr
    refine (row_walk hr (by simp)).mono ?_
    rintro e w4 ⟨v3, rfl, h3⟩
    rw [H2.out.2.2] at h3 ⊢
    have H3 := Lib.hid (h3.base hxf)
    clear h3 hA hw1 hr hxf
    go_wp2_with fail
    refine bodyPost_ret (results_tmp2 rfl _ _ _) rfl ?_
    exact ⟨_, rfl, H3.out⟩

set_option maxRecDepth 100000 in
theorem dtext_walk {w : World} (id st : Int) (txt : Bs) : Calls Try.prog 39 #[reqV id st txt] w (AskPost w (rightQ id st txt) (askB id st txt)) := by
  have hx0 := (Ext.refl (fun _ => False) w).alloc (.cells #[.int .i64 id, .int .i64 st, str txt] 65)
  have kc := fun (w : World) (C : Array Value) (n c : Nat) => Lib.run_convert_bytes_const (P := Try.prog) w 33 5 C n c Try.underlying33 Try.underlying5
  have hxa := fun (w : World) (o : Obj) => (Ext.refl (fun _ => False) w).alloc o
  have hR := fun w => Lib.hid (dreqbytes_walk (w := w) id st txt)
  cases hq : rightQ id st txt with
  | false =>
    rw [hq] at hR
    go_enter Try.func39, Try.ntmps39
    go_wp2_with fail
    refine (hR _).out.mono ?_
    rintro e w2 ⟨rfl, hx2⟩
    have H2 := Lib.hid (hx0.trans hx2)
    clear hx2 hx0
    go_wp2_with fail
    refine bodyPost_ret (results_tmp2 rfl _ _ _) rfl ?_
    exact ⟨rfl, H2.out⟩
  | true =>
    rw [hq] at hR
    have hrow := askB_row hq
    go_enter Try.func39, Try.ntmps39
    go_wp2_with fail
    refine (hR _).out.mono ?_
    rintro e w2 ⟨v1, rfl, h2⟩
    obtain ⟨A1, c1, rfl, _, _⟩ := h2.own.formP
    have H2 := Lib.hid (And.intro h2 (And.intro (hx0.trans h2.ext) hrow))
    clear h2 hx0 hrow hq hR
    go_wp2_with fail
    have hA := byt_any (Byt.const (l := requestN) (heap_alloc_self w2 (.cells #[.int .u8 114, .int .u8 101, .int .u8 113, .int .u8 117, .int .u8 101, .int .u8 115, .int .u8 116] 5 (7, 8))) rfl 7 rfl) (Ext.refl _ _)
    have hw1 := hxa w2 (.cells #[.int .u8 114, .int .u8 101, .int .u8 113, .int .u8 117, .int .u8 101, .int .u8 115, .int .u8 116] 5 (7, 8))
    have hsz3 : (w2.alloc (.cells #[.int .u8 114, .int .u8 101, .int .u8 113, .int .u8 117, .int .u8 101, .int .u8 115, .int .u8 116] 5 (7, 8))).heap.size = w2.heap.size + 1 := by simp
    generalize w2.alloc (.cells #[.int .u8 114, .int .u8 101, .int .u8 113, .int .u8 117, .int .u8 101, .int .u8 115, .int .u8 116] 5 (7, 8)) = w3 at *
    have hxf := (H2.out.2.1.trans hw1).trans (hxa w3 (.cells #[.slice (some ⟨w2.heap.size, 0, none⟩) 7 7, .slice A1 (askI id st txt).length c1] 33))
    have hr := row2 (heap_alloc_self w3 (.cells #[.slice (some ⟨w2.heap.size, 0, none⟩) 7 7, .slice A1 (askI id st txt).length c1] 33)) (byt_any hA (hxa _ _)) (byt_any H2.out.1.own.byt (hw1.trans (hxa _ _)))
    rw [hsz3] at hr
    refine (dall_walk hr (by simp)).mono ?_
    rintro e w4 ⟨v3, rfl, h3⟩
    rw [H2.out.2.2] at h3
    have H3 := Lib.hid (h3.base hxf)
    clear h3 hA hw1 hr hxf
    go_wp2_with fail
    refine bodyPost_ret (results_tmp2 rfl _ _ _) rfl ?_
    exact ⟨_, rfl, H3.out⟩
end Go.Proofs.Ytcedpdjjjfdbiaa
