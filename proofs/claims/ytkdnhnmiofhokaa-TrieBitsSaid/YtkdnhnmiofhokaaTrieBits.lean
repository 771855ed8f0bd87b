/- TrieBits answers true; no condition. -/
import Derived.Test.YtkdnhnmiofhokaaTrieRoot5
namespace Go.Proofs.Ytkdnhnmiofhokaa
set_option linter.unusedVariables false
set_option linter.unusedSimpArgs false
open Go.RowKit

theorem wpList_load_row_g {P : Program} {ops : Array Oper} {rest : List Oper} {o : Oper} {a : Act} {w : World} {Q : Exit → Act → World → Prop} (ty : TypeId) (x : Operand) (ho : o.op = .load ty x) (hw : Region.wanted o (yielded ops a.tmps) = true)
    (g : Nat) (hx : a.eval x = .pointer (some ⟨g, 0, none⟩)) (t : TypeId) (cs : Array Value) (fr : Nat × Nat) (d : TypeDesc) (hg : w.heap[g]? = some (.cells cs t fr))
    (hu : P.underlying ty = some d) (hd : (match d with | .struct _ | .array _ _ => true | _ => false) = true) (hi : (P.info? ty).map (·.size) = some cs.size)
    (h : wpList P ops Q rest (a.put o.dst (.agg cs)) w) : wpList P ops Q (o :: rest) a w := by
  simp only [wpList, hw, if_true]
  exact .inl (wp_load_row ty x ho g hx t cs fr d hg hu hd hi h)
set_option maxRecDepth 100000 in
set_option maxHeartbeats 4000000 in
theorem bits_walk {w : World} {kv lv : Value} {k : Bs} {l : List (Bs × Bs)} (hk : Byt (· < w.heap.size) w kv k) (hkl : k.length ≤ 140737488351232) (i : Int) (hL : Row (EntryIs (· < w.heap.size)) 2 (· < w.heap.size) w lv l) (hl : l.length ≤ maxLen) :
    Calls Try.prog 5 #[kv, .int .i64 i, lv] w fun e w' => e = .returned (.bool true) ∧ Ext (fun _ => False) w w' := by
  have HK := Lib.hid hk
  have HL := Lib.hid (show Ents w lv l from hL)
  obtain ⟨Ak, ck, rfl, _, _⟩ := hk
  obtain ⟨A, cp, rfl, _, _⟩ := hL
  by_cases hbig : 20 < l.length
  · have hb : decide (20 < (l.length : Int)) = true := by simp; omega
    have hb2 : decide (20 < l.length) = true := by simpa using hbig
    clear hbig
    go_enter Try.func5, Try.ntmps5
    go_wp2_with fail
    refine (trie_small _).mono ?_
    rintro e w1 ⟨rfl, x1⟩
    have H1 := Lib.hid x1
    clear x1
    go_wp2_with fail
    go_ret
    exact ⟨rfl, H1.out⟩
  · have hb : decide (20 < (l.length : Int)) = false := by simp; omega
    have hb2 : decide (20 < l.length) = false := by simpa using hbig
    have HN := Lib.hid (show l.length ≤ 20 by omega)
    clear hbig
    go_enter Try.func5, Try.ntmps5
    go_wp2_with fail
    refine (trie_small _).mono ?_
    rintro e w1 ⟨rfl, x1⟩
    have H1 := Lib.hid (And.intro x1 (HL.out.still x1))
    clear x1
    go_wp2_with fail
    refine (rootof_walk H1.out.2 (by have := HN.out; omega)).mono ?_
    rintro e w2 ⟨s, er, rfl, r2, s2, x2⟩
    rw [sumV_A]
    have H2 := Lib.hid (And.intro r2 (And.intro s2 (And.intro (H1.out.1.trans x2) (HL.out.still (H1.out.1.trans x2)))))
    clear r2 s2 x2 H1
    go_wp2_with (first | (refine wpList_store_row rfl 29 (.tmp 8) _ rfl w2.heap.size (sumA s) rfl rfl 29 _ (heap_alloc_self _ _) (info_sum H2.out.2.1) (by rw [sumA_size H2.out.2.1]; rfl) (sumA_one _) ?_; rename_i ax; have HAx := Lib.hid ax; clear ax))
    refine HAx.out _ _ ?_
    clear HAx
    generalize hw3 : (w2.alloc _).setRow _ (sumA s) = w3
    have s3 : w3.heap[w2.heap.size]? = some (.cells (sumA s) 29 (0, 0)) := by rw [← hw3]; exact (sum_new w2).1
    have x3 : Ext (fun _ => False) w2 w3 := by rw [← hw3]; exact (sum_new w2).2
    clear hw3
    have H3 := Lib.hid (And.intro s3 (And.intro (H2.out.2.2.1.trans x3) (HL.out.still (H2.out.2.2.1.trans x3))))
    clear s3 x3
    generalize w2.heap.size = b8 at *
    go_wp2_with fail
    refine (drootof_walk H3.out.2.2 (by have := HN.out; omega)).mono ?_
    rintro e w4 ⟨u, er', rfl, r4, u4, x4⟩
    obtain ⟨rfl, rfl⟩ := H2.out.1.one r4
    have H4 := Lib.hid (And.intro (x4.heap H3.out.1 id) (H3.out.2.1.trans x4))
    clear r4 x4 H3
    go_wp2_with (first | (refine wpList_store_row rfl 29 (.tmp 10) _ rfl w4.heap.size (sumA s) rfl rfl 29 _ (heap_alloc_self _ _) (info_sum H2.out.2.1) (by rw [sumA_size H2.out.2.1]; rfl) (sumA_one _) ?_; rename_i ax; have HAx := Lib.hid ax; clear ax))
    refine HAx.out _ _ ?_
    clear HAx
    generalize hw5 : (w4.alloc _).setRow _ (sumA s) = w5
    have s5 : w5.heap[w4.heap.size]? = some (.cells (sumA s) 29 (0, 0)) := by rw [← hw5]; exact (sum_new w4).1
    have x5 : Ext (fun _ => False) w4 w5 := by rw [← hw5]; exact (sum_new w4).2
    clear hw5
    have H5 := Lib.hid (And.intro s5 (And.intro (x5.heap H4.out.1 id) (H4.out.2.trans x5)))
    clear s5 x5 H4
    generalize w4.heap.size = b10 at *
    have heq : ∀ W, (binOp .eql 29 (.agg (sumA s)) (.agg (sumA s))).run Try.prog W = .ok (.bool true) W := fun W => by rw [sumA_eql H2.out.2.1 H2.out.2.1]; simp
    go_wp2_with fail
    refine (bit_walk (HK.out.same H5.out.2.2) (by omega) i).mono ?_
    rintro e _ ⟨rfl, rfl⟩
    go_wp2_with fail
    refine (dbit_walk (HK.out.same H5.out.2.2) (by omega) i).mono ?_
    rintro e _ ⟨rfl, rfl⟩
    go_wp2_with (first
      | refine wpList_load_row_g 29 (.tmp 8) rfl (by rfl) b8 rfl 29 (sumA s) (0, 0) _ H5.out.2.1 Try.underlying29 rfl (info_sum H2.out.2.1) ?_
      | refine wpList_load_row_g 29 (.tmp 10) rfl (by rfl) b10 rfl 29 (sumA s) (0, 0) _ H5.out.1 Try.underlying29 rfl (info_sum H2.out.2.1) ?_)
    go_ret
    exact ⟨rfl, H5.out.2.2⟩
theorem bits_law {w : World} {kv lv : Value} {k : Bs} {l : List (Bs × Bs)} (hk : Byt (· < w.heap.size) w kv k) (hkl : k.length ≤ 140737488351232) (i : Int) (hL : Row (EntryIs (· < w.heap.size)) 2 (· < w.heap.size) w lv l) (hl : l.length ≤ maxLen) :
    Calls Try.prog 5 #[kv, .int .i64 i, lv] w fun e w' => e = .returned (.bool true) ∧ Ext (fun _ => False) w w' := bits_walk hk hkl i hL hl
end Go.Proofs.Ytkdnhnmiofhokaa
