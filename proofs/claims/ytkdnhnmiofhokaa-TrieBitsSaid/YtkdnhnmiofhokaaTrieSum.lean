/- Digests in variables; no condition. -/
import Derived.Test.YtkdnhnmiofhokaaTrieSmall
namespace Go.Proofs.Ytkdnhnmiofhokaa
set_option linter.unusedVariables false
set_option linter.unusedSimpArgs false
open Go.RowKit

/-- A digest's cells. -/
def sumA (s : Bs) : Array Value := (s.map byteV).toArray
theorem sumV_A (s : Bs) : sumV s = .agg (sumA s) := sumV_cells s
theorem sumA_size {s : Bs} (h : s.length = 32) : (sumA s).size = 32 := sum_size s h
theorem sumA_one (s : Bs) : (sumA s).all (·.oneCell') = true := sum_one s
theorem sumA_eql {s t : Bs} (hs : s.length = 32) (ht : t.length = 32) (w : World) : (binOp .eql 29 (.agg (sumA s)) (.agg (sumA t))).run Try.prog w = .ok (.bool (decide (s = t))) w := by
  have := run_eql_sum s t hs ht w
  rwa [sumV_A, sumV_A] at this
theorem sumA_neq {s t : Bs} (hs : s.length = 32) (ht : t.length = 32) (w : World) : (binOp .neq 29 (.agg (sumA s)) (.agg (sumA t))).run Try.prog w = .ok (.bool (!decide (s = t))) w := by
  have h := sumA_eql hs ht w
  rw [run_eql_struct] at h
  rw [run_neq_struct]
  generalize hX : (Op.equalIn 10000 29 (.agg (sumA s)) (.agg (sumA t))).run Try.prog w = X at h ⊢
  cases X with
  | ok b w' =>
    simp only [Result.andThen_ok, Result.ok.injEq, Value.bool.injEq] at h ⊢
    rw [h.1, h.2]
    exact ⟨rfl, rfl⟩
  | _ => simp [Result.andThen] at h
theorem sum_new (w : World) {s : Bs} {t : TypeId} {cs : Array Value} : ((w.alloc (.cells cs t (0, 0))).setRow w.heap.size (sumA s)).heap[w.heap.size]? = some (.cells (sumA s) t (0, 0)) ∧ Ext (fun _ => False) w ((w.alloc (.cells cs t (0, 0))).setRow w.heap.size (sumA s)) :=
  ⟨setRow_heap _ _ _ _ _ _ (heap_alloc_self _ _), ((Ext.refl _ _).alloc _).setRow (.inr (Nat.le_refl _)) _⟩
theorem info_sum {s : Bs} (h : s.length = 32) : (Try.prog.info? 29).map (·.size) = some (sumA s).size := by rw [sumA_size h]; exact sum_info
theorem of_none : (ofR [110, 111, 110, 101] []) = (rootS none, 0) := by
  have : (ofR [110, 111, 110, 101] []).2 = 0 := by
    rw [ofR, if_pos (by decide)]
  rw [← this]
  rfl
theorem rowR_short {ls : List Bs} (hl : ls.length ≤ 4096) (h : ∀ l ∈ ls, l.length ≤ 65536) : (rowR ls).2 = 0 := by rw [rowR, if_pos ⟨hl, h⟩]
theorem of_leaf {k v : Bs} (hk : k.length ≤ 65536) (hv : v.length ≤ 65536) : ofR [108, 101, 97, 102] [k, v] = (sumT (.leaf k v), 0) := by
  have : (ofR [108, 101, 97, 102] [k, v]).2 = 0 := by
    have h : (textR [108, 101, 97, 102] [k, v]).2 = 0 := by
      rw [textR, if_neg (by decide)]
      refine rowR_short (by simp) fun l hl => ?_
      simp only [List.mem_cons, List.not_mem_nil, or_false] at hl
      rcases hl with rfl | rfl | rfl
      · decide
      · exact hk
      · exact hv
    rw [ofR, if_pos h]
  rw [← this]
  rfl
theorem of_fork (b : Nat) (l r : Tr) : ofR [102, 111, 114, 107] [beB (b : Int) 8, sumT l, sumT r] = (sumT (.fork b l r), 0) := by
  have : (ofR [102, 111, 114, 107] [beB (b : Int) 8, sumT l, sumT r]).2 = 0 := by
    have h : (textR [102, 111, 114, 107] [beB (b : Int) 8, sumT l, sumT r]).2 = 0 := by
      rw [textR, if_neg (by decide)]
      refine rowR_short (by simp) fun l' hl => ?_
      simp only [List.mem_cons, List.not_mem_nil, or_false] at hl
      rcases hl with rfl | rfl | rfl | rfl
      · decide
      · rw [beB_len]; decide
      · rw [sumT_len]; decide
      · rw [sumT_len]; decide
    rw [ofR, if_pos h]
  rw [← this]
  rfl
theorem sum_slice {w : World} {b : Nat} {s : Bs} {t : TypeId} {fr : Nat × Nat} (h : w.heap[b]? = some (.cells (sumA s) t fr)) (hs : s.length = 32) : Byt (fun _ => True) w (.slice (some ⟨b, 0, none⟩) 32 32) s :=
  (byt_const h rfl 32 hs.symm).mono fun _ _ => trivial
end Go.Proofs.Ytkdnhnmiofhokaa
