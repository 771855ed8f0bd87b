/- What entries hands back; the order in which a stack of trees gives its entries; no condition. -/
import Derived.Test.YtoflfhjeabpcjaaTrieGet
namespace Go.Proofs.Ytoflfhjeabpcjaa
set_option linter.unusedVariables false
set_option linter.unusedSimpArgs false
open Go.RowKit

set_option maxRecDepth 100000 in
theorem entries_walk (w : World) (p : Nat) :
    Calls Try.prog 73 #[ptrV p] w fun e w' => e = .returned (.func (.func 108) #[] #[.pointer (some ⟨w.heap.size, 0, none⟩)]) ∧ w'.heap[w.heap.size]? = some (.cells #[ptrV p] 92 (0, 0)) ∧ Ext (fun _ => False) w w' := by
  go_enter Try.func73, Try.ntmps73
  go_wp2_with fail
  go_ret
  exact ⟨rfl, heap_alloc_self _ _, (Ext.refl _ _).alloc _⟩
/-- The entries that a stack of trees still gives, its top at the end. -/
def stackE (S : List Tr) : List (Bs × Bs) := S.reverse.flatMap Tr.ents
theorem stackE_nil : stackE [] = [] := rfl
theorem stackE_one (t : Tr) : stackE [t] = t.ents := by simp [stackE]
theorem stackE_leaf (S : List Tr) (k v : Bs) : stackE (S ++ [.leaf k v]) = (k, v) :: stackE S := by simp [stackE, Tr.ents]
theorem stackE_fork (S : List Tr) (b : Nat) (l r : Tr) : stackE (S ++ [.fork b l r]) = stackE (S ++ [r, l]) := by simp [stackE, Tr.ents]
/-- The rounds that are left. -/
def stackN (S : List Tr) : Nat := (S.map fun t => 2 * t.ents.length - 1).sum
theorem stackN_leaf (S : List Tr) (k v : Bs) : stackN S < stackN (S ++ [.leaf k v]) := by simp [stackN, Tr.ents]
theorem stackN_fork (S : List Tr) (b : Nat) (l r : Tr) : stackN (S ++ [r, l]) < stackN (S ++ [.fork b l r]) := by
  have h1 := l.ents_pos
  have h2 := r.ents_pos
  simp only [stackN, List.map_append, List.sum_append, List.map_cons, List.map_nil, List.sum_cons, List.sum_nil, Tr.ents, List.length_append]
  omega
end Go.Proofs.Ytoflfhjeabpcjaa
