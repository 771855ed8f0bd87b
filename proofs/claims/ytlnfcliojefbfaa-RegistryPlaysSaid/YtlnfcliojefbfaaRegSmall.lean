/- The small case of the registry's statements; no condition. -/
import Derived.Test.YtlnfcliojefbfaaReg2
import Derived.Lib.SlBytesConst
import Derived.Laws.Pointers
namespace Go.Proofs.Ytlnfcliojefbfaa
set_option linter.unusedVariables false
set_option linter.unusedSimpArgs false
open Go.RowKit

theorem Byt.const {w : World} {g : Nat} {l : Bs} {t : TypeId} {fr : Nat × Nat} {cs : Array Value} (h : w.heap[g]? = some (.cells cs t fr)) (hc : cs = (l.map fun c => Value.int .u8 c.toNat).toArray) (n : Nat) (hn : n = l.length) :
    Byt (fun b => b = g) w (.slice (some ⟨g, 0, none⟩) n n) l := by
  subst hc hn
  refine ⟨_, _, rfl, Nat.le_refl _, fun _ => ⟨_, rfl, rfl, fun j u hu => ?_⟩⟩
  have ha : (⟨g, 0, none⟩ : Addr).add j = ⟨g, j, none⟩ := by unfold Addr.add; split <;> simp_all
  rw [ha]
  simp [World.cell?, h, hu]

set_option maxRecDepth 100000 in
theorem reg_small (w : World) : Calls Try.prog 10 #[] w fun e w' => e = .returned (.bool true) ∧ Ext (fun _ => False) w w' := by
  have kc := fun (w : World) (C : Array Value) (n c : Nat) => Lib.run_convert_bytes_const (P := Try.prog) w 23 5 C n c Try.underlying23 Try.underlying5
  go_enter Try.func10, Try.ntmps10
  go_wp2_with fail
  refine (reg_new _).mono ?_
  rintro e w1 ⟨a, F1, rfl, hR1, hx1, hf1⟩
  go_wp2_with fail
  refine (reg_sign (hR1.keep ((Ext.refl (fun _ => False) _).alloc _) fun _ _ => id) 1 (Byt.const (l := [97]) (heap_alloc_self _ _) rfl _ rfl) (by decide)).mono ?_
  rintro e w2 ⟨he, F2, hR2, hx2, hf2⟩
  rw [show signE 1 [97] = 0 from by decide] at he
  rw [show signL 1 [97] [] = [(1, [97])] from by decide] at hR2
  subst he
  go_wp2_with fail
  refine (reg_sign (hR2.keep ((Ext.refl (fun _ => False) _).alloc _) fun _ _ => id) 1 (Byt.const (l := [97]) (heap_alloc_self _ _) rfl _ rfl) (by decide)).mono ?_
  rintro e w3 ⟨he, F3, hR3, hx3, hf3⟩
  rw [show signE 1 [97] = 0 from by decide] at he
  rw [show signL 1 [97] [(1, [97])] = [(1, [97])] from by decide] at hR3
  subst he
  go_wp2_with fail
  refine (reg_sign (hR3.keep ((Ext.refl (fun _ => False) _).alloc _) fun _ _ => id) 2 (Byt.const (l := [98]) (heap_alloc_self _ _) rfl _ rfl) (by decide)).mono ?_
  rintro e w4 ⟨he, F4, hR4, hx4, hf4⟩
  rw [show signE 2 [98] = 0 from by decide] at he
  rw [show signL 2 [98] [(1, [97])] = [(1, [97]), (2, [98])] from by decide] at hR4
  subst he
  go_wp2_with fail
  refine (reg_count hR4).mono ?_
  rintro e w' ⟨rfl, rfl⟩
  go_wp2_with fail
  refine (reg_knows (hR4.keep ((Ext.refl (fun _ => False) _).alloc _) fun _ _ => id) 1 (Byt.const (l := [97]) (heap_alloc_self _ _) rfl _ rfl)).mono ?_
  rintro e w5 ⟨he, hx5⟩
  rw [show decide (((1 : Int), [(97 : UInt8)]) ∈ [((1 : Int), [(97 : UInt8)]), (2, [98])]) = true from by decide] at he
  subst he
  have hR5 := (hR4.keep ((Ext.refl (fun _ => False) _).alloc _) fun _ _ => id).keep hx5 fun _ _ => id
  go_wp2_with fail
  refine (reg_knows (hR5.keep ((Ext.refl (fun _ => False) _).alloc _) fun _ _ => id) 1 (Byt.const (l := [98]) (heap_alloc_self _ _) rfl _ rfl)).mono ?_
  rintro e w6 ⟨he, hx6⟩
  rw [show decide (((1 : Int), [(98 : UInt8)]) ∈ [((1 : Int), [(97 : UInt8)]), (2, [98])]) = false from by decide] at he
  subst he
  go_wp2_with fail
  go_ret
  refine ⟨rfl, ?_⟩
  have f1 : ∀ k, F1 k → w.heap.size ≤ k := hf1
  have g1 := hx1.size
  have g2 := hx2.size
  have g3 := hx3.size
  have g4 := hx4.size
  simp at g2 g3 g4
  have f2 : ∀ k, F2 k → w.heap.size ≤ k := fun k hk => (hf2 k hk).elim (f1 k) (fun h => by simp at h; omega)
  have f3 : ∀ k, F3 k → w.heap.size ≤ k := fun k hk => (hf3 k hk).elim (f2 k) (fun h => by simp at h; omega)
  refine ((((((hx1.alloc _).trans' hx2 ?_).alloc _).trans' hx3 ?_).alloc _).trans' hx4 ?_).alloc _ |>.trans hx5 |>.alloc _ |>.trans hx6
  · exact fun k hk => .inr (f1 k hk)
  · exact fun k hk => .inr (f2 k hk)
  · exact fun k hk => .inr (f3 k hk)
end Go.Proofs.Ytlnfcliojefbfaa
