/- The small case of the tree's statements; no condition. -/
import Derived.Test.YtkdnhnmiofhokaaTrieMade
import Derived.Test.YtkdnhnmiofhokaaConst
import Derived.Laws.Pointers
namespace Go.Proofs.Ytkdnhnmiofhokaa
set_option linter.unusedVariables false
set_option linter.unusedSimpArgs false
open Go.RowKit

set_option maxRecDepth 100000 in
set_option maxHeartbeats 1000000 in
theorem trie_small (w : World) : Calls Try.prog 8 #[] w fun e w' => e = .returned (.bool true) ∧ Ext (fun _ => False) w w' := by
  have kc := fun (w : World) (C : Array Value) (n c : Nat) => Lib.run_convert_bytes_const (P := Try.prog) w 22 5 C n c Try.underlying22 Try.underlying5
  have kc2 : ∀ (w : World) (o : Obj) (C : Array Value) (n c : Nat), (convert 22 22 (.slice (some ⟨w.heap.size + 1, 0, none⟩) n c)).run Try.prog ((w.alloc o).alloc (.cells C 5)) = .ok (.slice (some ⟨w.heap.size + 1, 0, none⟩) n c) ((w.alloc o).alloc (.cells C 5 (C.size, C.size + 1))) := fun w o C n c => by
    have h := kc (w.alloc o) C n c
    rwa [show (w.alloc o).heap.size = w.heap.size + 1 by simp] at h
  have hxa := fun (w : World) (o : Obj) => (Ext.refl (fun _ => False) w).alloc o
  have hk1 : ∀ (w : World) (x : UInt8) (o : Obj), Byt (fun _ => True) ((w.alloc (.cells #[.int .u8 x.toNat] 5 (1, 2))).alloc o) (.slice (some ⟨w.heap.size, 0, none⟩) 1 1) [x] := fun w x o => ((Byt.const (l := [x]) (heap_alloc_self w (.cells #[.int .u8 x.toNat] 5 (1, 2))) rfl 1 rfl).mono fun _ _ => trivial).same (hxa _ o)
  have hk2 : ∀ (w : World) (x : UInt8) (o : Obj), Byt (fun _ => True) ((w.alloc o).alloc (.cells #[.int .u8 x.toNat] 5 (1, 2))) (.slice (some ⟨w.heap.size + 1, 0, none⟩) 1 1) [x] := fun w x o => by
    have := (Byt.const (l := [x]) (heap_alloc_self (w.alloc o) (.cells #[.int .u8 x.toNat] 5 (1, 2))) rfl 1 rfl).mono (D' := fun _ => True) fun _ _ => trivial
    rwa [show (w.alloc o).heap.size = w.heap.size + 1 by simp] at this
  have hk0 : ∀ (w : World) (x : UInt8), Byt (fun _ => True) (w.alloc (.cells #[.int .u8 x.toNat] 5 (1, 2))) (.slice (some ⟨w.heap.size, 0, none⟩) 1 1) [x] := fun w x => (Byt.const (l := [x]) (heap_alloc_self w (.cells #[.int .u8 x.toNat] 5 (1, 2))) rfl 1 rfl).mono fun _ _ => trivial
  have HK := Lib.hid (And.intro hk0 (And.intro hk1 hk2))
  have HXA := Lib.hid hxa
  clear hk0 hk1 hk2 hxa
  go_enter Try.func8, Try.ntmps8
  go_wp2_with fail
  refine (tm_new (Ext.refl _ _)).mono ?_
  rintro e w1 ⟨rfl, h1⟩
  generalize w.heap.size = c at *
  go_wp2_with fail
  refine (tm_put (k := [97]) (v := [49]) ((h1.still (HXA.out _ _)).still (HXA.out _ _)) (HK.out.2.1 _ 97 _) (HK.out.2.2 _ 49 _) (by decide)).mono ?_
  rintro e w2 ⟨o1, rfl, p1, h2, _⟩
  have hl1 : (Tr.entsO o1).length = 1 := by
    unfold PutO at p1
    rw [if_pos (by decide)] at p1
    obtain ⟨t1, rfl, k1, k2, k3⟩ := p1
    have := t1.ents_pos
    simp [Tr.entsO] at k3 ⊢
    omega
  have H1 := Lib.hid (And.intro p1 hl1)
  clear h1 p1 hl1
  rw [show putE [97] [49] = 0 by decide]
  have H2 := Lib.hid h2
  clear h2
  go_wp2_with fail
  refine (tm_put (k := [98]) (v := [50]) ((H2.out.still (HXA.out _ _)).still (HXA.out _ _)) (HK.out.2.1 _ 98 _) (HK.out.2.2 _ 50 _) (by rw [H1.out.2]; decide)).mono ?_
  rintro e w3 ⟨o2, rfl, p2, h3, _⟩
  obtain rfl := small_tree H1.out.1 p2
  rw [show putE [98] [50] = 0 by decide]
  have H3 := Lib.hid h3
  clear h3 p2
  go_wp2_with fail
  refine (tm_get (k := [97]) (H3.out.still (HXA.out _ _)) (HK.out.1 _ 97) (by decide)).mono ?_
  rw [show Tr.get (some (.fork 7 (.leaf [97] [49]) (.leaf [98] [50]))) [97] = some [49] by decide]
  rintro e w4 ⟨vg, rfl, o4, n4, h4, x4⟩
  have hcv := fun (W : World) (hx : Ext (fun _ => False) w4 W) => (o4.byt.same hx).conv 22 5 9 Try.underlying22 Try.underlying5 Try.underlying9 W rfl
  have H4 := Lib.hid (And.intro h4 hcv)
  clear o4 n4 h4 x4 hcv
  go_wp2_with fail
  refine (tm_path (k := [97]) (H4.out.1.still (HXA.out _ _)) (HK.out.1 _ 97) (by decide) (by decide)).mono ?_
  rintro e w5 ⟨ka, va, sv, rfl, o5, o6, n5, _, r5, h5, x5⟩
  rw [show pathO (some (.fork 7 (.leaf [97] [49]) (.leaf [98] [50]))) [97] = [(7, false, .leaf [98] [50])] from rfl] at r5
  rw [show endO (some (.fork 7 (.leaf [97] [49]) (.leaf [98] [50]))) [97] = ([97], [49]) from rfl] at o5
  obtain ⟨g, cap, rfl, _, hcap, hg, s0, s1, _⟩ := steps_at r5 (i := 0) rfl
  obtain ⟨A5, c5, rfl⟩ := o5.formv
  change OwnB w5 (.slice A5 1 c5) [97] at o5
  obtain ⟨A6, c6, rfl⟩ := o6.formv
  clear o6
  have hxo := fun o : Obj => HXA.out w5 o
  have s0' := fun o : Obj => cell_same s0 (hxo o)
  have s1' := fun o : Obj => cell_same s1 (hxo o)
  have hcv1 := fun o : Obj => H4.out.2 (w5.alloc o) (((HXA.out _ _).trans x5).trans (hxo o))
  have hcv2 := fun o : Obj => (o5.byt.same (hxo o)).conv 22 5 9 Try.underlying22 Try.underlying5 Try.underlying9 (w5.alloc o) rfl
  have hc5 := fun o : Obj => tm_count (h5.still (hxo o))
  rw [show (Tr.entsO (some (.fork 7 (.leaf [97] [49]) (.leaf [98] [50])))).length = 2 from rfl] at hc5
  have H5 := Lib.hid (And.intro h5 (And.intro hc5 hxo))
  rw [show (Option.isNone (some (Tr.fork 7 (.leaf [97] [49]) (.leaf [98] [50])))) = false from rfl, show ([(7, false, Tr.leaf [98] [50])] : List (Nat × Bool × Tr)).length = 1 from rfl, show (([97], [49]) : Bs × Bs).1 = [97] from rfl, show ([97] : Bs).length = 1 from rfl]
  rw [show ([(7, false, Tr.leaf [98] [50])] : List (Nat × Bool × Tr)).length = 1 from rfl] at hcap
  clear r5 o5 n5 h5 x5 hc5 s0 s1 hxo
  go_wp2_with fail
  refine (H5.out.2.1 _).mono ?_
  rintro e _ ⟨rfl, rfl⟩
  go_wp2_with fail
  refine (bit_walk (k := [97]) (HK.out.2.2 _ 97 _) (by decide) 0).mono ?_
  rw [show bitI [97] 0 = true by decide]
  rintro e w6 ⟨rfl, hw6⟩
  have x6 : Ext (fun _ => False) w w6 := by rw [← hw6]; exact (H5.out.1.2.2.alloc _).alloc _
  have H6 := Lib.hid x6
  clear hw6 x6
  go_wp2_with fail
  refine (bit_walk (k := [97]) (HK.out.1 _ 97) (by decide) 9).mono ?_
  rw [show bitI [97] 9 = false by decide]
  rintro e _ ⟨rfl, rfl⟩
  go_wp2_with fail
  go_ret
  exact ⟨rfl, H6.out.alloc _⟩
end Go.Proofs.Ytkdnhnmiofhokaa
