/- The document's Root, RootOf; no condition. -/
import Derived.Test.YtkdnhnmiofhokaaTrieTexts2
import Derived.Test.YtkdnhnmiofhokaaTrieRootOf
namespace Go.Proofs.Ytkdnhnmiofhokaa
set_option linter.unusedVariables false
set_option linter.unusedSimpArgs false
open Go.RowKit

theorem eq_of_sorted : ∀ {l m : List (Bs × Bs)}, l.Pairwise (fun e f => e.1 < f.1) → m.Pairwise (fun e f => e.1 < f.1) → (∀ e, e ∈ l ↔ e ∈ m) → l = m
  | [], [], _, _, _ => rfl
  | [], y :: m, _, _, h => absurd ((h y).2 (List.mem_cons_self ..)) (by simp)
  | x :: l, [], _, _, h => absurd ((h x).1 (List.mem_cons_self ..)) (by simp)
  | x :: l, y :: m, hl, hm, h => by
    obtain ⟨l1, l2⟩ := List.pairwise_cons.1 hl
    obtain ⟨m1, m2⟩ := List.pairwise_cons.1 hm
    have hxy : x = y := by
      rcases List.mem_cons.1 ((h x).1 (List.mem_cons_self ..)) with e | hx
      · exact e
      · rcases List.mem_cons.1 ((h y).2 (List.mem_cons_self ..)) with e | hy
        · exact e.symm
        · exact absurd (List.lt_trans (m1 x hx) (l1 y hy)) (List.lt_irrefl _)
    subst hxy
    rw [eq_of_sorted l2 m2 fun e => ?_]
    have he := h e
    simp only [List.mem_cons] at he
    constructor
    · intro hel
      rcases he.1 (.inr hel) with rfl | h'
      · exact absurd (l1 _ hel) (List.lt_irrefl _)
      · exact h'
    · intro hem
      rcases he.2 (.inr hem) with rfl | h'
      · exact absurd (m1 _ hem) (List.lt_irrefl _)
      · exact h'
theorem put_exists {o : Option Tr} (ho : Tr.okO o) {k v : Bs} (hk : k.length ≤ 120) (hv : v.length ≤ 1200) : ∃ t', PutOf k v o t' := by
  cases o with
  | none => exact ⟨.leaf k v, ⟨hk, hv⟩, fun e => by simp [Tr.ents, Tr.entsO], by simp [Tr.ents, Tr.entsO]⟩
  | some t =>
    by_cases hak : (t.last k).1 = k
    · obtain ⟨h1, h2⟩ := Tr.ins_none hk hv ho hak
      exact ⟨_, h1, h2, ins_len k v none t⟩
    · obtain ⟨i, h1, h2, _⟩ := first_apart hak
      obtain ⟨p1, p2⟩ := Tr.ins_some hk hv ho h2 h1
      refine ⟨_, p1, fun e => ?_, ins_len k v (some i) t⟩
      rw [p2 e]
      constructor
      · rintro (h | h)
        · exact .inl h
        · refine .inr ⟨h, fun he => hak ?_⟩
          have := Tr.last_of ho e h
          rw [he] at this
          rw [this]
          exact he
      · rintro (h | h)
        · exact .inl h
        · exact .inr h.1
theorem inv_exists {l : List (Bs × Bs)} (hf : ∀ e ∈ l, FitE e) : ∀ k, k ≤ l.length → ∃ o, Tr.okO o ∧ PutInv l k o
  | 0, _ => ⟨none, trivial, PutInv.zero l⟩
  | k + 1, hk => by
    obtain ⟨o, ho, hi⟩ := inv_exists hf k (by omega)
    have hx : l[k]? = some l[k] := List.getElem?_eq_getElem (by omega)
    have hfit := hf l[k] (List.getElem_mem _)
    obtain ⟨t', ht⟩ := put_exists ho hfit.1 hfit.2
    refine ⟨some t', ht.1, hi.next hx hfit ?_⟩
    unfold PutO
    rw [if_pos (show l[k].1.length ≤ 120 ∧ l[k].2.length ≤ 1200 from hfit)]
    exact ⟨t', rfl, ht⟩
theorem entsO_sorted {o : Option Tr} (ho : Tr.okO o) : (Tr.entsO o).Pairwise (fun e f => e.1 < f.1) := by
  cases o with
  | none => exact List.Pairwise.nil
  | some t => exact Tr.sorted ho
/-- A rising row of entries is a tree's. -/
theorem exists_tree {l : List (Bs × Bs)} (hf : ∀ e ∈ l, FitE e) (hr : Rising l) : ∃ o, Tr.okO o ∧ Tr.entsO o = l := by
  obtain ⟨o, ho, hi⟩ := inv_exists hf l.length (Nat.le_refl _)
  have h1 := hi.sub
  have h2 := hi.sup
  rw [List.take_length] at h1 h2
  refine ⟨o, ho, eq_of_sorted (entsO_sorted ho) hr.pair fun e => ⟨h1 e, h2 (hr.pair.imp fun h => fun e => by rw [e] at h; exact List.lt_irrefl _ h) e⟩⟩
theorem RootOfR.one {l : List (Bs × Bs)} {s s' : Bs} {e e' : Int} (h : RootOfR l s e) (h' : RootOfR l s' e') : s = s' ∧ e = e' := by
  rcases h with ⟨a1, a2, a3⟩ | ⟨a0, a1, a2, a3⟩ | ⟨a0, a1, a2, o, a3, a4, a5⟩ <;> rcases h' with ⟨b1, b2, b3⟩ | ⟨b0, b1, b2, b3⟩ | ⟨b0, b1, b2, o', b3, b4, b5⟩
  · exact ⟨by rw [a2, b2], by rw [a3, b3]⟩
  · exact absurd b0 a1
  · exact absurd b0 a1
  · exact absurd a0 b1
  · exact ⟨by rw [a2, b2], by rw [a3, b3]⟩
  · exact absurd b1 a1
  · exact absurd a0 b1
  · exact absurd a1 b1
  · refine ⟨?_, by rw [a2, b2]⟩
    rw [a5, b5, Tr.canonO a3 b3 fun e => by rw [a4, b4]]
theorem texts_any {o : Option Tr} (ho : Tr.okO o) {w : World} {lv : Value} (hL : Ents w lv (Tr.entsO o)) (hn : (Tr.entsO o).length ≤ 64) : Calls Try.prog 50 #[lv] w (TextsPost w (rootS o) 128) := by
  cases o with
  | none =>
    refine (dtexts_none hL).mono ?_
    rintro e w' ⟨v3, n, a1, a2, a3, a4, a5⟩
    exact ⟨v3, n, a1, a2, a3, by omega, a5⟩
  | some t =>
    refine (dtexts_walk t ho hL hn).mono ?_
    rintro e w' ⟨v3, n, a1, a2, a3, a4, a5⟩
    have hn' : t.ents.length ≤ 64 := hn
    exact ⟨v3, n, a1, a2, a3, by omega, a5⟩
set_option maxRecDepth 100000 in
set_option maxHeartbeats 2000000 in
theorem droot_walk {o : Option Tr} (ho : Tr.okO o) {w : World} {lv : Value} (hL : Ents w lv (Tr.entsO o)) (hn : (Tr.entsO o).length ≤ 64) : Calls Try.prog 24 #[lv] w fun e w' => e = .returned (.agg (sumA (rootS o))) ∧ Ext (fun _ => False) w w' := by
  have hs1 := heap_alloc_self w (.cells ((List.replicate 32 (0 : UInt8)).map byteV).toArray 29 (0, 0))
  have hx1 : Ext (fun _ => False) w (w.alloc (.cells ((List.replicate 32 (0 : UInt8)).map byteV).toArray 29 (0, 0))) := (Ext.refl _ _).alloc _
  have hE := hL.still hx1
  obtain ⟨A, cp, rfl, _, _⟩ := id hL
  have H1 := Lib.hid (And.intro hs1 (And.intro hx1 hE))
  clear hs1 hx1 hE hL
  go_enter Try.func24, Try.ntmps24
  go_wp2_with fail
  refine (texts_any ho H1.out.2.2 hn).mono ?_
  rintro e w3 ⟨v3, n3, rfl, o3, p3, q3, x3⟩
  obtain ⟨A3, c3, rfl⟩ := o3.form
  have s3 := x3.heap H1.out.1 id
  have y3 := H1.out.2.1.trans x3
  have hn3 := lt_of_heap s3
  have H3 := Lib.hid (And.intro s3 y3)
  clear s3 y3 x3 o3 H1
  have hW4 : ((w3.alloc (.cells ((List.replicate 32 (0 : UInt8)).map byteV).toArray 29 (0, 0))).setRow w3.heap.size (sumA (rootS o))).heap[w3.heap.size]? = some (.cells (sumA (rootS o)) 29 (0, 0)) := setRow_heap _ _ _ _ _ _ (heap_alloc_self _ _)
  have hR4 : ((w3.alloc (.cells ((List.replicate 32 (0 : UInt8)).map byteV).toArray 29 (0, 0))).setRow w3.heap.size (sumA (rootS o))).heap[w.heap.size]? = some (.cells ((List.replicate 32 (0 : UInt8)).map byteV).toArray 29 (0, 0)) := by
    rw [setRow_other _ _ _ _ (by omega)]
    exact ((Ext.refl (fun _ => False) w3).alloc _).heap H3.out.1 id
  have hx4 : Ext (fun _ => False) w ((w3.alloc (.cells ((List.replicate 32 (0 : UInt8)).map byteV).toArray 29 (0, 0))).setRow w3.heap.size (sumA (rootS o))) := (H3.out.2.alloc _).setRow (.inr (by omega)) _
  have H4 := Lib.hid (And.intro hW4 (And.intro hR4 hx4))
  clear hW4 hR4 hx4
  go_wp2_with (first
    | refine wpList_load_row rfl 29 (.tmp 3) rfl w3.heap.size rfl 29 (sumA (rootS o)) (0, 0) _ H4.out.1 Try.underlying29 rfl (info_sum (rootS_len _)) ?_
    | refine wpList_store_row rfl 29 (.tmp 2) _ rfl w.heap.size (sumA (rootS o)) rfl rfl 29 _ H4.out.2.1 (info_sum (rootS_len _)) (by rw [sumA_size (rootS_len _)]; rfl) (sumA_one _) ?_
    | refine wpList_store_row rfl 29 (.tmp 3) _ rfl w3.heap.size (sumA (rootS o)) rfl rfl 29 _ (heap_alloc_self _ _) (info_sum (rootS_len _)) (by rw [sumA_size (rootS_len _)]; rfl) (sumA_one _) ?_)
  refine bodyPost_ret (results_cell_row rfl _ _ w.heap.size 29 (sumA (rootS o)) (0, 0) _ rfl (setRow_heap _ _ _ _ _ _ H4.out.2.1) Try.underlying29 rfl (info_sum (rootS_len _))) rfl ?_
  exact ⟨rfl, H4.out.2.2.setRow (.inr (Nat.le_refl _)) _⟩
end Go.Proofs.Ytkdnhnmiofhokaa
