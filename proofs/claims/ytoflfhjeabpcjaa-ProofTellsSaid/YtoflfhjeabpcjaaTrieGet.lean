/- What a tree tells: find, Get, Delete, Count, Root, New; no condition. -/
import Derived.Test.YtoflfhjeabpcjaaTriePut
namespace Go.Proofs.Ytoflfhjeabpcjaa
set_option linter.unusedVariables false
set_option linter.unusedSimpArgs false
open Go.RowKit

theorem TI.grow {D : Nat → Prop} {w w' : World} {c : Nat} {o : Option Tr} (h : TI D w c o) (hx : Ext (fun _ => False) w w') : TI (Grown D w w') w' c o := by
  obtain ⟨v, h1, h2⟩ := h.root
  refine ⟨⟨v, hx.heap h1 id, (h2.ext hx fun _ _ => id).mono fun _ => .inl⟩, h.ok, ?_, Grown.below h.below hx.size⟩
  have := h.lt
  rintro (hd | ⟨hd, _⟩)
  · exact h.sep hd
  · omega
/-- A node that was found, or nil. -/
def FoundV (D : Nat → Prop) (w : World) (k : Bs) : Option Bs → Value → Prop
  | none, v => v = .pointer none
  | some x, v => ∃ q, v = ptrV q ∧ NRep D w (.leaf k x) q
set_option maxRecDepth 100000 in
set_option maxHeartbeats 1000000 in
theorem find_walk {D Dk : Nat → Prop} {w : World} {c : Nat} {o : Option Tr} {kv : Value} {k : Bs} (h : TI D w c o) (hk : Byt Dk w kv k) (hkl : k.length ≤ 140737488355328) :
    Calls Try.prog 66 #[ptrV c, kv] w fun e w' => ∃ v, e = .returned v ∧ FoundV D w' k (Tr.get o k) v ∧ Ext (fun _ => False) w w' := by
  obtain ⟨r, hc, hr⟩ := h.root
  have c0 : w.cell? ⟨c, 0, none⟩ = some r := (cells_at hc 0).trans rfl
  cases o with
  | none =>
    simp only [RootV] at hr
    subst hr
    clear h hc hk
    go_enter Try.func66, Try.ntmps66
    go_wp2_with fail
    go_ret
    exact ⟨_, rfl, rfl, Ext.refl _ _⟩
  | some t =>
    obtain ⟨p, rfl, hr⟩ := hr
    have HE := Lib.hid (end_walk hr hk hkl)
    have HK := Lib.hid hk
    clear h hc hk hr
    go_enter Try.func66, Try.ntmps66
    go_wp2_with fail
    refine HE.out.mono ?_
    rintro e w2 ⟨q, rfl, hq, x2⟩
    obtain ⟨_, ka, va, la, ra, hN, hka, _⟩ := hq.still x2
    have n1 := hN.c1
    have HQ := Lib.hid (equal_walk hka (HK.out.same x2))
    have HX := Lib.hid (And.intro (hq.still x2) x2)
    clear hq hN hka x2 HE
    go_wp2_with fail
    refine HQ.out.mono ?_
    rintro e _ ⟨rfl, rfl⟩
    by_cases hak : (t.last k).1 = k
    · have hd : decide ((t.last k).1 = k) = true := by simpa using hak
      have HA := Lib.hid hak
      clear hak HQ
      go_wp2_with fail
      go_ret
      refine ⟨_, rfl, ?_, HX.out.2⟩
      rw [Tr.get, if_pos HA.out]
      have := HX.out.1
      rw [HA.out] at this
      exact ⟨q, rfl, this⟩
    · have hd : decide ((t.last k).1 = k) = false := by simpa using hak
      have HA := Lib.hid hak
      clear hak HQ
      go_wp2_with fail
      go_ret
      refine ⟨_, rfl, ?_, HX.out.2⟩
      rw [Tr.get, if_neg HA.out]
      rfl
theorem TI.ents {D : Nat → Prop} {w : World} {c : Nat} {o : Option Tr} (h : TI D w c o) : ∀ e ∈ Tr.entsO o, e.1.length ≤ 120 ∧ e.2.length ≤ 1200 := by
  cases o with
  | none => intro e he; cases he
  | some t => exact Tr.ok_ent h.ok
/-- What Get answers: the value's bytes, or nil. -/
def gotB : Option Bs → Bs
  | none => []
  | some x => x
set_option maxRecDepth 100000 in
theorem get_walk {D Dk : Nat → Prop} {w : World} {c : Nat} {o : Option Tr} {kv : Value} {k : Bs} (h : TI D w c o) (hk : Byt Dk w kv k) (hkl : k.length ≤ 140737488355328) :
    Calls Try.prog 23 #[ptrV c, kv] w fun e w' => ∃ v, e = .returned (.tuple #[v, .bool (Tr.get o k).isSome]) ∧ OwnB w' v (gotB (Tr.get o k)) ∧ (∀ q, v.ownBlock = some q → w.heap.size ≤ q) ∧ Ext (fun _ => False) w w' := by
  have HF := Lib.hid (find_walk h hk hkl)
  have hbd := fun x (hx : Tr.get o k = some x) => (h.ents _ ((Tr.get_mem h.ok).1 hx)).2
  have HB := Lib.hid hbd
  obtain ⟨A, cp, rfl, _, _⟩ := hk
  clear h hbd
  go_enter Try.func23, Try.ntmps23
  go_wp2_with fail
  refine HF.out.mono ?_
  rintro e w1 ⟨v, rfl, hv, x1⟩
  cases hg : Tr.get o k with
  | none =>
    rw [hg] at hv
    simp only [FoundV] at hv
    subst hv
    have HX := Lib.hid x1
    have HG := Lib.hid hg
    clear x1 HF hg
    go_wp2_with fail
    go_ret2
    rw [HG.out]
    exact ⟨_, rfl, .inl ⟨rfl, rfl⟩, fun q hq => by simp [Value.ownBlock] at hq, HX.out⟩
  | some x =>
    rw [hg] at hv
    obtain ⟨q, rfl, hv⟩ := hv
    obtain ⟨_, ka, va, la, ra, hN, _, hva⟩ := hv
    have n2 := hN.c2
    have HC := Lib.hid (clone_walk hva (by have := HB.out x hg; omega))
    have HX := Lib.hid x1
    have HG := Lib.hid hg
    clear x1 HF hg hN hva
    go_wp2_with fail
    refine HC.out.mono ?_
    rintro e w2 ⟨v', rfl, o2, x2, n3⟩
    obtain ⟨A2, c2, rfl⟩ := o2.formv
    have HO := Lib.hid (And.intro o2 (And.intro x2 n3))
    clear o2 x2 n3 HC
    go_wp2_with fail
    go_ret2
    rw [HG.out]
    exact ⟨_, rfl, HO.out.1, fun q hq => Nat.le_trans HX.out.size (HO.out.2.2 q hq), HX.out.trans HO.out.2.1⟩

/-- A tree without a key's entry. -/
def DelOf (k : Bs) (o o' : Option Tr) : Prop := Tr.okO o' ∧ (∀ e, e ∈ Tr.entsO o' ↔ e ∈ Tr.entsO o ∧ e.1 ≠ k) ∧ (Tr.entsO o').length ≤ (Tr.entsO o).length
set_option maxRecDepth 100000 in
set_option maxHeartbeats 1000000 in
theorem delete_walk {D Dk : Nat → Prop} {w : World} {c : Nat} {o : Option Tr} {kv : Value} {k : Bs} (h : TI D w c o) (hk : Byt Dk w kv k) (hkl : k.length ≤ 140737488355328) (hn : (Tr.entsO o).length < 9223372036854775807) :
    Calls Try.prog 33 #[ptrV c, kv] w fun e w' => ∃ o', e = .returned (.bool (Tr.get o k).isSome) ∧ DelOf k o o' ∧ TI (Grown D w w') w' c o' ∧ Ext (· = c) w w' := by
  have HF := Lib.hid (find_walk h hk hkl)
  have HK := Lib.hid hk
  have H := Lib.hid h
  obtain ⟨A, cp, rfl, _, _⟩ := hk
  cases hg : Tr.get o k with
  | none =>
    have HG := Lib.hid hg
    clear h
    go_enter Try.func33, Try.ntmps33
    go_wp2_with fail
    refine HF.out.mono ?_
    rintro e w1 ⟨v, rfl, hv, x1⟩
    rw [hg] at hv
    simp only [FoundV] at hv
    subst hv
    have HX := Lib.hid x1
    clear x1 HF hg
    go_wp2_with fail
    go_ret
    refine ⟨o, rfl, ⟨H.out.ok, fun e => ⟨fun he => ⟨he, (Tr.get_none H.out.ok).1 HG.out e he⟩, And.left⟩, Nat.le_refl _⟩, H.out.grow HX.out, HX.out.mono fun _ _ => False.elim⟩
  | some x =>
    cases o with
    | none => cases hg
    | some t =>
      have hlk : (t.last k).1 = k := by
        rw [Tr.get] at hg
        split at hg
        · assumption
        · cases hg
      have hdel := Tr.del_ok h.ok hlk
      have HG := Lib.hid (And.intro hg hdel)
      obtain ⟨r, hc, p, rfl, hr⟩ := id h.root
      have HR := Lib.hid hr
      clear h hlk hdel hr
      go_enter Try.func33, Try.ntmps33
      go_wp2_with fail
      refine HF.out.mono ?_
      rintro e w1 ⟨v, rfl, hv, x1⟩
      rw [hg] at hv
      obtain ⟨q, rfl, _⟩ := hv
      have g1 := x1.heap hc id
      have c1 : w1.cell? ⟨c, 0, none⟩ = some (ptrV p) := (cells_at g1 0).trans rfl
      have HW := Lib.hid (without_walk hkl t (HR.out.still x1) (HK.out.same x1) hn)
      have HX := Lib.hid x1
      clear x1 HF hg
      go_wp2_with fail
      refine HW.out.mono ?_
      rintro e w2 ⟨v, rfl, x2, hv⟩
      have g2 := x2.heap g1 id
      have c2 : w2.cell? ⟨c, 0, none⟩ = some (ptrV p) := (cells_at g2 0).trans rfl
      have f2 : w2.frozen? ⟨c, 0, none⟩ = false := by simp [World.frozen?, g2]
      have hfin := H.out.made (HX.out.trans x2) (hv.mono fun b hb => by
        have h1 := HX.out.size
        have h2 := x2.size
        rcases hb with h | ⟨h3, h4⟩
        · exact .inl h
        · exact .inr ⟨by omega, h4⟩) HG.out.2.1
      have HZ := Lib.hid hfin
      have hlen : (Tr.entsO (Tr.del k t)).length ≤ t.ents.length := by
        cases hd : Tr.del k t with
        | none => exact Nat.zero_le _
        | some t' => exact del_len hd
      have hone : ∃ x y z, v = .pointer x ∧ y = z ∧ z = (0 : Nat) := by
        cases hd : Tr.del k t with
        | none => rw [hd] at hv; exact ⟨none, 0, 0, hv, rfl, rfl⟩
        | some t' => rw [hd] at hv; obtain ⟨q, rfl, _⟩ := hv; exact ⟨some ⟨q, 0, none⟩, 0, 0, rfl, rfl, rfl⟩
      obtain ⟨pv, _, _, rfl, _, _⟩ := hone
      have HL := Lib.hid hlen
      clear hv x2 HW hfin hlen
      go_wp2_with fail
      go_ret
      exact ⟨_, rfl, ⟨HG.out.2.1, HG.out.2.2, HL.out⟩, HZ.out.1, HZ.out.2⟩
set_option maxRecDepth 100000 in
theorem count_walk {D : Nat → Prop} {w : World} {c : Nat} {o : Option Tr} (h : TI D w c o) :
    Calls Try.prog 20 #[ptrV c] w fun e w' => e = .returned (.int .i64 (Tr.entsO o).length) ∧ w' = w := by
  obtain ⟨r, hc, hr⟩ := h.root
  have c0 : w.cell? ⟨c, 0, none⟩ = some r := (cells_at hc 0).trans rfl
  cases o with
  | none =>
    simp only [RootV] at hr
    subst hr
    clear h hc
    go_enter Try.func20, Try.ntmps20
    go_wp2_with fail
    go_ret
    exact ⟨rfl, rfl⟩
  | some t =>
    obtain ⟨p, rfl, hr⟩ := hr
    obtain ⟨_, _, _, _, _, hN, _⟩ := hr.at
    have n37 := hN.c37
    clear h hc hr hN
    go_enter Try.func20, Try.ntmps20
    go_wp2_with fail
    go_ret
    exact ⟨rfl, rfl⟩
/-- The digest of all. -/
def rootS : Option Tr → Bs
  | none => (ofR [110, 111, 110, 101] []).1
  | some t => sumT t
theorem rootS_len : ∀ o, (rootS o).length = 32
  | none => ofR_len _ _
  | some t => sumT_len t
theorem new_walk (w : World) : Calls Try.prog 14 #[] w fun e w' => e = .returned (ptrV w.heap.size) ∧ TI (fun _ => False) w' w.heap.size none ∧ Ext (fun _ => False) w w' := by
  go_enter Try.func14, Try.ntmps14
  go_wp2_with fail
  go_ret
  exact ⟨rfl, ⟨⟨_, heap_alloc_self _ _, rfl⟩, trivial, id, fun _ => False.elim⟩, (Ext.refl _ _).alloc _⟩
set_option maxRecDepth 100000 in
set_option maxHeartbeats 1000000 in
theorem root_walk {D : Nat → Prop} {w : World} {c : Nat} {o : Option Tr} (h : TI D w c o) :
    Calls Try.prog 16 #[ptrV c] w fun e w' => e = .returned (sumV (rootS o)) ∧ Ext (fun _ => False) w w' := by
  obtain ⟨r, hc, hr⟩ := h.root
  have hx1 : Ext (fun _ => False) w (w.alloc (.cells ((List.replicate 32 (0 : UInt8)).map byteV).toArray 29 (0, 0))) := (Ext.refl _ _).alloc _
  have hs1 := heap_alloc_self w (.cells ((List.replicate 32 (0 : UInt8)).map byteV).toArray 29 (0, 0))
  have c0 : w.cell? ⟨c, 0, none⟩ = some r := (cells_at hc 0).trans rfl
  have hlt := h.lt
  cases o with
  | none =>
    simp only [RootV] at hr
    subst hr
    clear h hc
    go_enter Try.func16, Try.ntmps16
    go_wp2_with fail
    refine (of_walk (nm := [110, 111, 110, 101]) (ls := []) (D := fun _ => True) ⟨_, _, rfl, Nat.le_refl _, fun h => absurd rfl h⟩ (by simp) (by decide)).mono ?_
    rintro e w3 ⟨rfl, x3⟩
    have g3 := x3.heap hs1 id
    have y3 := hx1.trans x3
    have hz := sumV_cells (ofR [110, 111, 110, 101] []).1
    have hcz := sum_size (ofR [110, 111, 110, 101] []).1 (ofR_len _ _)
    have hco := sum_one (ofR [110, 111, 110, 101] []).1
    rw [hz]
    generalize hcs : ((ofR [110, 111, 110, 101] []).1.map byteV).toArray = cs at *
    have Hc := Lib.hid (And.intro (And.intro hcz hco) (And.intro hz (And.intro g3 y3)))
    clear hcz hco hcs hz g3 y3 hx1 hs1 x3
    have hW4 : ((w3.alloc (.cells ((List.replicate 32 (0 : UInt8)).map byteV).toArray 29 (0, 0))).setRow w3.heap.size cs).heap[w3.heap.size]? = some (.cells cs 29 (0, 0)) := setRow_heap _ _ _ _ _ _ (heap_alloc_self _ _)
    have hg3 := lt_of_heap Hc.out.2.2.1
    have hR4 : ((w3.alloc (.cells ((List.replicate 32 (0 : UInt8)).map byteV).toArray 29 (0, 0))).setRow w3.heap.size cs).heap[w.heap.size]? = some (.cells ((List.replicate 32 (0 : UInt8)).map byteV).toArray 29 (0, 0)) := by
      rw [setRow_other _ _ _ _ (by omega)]
      exact ((Ext.refl (fun _ => False) w3).alloc _).heap Hc.out.2.2.1 id
    have hx4 : Ext (fun _ => False) w ((w3.alloc (.cells ((List.replicate 32 (0 : UInt8)).map byteV).toArray 29 (0, 0))).setRow w3.heap.size cs) := (Hc.out.2.2.2.alloc _).setRow (.inr (by omega)) _
    have H4 := Lib.hid (And.intro hW4 (And.intro hR4 hx4))
    clear hW4 hR4 hx4
    go_wp2_with (first
      | refine wpList_load_row rfl 29 _ rfl w3.heap.size rfl 29 cs (0, 0) _ H4.out.1 Try.underlying29 rfl (by rw [Hc.out.1.1]; kernel_rfl) ?_
      | refine wpList_store_row rfl 29 _ _ rfl w.heap.size cs rfl rfl 29 _ H4.out.2.1 (by rw [Hc.out.1.1]; kernel_rfl) (by rw [Hc.out.1.1]; rfl) Hc.out.1.2 ?_
      | refine wpList_store_row rfl 29 _ _ rfl w3.heap.size cs rfl rfl 29 _ (heap_alloc_self _ _) (by rw [Hc.out.1.1]; kernel_rfl) (by rw [Hc.out.1.1]; rfl) Hc.out.1.2 ?_)
    refine bodyPost_ret (results_cell_row rfl _ _ w.heap.size 29 cs (0, 0) _ rfl (setRow_heap _ _ _ _ _ _ H4.out.2.1) Try.underlying29 rfl (by rw [Hc.out.1.1]; kernel_rfl)) rfl ?_
    exact ⟨congrArg Ending.returned Hc.out.2.1.symm, H4.out.2.2.setRow (.inr (Nat.le_refl _)) _⟩
  | some t =>
    obtain ⟨p, rfl, hr⟩ := hr
    obtain ⟨_, _, _, _, _, hN, _⟩ := hr.at
    obtain ⟨cs, hcs⟩ : ∃ cs : Array Value, cs = ((sumT t).map byteV).toArray := ⟨_, rfl⟩
    have hcz : cs.size = 32 := by rw [hcs]; exact sum_size _ (sumT_len t)
    have hco : (cs.all (·.oneCell')) = true := by rw [hcs]; exact sum_one _
    have n5 : (w.alloc (.cells ((List.replicate 32 (0 : UInt8)).map byteV).toArray 29 (0, 0))).rangeAt p 5 cs.toList := by
      rw [hcs]
      exact World.rangeAt_alloc hN.c5 _
    have hz : sumV (rootS (some t)) = .agg cs := by rw [hcs, rootS, sumV_cells]
    have HN := Lib.hid (And.intro (And.intro hcz hco) (And.intro n5 (And.intro hx1 (And.intro hs1 hz))))
    clear h hc hr hN n5 hcs hcz hco hx1 hs1 hz
    go_enter Try.func16, Try.ntmps16
    go_wp2_with (first
      | refine wpList_load_mid rfl 29 _ rfl p 5 rfl cs.toList _ HN.out.2.1 Try.underlying29 rfl (by rw [Array.length_toList, HN.out.1.1]; exact sum_info) ?_
      | refine wpList_store_row rfl 29 _ _ rfl w.heap.size cs rfl rfl 29 _ HN.out.2.2.2.1 (by rw [HN.out.1.1]; kernel_rfl) (by rw [HN.out.1.1]; rfl) HN.out.1.2 ?_)
    refine bodyPost_ret (results_cell_row rfl _ _ w.heap.size 29 cs (0, 0) _ rfl (setRow_heap _ _ _ _ _ _ HN.out.2.2.2.1) Try.underlying29 rfl (by rw [HN.out.1.1]; kernel_rfl)) rfl ?_
    exact ⟨congrArg Ending.returned HN.out.2.2.2.2.symm, HN.out.2.2.1.setRow (.inr (Nat.le_refl _)) _⟩
end Go.Proofs.Ytoflfhjeabpcjaa
