/- Parts of the proof, put together: ProofSpoil, RowsLaw, ProofDCheck, ProofRows, ProofMade, ProofPath, ProofSmall, ProofShort; no condition. -/
import Derived.Test.YtoflfhjeabpcjaaLawProofTellsD
import Derived.Deep.MidRow
import Derived.Great.BuildSlice
import Derived.Test.YtoflfhjeabpcjaaDigText
import Derived.Test.YtoflfhjeabpcjaaLawProofTellsB
import Derived.Test.YtoflfhjeabpcjaaLawProofTellsA
/- A proof's owner writes over it; no condition. -/
namespace Go.Proofs.Ytoflfhjeabpcjaa
set_option linter.unusedVariables false
set_option linter.unusedSimpArgs false
open Go.RowKit

theorem rows8_two {w : World} {g ga gb : Nat} {a b : Value} (hg : w.heap[g]? = some (.cells #[a, b] 22 (0, 0))) (ha : Cap w a none) (hb : Cap w b none) (oa : a.ownBlock = some ga) (ob : b.ownBlock = some gb) (h1 : ga ≠ gb) (h2 : g ≠ ga) (h3 : g ≠ gb) :
    Rows8 w (.slice (some ⟨g, 0, none⟩) 2 2) [a, b] := by
  refine ⟨⟨_, 2, rfl, Nat.le_refl _, fun _ => ⟨g, 0, rfl, fun u hu e => ?_, fun i x hi => ?_⟩⟩, fun u hu => ?_, fun i j u u' k hi hj hk hk' => ?_⟩
  · simp only [List.mem_cons, List.not_mem_nil, or_false] at hu
    rcases hu with rfl | rfl
    · rw [oa] at e; exact h2 (Option.some.inj e).symm
    · rw [ob] at e; exact h3 (Option.some.inj e).symm
  · match i, hi with
    | 0, hi => simp at hi; subst hi; exact cells_at hg 0
    | 1, hi => simp at hi; subst hi; exact cells_at hg 1
  · simp only [List.mem_cons, List.not_mem_nil, or_false] at hu
    rcases hu with rfl | rfl
    · exact ha
    · exact hb
  · match i, j, hi, hj with
    | 0, 0, _, _ => rfl
    | 1, 1, _, _ => rfl
    | 0, 1, hi, hj =>
      simp at hi hj
      subst hi hj
      rw [oa] at hk
      rw [ob] at hk'
      exact absurd ((Option.some.inj hk).trans (Option.some.inj hk').symm) h1
    | 1, 0, hi, hj =>
      simp at hi hj
      subst hi hj
      rw [ob] at hk
      rw [oa] at hk'
      exact absurd ((Option.some.inj hk').trans (Option.some.inj hk).symm) h1
theorem there_row {w : World} {g n m : Nat} {cells : Array Value} {t : TypeId} (hg : w.heap[g]? = some (.cells cells t (0, 0))) (h : n + m ≤ cells.size) : w.there g n m := by
  intro j hj
  refine ⟨?_, by simp [World.frozen?, hg]⟩
  rw [cells_at hg, Array.getElem?_eq_getElem (by omega)]
  rfl
def stepZ : Array Value := #[.int .i64 (-7), .bool false] ++ Array.replicate 32 (.int .u8 0)
theorem stepZ_one : stepZ.all (·.oneCell') = true := by
  rw [Array.all_eq_true_iff_forall_mem]
  intro v hv
  simp only [stepZ, Array.mem_append, Array.mem_replicate, List.mem_toArray, List.mem_cons, List.not_mem_nil, or_false] at hv
  rcases hv with (rfl | rfl) | ⟨_, rfl⟩ <;> rfl
set_option maxRecDepth 100000 in
set_option maxHeartbeats 1000000 in
theorem spoil_walk {w : World} {N gk gv : Nat} {nn : Bool} {sv : Value} {k v : Bs} {L : List PS} (hk : LentB w gk k) (hv : LentB w gv v) (hne : gk ≠ gv) (hs : w.ownsRow N 48 34 sv L.length (L.flatMap stepF)) (hkl : k.length ≤ 140737488351232) (hvl : v.length ≤ 140737488351232) (hL : L.length ≤ 1048576) :
    Calls Try.prog 42 #[.agg #[.bool nn, lentV gk k, lentV gv v, sv]] w fun e w' => e = .returned (.tuple #[]) ∧ Ext (fun b => b = gk ∨ b = gv ∨ sv.ownBlock = some b) w w' := by
  have H := Lib.hid (And.intro hk (And.intro hv hs))
  obtain ⟨As, cs, rfl⟩ := own_form hs
  have hgk : gk < w.heap.size := by obtain ⟨_, h, _⟩ := hk; exact lt_of_heap h
  have hgv : gv < w.heap.size := by obtain ⟨_, h, _⟩ := hv; exact lt_of_heap h
  clear hk hv hs
  have x1 := (Ext.refl (fun _ => False) w).alloc (.cells #[.bool nn, lentV gk k, lentV gv v, .slice As L.length cs] 43 (0, 0))
  have x2 := x1.alloc (.cells #[lentV gk k, lentV gv v] 22 (0, 0))
  have g1 := heap_alloc_self w (.cells #[.bool nn, lentV gk k, lentV gv v, .slice As L.length cs] 43 (0, 0))
  have g2 := heap_alloc_self (w.alloc (.cells #[.bool nn, lentV gk k, lentV gv v, .slice As L.length cs] 43 (0, 0))) (.cells #[lentV gk k, lentV gv v] 22 (0, 0))
  have g1' := ((Ext.refl (fun _ => False) (w.alloc (.cells #[.bool nn, lentV gk k, lentV gv v, .slice As L.length cs] 43 (0, 0)))).alloc (.cells #[lentV gk k, lentV gv v] 22 (0, 0))).heap g1 id
  rw [show (w.alloc (.cells #[.bool nn, lentV gk k, lentV gv v, .slice As L.length cs] 43 (0, 0))).heap.size = w.heap.size + 1 by simp] at g2
  have hr8 := rows8_two (ga := gk) (gb := gv) g2 (((H.out.1.own (by omega)).ext x2 fun _ _ => id).capA) (((H.out.2.1.own (by omega)).ext x2 fun _ _ => id).capA) rfl rfl hne (by omega) (by omega)
  have H2 := Lib.hid (And.intro hr8 (And.intro x2 g1'))
  clear hr8 x1 x2 g1 g2 g1'
  go_enter Try.func42, Try.ntmps42
  go_wp2_with fail
  refine (owned_walk H2.out.1 (by simp)).mono ?_
  rintro e w3 ⟨rfl, x3⟩
  have x3' : Ext (fun b => b = gk ∨ b = gv) w w3 := by
    refine (H2.out.2.1.mono (F1 := fun b => b = gk ∨ b = gv) fun _ _ => False.elim).trans' x3 fun b hb => .inl ?_
    obtain ⟨u, hu, hb⟩ := hb
    simp only [List.mem_cons, List.not_mem_nil, or_false] at hu
    rcases hu with rfl | rfl
    · exact .inl (Option.some.inj hb).symm
    · exact .inr (Option.some.inj hb).symm
  have g3 := x3.heap H2.out.2.2 (by
    rintro ⟨u, hu, hb⟩
    simp only [List.mem_cons, List.not_mem_nil, or_false] at hu
    rcases hu with rfl | rfl
    · have : gk = w.heap.size := Option.some.inj hb; omega
    · have : gv = w.heap.size := Option.some.inj hb; omega)
  have hs3 : w3.ownsRow N 48 34 (.slice As L.length cs) L.length (L.flatMap stepF) := own_ext H.out.2.2 x3' fun q hq hb => by
    obtain ⟨cs1, h1⟩ := own_ty H.out.2.2 q hq
    rcases hb with rfl | rfl
    · obtain ⟨cs2, h2, _⟩ := H.out.1
      rw [h1] at h2
      simp at h2
    · obtain ⟨cs2, h2, _⟩ := H.out.2.1
      rw [h1] at h2
      simp at h2
  have H3 := Lib.hid (And.intro x3' (And.intro g3 hs3))
  clear x3 x3' g3 hs3
  have hsz : L.length = 0 ∨ ∃ g cells, As = some ⟨g, 0, none⟩ ∧ w3.heap[g]? = some (.cells cells 48 (0, 0)) ∧ L.length * 34 ≤ cells.size := by
    rcases H3.out.2.2.2 with ⟨h1, h2⟩ | ⟨g, cap, cur, h1, _, hg, h4, _, hz, htk⟩
    · exact .inl h2
    · simp only [Value.slice.injEq] at h1
      refine .inr ⟨g, cur, h1.1, hg, ?_⟩
      have h5 := congrArg List.length htk
      rw [List.length_take, H3.out.2.2.1] at h5
      simp only [Array.length_toList] at h5
      omega
  have HS := Lib.hid hsz
  clear hsz
  go_wp2_with fail
  go_loopw [2] (fun i W => ∃ q : Nat, q ≤ L.length ∧ i = .int .i64 q ∧ W.heap[w.heap.size]? = some (.cells #[.bool nn, lentV gk k, lentV gv v, .slice As L.length cs] 43 (0, 0)) ∧ Ext (fun b => As = some ⟨b, 0, none⟩) w3 W ∧ (L.length = 0 ∨ ∃ g cells, As = some ⟨g, 0, none⟩ ∧ W.heap[g]? = some (.cells cells 48 (0, 0)) ∧ L.length * 34 ≤ cells.size)) (fun i _ => L.length - (intOf i).toNat)
  case atStart => exact ⟨0, Nat.zero_le _, rfl, H3.out.2.1, Ext.refl _ _, HS.out⟩
  case round =>
    obtain ⟨q, hq, rfl, hP, hx, hcell⟩ := hrel
    have d3 : wr.cell? ⟨w.heap.size, 3, none⟩ = some (.slice As L.length cs) := cells_at hP 3
    by_cases hlt : q < L.length
    · have hql : decide ((q : Int) < (L.length : Int)) = true := by simp; omega
      rcases hcell with h0 | ⟨g, cells, rfl, hg, hcz⟩
      · omega
      have hth : wr.there g (q * 34) 34 := there_row hg (by omega)
      have hsc : (storeCells ⟨g, q * 34, none⟩ stepZ.toList).run Try.prog wr = .ok () (wr.setCells g (q * 34) stepZ.toList) := by
        have := run_storeCells_cells (P := Try.prog) g (q * 34) stepZ.toList 0 wr (fun j hj => (hth j hj).1) (fun j hj => (hth j hj).2) (fun v hv => (Array.all_eq_true_iff_forall_mem.1 stepZ_one) v (by simpa using hv))
        simpa only [Nat.add_zero] using this
      have hwq : wr.heap[g]? = some (.cells cells 48 (0, 0)) := hg
      obtain ⟨cells', hg', hcz', _⟩ := heap_setCells_self (b := g) stepZ.toList (q * 34) wr cells hg (by show q * 34 + 34 ≤ cells.size; omega)
      have hgw : w.heap.size ≠ g := by rintro rfl; rw [hP] at hg; simp at hg
      have hx' : Ext (fun b => some (⟨g, 0, none⟩ : Addr) = some ⟨b, 0, none⟩) wr (wr.setCells g (q * 34) stepZ.toList) := (Ext.refl _ wr).setCells _ _ (.inl rfl)
      have hP' := hx'.heap hP (by intro e; exact hgw (by simpa using e.symm))
      have HY := Lib.hid (And.intro hP' (And.intro (hx.trans' hx' fun b hb => .inl hb) (And.intro hg' (hcz'.symm ▸ hcz))))
      have HX := Lib.hid (And.intro hP (And.intro hx (And.intro hg hcz)))
      clear hP hx hg hcz
      clear hth hwq hg' hcz' hgw hx' hP'
      go_wp2_with (refine wpList_buildTo rfl 48 #[(0, .const (.int .i64 (-7)))] rfl (some 21) rfl stepZ (by kernel_rfl) ?_)
      exact ⟨⟨q + 1, by omega, by go_num, HY.out.1, HY.out.2.1, .inr ⟨g, cells', rfl, HY.out.2.2.1, HY.out.2.2.2⟩⟩, by simp [intOf]; omega⟩
    · have hql : decide ((q : Int) < (L.length : Int)) = false := by simp; omega
      have HX := Lib.hid hx
      clear hx hcell hP
      go_wp2_with fail
      go_end0
      refine ⟨rfl, (H3.out.1.mono (F1 := fun b => b = gk ∨ b = gv ∨ (Value.slice As L.length cs).ownBlock = some b) fun b _ hb => hb.imp id .inl).trans' HX.out fun b hb => .inl (.inr (.inr ?_))⟩
      rw [hb]
      rfl
end Go.Proofs.Ytoflfhjeabpcjaa
/- Unlike rows have unlike bytes; no condition. -/
namespace Go.Proofs.Ytoflfhjeabpcjaa
set_option linter.unusedVariables false
set_option linter.unusedSimpArgs false
open Go.RowKit

theorem byteAt_val (n : Nat) (s : Nat) : (byteAt (n : Int) s).toNat = n / 2 ^ s % 256 := by
  have := byteAt_wrap (n : Int) s
  have e : ((n : Int) / 2 ^ s % 256) = ((n / 2 ^ s % 256 : Nat) : Int) := by rw [Int.natCast_emod, Int.natCast_ediv, Int.natCast_pow]; rfl
  rw [e] at this
  omega
theorem beB4_inj (n m : Nat) (hn : n < 4294967296) (hm : m < 4294967296) (h : beB (n : Int) 4 = beB (m : Int) 4) : n = m := by
  rw [four_eq, four_eq] at h
  simp only [List.cons.injEq, and_true] at h
  obtain ⟨h3, h2, h1, h0⟩ := h
  have e3 := congrArg UInt8.toNat h3
  have e2 := congrArg UInt8.toNat h2
  have e1 := congrArg UInt8.toNat h1
  have e0 := congrArg UInt8.toNat h0
  rw [byteAt_val, byteAt_val] at e0 e1 e2 e3
  omega
theorem blob_split {a b x y : Bs} (ha : a.length ≤ 65536) (hb : b.length ≤ 65536) (h : blobB a ++ x = blobB b ++ y) : a = b ∧ x = y := by
  simp only [blobB, List.append_assoc] at h
  obtain ⟨h1, h2⟩ := List.append_inj h (by rw [beB_len, beB_len])
  have hl := beB4_inj _ _ (by omega) (by omega) h1
  obtain ⟨h3, h4⟩ := List.append_inj h2 hl
  exact ⟨h3, h4⟩
theorem flat_inj : ∀ (ls ms : List Bs), ls.length = ms.length → (∀ l ∈ ls, l.length ≤ 65536) → (∀ l ∈ ms, l.length ≤ 65536) → ls.flatMap blobB = ms.flatMap blobB → ls = ms
  | [], [], _, _, _, _ => rfl
  | [], _ :: _, h, _, _, _ => by simp at h
  | _ :: _, [], h, _, _, _ => by simp at h
  | a :: ls, b :: ms, hl, ha, hb, h => by
    simp only [List.flatMap_cons] at h
    obtain ⟨h1, h2⟩ := blob_split (ha a (by simp)) (hb b (by simp)) h
    rw [h1, flat_inj ls ms (by simpa using hl) (fun l hl => ha l (by simp [hl])) (fun l hl => hb l (by simp [hl])) h2]
theorem rowR_ok {ls : List Bs} (h : (rowR ls).2 = 0) : ls.length ≤ 4096 ∧ (∀ l ∈ ls, l.length ≤ 65536) ∧ (rowR ls).1 = rowB ls := by
  unfold rowR at *
  split at h
  · rename_i hh
    rw [if_pos hh]
    exact ⟨hh.1, hh.2, rfl⟩
  · cases h
theorem rowB_inj {ls ms : List Bs} (hl : ls.length ≤ 4096) (ha : ∀ l ∈ ls, l.length ≤ 65536) (hm : ms.length ≤ 4096) (hb : ∀ l ∈ ms, l.length ≤ 65536) (h : rowB ls = rowB ms) : ls = ms := by
  unfold rowB at h
  obtain ⟨h1, h2⟩ := List.append_inj h (by rw [beB_len, beB_len])
  exact flat_inj ls ms (beB4_inj _ _ (by omega) (by omega) h1) ha hb h2
theorem textR_ok {nm : Bs} {ls : List Bs} (h : (textR nm ls).2 = 0) : (textR nm ls).1 = rowB (nm :: ls) ∧ (nm :: ls).length ≤ 4096 ∧ ∀ l ∈ nm :: ls, l.length ≤ 65536 := by
  unfold textR at *
  split at h
  · cases h
  · rename_i hh
    rw [if_neg hh]
    obtain ⟨h1, h2, h3⟩ := rowR_ok h
    exact ⟨h3, h1, h2⟩
theorem rowR_err {ls : List Bs} (h : (rowR ls).2 ≠ 0) : (rowR ls).1 = [] ∧ (rowR ls).2 = 2 := by
  by_cases hh : ls.length ≤ 4096 ∧ ∀ l ∈ ls, l.length ≤ 65536
  · rw [rowR, if_pos hh] at h
    exact absurd rfl h
  · rw [rowR, if_neg hh]
    exact ⟨rfl, rfl⟩
theorem textR_err {nm : Bs} {ls : List Bs} (h : (textR nm ls).2 ≠ 0) : (textR nm ls).1 = [] ∧ (textR nm ls).2 = 2 := by
  by_cases hh : 16 < nm.length
  · rw [textR, if_pos hh]
    exact ⟨rfl, rfl⟩
  · rw [textR, if_neg hh] at h ⊢
    exact rowR_err h
/-- Unlike names, or rows, have unlike texts. -/
theorem textR_iff {nm nm2 : Bs} {ls ls2 : List Bs} (h : (textR nm ls).2 = 0) (h2 : (textR nm2 ls2).2 = 0) : ((textR nm ls).1 = (textR nm2 ls2).1) ↔ (nm = nm2 ∧ ls = ls2) := by
  obtain ⟨e1, l1, a1⟩ := textR_ok h
  obtain ⟨e2, l2, a2⟩ := textR_ok h2
  rw [e1, e2]
  constructor
  · intro e
    have := rowB_inj l1 a1 l2 a2 e
    simpa using this
  · rintro ⟨rfl, rfl⟩
    rfl
/-- With short parts the text is refused for its name alone. -/
theorem textR_short {nm : Bs} {ls : List Bs} (hn : nm.length ≤ 16) (hl : ls.length ≤ 20) (ha : ∀ l ∈ ls, l.length ≤ 4096) : (textR nm ls).2 = 0 := by
  rw [textR, if_neg (by omega), rowR, if_pos]
  refine ⟨by rw [List.length_cons]; omega, fun l hl => ?_⟩
  rcases List.mem_cons.1 hl with rfl | hl
  · omega
  · have := ha l hl
    omega

theorem str_beq (a b : Bs) : ((⟨a.toArray⟩ : ByteArray).toList == (⟨b.toArray⟩ : ByteArray).toList) = decide (a = b) := by
  rw [ByteArray.toList_eq, ByteArray.toList_eq, Bool.eq_iff_iff]
  simp
theorem str_bne (a b : Bs) : ((⟨a.toArray⟩ : ByteArray).toList != (⟨b.toArray⟩ : ByteArray).toList) = !decide (a = b) := by
  rw [bne, str_beq]
/-- Where a conversion of bytes looks. -/
theorem conv_at {P : Program} {D : Nat → Prop} {w : World} {v : Value} {l : Bs} (h : Byt D w v l) {a : Nat} (ha : a < w.heap.size) (src e dst : TypeId) (hs : P.underlying src = some (.slice e)) (he : P.underlying e = some (.int .u8))
    (hd : P.underlying dst = some .string) : ∃ bb, bb < w.heap.size ∧ (bb = a ∨ D bb) ∧ ∀ W : World, W.heap[bb]? = w.heap[bb]? → (convert src dst v).run P W = .ok (str l) W := by
  by_cases hl : l = []
  · subst hl
    refine ⟨a, ha, .inl rfl, fun W _ => ?_⟩
    obtain ⟨A, c, rfl, hc, h⟩ := h
    exact run_convert_byt (D := D) (w := W) ⟨A, c, rfl, hc, fun hne => absurd rfl hne⟩ src e dst hs he hd
  · have hcv := h.conv src e dst hs he hd
    obtain ⟨A, c, rfl, hc, h⟩ := h
    obtain ⟨ad, rfl, hd, hcell⟩ := h hl
    refine ⟨ad.block, ?_, .inr hd, hcv⟩
    have := World.block_lt_of_cell? _ _ (hcell 0 _ (List.getElem?_eq_getElem (List.length_pos_iff.2 hl)))
    rwa [block_add] at this
/-- Are two rows of bytes the same? -/
theorem same_walk {w : World} {D : Nat → Prop} {v v' : Value} {ls ms : List Bs} (h : Byts D w v ls) (h' : Byts D w v' ms) (hl : ls.length ≤ 9223372036854775807) (hm : ms.length ≤ 9223372036854775807) :
    Calls Try.prog 44 #[v, v'] w fun e w' => e = .returned (.bool (decide (ls = ms))) ∧ Ext (fun _ => False) w w' := by
  obtain ⟨A, c, rfl, _⟩ := id h
  obtain ⟨A', c', rfl, _⟩ := id h'
  by_cases hlen : ls.length = ms.length
  · have hn : (((ls.length : Int)) != (ms.length : Int)) = false := by simp; omega
    have hn2 : (ls.length != ms.length) = false := by simp [hlen]
    have Hlen := Lib.hid hlen
    rw [← hlen]
    clear hn hn2 hlen
    go_enter Try.func44, Try.ntmps44
    go_wp2_with fail
    go_loopw [5] (fun i W => ∃ k : Nat, k ≤ ls.length ∧ i = .int .i64 k ∧ Ext (fun _ => False) w W ∧ ls.take k = ms.take k) (fun i _ => ls.length - (intOf i).toNat)
    case atStart => exact ⟨0, by omega, rfl, Ext.refl _ _, rfl⟩
    case round =>
      obtain ⟨k, hk, rfl, hx, htk⟩ := hrel
      by_cases hlt : k < ls.length
      · have hlt' : (k : Int) < (ls.length : Int) := by omega
        obtain ⟨g1, o1, c1, hA1, _, u1, hcell1, hu1⟩ := h.at hlt
        obtain ⟨g2, o2, c2, hA2, _, u2, hcell2, hu2⟩ := h'.at (show k < ms.length by rw [← Hlen.out]; exact hlt)
        obtain ⟨rfl, rfl⟩ : A = some ⟨g1, o1, none⟩ ∧ c = c1 := by simpa using hA1
        obtain ⟨rfl, rfl⟩ : A' = some ⟨g2, o2, none⟩ ∧ c' = c2 := by simpa using hA2
        clear hA1 hA2
        rw [Nat.mul_one] at hcell1 hcell2
        replace hcell1 := cell_same hcell1 hx
        replace hcell2 := cell_same hcell2 hx
        replace hu1 := hu1.same hx
        replace hu2 := hu2.same hx
        have hg1 := World.block_lt_of_cell? _ _ hcell1
        have ht1 : ls.take (k + 1) = ls.take k ++ [ls[k]] := List.take_succ_eq_append_getElem hlt
        have hm2 : k < ms.length := by rw [← Hlen.out]; exact hlt
        have ht2 : ms.take (k + 1) = ms.take k ++ [ms[k]] := List.take_succ_eq_append_getElem hm2
        have hne : ls[k] ≠ ms[k] → ls ≠ ms := fun hd e => hd (by subst e; rfl)
        generalize ls[k] = x1 at *
        generalize ms[k] = x2 at *
        obtain ⟨b1, _, _, hcv1⟩ := conv_at hu1 hg1 22 5 9 Try.underlying22 Try.underlying5 Try.underlying9
        obtain ⟨b2, _, _, hcv2⟩ := conv_at hu2 hg1 22 5 9 Try.underlying22 Try.underlying5 Try.underlying9
        have Hx := Lib.hid (And.intro hx (And.intro htk (And.intro ht1 (And.intro ht2 hne))))
        clear hx htk ht1 ht2 hne hu1 hu2 h h'
        by_cases hxx : x1 = x2
        · have hs : (x1 == x2) = true := by simpa using hxx
          have hs2 : (!x1 == x2) = false := by rw [hs]; rfl
          have Hxx := Lib.hid hxx
          clear hxx
          go_wp2_with fail
          refine wp_region_mix (Cls [g1, g2, b1, b2] _) [] [0, 1, 2, 3, 4, 5, 6, 7, 8, 9, 10] (by kernel_rfl) (by kernel_rfl) (Cls.refl _ _) ?_
          try dsimp only [wpMix, wpSegs, pick, List.getElem?_cons_zero, List.getElem?_cons_succ]
          generalize hz : Act.mk _ _ = z
          repeat (first | (refine wpQuiet_step (fun K hK => ?_); replace hK := Lib.hid hK; subst hz; go_simp; generalize hz : Act.mk _ _ = z; refine hK.out z ?_; clear hK K) | (refine wpQuiet_step (fun K hK => ?_); replace hK := Lib.hid hK; subst hz; refine iteSkip (by kernel_rfl) ?_; go_simp; generalize hz : Act.mk _ _ = z; refine hK.out z ?_; clear hK K))
          try refine wpQuiet_nil ?_
          subst hz
          try dsimp only [NoPan]
          go_wp2_with fail
          refine ⟨⟨k + 1, by omega, by go_num, Hx.out.1.drew, ?_⟩, by simp [intOf]; omega⟩
          rw [Hx.out.2.2.1, Hx.out.2.2.2.1, Hx.out.2.1, Hxx.out]
        · have hs : (x1 == x2) = false := by simpa using hxx
          have hs2 : (!x1 == x2) = true := by rw [hs]; rfl
          have Hxx := Lib.hid hxx
          clear hxx
          go_wp2_with fail
          refine wp_region_mix (Cls [g1, g2, b1, b2] _) [] [0, 1, 2, 3, 4, 5, 6, 7, 8, 9, 10] (by kernel_rfl) (by kernel_rfl) (Cls.refl _ _) ?_
          try dsimp only [wpMix, wpSegs, pick, List.getElem?_cons_zero, List.getElem?_cons_succ]
          generalize hz : Act.mk _ _ = z
          repeat (first | (refine wpQuiet_step (fun K hK => ?_); replace hK := Lib.hid hK; subst hz; go_simp; generalize hz : Act.mk _ _ = z; refine hK.out z ?_; clear hK K) | (refine wpQuiet_step (fun K hK => ?_); replace hK := Lib.hid hK; subst hz; refine iteSkip (by kernel_rfl) ?_; go_simp; generalize hz : Act.mk _ _ = z; refine hK.out z ?_; clear hK K))
          try refine wpQuiet_nil ?_
          subst hz
          try dsimp only [NoPan]
          go_wp2_with fail
          go_ret
          refine ⟨?_, Hx.out.1.drew⟩
          rw [decide_eq_false (Hx.out.2.2.2.2 Hxx.out)]
          rfl
      · have hke : k = ls.length := by omega
        subst hke
        have hlt' : ¬ (ls.length : Int) < (ls.length : Int) := by omega
        have he : ls = ms := by
          rw [List.take_of_length_le (Nat.le_refl _), Hlen.out, List.take_of_length_le (Nat.le_refl _)] at htk
          exact htk
        have Hx := Lib.hid (And.intro hx he)
        clear hx he htk h h'
        go_wp2_with fail
        go_ret
        exact ⟨by rw [decide_eq_true Hx.out.2]; rfl, Hx.out.1⟩
  · have hn : (((ls.length : Int)) != (ms.length : Int)) = true := by simp; omega
    have hn2 : (ls.length != ms.length) = true := by simp [hlen]
    have hn3 : (ls.length == ms.length) = false := by simp [hlen]
    have hd : decide (ls = ms) = false := decide_eq_false fun e => hlen (by rw [e])
    rw [hd]
    clear hd h h'
    go_enter Try.func44, Try.ntmps44
    go_wp2_with fail
    go_ret
    exact ⟨rfl, Ext.refl _ _⟩
end Go.Proofs.Ytoflfhjeabpcjaa
/- The document's Check: it answers as the program's; no condition. -/
namespace Go.Proofs.Ytoflfhjeabpcjaa
set_option linter.unusedVariables false
set_option linter.unusedSimpArgs false
open Go.RowKit

set_option maxRecDepth 100000 in
set_option maxHeartbeats 4000000 in
theorem dcheck5_walk {D D' : Nat → Prop} {w : World} {nn : Bool} {kv vv sv keyv : Value} {k v key root : Bs} {L : List PS} (h : PIs D w kv vv sv k v L) (hD : ∀ b, D b → b < w.heap.size) (hr : root.length = 32) (hk : Byt D' w keyv key) (hkl : key.length ≤ 140737488351232) :
    Calls Try.prog 43 #[.agg (sumA root), keyv, .agg #[.bool nn, kv, vv, sv]] w (CheckPost w (checkP root key nn k v L)) := by
  have H := Lib.hid (And.intro h hk)
  obtain ⟨Ak, ck, rfl, hkc, _⟩ := h.key
  obtain ⟨Av, cv, rfl, hvc, _⟩ := h.value
  obtain ⟨As, cs, rfl, hsc, _⟩ := h.steps
  obtain ⟨Ay, cy, rfl, hyc, _⟩ := hk
  have hsl := h.sl
  have hvl := h.vl
  clear h
  have g3 := heap_alloc_self w (.cells (sumA root) 29 (0, 0))
  have x3 := (Ext.refl (fun _ => False) w).alloc (.cells (sumA root) 29 (0, 0))
  have x5 := x3.alloc (.cells #[.bool nn, .slice Ak k.length ck, .slice Av v.length cv, .slice As L.length cs] 43 (0, 0))
  have g5 : ((w.alloc (.cells (sumA root) 29 (0, 0))).alloc (.cells #[.bool nn, .slice Ak k.length ck, .slice Av v.length cv, .slice As L.length cs] 43 (0, 0))).heap[w.heap.size + 1]? = some (.cells #[.bool nn, .slice Ak k.length ck, .slice Av v.length cv, .slice As L.length cs] 43 (0, 0)) := heap_alloc_at (by simp)
  have g3' : ((w.alloc (.cells (sumA root) 29 (0, 0))).alloc (.cells #[.bool nn, .slice Ak k.length ck, .slice Av v.length cv, .slice As L.length cs] 43 (0, 0))).heap[w.heap.size]? = some (.cells (sumA root) 29 (0, 0)) := by
    rw [heap_alloc_lt _ _ _ (by simp)]
    exact g3
  have HP := Lib.hid (And.intro g3' (And.intro g5 (And.intro x5 (H.out.1.same fun b hb => x5.heap_eq (hD b hb) id))))
  clear g3 x3 x5 g5 g3'
  go_enter Try.func43, Try.ntmps43
  go_wp2_with fail
  refine (dtexts5_walk (nn := nn) HP.out.2.2.2 (fun b hb => Nat.lt_of_lt_of_le (hD b hb) HP.out.2.2.1.size)).mono ?_
  rintro e w1 ⟨ov, vs, rfl, o1, n1, x1⟩
  have p3 := x1.heap HP.out.1 id
  have p5 := x1.heap HP.out.2.1 id
  have y1 := HP.out.2.2.1.trans x1
  have hb3 := lt_of_heap p3
  have hb5 := lt_of_heap p5
  have d0 : w1.cell? ⟨w.heap.size + 1, 0, none⟩ = some (.bool nn) := cells_at p5 0
  have d1 : w1.cell? ⟨w.heap.size + 1, 1, none⟩ = some (.slice Ak k.length ck) := cells_at p5 1
  have d2 : w1.cell? ⟨w.heap.size + 1, 2, none⟩ = some (.slice Av v.length cv) := cells_at p5 2
  have d3 : w1.cell? ⟨w.heap.size + 1, 3, none⟩ = some (.slice As L.length cs) := cells_at p5 3
  rcases List.eq_nil_or_concat (textsP nn k v L) with ht | ⟨ls, T, ht⟩
  · have hov := n1 ht
    subst hov
    have H1 := Lib.hid (And.intro y1 (checkP_nil (root := root) (key := key) ht))
    have hnil : ∀ W, (binOp .eql 68 (.slice none 0 0) (.slice none 0 0)).run Try.prog W = .ok (.bool true) W := fun W => by rfl
    clear o1 n1 x1 p3 p5 y1 ht
    go_wp2_with fail
    refine wp_region_mix (Cls [w.heap.size, w.heap.size + 1] _) [([0, 1, 2, 3, 4, 5, 6, 7, 8, 9, 11], 10)] [12, 13] (by kernel_rfl) (by kernel_rfl) (Cls.refl _ _) ?_
    try dsimp only [wpMix, wpSegs, pick, List.getElem?_cons_zero, List.getElem?_cons_succ]
    generalize hz : Act.mk _ _ = z
    repeat (first | (refine wpQuiet_step (fun K hK => ?_); replace hK := Lib.hid hK; subst hz; go_simp; generalize hz : Act.mk _ _ = z; refine hK.out z ?_; clear hK K) | (refine wpQuiet_step (fun K hK => ?_); replace hK := Lib.hid hK; subst hz; refine iteSkip (by kernel_rfl) ?_; go_simp; generalize hz : Act.mk _ _ = z; refine hK.out z ?_; clear hK K))
    try refine wpQuiet_nil ?_
    subst hz
    try dsimp only [NoPan]
    go_wp2_with fail
    refine ⟨Cls.refl _ _, ?_⟩
    try dsimp only [wpMix, wpSegs, pick, List.getElem?_cons_zero, List.getElem?_cons_succ]
    generalize hz : Act.mk _ _ = z
    repeat (first | (refine wpQuiet_step (fun K hK => ?_); replace hK := Lib.hid hK; subst hz; go_simp; generalize hz : Act.mk _ _ = z; refine hK.out z ?_; clear hK K) | (refine wpQuiet_step (fun K hK => ?_); replace hK := Lib.hid hK; subst hz; refine iteSkip (by kernel_rfl) ?_; go_simp; generalize hz : Act.mk _ _ = z; refine hK.out z ?_; clear hK K))
    try refine wpQuiet_nil ?_
    subst hz
    try dsimp only [NoPan]
    go_wp2_with fail
    try dsimp only [wpMix, wpSegs, pick, List.getElem?_cons_zero, List.getElem?_cons_succ]
    generalize hz : Act.mk _ _ = z
    repeat (first | (refine wpQuiet_step (fun K hK => ?_); replace hK := Lib.hid hK; subst hz; go_simp; generalize hz : Act.mk _ _ = z; refine hK.out z ?_; clear hK K) | (refine wpQuiet_step (fun K hK => ?_); replace hK := Lib.hid hK; subst hz; refine iteSkip (by kernel_rfl) ?_; go_simp; generalize hz : Act.mk _ _ = z; refine hK.out z ?_; clear hK K))
    try refine wpQuiet_nil ?_
    subst hz
    try dsimp only [NoPan]
    go_wp2_with fail
    go_ret3
    refine ⟨.slice none 0 0, by rw [H1.out.2]; rfl, by rw [H1.out.2]; exact .inl ⟨rfl, rfl⟩, fun q hq => by simp [Value.ownBlock] at hq, H1.out.1.drew⟩
  · rw [List.concat_eq_append] at ht
    rw [ht] at o1
    obtain ⟨g, c, u, rfl, hu, hT, hNg, hgl, hmc⟩ := ownRows_last o1
    have hTl := textsP_le nn k v L T (by rw [ht]; simp)
    obtain ⟨AT, cT, rfl⟩ := hT.formv
    have hcons := checkP_cons (root := root) (key := key) ht
    have hPI := H.out.1.same fun b hb => y1.heap_eq (hD b hb) id
    have hrow := Lib.hid (cls_heapq (D := [w.heap.size, w.heap.size + 1, g]) (w0 := w1.drew) (by simp) p3)
    have hm62 : ls.length ≤ 1099511627776 + 1 := by
      have h1 := congrArg List.length ht
      rw [List.length_append, List.length_singleton] at h1
      unfold textsP at h1
      split at h1
      · split at h1
        · rw [List.length_singleton] at h1; omega
        · rw [scanT_len, List.length_reverse] at h1; omega
      · rw [List.length_nil] at h1; omega
    have H1 := Lib.hid (And.intro y1 (And.intro hT (And.intro hPI (And.intro hcons (H.out.2.same y1)))))
    clear o1 n1 x1 p3 p5 y1 ht hT hPI hcons
    generalize ls.length = m at *
    have hwm : IntKind.i64.wrap (m : Int) = (m : Int) := IntWalk.i64_in _ (by omega)
    have hwm2 : IntKind.i64.wrap ((m : Int) + 1 - 1) = (m : Int) := by rw [IntWalk.i64_in _ (by omega)]; omega
    have hi1 : decide ((m : Int) < (m : Int) + 1) = true := by rw [decide_eq_true_iff]; omega
    have hi3 : (m : Int) < (m : Int) + 1 := by omega
    have hi4 : m < m + 1 := by omega
    obtain ⟨bd, hbd⟩ : ∃ bd, bd = decide (rawB T = root) := ⟨_, rfl⟩
    have hz : (((m : Int) + 1) == 0) = false := by rw [beq_eq_false_iff_ne]; omega
    have hneq : ∀ W, (binOp .neq 29 (.agg (sumA (rawB T))) (.agg (sumA root))).run Try.prog W = .ok (.bool (!bd)) W := fun W => by rw [sumA_neq (rawB_len _) hr, hbd]
    have HBD := Lib.hid hbd
    clear hbd
    cases bd with
    | false =>
      have hne : ¬ rawB T = root := by have := HBD.out; simpa using this
      have hre : checkP root key nn k v L = ([], false, 5) := by rw [H1.out.2.2.2.1, if_pos (.inl hne)]
      have HRE := Lib.hid hre
      clear hne hre
      go_wp2_with fail
      refine wp_region_mix (Cls [w.heap.size, w.heap.size + 1, g] _) [([0, 1, 2, 3, 4, 5, 6, 7, 8, 9, 11], 10)] [12, 13] (by kernel_rfl) (by kernel_rfl) (Cls.refl _ _) ?_
      try dsimp only [wpMix, wpSegs, pick, List.getElem?_cons_zero, List.getElem?_cons_succ]
      generalize hz : Act.mk _ _ = z
      repeat (first | (subst hz; (refine wpQuiet_load_rowq 29 (.tmp 3) rfl (by kernel_rfl) w.heap.size rfl 29 (sumA root) (0, 0) _ hrow.out Try.underlying29 rfl (info_sum hr) ?_); generalize hz : Act.put _ _ _ = z) | (refine wpQuiet_step (fun K hK => ?_); replace hK := Lib.hid hK; subst hz; go_simp; generalize hz : Act.mk _ _ = z; refine hK.out z ?_; clear hK K) | (refine wpQuiet_step (fun K hK => ?_); replace hK := Lib.hid hK; subst hz; refine iteSkip (by kernel_rfl) ?_; go_simp; generalize hz : Act.mk _ _ = z; refine hK.out z ?_; clear hK K))
      try refine wpQuiet_nil ?_
      subst hz
      try dsimp only [NoPan]
      go_wp2_with fail
      refine (draw_walk (l := T) (H1.out.2.1.byt.same (Ext.refl (fun _ => False) w1).drew) (by omega)).mono ?_
      rintro e w2 ⟨rfl, x2⟩
      rw [sumV_A]
      have H2 := Lib.hid x2
      clear x2
      go_wp2_with fail
      refine ⟨Cls.of_ext H2.out fun q hq => ⟨by simp at hq; rcases hq with rfl | rfl | rfl <;> assumption, id⟩, ?_⟩
      try dsimp only [wpMix, wpSegs, pick, List.getElem?_cons_zero, List.getElem?_cons_succ]
      generalize hz : Act.mk _ _ = z
      repeat (first | (subst hz; (refine wpQuiet_load_rowq 29 (.tmp 3) rfl (by kernel_rfl) w.heap.size rfl 29 (sumA root) (0, 0) _ hrow.out Try.underlying29 rfl (info_sum hr) ?_); generalize hz : Act.put _ _ _ = z) | (refine wpQuiet_step (fun K hK => ?_); replace hK := Lib.hid hK; subst hz; go_simp; generalize hz : Act.mk _ _ = z; refine hK.out z ?_; clear hK K) | (refine wpQuiet_step (fun K hK => ?_); replace hK := Lib.hid hK; subst hz; refine iteSkip (by kernel_rfl) ?_; go_simp; generalize hz : Act.mk _ _ = z; refine hK.out z ?_; clear hK K))
      try refine wpQuiet_nil ?_
      subst hz
      try dsimp only [NoPan]
      go_wp2_with fail
      go_ret3
      refine ⟨.slice none 0 0, by rw [HRE.out]; rfl, by rw [HRE.out]; exact .inl ⟨rfl, rfl⟩, fun q hq => by simp [Value.ownBlock] at hq, H1.out.1.trans ((Ext.refl (fun _ => False) w1).drew.trans H2.out)⟩
    | true =>
      have heq : rawB T = root := by have := HBD.out; simpa using this
      have HEQ := Lib.hid heq
      clear heq
      go_wp2_with fail
      refine wp_region_mix (Cls [w.heap.size, w.heap.size + 1, g] _) [([0, 1, 2, 3, 4, 5, 6, 7, 8, 9, 11], 10)] [12, 13] (by kernel_rfl) (by kernel_rfl) (Cls.refl _ _) ?_
      try dsimp only [wpMix, wpSegs, pick, List.getElem?_cons_zero, List.getElem?_cons_succ]
      generalize hz : Act.mk _ _ = z
      repeat (first | (subst hz; (refine wpQuiet_load_rowq 29 (.tmp 3) rfl (by kernel_rfl) w.heap.size rfl 29 (sumA root) (0, 0) _ hrow.out Try.underlying29 rfl (info_sum hr) ?_); generalize hz : Act.put _ _ _ = z) | (refine wpQuiet_step (fun K hK => ?_); replace hK := Lib.hid hK; subst hz; go_simp; generalize hz : Act.mk _ _ = z; refine hK.out z ?_; clear hK K) | (refine wpQuiet_step (fun K hK => ?_); replace hK := Lib.hid hK; subst hz; refine iteSkip (by kernel_rfl) ?_; go_simp; generalize hz : Act.mk _ _ = z; refine hK.out z ?_; clear hK K))
      try refine wpQuiet_nil ?_
      subst hz
      try dsimp only [NoPan]
      go_wp2_with fail
      refine (draw_walk (l := T) (H1.out.2.1.byt.same (Ext.refl (fun _ => False) w1).drew) (by omega)).mono ?_
      rintro e w2 ⟨rfl, x2⟩
      rw [sumV_A]
      have H2 := Lib.hid x2
      clear x2
      go_wp2_with fail
      refine ⟨Cls.of_ext H2.out fun q hq => ⟨by simp at hq; rcases hq with rfl | rfl | rfl <;> assumption, id⟩, ?_⟩
      try dsimp only [wpMix, wpSegs, pick, List.getElem?_cons_zero, List.getElem?_cons_succ]
      generalize hz : Act.mk _ _ = z
      repeat (first | (subst hz; (refine wpQuiet_load_rowq 29 (.tmp 3) rfl (by kernel_rfl) w.heap.size rfl 29 (sumA root) (0, 0) _ hrow.out Try.underlying29 rfl (info_sum hr) ?_); generalize hz : Act.put _ _ _ = z) | (refine wpQuiet_step (fun K hK => ?_); replace hK := Lib.hid hK; subst hz; go_simp; generalize hz : Act.mk _ _ = z; refine hK.out z ?_; clear hK K) | (refine wpQuiet_step (fun K hK => ?_); replace hK := Lib.hid hK; subst hz; refine iteSkip (by kernel_rfl) ?_; go_simp; generalize hz : Act.mk _ _ = z; refine hK.out z ?_; clear hK K))
      try refine wpQuiet_nil ?_
      subst hz
      try dsimp only [NoPan]
      have xw2 : Ext (fun _ => False) w w2 := H1.out.1.trans ((Ext.refl (fun _ => False) w1).drew.trans H2.out)
      have x12 : Ext (fun _ => False) w1 w2 := (Ext.refl (fun _ => False) w1).drew.trans H2.out
      have e0 := cell_same d0 x12
      have e1 := cell_same d1 x12
      have e2 := cell_same d2 x12
      have e3 := cell_same d3 x12
      have HW := Lib.hid (And.intro xw2 (And.intro e0 (And.intro e1 (And.intro e2 e3))))
      have hb2 : w.heap.size + 1 < w2.heap.size := Nat.lt_of_lt_of_le hb5 x12.size
      clear d0 d1 d2 d3 e0 e1 e2 e3 xw2 x12
      go_wp2_with fail
      go_loopw [10] (fun i W => ∃ q : Nat, q ≤ L.length ∧ i = .int .i64 q ∧ agreesP key L = agreesP key (L.drop q) ∧ Ext (fun _ => False) w2 W) (fun i _ => L.length - (intOf i).toNat)
      case atStart => exact ⟨0, Nat.zero_le _, rfl, rfl, Ext.refl _ _⟩
      case round =>
        obtain ⟨q, hq, rfl, hag, hx⟩ := hrel
        have e0 := cell_same HW.out.2.1 hx
        have e1 := cell_same HW.out.2.2.1 hx
        have e2 := cell_same HW.out.2.2.2.1 hx
        have e3 := cell_same HW.out.2.2.2.2 hx
        have xw := HW.out.1.trans hx
        have hwb : w.heap.size + 1 < wr.heap.size := Nat.lt_of_lt_of_le hb2 hx.size
        by_cases hlt : q < L.length
        · have hql : decide ((q : Int) < (L.length : Int)) = true := by simp; omega
          obtain ⟨gs, o, c', hav, hdb, hst⟩ := H.out.1.steps.at hlt
          simp only [Value.slice.injEq, true_and] at hav
          obtain ⟨rfl, rfl⟩ := hav
          have hagd : agreesP key (L.drop q) = ((bitI key L[q].bit == L[q].right) && agreesP key (L.drop (q + 1))) := by rw [List.drop_eq_getElem_cons hlt]; simp only [agreesP, List.all_cons]
          rw [hagd] at hag
          generalize L[q] = x at *
          have c0 : wr.cell? ⟨gs, o + q * 34, none⟩ = some (.int .i64 x.bit) := cell_same (hst.2 0 _ rfl) xw
          have c1 : wr.cell? ⟨gs, o + q * 34 + 1, none⟩ = some (.bool x.right) := cell_same (hst.2 1 _ rfl) xw
          have hgs : gs < wr.heap.size := Nat.lt_of_lt_of_le (hD gs hdb) xw.size
          obtain ⟨rr, hrr⟩ : ∃ rr, rr = x.right := ⟨_, rfl⟩
          rw [← hrr] at c1
          have HX := Lib.hid (And.intro hag (And.intro hx (And.intro xw hrr)))
          clear hag hx xw hrr hst hagd
          go_wp2_with fail
          refine wp_region_mix (Cls [w.heap.size + 1, gs] _) [([0, 1, 2, 3, 4, 5, 6, 8, 9, 10, 11, 12, 13], 7)] [14] (by kernel_rfl) (by kernel_rfl) (Cls.refl _ _) ?_
          try dsimp only [wpMix, wpSegs, pick, List.getElem?_cons_zero, List.getElem?_cons_succ]
          generalize hz : Act.mk _ _ = z
          repeat (first | (refine wpQuiet_step (fun K hK => ?_); replace hK := Lib.hid hK; subst hz; go_simp; generalize hz : Act.mk _ _ = z; refine hK.out z ?_; clear hK K) | (refine wpQuiet_step (fun K hK => ?_); replace hK := Lib.hid hK; subst hz; refine iteSkip (by kernel_rfl) ?_; go_simp; generalize hz : Act.mk _ _ = z; refine hK.out z ?_; clear hK K))
          try refine wpQuiet_nil ?_
          subst hz
          try dsimp only [NoPan]
          go_wp2_with fail
          refine (dbit_walk (H.out.2.same (HX.out.2.2.1.drew)) (by omega) x.bit).mono ?_
          rintro e w5 ⟨rfl, rfl⟩
          obtain ⟨bb, hbb⟩ : ∃ bb, bb = bitI key x.bit := ⟨_, rfl⟩
          rw [← hbb]
          have HB := Lib.hid hbb
          clear hbb
          cases bb <;> cases rr
          case false.true | true.false =>
            go_wp2_with fail
            refine ⟨Cls.refl _ _, ?_⟩
            try dsimp only [wpMix, wpSegs, pick, List.getElem?_cons_zero, List.getElem?_cons_succ]
            generalize hz : Act.mk _ _ = z
            repeat (first | (refine wpQuiet_step (fun K hK => ?_); replace hK := Lib.hid hK; subst hz; go_simp; generalize hz : Act.mk _ _ = z; refine hK.out z ?_; clear hK K) | (refine wpQuiet_step (fun K hK => ?_); replace hK := Lib.hid hK; subst hz; refine iteSkip (by kernel_rfl) ?_; go_simp; generalize hz : Act.mk _ _ = z; refine hK.out z ?_; clear hK K))
            try refine wpQuiet_nil ?_
            subst hz
            try dsimp only [NoPan]
            go_wp2_with fail
            go_ret3
            have hre : checkP root key nn k v L = ([], false, 5) := by rw [H1.out.2.2.2.1, if_pos (.inr (by rw [HX.out.1, ← HB.out, ← HX.out.2.2.2]; rfl))]
            exact ⟨.slice none 0 0, by rw [hre]; rfl, by rw [hre]; exact .inl ⟨rfl, rfl⟩, fun q hq => by simp [Value.ownBlock] at hq, HX.out.2.2.1.drew⟩
          case false.false | true.true =>
            go_wp2_with fail
            refine ⟨Cls.refl _ _, ?_⟩
            try dsimp only [wpMix, wpSegs, pick, List.getElem?_cons_zero, List.getElem?_cons_succ]
            generalize hz : Act.mk _ _ = z
            repeat (first | (refine wpQuiet_step (fun K hK => ?_); replace hK := Lib.hid hK; subst hz; go_simp; generalize hz : Act.mk _ _ = z; refine hK.out z ?_; clear hK K) | (refine wpQuiet_step (fun K hK => ?_); replace hK := Lib.hid hK; subst hz; refine iteSkip (by kernel_rfl) ?_; go_simp; generalize hz : Act.mk _ _ = z; refine hK.out z ?_; clear hK K))
            try refine wpQuiet_nil ?_
            subst hz
            try dsimp only [NoPan]
            go_wp2_with fail
            exact ⟨⟨q + 1, by omega, by go_num, by rw [HX.out.1, ← HB.out, ← HX.out.2.2.2]; simp, HX.out.2.1.drew⟩, by simp [intOf]; omega⟩
        · have hql : decide ((q : Int) < (L.length : Int)) = false := by simp; omega
          have hagt : agreesP key L = true := by rw [hag, List.drop_eq_nil_of_le (by omega)]; rfl
          have HRE := Lib.hid (show checkP root key nn k v L = if nn = true ∨ k ≠ key then ([], false, 0) else (v, true, 0) by
            rw [H1.out.2.2.2.1, if_neg (by rintro (h | h); exact h HEQ.out; rw [hagt] at h; cases h)])
          have HX := Lib.hid xw
          cases nn with
          | true =>
            clear xw hx hag hagt
            go_wp2_with fail
            go_ret3
            have hre : checkP root key true k v L = ([], false, 0) := by rw [HRE.out]; simp
            exact ⟨.slice none 0 0, by rw [hre]; rfl, by rw [hre]; exact .inl ⟨rfl, rfl⟩, fun q hq => by simp [Value.ownBlock] at hq, HX.out⟩
          | false =>
            have hwg : w.heap.size < wr.heap.size := by omega
            have hkb := H.out.1.key.same xw
            obtain ⟨b1, hb1, hc1⟩ := hkb.convS hwg 22 5 9 Try.underlying22 Try.underlying5 Try.underlying9
            obtain ⟨b2, hb2', hc2⟩ := (H.out.2.same xw).convS hwg 22 5 9 Try.underlying22 Try.underlying5 Try.underlying9
            have cv1 := hc1 wr rfl
            have cv2 := hc2 wr rfl
            clear xw hx hag hagt hc1 hc2 hkb
            by_cases hkk : k = key
            · have hre : checkP root key false k v L = (v, true, 0) := by rw [HRE.out]; simp [hkk]
              have HR2 := Lib.hid hre
              have heq : (k == key) = true := by simpa using hkk
              clear hre hkk
              go_wp2_with (refine wpList_append_bytes rfl _ _ 22 rfl Try.underlying22 info8p (sv := .slice (some ⟨wr.heap.size, 0, none⟩) 0 0) (xv := .slice Av v.length cv) (l := []) rfl rfl (fresh_empty wr).own (H.out.1.value.same (HX.out.trans (fresh_empty wr).ext)) (by simp; omega) ?_; intro v3 w3 hown3 hx3 hb3)
              go_ret3
              have hn3 : ∀ q, v3.ownBlock = some q → wr.heap.size ≤ q := fun q hq => by
                rcases hb3 with h | ⟨b, h, hb⟩
                · rw [h] at hq
                  simp only [Value.ownBlock, Option.some.injEq] at hq
                  omega
                · rw [h] at hq
                  simp only [Option.some.injEq] at hq
                  have := (fresh_empty wr).ext.size
                  omega
              exact ⟨_, by rw [HR2.out]; rfl, by rw [HR2.out]; simpa using hown3, fun q hq => Nat.le_trans HX.out.size (hn3 q hq), (HX.out.trans (fresh_empty wr).ext).trans' hx3 fun b hb => .inr (by simp only [Value.ownBlock, Option.some.injEq] at hb; have := HX.out.size; omega)⟩
            · have hre : checkP root key false k v L = ([], false, 0) := by rw [HRE.out]; simp [hkk]
              have HR2 := Lib.hid hre
              have heq : (k == key) = false := by simpa using hkk
              clear hre hkk
              go_wp2_with fail
              go_ret3
              exact ⟨.slice none 0 0, by rw [HR2.out]; rfl, by rw [HR2.out]; exact .inl ⟨rfl, rfl⟩, fun q hq => by simp [Value.ownBlock] at hq, HX.out⟩
end Go.Proofs.Ytoflfhjeabpcjaa
/- Rows of one's own: as rows of bytes, as rows that may be written all over; no condition. -/
namespace Go.Proofs.Ytoflfhjeabpcjaa
set_option linter.unusedVariables false
set_option linter.unusedSimpArgs false
open Go.RowKit

theorem OwnRows.rows8 {N : Nat} {w : World} {v : Value} {vs : List Value} {ls : List Bs} (h : OwnRows N w v vs ls) : Rows8 w v vs := by
  have hb : ∀ k, v.ownBlock = some k → ∀ u ∈ vs, u.ownBlock ≠ some k := by
    intro k hk u hu e
    obtain ⟨i, hi, he⟩ := List.mem_iff_getElem.1 hu
    obtain ⟨cs, hcs⟩ := own_ty h.row k hk
    obtain ⟨cs', fr, hcs'⟩ := (h.each i u _ (by rw [List.getElem?_eq_getElem hi, he]) (List.getElem?_eq_getElem (by rw [← h.len]; exact hi))).ty k e
    rw [hcs] at hcs'
    simp at hcs'
  refine ⟨?_, fun u hu => ?_, h.apart⟩
  · rcases h.row.2 with ⟨h1, h2⟩ | ⟨g, cap, cur, h1, _, h3, h4, _, h5, h6⟩
    · refine ⟨none, 0, by rw [h1, h.len, h2], by rw [h.len, h2]; exact Nat.le_refl _, fun hne => ?_⟩
      exact absurd (List.eq_nil_of_length_eq_zero (by rw [h.len, h2])) hne
    · refine ⟨_, cap, by rw [h1, h.len], by rw [h.len]; exact h4, fun _ => ⟨g, 0, rfl, hb g (by rw [h1]; rfl), fun i x hx => ?_⟩⟩
      have h7 := congrArg (fun l => l[i]?) h6
      have hlt : i < vs.length := (List.getElem?_eq_some_iff.1 hx).1
      have hl := h.len
      simp only [hx] at h7
      rw [List.getElem?_take_of_lt (by omega)] at h7
      show w.cell? ⟨g, 0 + i * 1, none⟩ = some x
      rw [cells_at h3, show 0 + i * 1 = i by omega]
      simpa using h7
  · obtain ⟨i, hi, he⟩ := List.mem_iff_getElem.1 hu
    exact (h.each i u _ (by rw [List.getElem?_eq_getElem hi, he]) (List.getElem?_eq_getElem (by rw [← h.len]; exact hi))).capA
theorem rows_at {N : Nat} {w : World} {v : Value} {vs : List Value} {ls : List Bs} (h : OwnRows N w v vs ls) {i : Nat} (hi : i < ls.length) :
    ∃ g c u, v = .slice (some ⟨g, 0, none⟩) ls.length c ∧ N ≤ g ∧ w.cell? ⟨g, i, none⟩ = some u ∧ OwnB w u ls[i] ∧ vs[i]? = some u := by
  have hv : i < vs.length := by rw [h.len]; exact hi
  rcases h.row.2 with ⟨_, h2⟩ | ⟨g, cap, cur, h1, hg, h3, h4, _, _, h6⟩
  · omega
  · refine ⟨g, cap, vs[i], h1, hg, ?_, h.each i _ _ (List.getElem?_eq_getElem hv) (List.getElem?_eq_getElem hi), List.getElem?_eq_getElem hv⟩
    rw [cells_at h3]
    have h7 := congrArg (fun l => l[i]?) h6
    simp only [List.getElem?_eq_getElem hv] at h7
    rw [List.getElem?_take_of_lt (by omega)] at h7
    simpa using h7
theorem OwnRows.byts {N : Nat} {w : World} {v : Value} {vs : List Value} {ls : List Bs} (h : OwnRows N w v vs ls) : Byts (fun _ => True) w v ls := by
  obtain ⟨A, c, rfl⟩ := own_slice_form h.row
  refine ⟨A, c, rfl, ?_, fun hn => ?_⟩
  · rcases h.row.2 with ⟨h1, h2⟩ | ⟨g, cap, cur, h1, hg, h3, h4, h5, h6, h7⟩
    · omega
    · simp only [Value.slice.injEq] at h1
      have := h.len
      have h8 := congrArg List.length h7
      simp at h8
      omega
  · have hp : 0 < ls.length := List.length_pos_iff.2 hn
    obtain ⟨g, c', u, e, _⟩ := rows_at h hp
    simp only [Value.slice.injEq] at e
    refine ⟨g, 0, e.1, trivial, fun i l hl => ?_⟩
    have hi := (List.getElem?_eq_some_iff.1 hl).1
    obtain ⟨g2, c2, u2, e2, _, hc, hb, _⟩ := rows_at h hi
    simp only [Value.slice.injEq] at e2
    have : g2 = g := by have := e.1.symm.trans e2.1; simp at this; omega
    subst this
    have hli : ls[i] = l := by simpa [List.getElem?_eq_getElem hi] using hl
    refine ⟨u2, by simpa using hc, ?_⟩
    rw [← hli]
    exact hb.byt.mono fun _ _ => trivial
theorem OwnRows.in_ {N : Nat} {w : World} {v : Value} {vs : List Value} {ls : List Bs} (h : OwnRows N w v vs ls) : ∀ u ∈ vs, ∀ k, u.ownBlock = some k → N ≤ k ∧ k < w.heap.size := fun u hu k hk => by
  obtain ⟨i, hi⟩ := List.mem_iff_getElem?.1 hu
  have hl := (List.getElem?_eq_some_iff.1 hi).1
  exact ⟨h.from_ i u k hi hk, (h.each i u _ hi (List.getElem?_eq_getElem (by rw [← h.len]; exact hl))).lt k hk⟩
theorem StepsR.mono {D D' : Nat → Prop} {w : World} {v : Value} {L : List PS} (h : StepsR D w v L) (hD : ∀ b, D b → D' b) : StepsR D' w v L := by
  obtain ⟨A, c, rfl, hc, h⟩ := h
  refine ⟨A, c, rfl, hc, fun hl => ?_⟩
  obtain ⟨g, o, rfl, hd, hx⟩ := h hl
  exact ⟨g, o, rfl, hD g hd, hx⟩
end Go.Proofs.Ytoflfhjeabpcjaa
/- A tree of entries, a key's proof, and whether a proof is short; no condition. -/
namespace Go.Proofs.Ytoflfhjeabpcjaa
set_option linter.unusedVariables false
set_option linter.unusedSimpArgs false
open Go.RowKit

set_option maxRecDepth 100000 in
set_option maxHeartbeats 1000000 in
theorem pmade_walk {w0 w : World} {D : Nat → Prop} {lv : Value} {l : List (Bs × Bs)} (hL : Row (EntryIs D) 2 D w lv l) (hl : l.length ≤ 9223372036854775807) (hx : Ext (fun _ => False) w0 w) :
    Calls Try.prog 48 #[lv] w fun e w' => ∃ c o, e = .returned (ptrV c) ∧ TM w0 w' c o ∧ (Tr.entsO o).length ≤ 12 ∧ Ext (fun _ => False) w w' ∧
      (∀ a b c1 d : Bs, l = [(a, b), (c1, d)] → ∃ o1, PutO a b none o1 ∧ PutO c1 d o1 o) := by
  have HL := Lib.hid hL
  obtain ⟨A, cp, rfl, hcap, _⟩ := id hL
  clear hL
  go_enter Try.func48, Try.ntmps48
  go_wp2_with fail
  refine (tm_new (w0 := w) (Ext.refl _ _)).mono ?_
  rintro e w1 ⟨rfl, h1⟩
  have H1 := Lib.hid h1
  clear h1
  generalize w.heap.size = c at *
  go_wp2_with fail
  go_loopw [4] (fun i W => ∃ (q : Nat) (o : Option Tr), q ≤ l.length ∧ q ≤ 12 ∧ i = .int .i64 q ∧ TM w W c o ∧ (Tr.entsO o).length ≤ q ∧ (q = 0 → o = none) ∧ (∀ x, q = 1 → l[0]? = some x → PutO x.1 x.2 none o) ∧ (∀ x y, q = 2 → l[0]? = some x → l[1]? = some y → ∃ o1, PutO x.1 x.2 none o1 ∧ PutO y.1 y.2 o1 o)) (fun i _ => 12 - (intOf i).toNat)
  case atStart => exact ⟨0, none, Nat.zero_le _, by omega, rfl, H1.out, Nat.le_refl _, fun _ => rfl, fun _ h => by omega, fun _ _ h => by omega⟩
  case round =>
    obtain ⟨q, o, hq, hq12, rfl, hT, hn, h0, h1, h2⟩ := hrel
    have hfin : q = l.length → ∀ a b c1 d : Bs, l = [(a, b), (c1, d)] → ∃ o1, PutO a b none o1 ∧ PutO c1 d o1 o := fun hql a b c1 d hl => by
      subst hl
      exact h2 (a, b) (c1, d) hql rfl rfl
    by_cases hlt : q < l.length
    · by_cases h12 : q < 12
      · have hql : decide ((q : Int) < (l.length : Int)) = true := by simp; omega
        have hq1 : decide ((q : Int) < 12) = true := by simp; omega
        obtain ⟨g, off, c', hav, hdb, ⟨⟨a, b, c0, c1, ha, hb⟩, la, lb⟩⟩ := HL.out.at hlt
        simp only [Value.slice.injEq, true_and] at hav
        obtain ⟨rfl, rfl⟩ := hav
        have d0 := cell_same c0 hT.2.2
        have d1 := cell_same c1 hT.2.2
        have hgl : g < wr.heap.size := World.block_lt_of_cell? _ _ d0
        have hx0 : l[q]? = some l[q] := List.getElem?_eq_getElem hlt
        have HT := Lib.hid (And.intro hT (And.intro hn (And.intro h0 (And.intro h1 h2))))
        have HB := Lib.hid (And.intro ha (And.intro hb (And.intro la (And.intro lb hx0))))
        clear hT hn h0 h1 h2 ha hb la lb hx0 c0 c1 hfin
        generalize l[q] = x at *
        go_wp2_with fail
        refine wp_region_bar (Cls [g] _) [] [0, 1, 2, 3, 4, 5, 6, 7, 8, 9, 10] 11 [] [] (by kernel_rfl) (by kernel_rfl) (Cls.refl _ _) ?_
        try dsimp only [wpMix, wpSegs, pick, List.getElem?_cons_zero, List.getElem?_cons_succ]
        generalize hz : Act.mk _ _ = z
        repeat (first | (refine wpQuiet_step (fun K hK => ?_); replace hK := Lib.hid hK; subst hz; go_simp; generalize hz : Act.mk _ _ = z; refine hK.out z ?_; clear hK K) | (refine wpQuiet_step (fun K hK => ?_); replace hK := Lib.hid hK; subst hz; refine iteSkip (by kernel_rfl) ?_; go_simp; generalize hz : Act.mk _ _ = z; refine hK.out z ?_; clear hK K))
        try refine wpQuiet_nil ?_
        subst hz
        try dsimp only [NoPan]
        go_wp2_with fail
        refine (tm_put (k := x.1) (v := x.2) (HT.out.1.still (Ext.refl _ _).drew) (HB.out.1.same HT.out.1.2.2.drew) (HB.out.2.1.same HT.out.1.2.2.drew) (by have := HT.out.2.1; omega)).mono ?_
        rintro e w2 ⟨o2, rfl, p2, h2, x2⟩
        have H2 := Lib.hid (And.intro h2 p2)
        clear h2 p2 x2 d0 d1
        go_wp2_with fail
        try dsimp only [wpMix, wpSegs, pick, List.getElem?_cons_zero, List.getElem?_cons_succ]
        generalize hz : Act.mk _ _ = z
        repeat (first | (refine wpQuiet_step (fun K hK => ?_); replace hK := Lib.hid hK; subst hz; go_simp; generalize hz : Act.mk _ _ = z; refine hK.out z ?_; clear hK K) | (refine wpQuiet_step (fun K hK => ?_); replace hK := Lib.hid hK; subst hz; refine iteSkip (by kernel_rfl) ?_; go_simp; generalize hz : Act.mk _ _ = z; refine hK.out z ?_; clear hK K))
        try refine wpQuiet_nil ?_
        subst hz
        try dsimp only [NoPan]
        go_wp2_with fail
        refine ⟨⟨q + 1, o2, by omega, by omega, by go_num, H2.out.1, by have := H2.out.2.len; have := HT.out.2.1; omega, fun h => by omega, fun y hq1 hy => ?_, fun y z hq1 hy hz => ?_⟩, by simp [intOf]; omega⟩
        · have hq0 : q = 0 := by omega
          subst hq0
          have h3 := HB.out.2.2.2.2
          rw [hy] at h3
          have h4 := HT.out.2.2.1 rfl
          have h5 := H2.out.2
          rw [h4] at h5
          rw [Option.some.inj h3]
          exact h5
        · have hq0 : q = 1 := by omega
          subst hq0
          have h3 := HB.out.2.2.2.2
          rw [hz] at h3
          rw [Option.some.inj h3]
          exact ⟨o, HT.out.2.2.2.1 y rfl hy, H2.out.2⟩
      · have hql : decide ((q : Int) < (l.length : Int)) = true := by simp; omega
        have hq1 : decide ((q : Int) < 12) = false := by simp; omega
        have HT := Lib.hid (And.intro hT hn)
        clear hT hn h0 h1 h2
        go_wp2_with fail
        go_ret
        refine ⟨c, o, rfl, ⟨by obtain ⟨⟨D1, a1, a2⟩, _⟩ := HT.out.1; exact ⟨D1, a1, fun b hb => Nat.le_trans hx.size (a2 b hb)⟩, Nat.le_trans hx.size HT.out.1.2.1, hx.trans HT.out.1.2.2⟩, by have := HT.out.2; omega, HT.out.1.2.2, fun a b c1 d hl => ?_⟩
        have : l.length = 2 := by rw [hl]; rfl
        omega
    · have hql : decide ((q : Int) < (l.length : Int)) = false := by simp; omega
      have HT := Lib.hid (And.intro hT hn)
      clear hT hn h0 h1 h2
      go_wp2_with fail
      go_ret
      exact ⟨c, o, rfl, ⟨by obtain ⟨⟨D1, a1, a2⟩, _⟩ := HT.out.1; exact ⟨D1, a1, fun b hb => Nat.le_trans hx.size (a2 b hb)⟩, Nat.le_trans hx.size HT.out.1.2.1, hx.trans HT.out.1.2.2⟩, by have := HT.out.2; omega, HT.out.1.2.2, hfin (by omega)⟩
end Go.Proofs.Ytoflfhjeabpcjaa
/- A proof that was made, in plain words: it holds against the tree's root; no condition. -/
namespace Go.Proofs.Ytoflfhjeabpcjaa
set_option linter.unusedVariables false
set_option linter.unusedSimpArgs false
open Go.RowKit

def stOf (s : Nat × Bool × Tr) : PS := ⟨s.1, s.2.1, sumT s.2.2⟩
theorem stOf_V (s : Nat × Bool × Tr) : stepV (stOf s) = stC s := rfl
theorem path_bound : ∀ {t : Tr}, t.ok → ∀ (q : Bs), ∀ s ∈ t.path q, s.1 ≤ 9 * (t.last q).1.length
  | .leaf _ _, _, _, _, h => by cases h
  | .fork b l r, ho, q, s, h => by
    obtain ⟨ol, or, hfl, hfr, hag⟩ := ho
    cases hb : bitB q b with
    | true =>
      rw [Tr.path, hb, if_pos rfl] at h
      rw [Tr.last, hb, if_pos rfl]
      rcases List.mem_cons.1 h with rfl | h
      · have h1 := hfr _ (r.last_mem q)
        unfold bitB at h1
        split at h1
        · cases h1
        · simp only at *; omega
      · exact path_bound or q s h
    | false =>
      rw [Tr.path, hb, if_neg (by decide)] at h
      rw [Tr.last, hb, if_neg (by decide)]
      rcases List.mem_cons.1 h with rfl | h
      · refine Nat.le_of_not_lt fun hlt => ?_
        simp only at hlt
        obtain ⟨f, hf⟩ := r.some_ent
        have h1 := hfr f hf
        have h2 := hag _ (l.last_mem q) f hf (9 * (l.last q).1.length) hlt
        have h3 : b < 9 * f.1.length := by
          unfold bitB at h1
          split at h1
          · cases h1
          · omega
        have h4 : bitB (l.last q).1 (9 * (l.last q).1.length) = false := by unfold bitB; rw [if_pos (Nat.le_refl _)]
        have h5 : bitB f.1 (9 * (l.last q).1.length) = true := by
          unfold bitB
          rw [if_neg (by omega), if_pos (by omega)]
        rw [h4, h5] at h2
        cases h2
      · exact path_bound ol q s h
theorem rises_of {n : Nat} : ∀ (M : List (Nat × Bool × Tr)) (last : Int), M.Pairwise (fun s s' => s.1 < s'.1) → (∀ s ∈ M, last < (s.1 : Int)) → (∀ s ∈ M, s.1 ≤ 9 * n) → risesP n last (M.map stOf) = true
  | [], _, _, _, _ => rfl
  | s :: r, last, hp, hl, hb => by
    obtain ⟨p1, p2⟩ := List.pairwise_cons.1 hp
    have h1 := hl s (List.mem_cons_self ..)
    have h2 := hb s (List.mem_cons_self ..)
    rw [List.map_cons, risesP_cons, rises_of r (stOf s).bit p2 (fun x hx => by have := p1 x hx; show (s.1 : Int) < x.1; omega) (fun x hx => hb x (List.mem_cons_of_mem _ hx))]
    have h3 : decide (last < (stOf s).bit) = true := by rw [decide_eq_true_iff]; exact h1
    have h4 : decide ((stOf s).bit ≤ 9 * (n : Int)) = true := by rw [decide_eq_true_iff]; show (s.1 : Int) ≤ _; omega
    rw [h3, h4]
    rfl
theorem agrees_of {k : Bs} {M : List (Nat × Bool × Tr)} (h : ∀ s ∈ M, bitB k s.1 = s.2.1) : agreesP k (M.map stOf) = true := by
  unfold agreesP
  rw [List.all_eq_true]
  intro x hx
  obtain ⟨s, hs, rfl⟩ := List.mem_map.1 hx
  show (bitI k (s.1 : Int) == s.2.1) = true
  rw [bitI_nat, h s hs]
  simp
theorem textR_okP {nm : Bs} {ls : List Bs} (hn : nm.length ≤ 16) (hl : ls.length ≤ 4095) (h : ∀ l ∈ ls, l.length ≤ 65536) : (textR nm ls).2 = 0 := by
  unfold textR
  rw [if_neg (by omega)]
  refine rowR_short (by simp; omega) fun l hm => ?_
  rcases List.mem_cons.1 hm with rfl | hm
  · omega
  · exact h l hm
theorem raw_noneT : rawB noneT = rootS none := by
  show _ = (ofR _ _).1
  unfold ofR
  rw [if_pos (textR_okP (by decide) (by simp) (by simp))]
  rfl
theorem raw_leafT {k v : Bs} (hk : k.length ≤ 65536) (hv : v.length ≤ 65536) : rawB (leafT k v) = sumT (.leaf k v) := by
  show _ = (ofR _ _).1
  unfold ofR
  rw [if_pos (textR_okP (by decide) (by simp) (by simp; exact ⟨hk, hv⟩))]
  rfl
theorem raw_forkT (b : Nat) (l r : Tr) : rawB (forkT b (sumT l) (sumT r)) = sumT (.fork b l r) := by
  show _ = (ofR _ _).1
  unfold ofR
  rw [if_pos (textR_okP (by decide) (by simp) (by simp [sumT_len, beB_len]))]
  rfl
theorem raw_path (q : Bs) : ∀ {t : Tr}, t.ok → rawB (lastT (leafT (t.last q).1 (t.last q).2) ((t.path q).map stOf).reverse) = sumT t
  | .leaf k v, ho => by
    show rawB (leafT k v) = _
    exact raw_leafT (by have := ho.1; omega) (by have := ho.2; omega)
  | .fork b l r, ho => by
    obtain ⟨ol, or, _⟩ := ho
    cases hb : bitB q b with
    | true =>
      rw [Tr.path, Tr.last, hb, if_pos rfl, if_pos rfl, List.map_cons, List.reverse_cons, lastT_snoc]
      unfold nextT
      rw [show (stOf (b, true, l)).right = true from rfl, if_pos rfl, raw_path q or]
      exact raw_forkT b l r
    | false =>
      rw [Tr.path, Tr.last, hb, if_neg (by decide), if_neg (by decide), List.map_cons, List.reverse_cons, lastT_snoc]
      unfold nextT
      rw [show (stOf (b, false, r)).right = false from rfl, if_neg (by decide), raw_path q ol]
      exact raw_forkT b l r
/-- A made proof may be. -/
theorem may_made {o : Option Tr} (ho : Tr.okO o) (q : Bs) : mayP o.isNone (endO o q).1 (endO o q).2 ((pathO o q).map stOf) = true := by
  cases o with
  | none => rfl
  | some t =>
    have hf := Tr.ok_ent ho _ (t.last_mem q)
    show mayP false (t.last q).1 (t.last q).2 ((t.path q).map stOf) = true
    unfold mayP
    rw [if_neg (by decide), rises_of _ _ (Tr.path_rises ho q) (fun s _ => by omega) (path_bound ho q), agrees_of (Tr.path_last ho q)]
    simp [hf.1, hf.2]
/-- A made proof holds, and tells what the tree has. -/
theorem check_made {o : Option Tr} (ho : Tr.okO o) (q : Bs) : checkP (rootS o) q o.isNone (endO o q).1 (endO o q).2 ((pathO o q).map stOf) = (gotB (Tr.get o q), (Tr.get o q).isSome, 0) := by
  have hm := may_made ho q
  cases o with
  | none =>
    have ht : textsP true [] [] [] = [] ++ [noneT] := rfl
    show checkP (rootS none) q true [] [] [] = _
    rw [checkP_cons ht, if_neg (by rw [raw_noneT]; rintro (h | h); exact h rfl; cases h), if_pos (.inl rfl)]
    rfl
  | some t =>
    have hc : checkP (sumT t) q false (t.last q).1 (t.last q).2 ((t.path q).map stOf) = if (t.last q).1 ≠ q then ([], false, 0) else ((t.last q).2, true, 0) := by
      unfold checkP
      have ht : textsP false (t.last q).1 (t.last q).2 ((t.path q).map stOf) = scanT (leafT (t.last q).1 (t.last q).2) ((t.path q).map stOf).reverse := by
        unfold textsP
        rw [if_pos (show mayP false (t.last q).1 (t.last q).2 ((t.path q).map stOf) = true from hm), if_neg (by decide)]
      rw [ht, scanT_last]
      simp only
      rw [if_neg (by rw [raw_path q ho, agrees_of (Tr.path_bit t q)]; rintro (h | h); exact h rfl; cases h)]
      simp
    show checkP (sumT t) q false (t.last q).1 (t.last q).2 ((t.path q).map stOf) = _
    rw [hc]
    have hg : Tr.get (some t) q = if (t.last q).1 = q then some (t.last q).2 else none := rfl
    rw [hg]
    by_cases h : (t.last q).1 = q
    · rw [if_neg (fun hn => hn h), if_pos h]; rfl
    · rw [if_pos h, if_neg h]; rfl
/-- The steps of a path in memory. -/
theorem steps_of_own {w : World} {N : Nat} {sv : Value} {M : List (Nat × Bool × Tr)} (h : w.ownsRow N 48 34 sv M.length (M.flatMap stC)) : StepsR (fun b => sv.ownBlock = some b) w sv (M.map stOf) := by
  obtain ⟨A, c, rfl⟩ := own_form h
  have hlen : (M.map stOf).length = M.length := List.length_map ..
  refine ⟨A, c, by rw [hlen], ?_, fun hne => ?_⟩
  · rcases h.2 with ⟨h1, h0⟩ | ⟨g, cap, cur, h1, _, _, h4, _⟩
    · rw [hlen, h0]; exact Nat.zero_le _
    · simp only [Value.slice.injEq] at h1
      rw [hlen, h1.2.2]
      exact h4
  · rcases h.2 with ⟨h1, h0⟩ | ⟨g, cap, cur, h1, _, hg, h4, _, hsz, htk⟩
    · exact absurd (List.eq_nil_of_length_eq_zero (by rw [hlen, h0])) hne
    · simp only [Value.slice.injEq] at h1
      obtain ⟨rfl, _, rfl⟩ := h1
      refine ⟨g, 0, rfl, rfl, fun i x hi => ?_⟩
      obtain ⟨s, hs, rfl⟩ : ∃ s, M[i]? = some s ∧ stOf s = x := by
        rw [List.getElem?_map] at hi
        cases hm : M[i]? with
        | none => rw [hm] at hi; cases hi
        | some s => rw [hm] at hi; exact ⟨s, rfl, Option.some.inj hi⟩
      have hil := (List.getElem?_eq_some_iff.1 hs).1
      refine ⟨sumT_len _, fun j u hj => ?_⟩
      rw [stOf_V] at hj
      have hjl : j < 34 := by rw [← stC_len s]; exact (List.getElem?_eq_some_iff.1 hj).1
      rw [cells_at hg, ← hj, ← flatMap_at (f := stC) (m := 34) stC_len M i j s hjl hs, ← htk, List.getElem?_take_of_lt (by omega), Array.getElem?_toList]
      rw [show 0 + i * 34 + j = 34 * i + j by omega]
set_option maxRecDepth 100000 in
/-- A key's proof is made. -/
theorem make_walk {w0 w : World} {Dk : Nat → Prop} {c : Nat} {o : Option Tr} {kv : Value} {k : Bs} (h : TM w0 w c o) (hk : Byt Dk w kv k) (hkl : k.length ≤ 140737488355328) (hn : (Tr.entsO o).length ≤ 1099511627776) :
    Calls Try.prog 56 #[ptrV c, kv] w fun e w' => ∃ ka va sv, e = .returned (.agg #[.bool o.isNone, ka, va, sv]) ∧ PIs (fun b => b < w'.heap.size) w' ka va sv (endO o k).1 (endO o k).2 ((pathO o k).map stOf) ∧ TM w0 w' c o ∧ Ext (fun _ => False) w w' := by
  have hg := heap_alloc_self w (.cells #[.bool false, .slice none 0 0, .slice none 0 0, .slice none 0 0] 43 (0, 0))
  have hx := (Ext.refl (fun _ => False) w).alloc (.cells #[.bool false, .slice none 0 0, .slice none 0 0, .slice none 0 0] 43 (0, 0))
  have HW := Lib.hid (tm_path (k := k) (h.still hx) (hk.same hx) hkl hn)
  have hfit : (endO o k).1.length ≤ 120 ∧ (endO o k).2.length ≤ 1200 := by
    cases o with
    | none => exact ⟨Nat.zero_le _, Nat.zero_le _⟩
    | some t => exact h.fit _ (t.last_mem k)
  have hpl : (pathO o k).length ≤ 1099511627776 := by
    cases o with
    | none => exact Nat.zero_le _
    | some t => have := Tr.path_len t k; show (t.path k).length ≤ _; have e : (Tr.entsO (some t)).length = t.ents.length := rfl; omega
  have HH := Lib.hid (And.intro hg (And.intro hx h))
  obtain ⟨A, cp, rfl, _, _⟩ := hk
  clear hg hx h
  go_enter Try.func56, Try.ntmps56
  go_wp2_with fail
  refine HW.out.mono ?_
  rintro e w2 ⟨ka, va, sv, rfl, o1, o2, n1, n2, r2, h2, x2⟩
  obtain ⟨A1, c1, rfl⟩ := o1.formv
  obtain ⟨A2, c2, rfl⟩ := o2.formv
  obtain ⟨A3, c3, rfl⟩ := own_form r2
  have g2 := x2.heap HH.out.1 id
  have H2 := Lib.hid (And.intro o1 (And.intro o2 (And.intro n1 (And.intro n2 (And.intro r2 (And.intro h2 x2))))))
  clear o1 o2 n1 n2 r2 h2 x2
  go_wp2_with (refine wpList_store_row rfl 43 _ _ rfl w.heap.size _ rfl rfl 43 _ g2 (by kernel_rfl) (by kernel_rfl) (by kernel_rfl) ?_)
  refine bodyPost_ret (results_cell_row rfl _ _ w.heap.size 43 #[.bool o.isNone, .slice A1 (endO o k).1.length c1, .slice A2 (endO o k).2.length c2, .slice A3 (pathO o k).length c3] (0, 0) _ rfl (setRow_heap _ _ _ _ _ _ g2) Try.underlying43 rfl (by kernel_rfl)) rfl ?_
  have x3 : Ext (· = w.heap.size) w2 (w2.setRow w.heap.size #[.bool o.isNone, .slice A1 (endO o k).1.length c1, .slice A2 (endO o k).2.length c2, .slice A3 (pathO o k).length c3]) := (Ext.refl (· = w.heap.size) w2).setRow (.inl rfl) _
  obtain ⟨o1, o2, n1, n2, r2, h2, x2⟩ := H2.out
  have hsz : (w.alloc (.cells #[.bool false, .slice none 0 0, .slice none 0 0, .slice none 0 0] 43 (0, 0))).heap.size = w.heap.size + 1 := by simp
  have q1 := o1.ext x3 fun q hq e => by have := n1 q hq; omega
  have q2 := o2.ext x3 fun q hq e => by have := (n2 q hq).1; omega
  have q3 := own_ext r2 x3 fun q hq e => by have := own_base r2 q hq; omega
  refine ⟨_, _, _, rfl, ⟨q1.byt.mono fun b hb => q1.lt b hb, q2.byt.mono fun b hb => q2.lt b hb, ?_, by have := hfit.1; omega, by have := hfit.2; omega, by rw [List.length_map]; exact hpl⟩, HH.out.2.2.far (HH.out.2.1.trans x2) x3 (fun b hb => by omega), ((HH.out.2.1.trans x2).mono (F1 := fun b => b = w.heap.size ∧ False) fun _ _ h => h.elim).trans' x3 (fun b hb => .inr (by omega)) |>.mono fun _ _ h => h.2⟩
  obtain ⟨A', c', e1, h3, h4⟩ := steps_of_own q3
  refine ⟨A', c', e1, h3, fun hne => ?_⟩
  obtain ⟨g, o', e2, h5, h6⟩ := h4 hne
  refine ⟨g, o', e2, ?_, h6⟩
  obtain ⟨x, hx⟩ := List.exists_mem_of_ne_nil _ hne
  obtain ⟨i, hi⟩ := List.mem_iff_getElem?.1 hx
  exact World.block_lt_of_cell? _ _ ((h6 i x hi).2 0 _ rfl)
end Go.Proofs.Ytoflfhjeabpcjaa
/- The small case of the proofs: vestrylaw05.small answers true; no condition. -/
namespace Go.Proofs.Ytoflfhjeabpcjaa
set_option linter.unusedVariables false
set_option linter.unusedSimpArgs false
open Go.RowKit

theorem row_two {V : World} {b : Nat} {x0 x1 x2 x3 : Value} {k1 v1 k2 v2 : Bs} (hb : V.heap[b]? = some (.cells #[x0, x1, x2, x3] 24 (0, 0))) (h0 : Byt (fun _ => True) V x0 k1) (h1 : Byt (fun _ => True) V x1 v1) (h2 : Byt (fun _ => True) V x2 k2) (h3 : Byt (fun _ => True) V x3 v2)
    (l0 : k1.length ≤ 9) (l1 : v1.length ≤ 9) (l2 : k2.length ≤ 9) (l3 : v2.length ≤ 9) : Row (EntryIs (fun _ => True)) 2 (fun _ => True) V (.slice (some ⟨b, 0, none⟩) 2 2) [(k1, v1), (k2, v2)] := by
  refine ⟨_, 2, rfl, Nat.le_refl _, fun _ => ⟨b, 0, rfl, trivial, fun i x hi => ?_⟩⟩
  match i with
  | 0 =>
    simp at hi
    subst hi
    exact ⟨⟨x0, x1, cells_at hb 0, cells_at hb 1, h0, h1⟩, by show k1.length ≤ _; omega, by show v1.length ≤ _; omega⟩
  | 1 =>
    simp at hi
    subst hi
    exact ⟨⟨x2, x3, cells_at hb 2, cells_at hb 3, h2, h3⟩, by show k2.length ≤ _; omega, by show v2.length ≤ _; omega⟩
  | j + 2 => simp at hi
theorem one_byt {V W : World} {b : Nat} {c : UInt8} (hb : V.heap[b]? = some (.cells #[.int .u8 c.toNat] 5 (1, 2))) (hx : Ext (fun _ => False) V W) : Byt (fun _ => True) W (.slice (some ⟨b, 0, none⟩) 1 1) [c] :=
  ((Byt.const (l := [c]) hb rfl 1 rfl).mono fun _ _ => trivial).same hx
theorem checkP_not {root key : Bs} {nn : Bool} {k v : Bs} {L : List PS} (h : agreesP key L = false) : checkP root key nn k v L = ([], false, 5) := by
  unfold checkP
  split
  · rfl
  · rw [if_pos (.inr h)]
def oSm : Option Tr := some (.fork 7 (.leaf [97] [49]) (.leaf [98] [50]))
theorem oSm_a (h : Tr.okO oSm) : checkP (rootS oSm) [97] false (endO oSm [97]).1 (endO oSm [97]).2 ((pathO oSm [97]).map stOf) = ([49], true, 0) := (check_made h [97]).trans rfl
theorem oSm_c (h : Tr.okO oSm) : checkP (rootS oSm) [99] false (endO oSm [99]).1 (endO oSm [99]).2 ((pathO oSm [99]).map stOf) = ([], false, 0) := (check_made h [99]).trans rfl
theorem oSm_b : checkP (rootS oSm) [97] false (endO oSm [98]).1 (endO oSm [98]).2 ((pathO oSm [98]).map stOf) = ([], false, 5) := checkP_not rfl
set_option maxRecDepth 100000 in
set_option maxHeartbeats 1000000 in
theorem psmall_walk (w : World) : Calls Try.prog 34 #[] w fun e w' => e = .returned (.bool true) ∧ Ext (fun _ => False) w w' := by
  have kc := fun (w : World) (C : Array Value) (n c : Nat) => Lib.run_convert_bytes_const (P := Try.prog) w 22 5 C n c Try.underlying22 Try.underlying5
  have kc2 : ∀ (w : World) (o1 : Obj) (C : Array Value) (n c : Nat), (convert 22 22 (.slice (some ⟨w.heap.size + 1, 0, none⟩) n c)).run Try.prog ((w.alloc o1).alloc (.cells C 5)) = .ok (.slice (some ⟨w.heap.size + 1, 0, none⟩) n c) ((w.alloc o1).alloc (.cells C 5 (C.size, C.size + 1))) := fun w o1 C n c => by
    have h := kc (w.alloc o1) C n c
    rwa [show (w.alloc o1).heap.size = w.heap.size + 1 by simp] at h
  have kc3 : ∀ (w : World) (o1 o2 : Obj) (C : Array Value) (n c : Nat), (convert 22 22 (.slice (some ⟨w.heap.size + 1 + 1, 0, none⟩) n c)).run Try.prog (((w.alloc o1).alloc o2).alloc (.cells C 5)) = .ok (.slice (some ⟨w.heap.size + 1 + 1, 0, none⟩) n c) (((w.alloc o1).alloc o2).alloc (.cells C 5 (C.size, C.size + 1))) := fun w o1 o2 C n c => by
    have h := kc ((w.alloc o1).alloc o2) C n c
    rwa [show ((w.alloc o1).alloc o2).heap.size = w.heap.size + 1 + 1 by simp] at h
  have kc4 : ∀ (w : World) (o1 o2 o3 : Obj) (C : Array Value) (n c : Nat), (convert 22 22 (.slice (some ⟨w.heap.size + 1 + 1 + 1, 0, none⟩) n c)).run Try.prog ((((w.alloc o1).alloc o2).alloc o3).alloc (.cells C 5)) = .ok (.slice (some ⟨w.heap.size + 1 + 1 + 1, 0, none⟩) n c) ((((w.alloc o1).alloc o2).alloc o3).alloc (.cells C 5 (C.size, C.size + 1))) := fun w o1 o2 o3 C n c => by
    have h := kc (((w.alloc o1).alloc o2).alloc o3) C n c
    rwa [show (((w.alloc o1).alloc o2).alloc o3).heap.size = w.heap.size + 1 + 1 + 1 by simp] at h
  go_enter Try.func34, Try.ntmps34
  go_wp2_with fail
  have a1 := fun (V : World) (c : UInt8) => heap_alloc_self V (.cells #[.int .u8 c.toNat] 5 (1, 2))
  have xa := fun (V : World) (o : Obj) => (Ext.refl (fun _ => False) V).alloc o
  have b0 := fun o1 o2 o3 o4 => one_byt (a1 w 97) (((((xa _ o1).alloc o2).alloc o3).alloc o4))
  have b1 := fun V (h : V.heap.size = w.heap.size + 1) o2 o3 o4 => one_byt (a1 V 49) ((((xa _ o2).alloc o3).alloc o4))
  refine (pmade_walk (w0 := w) (row_two (k1 := [97]) (v1 := [49]) (k2 := [98]) (v2 := [50]) (heap_alloc_at (by simp)) ?_ ?_ ?_ ?_ (by decide) (by decide) (by decide) (by decide)) (by simp) (((((xa _ _).alloc _).alloc _).alloc _).alloc _)).mono ?_
  · exact b0 _ _ _ _
  · have := one_byt (a1 (w.alloc (.cells #[.int .u8 97] 5 (1, 2))) 49) ((((xa _ (.cells #[.int .u8 98] 5 (1, 2))).alloc (.cells #[.int .u8 50] 5 (1, 2))).alloc (.cells #[.slice (some ⟨w.heap.size, 0, none⟩) 1 1, .slice (some ⟨w.heap.size + 1, 0, none⟩) 1 1, .slice (some ⟨w.heap.size + 1 + 1, 0, none⟩) 1 1, .slice (some ⟨w.heap.size + 1 + 1 + 1, 0, none⟩) 1 1] 24 (0, 0))))
    rwa [show (w.alloc (.cells #[.int .u8 97] 5 (1, 2))).heap.size = w.heap.size + 1 by simp] at this
  · have := one_byt (a1 ((w.alloc (.cells #[.int .u8 97] 5 (1, 2))).alloc (.cells #[.int .u8 49] 5 (1, 2))) 98) (((xa _ (.cells #[.int .u8 50] 5 (1, 2))).alloc (.cells #[.slice (some ⟨w.heap.size, 0, none⟩) 1 1, .slice (some ⟨w.heap.size + 1, 0, none⟩) 1 1, .slice (some ⟨w.heap.size + 1 + 1, 0, none⟩) 1 1, .slice (some ⟨w.heap.size + 1 + 1 + 1, 0, none⟩) 1 1] 24 (0, 0))))
    rwa [show ((w.alloc (.cells #[.int .u8 97] 5 (1, 2))).alloc (.cells #[.int .u8 49] 5 (1, 2))).heap.size = w.heap.size + 1 + 1 by simp] at this
  · have := one_byt (a1 (((w.alloc (.cells #[.int .u8 97] 5 (1, 2))).alloc (.cells #[.int .u8 49] 5 (1, 2))).alloc (.cells #[.int .u8 98] 5 (1, 2))) 50) ((xa _ (.cells #[.slice (some ⟨w.heap.size, 0, none⟩) 1 1, .slice (some ⟨w.heap.size + 1, 0, none⟩) 1 1, .slice (some ⟨w.heap.size + 1 + 1, 0, none⟩) 1 1, .slice (some ⟨w.heap.size + 1 + 1 + 1, 0, none⟩) 1 1] 24 (0, 0))))
    rwa [show (((w.alloc (.cells #[.int .u8 97] 5 (1, 2))).alloc (.cells #[.int .u8 49] 5 (1, 2))).alloc (.cells #[.int .u8 98] 5 (1, 2))).heap.size = w.heap.size + 1 + 1 + 1 by simp] at this
  rintro e w2 ⟨c, o, rfl, h2, n2, x2, hput⟩
  obtain ⟨o1, q1, q2⟩ := hput _ _ _ _ rfl
  obtain rfl := small_tree q1 q2
  have H2 := Lib.hid (show TM w w2 c oSm from h2)
  clear h2 n2 x2 hput q1 q2 a1 b0 b1
  have HO := Lib.hid H2.out.okO
  go_wp2_with fail
  refine (tm_root H2.out).mono ?_
  rintro e r3 ⟨rfl, hr3, xr3⟩
  rw [sumV_A]
  have HR3 := Lib.hid (And.intro hr3 xr3)
  clear hr3 xr3
  go_wp2_with fail
  have k3 := one_byt (c := 97) (heap_alloc_self r3 (.cells #[.int .u8 97] 5 (1, 2))) (xa _ (.cells #[.int .u8 97] 5 (1, 2)))
  have j3 := one_byt (c := 97) (heap_alloc_self (r3.alloc (.cells #[.int .u8 97] 5 (1, 2))) (.cells #[.int .u8 97] 5 (1, 2))) (Ext.refl _ _)
  rw [show (r3.alloc (.cells #[.int .u8 97] 5 (1, 2))).heap.size = r3.heap.size + 1 by simp] at j3
  have HK3 := Lib.hid k3
  clear k3
  refine (make_walk (k := [97]) (HR3.out.1.still ((xa _ _).alloc _)) j3 (by decide) (by decide)).mono ?_
  rintro e m3 ⟨ka3, va3, sv3, rfl, p3, t3, x3⟩
  have HM3 := Lib.hid (And.intro p3 (And.intro t3 x3))
  clear p3 t3 x3 j3
  go_wp2_with fail
  refine (check_walk (nn := false) HM3.out.1 (fun b hb => hb) (rootS_len _) (HK3.out.same HM3.out.2.2) (by decide)).mono ?_
  rintro e c3 ⟨ov3, rfl, o3, n3, x3⟩
  rw [oSm_a HO.out] at o3 ⊢
  obtain ⟨A3, cc3, rfl⟩ := o3.formv
  have HC3 := Lib.hid (And.intro o3 (And.intro n3 (And.intro x3 (HM3.out.2.1.still x3))))
  clear o3 n3 x3
  go_wp2_with fail
  refine (tm_root HC3.out.2.2.2).mono ?_
  rintro e r4 ⟨rfl, hr4, xr4⟩
  rw [sumV_A]
  have HR4 := Lib.hid (And.intro hr4 xr4)
  clear hr4 xr4
  go_wp2_with fail
  have k4 := one_byt (c := 99) (heap_alloc_self r4 (.cells #[.int .u8 99] 5 (1, 2))) (xa _ (.cells #[.int .u8 99] 5 (1, 2)))
  have j4 := one_byt (c := 99) (heap_alloc_self (r4.alloc (.cells #[.int .u8 99] 5 (1, 2))) (.cells #[.int .u8 99] 5 (1, 2))) (Ext.refl _ _)
  rw [show (r4.alloc (.cells #[.int .u8 99] 5 (1, 2))).heap.size = r4.heap.size + 1 by simp] at j4
  have HK4 := Lib.hid k4
  clear k4
  refine (make_walk (k := [99]) (HR4.out.1.still ((xa _ _).alloc _)) j4 (by decide) (by decide)).mono ?_
  rintro e m4 ⟨ka4, va4, sv4, rfl, p4, t4, x4⟩
  have HM4 := Lib.hid (And.intro p4 (And.intro t4 x4))
  clear p4 t4 x4 j4
  go_wp2_with fail
  refine (check_walk (nn := false) HM4.out.1 (fun b hb => hb) (rootS_len _) (HK4.out.same HM4.out.2.2) (by decide)).mono ?_
  rintro e c4 ⟨ov4, rfl, o4, n4, x4⟩
  rw [oSm_c HO.out] at o4 ⊢
  obtain ⟨A4, cc4, rfl⟩ := o4.formv
  have HC4 := Lib.hid (And.intro o4 (And.intro n4 (And.intro x4 (HM4.out.2.1.still x4))))
  clear o4 n4 x4
  go_wp2_with fail
  refine (tm_root HC4.out.2.2.2).mono ?_
  rintro e r5 ⟨rfl, hr5, xr5⟩
  rw [sumV_A]
  have HR5 := Lib.hid (And.intro hr5 xr5)
  clear hr5 xr5
  go_wp2_with fail
  have k5 := one_byt (c := 97) (heap_alloc_self r5 (.cells #[.int .u8 97] 5 (1, 2))) (xa _ (.cells #[.int .u8 98] 5 (1, 2)))
  have j5 := one_byt (c := 98) (heap_alloc_self (r5.alloc (.cells #[.int .u8 97] 5 (1, 2))) (.cells #[.int .u8 98] 5 (1, 2))) (Ext.refl _ _)
  rw [show (r5.alloc (.cells #[.int .u8 97] 5 (1, 2))).heap.size = r5.heap.size + 1 by simp] at j5
  have HK5 := Lib.hid k5
  clear k5
  refine (make_walk (k := [98]) (HR5.out.1.still ((xa _ _).alloc _)) j5 (by decide) (by decide)).mono ?_
  rintro e m5 ⟨ka5, va5, sv5, rfl, p5, t5, x5⟩
  have HM5 := Lib.hid (And.intro p5 (And.intro t5 x5))
  clear p5 t5 x5 j5
  go_wp2_with fail
  refine (check_walk (nn := false) HM5.out.1 (fun b hb => hb) (rootS_len _) (HK5.out.same HM5.out.2.2) (by decide)).mono ?_
  rintro e c5 ⟨ov5, rfl, o5, n5, x5⟩
  rw [oSm_b] at o5 ⊢
  obtain ⟨A5, cc5, rfl⟩ := o5.formv
  have HC5 := Lib.hid (And.intro o5 (And.intro n5 (And.intro x5 (HM5.out.2.1.still x5))))
  clear o5 n5 x5
  have cvf := (HC3.out.1.byt.same (((((HR4.out.2.trans ((xa _ _).alloc _)).trans HM4.out.2.2).trans HC4.out.2.2.1).trans ((HR5.out.2.trans ((xa _ _).alloc _)).trans HM5.out.2.2)).trans HC5.out.2.2.1)).conv 22 5 9 Try.underlying22 Try.underlying5 Try.underlying9 c5 rfl
  simp only [List.length_cons, List.length_nil, Nat.zero_add] at cvf
  go_wp2_with fail
  go_ret
  exact ⟨rfl, HC5.out.2.2.2.2.2⟩
end Go.Proofs.Ytoflfhjeabpcjaa
/- Whether a proof is short; a proof that may not be has no bytes; no condition. -/
namespace Go.Proofs.Ytoflfhjeabpcjaa
set_option linter.unusedVariables false
set_option linter.unusedSimpArgs false
open Go.RowKit

def shortP (k v : Bs) (L : List PS) : Bool := decide (k.length ≤ 4096) && decide (v.length ≤ 4096) && decide (L.length ≤ 2000)
set_option maxRecDepth 100000 in
set_option maxHeartbeats 1000000 in
theorem short_walk {D : Nat → Prop} {w : World} {nn : Bool} {kv vv sv : Value} {k v : Bs} {L : List PS} (hk : Byt D w kv k) (hv : Byt D w vv v) (hs : StepsR D w sv L) :
    Calls Try.prog 35 #[.agg #[.bool nn, kv, vv, sv]] w fun e w' => e = .returned (.bool (shortP k v L)) ∧ Ext (fun _ => False) w w' := by
  obtain ⟨Ak, ck, rfl, hkc, _⟩ := hk
  obtain ⟨Av, cv, rfl, hvc, _⟩ := hv
  obtain ⟨As, cs, rfl, hsc, _⟩ := hs
  by_cases h1 : k.length ≤ 4096
  · have h1' : decide ((k.length : Int) ≤ 4096) = true := by simp; omega
    have g1 : decide (k.length ≤ 4096) = true := by simpa using h1
    by_cases h2 : v.length ≤ 4096
    · have h2' : decide ((v.length : Int) ≤ 4096) = true := by simp; omega
      have g2 : decide (v.length ≤ 4096) = true := by simpa using h2
      by_cases h3 : L.length ≤ 2000
      · have h3' : decide ((L.length : Int) ≤ 2000) = true := by simp; omega
        have hr : shortP k v L = true := by unfold shortP; rw [g1, g2]; simpa using h3
        rw [hr]
        go_enter Try.func35, Try.ntmps35
        go_wp2_with fail
        go_ret
        exact ⟨rfl, (Ext.refl _ _).alloc _⟩
      · have h3' : decide ((L.length : Int) ≤ 2000) = false := by simp; omega
        have hr : shortP k v L = false := by unfold shortP; rw [g1, g2]; simpa using h3
        rw [hr]
        go_enter Try.func35, Try.ntmps35
        go_wp2_with fail
        go_ret
        exact ⟨rfl, (Ext.refl _ _).alloc _⟩
    · have h2' : decide ((v.length : Int) ≤ 4096) = false := by simp; omega
      have g2 : decide (v.length ≤ 4096) = false := by simpa using h2
      have hr : shortP k v L = false := by unfold shortP; rw [g1, g2]; rfl
      rw [hr]
      go_enter Try.func35, Try.ntmps35
      go_wp2_with fail
      go_ret
      exact ⟨rfl, (Ext.refl _ _).alloc _⟩
  · have h1' : decide ((k.length : Int) ≤ 4096) = false := by simp; omega
    have g1 : decide (k.length ≤ 4096) = false := by simpa using h1
    have hr : shortP k v L = false := by unfold shortP; rw [g1]; rfl
    rw [hr]
    go_enter Try.func35, Try.ntmps35
    go_wp2_with fail
    go_ret
    exact ⟨rfl, (Ext.refl _ _).alloc _⟩
set_option maxRecDepth 100000 in
theorem bytes_bad {D : Nat → Prop} {w : World} {nn : Bool} {kv vv sv : Value} {k v : Bs} {L : List PS} (h : PIs D w kv vv sv k v L) (hD : ∀ b, D b → b < w.heap.size) (hm : mayP nn k v L = false) :
    Calls Try.prog 46 #[.agg #[.bool nn, kv, vv, sv]] w fun e w' => e = .returned (.tuple #[.slice none 0 0, .int .i64 5]) ∧ Ext (fun _ => False) w w' := by
  have H := Lib.hid h
  obtain ⟨Ak, ck, rfl, hkc, _⟩ := h.key
  obtain ⟨Av, cv, rfl, hvc, _⟩ := h.value
  obtain ⟨As, cs, rfl, hsc, _⟩ := h.steps
  clear h
  have hx0 := (Ext.refl (fun _ => False) w).alloc (.cells #[.bool nn, .slice Ak k.length ck, .slice Av v.length cv, .slice As L.length cs] 43 (0, 0))
  have H0 := Lib.hid (And.intro hx0 (may_walk (nn := nn) (H.out.same fun b hb => hx0.heap_eq (hD b hb) id) (fun b hb => Nat.lt_of_lt_of_le (hD b hb) hx0.size)))
  clear hx0
  go_enter Try.func46, Try.ntmps46
  go_wp2_with fail
  refine H0.out.2.mono ?_
  rintro e w1 ⟨rfl, x1⟩
  rw [hm]
  have H1 := Lib.hid (H0.out.1.trans x1)
  clear x1
  go_wp2_with fail
  go_ret2
  exact ⟨rfl, H1.out⟩
end Go.Proofs.Ytoflfhjeabpcjaa
