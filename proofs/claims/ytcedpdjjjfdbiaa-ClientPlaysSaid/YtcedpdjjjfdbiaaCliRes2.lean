/- What a client was answered: Result; no condition. -/
import Derived.Test.YtcedpdjjjfdbiaaCliRes
namespace Go.Proofs.Ytcedpdjjjfdbiaa
set_option linter.unusedVariables false
set_option linter.unusedSimpArgs false
open Go.RowKit

theorem takeG_len : ∀ (n : Nat) (l : Bs) (a : Nat) (done : List Bs), (∀ x ∈ done, x.length ≤ 65536) → ∀ x ∈ (takeG n l a done).1, x.length ≤ 65536
  | 0, _, _, _, h => h
  | n + 1, l, a, done, h => by
    rw [takeG]
    by_cases h0 : (takeR (l.drop a)).2.2 = 0
    · rw [if_pos h0]
      refine takeG_len n l _ _ fun x hx => ?_
      rcases List.mem_append.1 hx with hx | hx
      · exact h x hx
      · simp at hx
        subst hx
        exact (takeR_ok h0).1
    · rw [if_neg h0]
      simp
theorem takeRow_len (l : Bs) : ∀ x ∈ (takeRow l).1, x.length ≤ 65536 := by
  unfold takeRow
  split
  · simp
  · split
    · simp
    · exact takeG_len _ _ _ _ (by simp)
theorem readR_len (id st : Int) (t : Bs) : (readR id st t).length ≤ 65536 := by
  unfold readR
  split
  · rename_i h
    rw [List.getD_eq_getElem?_getD, List.getElem?_eq_getElem (by omega)]
    exact takeRow_len t _ (List.getElem_mem _)
  · simp
theorem firstR_len (id st : Int) : ∀ ts : List Bs, (firstR id st ts).length ≤ 65536
  | [] => by simp [firstR]
  | t :: ts => by
    rw [firstR]
    split
    · exact firstR_len id st ts
    · exact readR_len id st t
theorem agreed_mem {n : Int} {S : List Bs} {b : Bs} (h : AgreedIs n S b) : b = [] ∨ (okN n ∧ b ≠ [] ∧ (fewQ n).toNat ≤ (S.take n.toNat).count b ∧ b ∈ S) := by
  rcases h with ⟨_, h⟩ | ⟨h1, h2⟩
  · exact .inl h
  · rcases h2 with ⟨h, _⟩ | ⟨⟨h3, h4⟩, _⟩
    · exact .inl h
    · refine .inr ⟨h1, h3, h4, ?_⟩
      obtain ⟨q, hq, hq0, _⟩ := few_pos h1
      have : 0 < (S.take n.toNat).count b := by rw [hq] at h4; simp at h4; omega
      exact List.mem_of_mem_take (List.count_pos_iff.1 this)
def saidC (f : Nat → Bs) (m k : Nat) : Array Value := ((List.range m).map fun j => str (if j < k then f j else [])).toArray
theorem saidC_get (f : Nat → Bs) (m k j : Nat) (hj : j < m) : (saidC f m k)[j]? = some (str (if j < k then f j else [])) := by
  simp [saidC, hj]
theorem saidC_size (f : Nat → Bs) (m k : Nat) : (saidC f m k).size = m := by simp [saidC]
theorem saidC_put (f : Nat → Bs) (m k : Nat) (hk : k < m) (s : Bs) (k' : Nat) (hs : ∀ j, j < m → (if j < k' then f j else []) = if j = k then s else if j < k then f j else []) : (saidC f m k).setIfInBounds k (str s) = saidC f m k' := by
  apply Array.ext_getElem?
  intro j
  by_cases hj : j < m
  · rw [saidC_get f m k' j hj, hs j hj]
    by_cases hjk : j = k
    · subst hjk
      rw [Array.getElem?_setIfInBounds_self_of_lt (by rw [saidC_size]; exact hj), if_pos rfl]
    · rw [Array.getElem?_setIfInBounds_ne (by omega), saidC_get f m k j hj, if_neg hjk]
  · rw [Array.getElem?_eq_none (by rw [Array.size_setIfInBounds, saidC_size]; omega), Array.getElem?_eq_none (by rw [saidC_size]; omega)]
theorem saidC_set (f : Nat → Bs) (m k : Nat) (hk : k < m) : (saidC f m k).setIfInBounds k (str (f k)) = saidC f m (k + 1) := saidC_put f m k hk _ _ fun j hj => by
  by_cases h : j = k
  · subst h; rw [if_pos (by omega), if_pos rfl]
  · rw [if_neg h]
    by_cases h2 : j < k
    · rw [if_pos h2, if_pos (by omega)]
    · rw [if_neg h2, if_neg (by omega)]
theorem saidC_same (f : Nat → Bs) (m k : Nat) (hk : k < m) : (saidC f m k).setIfInBounds k (str []) = saidC f m k := saidC_put f m k hk _ _ fun j hj => by
  by_cases h : j = k
  · subst h; rw [if_neg (by omega), if_pos rfl]
  · rw [if_neg h]
theorem saidC_none (f : Nat → Bs) (m k : Nat) (hk : k < m) (h : f k = []) : saidC f m k = saidC f m (k + 1) := by
  have h1 := saidC_set f m k hk
  rw [h, saidC_same f m k hk] at h1
  exact h1
theorem saidC_zero (f : Nat → Bs) (m : Nat) : madeCells #[.string ByteArray.empty] m = saidC f m 0 := by
  have h := toList_madeCells_one (.string ByteArray.empty) m
  apply Array.ext'
  rw [h, saidC]
  apply List.ext_getElem?
  intro j
  by_cases hj : j < m
  · simp [hj]
    rfl
  · simp [hj]
theorem run_make_strs (l : Nat) (hc : l ≤ 1048576) (u : World) : (Instr.makeSlice 63 (.int .i64 (l : Int)) (.int .i64 (l : Int))).run Try.prog u =
    .ok (.slice (some ⟨u.heap.size, 0, none⟩) l l) (u.alloc (.cells (madeCells #[.string ByteArray.empty] l) 9)) := by
  obtain ⟨i0, hi, hi2⟩ := Option.map_eq_some_iff.1 info_string
  simp only [Prod.mk.injEq] at hi2
  obtain ⟨hz0, hz1, hz2⟩ := hi2
  have h := run_make (P := Try.prog) u 63 9 i0 (.string ByteArray.empty) Try.underlying63 hi hz0 .i64 .i64 (l : Int) (l : Int) (by omega) (by omega) (by rw [hz2]; omega) (by omega)
  simpa [hz1, Value.cells] using h
theorem reader_mk (w : World) (a : Nat) (st : Int) : Calls Try.prog 31 #[.pointer (some ⟨a, 0, none⟩), .int .i64 st] w fun e w' =>
    e = .returned (.func (.func 46) #[] #[.pointer (some ⟨w.heap.size, 0, none⟩), .pointer (some ⟨w.heap.size + 1, 0, none⟩)]) ∧ w'.heap[w.heap.size]? = some (.cells #[.pointer (some ⟨a, 0, none⟩)] 29) ∧ w'.heap[w.heap.size + 1]? = some (.cells #[.int .i64 st] 3) ∧ Ext (fun _ => False) w w' := by
  have hmf : ∀ (fn : Fn) (first cap : Array Value) (w : World), (Instr.makeFunc fn first cap).run Try.prog w = .ok (.func fn first cap) w := fun _ _ _ _ => rfl
  have h1 := heap_alloc_self w (.cells #[.pointer (some ⟨a, 0, none⟩)] 29)
  have h2 := heap_alloc_self (w.alloc (.cells #[.pointer (some ⟨a, 0, none⟩)] 29)) (.cells #[.int .i64 st] 3)
  have hx := (Ext.refl (fun _ => False) (w.alloc (.cells #[.pointer (some ⟨a, 0, none⟩)] 29))).alloc (.cells #[.int .i64 st] 3)
  have hx0 := (Ext.refl (fun _ => False) w).alloc (.cells #[.pointer (some ⟨a, 0, none⟩)] 29)
  rw [show (w.alloc (.cells #[.pointer (some ⟨a, 0, none⟩)] 29)).heap.size = w.heap.size + 1 by simp] at h2
  have H := Lib.hid (And.intro (hx.heap h1 _root_.id) (And.intro h2 (hx0.trans hx)))
  clear h1 h2 hx hx0
  go_enter Try.func31, Try.ntmps31
  go_wp2_with fail
  go_ret
  exact ⟨rfl, H.out.1, H.out.2.1, H.out.2.2⟩
theorem said_texts {w : World} {g m : Nat} {f : Nat → Bs} (h : w.heap[g]? = some (.cells (saidC f m m) 9)) : Texts (fun _ => True) w (.slice (some ⟨g, 0, none⟩) m m) ((List.range m).map f) := by
  refine ⟨some ⟨g, 0, none⟩, m, by simp, by simp, fun _ => ⟨g, 0, rfl, trivial, fun i x hx => ?_⟩⟩
  have hi : i < m := by have := (List.getElem?_eq_some_iff.1 hx).1; simpa using this
  show w.cell? ⟨g, 0 + i * 1, none⟩ = some (str x)
  rw [cells_at h, show 0 + i * 1 = i by omega, saidC_get f m m i hi, if_pos hi]
  simp [hi] at hx
  rw [hx]
def ResPost (w : World) (n : Int) (S : List Bs) (e : Ending) (w' : World) : Prop := ∃ b v', AgreedIs n S b ∧ e = .returned (.tuple #[v', .bool (!b.isEmpty)]) ∧ FreshB w b v' w'

set_option maxRecDepth 100000 in
set_option maxHeartbeats 4000000 in
theorem cli_result {F : Nat → Prop} {w : World} {a r m : Nat} {id st : Int} {L : List (Int × Bs)} (hreg : RegRep F w r L) (hobj : w.heap[a]? = some (cliO r m id st)) (stamp : Int) (hm : m ≤ 1048576) (hG : ∀ p ∈ L, p.2.length ≤ 65536) (hL : L.length < 1073741824) :
    Calls Try.prog 14 #[.pointer (some ⟨a, 0, none⟩), .int .i64 stamp] w (ResPost w m (saidR id stamp m L)) := by
  have hmk := run_make_strs m hm
  have H := Lib.hid (And.intro hreg hobj)
  have hG' : ∀ who, ∀ s ∈ byL who L, s.length ≤ 65536 := fun who s hs => by
    simp only [byL, List.mem_map, List.mem_filter] at hs
    obtain ⟨p, ⟨hp, _⟩, rfl⟩ := hs
    exact hG p hp
  have hob0 := lt_of_heap hobj
  have hrl := hreg.lt
  clear hreg hobj hG
  go_enter Try.func14, Try.ntmps14
  go_wp2_with fail
  refine (reader_mk w a stamp).mono ?_
  rintro e w1 ⟨rfl, h2, h3, hx1⟩
  have c1 : w1.cell? ⟨a, 1, none⟩ = some (.int .i64 m) := cells_at (hx1.heap H.out.2 _root_.id) 1
  have hsz1 : w.heap.size + 1 < w1.heap.size := lt_of_heap h3
  have H1 := Lib.hid (And.intro h2 (And.intro h3 hx1))
  clear h2 h3 hx1
  go_wp2_with fail
  have hx2 := (Ext.refl (fun _ => False) w1).alloc (.cells (madeCells #[.string ByteArray.empty] m) 9)
  have hs2 := heap_alloc_self w1 (.cells (madeCells #[.string ByteArray.empty] m) 9)
  rw [saidC_zero (fun i => firstR id stamp (byL ((i : Int) + 1) L)) m] at hs2 hx2 ⊢
  generalize hf : (fun i : Nat => firstR id stamp (byL ((i : Int) + 1) L)) = f at *
  have hfa : ∀ i : Nat, firstR id stamp (byL ((i : Int) + 1) L) = f i := fun i => by rw [← hf]
  generalize w1.alloc (.cells (saidC f m 0) 9) = w2 at *
  have Hf := Lib.hid (And.intro hf hfa)
  have H2 := Lib.hid (And.intro hs2 (And.intro (H1.out.2.2.trans hx2) (And.intro (hx2.heap H1.out.1 _root_.id) (hx2.heap H1.out.2.1 _root_.id))))
  generalize hsb : w1.heap.size = sb at *
  have hsz2 : sb < w2.heap.size := lt_of_heap hs2
  clear hs2 hx2 hf hfa hsb hmk
  go_loopw [23] (fun i W => ∃ k : Nat, k ≤ m ∧ i = .int .i64 k ∧ W.heap[sb]? = some (.cells (saidC f m k) 9) ∧ Ext (· = sb) w2 W) (fun i _ => m - (intOf i).toNat)
  case atStart => exact ⟨0, by omega, rfl, H2.out.1, Ext.refl _ _⟩
  case round =>
    obtain ⟨k, hk, rfl, hsc, hx⟩ := hrel
    have hold : Ext (· = sb) w wr := (H2.out.2.1.mono fun _ _ => False.elim).trans hx
    by_cases hlt : k < m
    · have hlt' : decide ((k : Int) < (m : Int)) = true := by simp; omega
      have hR := H.out.1.keep hold fun q hq e => by have := hrl q hq; omega
      have hO := hold.heap H.out.2 (by omega)
      have c0 : wr.cell? ⟨a, 0, none⟩ = some (.pointer (some ⟨r, 0, none⟩)) := cells_at hO 0
      have HB := Lib.hid (reg_by hR ((k : Int) + 1) (fun s hs => by have := hG' _ s hs; omega) hL)
      have HX := Lib.hid (And.intro hsc (And.intro hx hold))
      have hwr := hold.size
      have hsbw := lt_of_heap hsc
      clear hR hO hsc hx hold
      go_wp2_with fail
      refine HB.out.mono ?_
      rintro e w3 ⟨v3, vs, rfl, hRows, hx3⟩
      obtain ⟨RA, Rc, rfl⟩ := own_slice_form hRows.row
      have hfk : firstR id stamp (byL ((k : Int) + 1) L) = f k := Hf.out.2 k
      have hts := hG' ((k : Int) + 1)
      have hbn : (byL ((k : Int) + 1) L).length ≤ L.length := by simp [byL]; exact List.length_filter_le _ _
      generalize byL ((k : Int) + 1) L = ts at *
      have H3 := Lib.hid (And.intro hRows (And.intro hx3 hfk))
      clear hRows hx3 hfk HB
      go_wp2_with fail
      go_loopw [34] (fun i W => ∃ j : Nat, j ≤ ts.length ∧ i = .int .i64 j ∧ W.heap[sb]? = some (.cells (saidC f m k) 9) ∧ (∀ t ∈ ts.take j, readR id stamp t = []) ∧ Ext (· = sb) w3 W) (fun i _ => ts.length - (intOf i).toNat)
      case atStart => exact ⟨0, by omega, rfl, H3.out.2.1.heap HX.out.1 _root_.id, fun t ht => by simp at ht, Ext.refl _ _⟩
      case round =>
        obtain ⟨j, hj, rfl, hsc, hall, hx⟩ := hrel
        by_cases hj2 : j < ts.length
        · have hj3 : decide ((j : Int) < (ts.length : Int)) = true := by simp; omega
          have hRw := H3.out.1.ext hx (fun q hq e => by omega) (own_from H3.out.1.row)
          obtain ⟨g, gc, u, hA, _, hcell, hu, _⟩ := rows_at hRw hj2
          obtain ⟨rfl, rfl⟩ : RA = some ⟨g, 0, none⟩ ∧ Rc = gc := by simpa using hA
          have htl := hts _ (List.getElem_mem hj2)
          have htk : ts.take (j + 1) = ts.take j ++ [ts[j]] := List.take_succ_eq_append_getElem hj2
          have hfa : ∀ h : readR id stamp ts[j] ≠ [], firstR id stamp ts = readR id stamp ts[j] := fun h => firstR_at hj2 hall h
          have hwx : Ext (· = sb) w wr := (HX.out.2.2.trans (H3.out.2.1.mono fun _ _ => False.elim)).trans hx
          have hx2r : Ext (· = sb) w2 wr := (HX.out.2.1.trans (H3.out.2.1.mono fun _ _ => False.elim)).trans hx
          have HRd := Lib.hid (read_walk hu htl (hwx.heap H.out.2 (by omega)) (hx2r.heap H2.out.2.2.1 (by omega)) (hx2r.heap H2.out.2.2.2 (by omega)))
          have H4 := Lib.hid (And.intro hsc (And.intro hall (And.intro hx (And.intro htk hfa))))
          clear hsc hall hx htk hfa hwx hx2r hRw hA hu
          generalize ts[j] = t at *
          go_wp2_with fail
          refine HRd.out.mono ?_
          rintro e w5 ⟨rfl, hx5⟩
          have hs5 := hx5.heap H4.out.1 _root_.id
          have d5 : w5.cell? ⟨sb, k, none⟩ = some (str (if k < k then f k else [])) := by rw [cells_at hs5, saidC_get f m k k hlt]
          have f5 : w5.frozen? ⟨sb, k, none⟩ = false := by simp [World.frozen?, hs5]
          have hwr5 := hx5.size
          have hx6 : Ext (· = sb) w3 (w5.setCell ⟨sb, k, none⟩ (str (readR id stamp t))) := ((H4.out.2.2.1.trans (hx5.mono fun _ _ => False.elim))).setCell (a := ⟨sb, k, none⟩) (.inl rfl) _
          have hs6 := heap_setCell_self (i := k) (v := str (readR id stamp t)) hs5
          have hfr := H4.out.2.2.2.2
          generalize hrr : readR id stamp t = rr at *
          by_cases hr0 : rr = []
          · subst hr0
            rw [saidC_same f m k hlt] at hs6
            have H6 := Lib.hid (And.intro hx6 (And.intro hs6 hrr))
            clear hx6 hs6 hs5 hrr hfr
            go_wp2_with fail
            refine ⟨⟨j + 1, by omega, by go_num, H6.out.2.1, fun t' ht' => ?_, H6.out.1⟩, by simp [intOf]; omega⟩
            rw [H4.out.2.2.2.1] at ht'
            rcases List.mem_append.1 ht' with ht' | ht'
            · exact H4.out.2.1 t' ht'
            · simp at ht'
              subst ht'
              exact H6.out.2.2
          · have hr1 : (rr != []) = true := by simpa using hr0
            have hr2 : (rr == []) = false := by simpa using hr0
            have hfk : f k = rr := by rw [← H3.out.2.2, hfr hr0]
            rw [← hfk, saidC_set f m k hlt] at hs6
            rw [← hfk] at hx6
            have H6 := Lib.hid (And.intro (HX.out.2.1.trans ((H3.out.2.1.mono fun _ _ => False.elim).trans hx6)) (And.intro hs6 hfk))
            clear hx6 hs6 hs5 hrr hfr hfk hr0
            go_wp2_with fail
            refine ⟨⟨k + 1, by omega, by go_num, ?_, ?_⟩, by simp [intOf]; omega⟩
            · rw [← H6.out.2.2]; exact H6.out.2.1
            · rw [← H6.out.2.2]; exact H6.out.1
        · have hje : j = ts.length := by omega
          subst hje
          have hj3 : decide ((ts.length : Int) < (ts.length : Int)) = false := by simp
          rw [List.take_of_length_le (Nat.le_refl _)] at hall
          have hfk : f k = [] := by rw [← H3.out.2.2]; exact firstR_none hall
          rw [saidC_none f m k hlt hfk] at hsc
          have H6 := Lib.hid (And.intro hsc (HX.out.2.1.trans ((H3.out.2.1.mono fun _ _ => False.elim).trans hx)))
          clear hsc hx hall hfk
          go_wp2_with fail
          exact ⟨⟨k + 1, by omega, by go_num, H6.out.1, H6.out.2⟩, by simp [intOf]; omega⟩
    · have hke : k = m := by omega
      subst hke
      have hlt' : decide ((k : Int) < (k : Int)) = false := by simp
      have hO := hold.heap H.out.2 (by omega)
      have c1' : wr.cell? ⟨a, 1, none⟩ = some (.int .i64 k) := cells_at hO 1
      have hA := quo_agreed (said_texts hsc) (by simp; omega) (k : Int)
      have hw0 : Ext (fun _ => False) w wr := H2.out.2.1.trans' hx fun b hb => .inr (by subst hb; omega)
      have HA := Lib.hid (And.intro hA (And.intro hw0 Hf.out.1))
      clear hA hw0 hsc hx hold hO
      go_wp2_with fail
      refine HA.out.1.mono ?_
      rintro e w3 ⟨b, rfl, hx3, hag⟩
      have hbl : b.length ≤ 65536 := by
        rcases agreed_mem hag with rfl | ⟨_, _, _, hb⟩
        · simp
        · rw [← HA.out.2.2] at hb
          obtain ⟨q, _, rfl⟩ := List.mem_map.1 hb
          exact firstR_len _ _ _
      have H3 := Lib.hid (And.intro hag (HA.out.2.1.trans hx3))
      clear hag hx3
      go_wp2_with (first | (refine wpList_str_bytes Try.underlying9 Try.underlying33 Try.underlying5 rfl _ rfl (l := b) rfl (by omega) ?_; intro c5 w5 hb5 hx5 hs5; have H5 := Lib.hid (And.intro hb5 hx5); clear hs5 hb5 hx5) | fail)
      refine bodyPost_ret (results_tmp2 rfl _ _ _) rfl ?_
      refine ⟨b, _, ?_, rfl, H5.out.1, H3.out.2.trans H5.out.2, fun q hq => ?_⟩
      · have h := H3.out.1
        rw [← HA.out.2.2] at h
        exact h
      · simp [Value.ownBlock] at hq
        have := H3.out.2.size
        omega
end Go.Proofs.Ytcedpdjjjfdbiaa
