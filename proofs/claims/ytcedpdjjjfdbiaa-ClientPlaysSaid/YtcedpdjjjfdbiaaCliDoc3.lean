/- What the document's client was answered: Result; no condition. -/
import Derived.Test.YtcedpdjjjfdbiaaCliDoc2
namespace Go.Proofs.Ytcedpdjjjfdbiaa
set_option linter.unusedVariables false
set_option linter.unusedSimpArgs false
open Go.RowKit
theorem own_texts {N : Nat} {w : World} {v : Value} {ls : List Bs} (h : w.ownsRow N 9 1 v ls.length (ls.map str)) : Texts (fun _ => True) w v ls := by
  rcases h.2 with ⟨rfl, h2⟩ | ⟨g, cap, cur, rfl, hg, hh, hn, hc, hs, ht⟩
  · obtain rfl := List.eq_nil_of_length_eq_zero h2
    exact ⟨none, 0, rfl, Nat.le_refl _, fun h => absurd rfl h⟩
  · refine ⟨_, cap, rfl, hn, fun _ => ⟨g, 0, rfl, trivial, fun i l hl => ?_⟩⟩
    have hi := (List.getElem?_eq_some_iff.1 hl).1
    show w.cell? ⟨g, 0 + i * 1, none⟩ = some (str l)
    have h7 := congrArg (fun l => l[i]?) ht
    rw [List.getElem?_take_of_lt (by omega), List.getElem?_map, hl] at h7
    rw [cells_at hh, show 0 + i * 1 = i by omega]
    simpa using h7
theorem said_succ (id st : Int) (k : Nat) (L : List (Int × Bs)) : saidR id st (k + 1) L = saidR id st k L ++ [firstR id st (byL ((k : Int) + 1) L)] := by
  simp [saidR, List.range_succ]
theorem said_len (id st : Int) (k : Nat) (L : List (Int × Bs)) : (saidR id st k L).length = k := by simp [saidR]
set_option maxRecDepth 100000 in
set_option maxHeartbeats 1000000 in
theorem dcli_result {F : Nat → Prop} {w : World} {a r m : Nat} {id : Int} {st0 : Nat} {L : List (Int × Bs)} (h : DCt F w a r m id st0 L) (stamp : Int) (hm : m ≤ 1048576) (hG : ∀ p ∈ L, p.2.length ≤ 65536) (hL : L.length < 1073741824) :
    Calls Try.prog 24 #[.pointer (some ⟨a, 0, none⟩), .int .i64 stamp] w (ResPost w m (saidR id stamp m L)) := by
  have H := Lib.hid h
  clear h
  go_enter Try.func24, Try.ntmps24
  go_wp2_with fail
  go_loopw [6, 7] (fun lv i W => ∃ k : Nat, k ≤ m ∧ i = .int .i64 ((k : Int) + 1) ∧ W.ownsRow w.heap.size 9 1 lv k ((saidR id stamp k L).map str) ∧ Ext (fun _ => False) w W) (fun _ i _ => m + 1 - (intOf i).toNat)
  case atStart => exact ⟨0, by omega, rfl, ⟨by simp [saidR], .inl ⟨rfl, rfl⟩⟩, Ext.refl _ _⟩
  case round =>
    obtain ⟨k, hk, rfl, hrow, hx⟩ := hrel
    obtain ⟨RA, Rc, rfl⟩ := own_slice_form hrow
    have hC := H.out.ext hx
    have d1 : wr.cell? ⟨a, 1, none⟩ = some (.int .i64 m) := cells_at hC.obj 1
    have hsz := hx.size
    by_cases hlt : k < m
    · have hlt' : decide (((k : Int) + 1) ≤ (m : Int)) = true := by simp; omega
      have HAn := Lib.hid (answered_walk hC ((k : Int) + 1) stamp hG hL)
      have HX := Lib.hid (And.intro hrow hx)
      have hfl := firstR_len id stamp (byL ((k : Int) + 1) L)
      clear hrow hx hC
      go_wp2_with fail
      refine HAn.out.mono ?_
      rintro e w2 ⟨rfl, hx2⟩
      have hs2 := hx2.size
      have H2 := Lib.hid hx2
      clear hx2
      go_wp2_with (at_builtin; refine Hid.out ?_)
      refine Lib.hid ?_
      have hxa := (Ext.refl (fun _ => False) w2).alloc (Obj.cells #[str (firstR id stamp (byL ((k : Int) + 1) L))] 9)
      refine wpList_append_lit rfl _ _ 63 rfl Try.underlying63 info_string rfl (by decide) (v := .slice RA k Rc) rfl (own_ext HX.out.1 (H2.out.trans hxa) fun _ _ => _root_.id) (by simp; omega) rfl (heap_alloc_self _ _) rfl (by simp [Value.oneCell']) (by decide) (by omega) (by omega) ?_
      intro g3 c3 w3 ho3 hx3 hg3 hl3
      have hxx : Ext (fun _ => False) w w3 := ((HX.out.2.trans H2.out).trans hxa).trans' hx3 fun b hb => .inr (own_from HX.out.1 b hb)
      rw [show (saidR id stamp k L).map str ++ [str (firstR id stamp (byL ((k : Int) + 1) L))] = (saidR id stamp (k + 1) L).map str by rw [said_succ]; simp] at ho3
      have H3 := Lib.hid (And.intro ho3 hxx)
      clear ho3 hxx hx3 hg3 hxa
      go_wp2_with fail
      exact ⟨⟨k + 1, by omega, by go_num, H3.out.1, H3.out.2⟩, by simp [intOf]; omega⟩
    · have hke : k = m := by omega
      subst hke
      have hlt' : decide (((k : Int) + 1) ≤ (k : Int)) = false := by simp; omega
      have hrow' := hrow
      rw [show k = (saidR id stamp k L).length from (said_len id stamp k L).symm] at hrow'
      have hA := ref_agreed (own_texts (ls := saidR id stamp k L) (by rw [said_len]; exact hrow)) (by rw [said_len]; omega) (k : Int)
      have HA := Lib.hid (And.intro hA hx)
      clear hA hrow hrow' hx hC
      go_wp2_with fail
      refine HA.out.1.mono ?_
      rintro e w3 ⟨b, rfl, hx3, hag⟩
      have hbl : b.length ≤ 65536 := by
        rcases agreed_mem hag with rfl | ⟨_, _, _, hb⟩
        · simp
        · obtain ⟨q, _, rfl⟩ := List.mem_map.1 hb
          exact firstR_len _ _ _
      have H3 := Lib.hid (And.intro hag (HA.out.2.trans hx3))
      clear hag hx3
      go_wp2_with (first | (refine wpList_str_bytes Try.underlying9 Try.underlying33 Try.underlying5 rfl _ rfl (l := b) rfl (by omega) ?_; intro c5 w5 hb5 hx5 hs5; have H5 := Lib.hid (And.intro hb5 hx5); clear hs5 hb5 hx5) | fail)
      refine bodyPost_ret (results_tmp2 rfl _ _ _) rfl ?_
      refine ⟨b, _, H3.out.1, rfl, H5.out.1, H3.out.2.trans H5.out.2, fun q hq => ?_⟩
      simp [Value.ownBlock] at hq
      have := H3.out.2.size
      omega
end Go.Proofs.Ytcedpdjjjfdbiaa
