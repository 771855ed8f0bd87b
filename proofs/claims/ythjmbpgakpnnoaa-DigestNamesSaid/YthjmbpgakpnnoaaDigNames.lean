/- DigestNames answers true; no condition. -/
import Derived.Test.YthjmbpgakpnnoaaDigBack
import Derived.Test.YthjmbpgakpnnoaaOwned
namespace Go.Proofs.Ythjmbpgakpnnoaa
set_option linter.unusedVariables false
set_option linter.unusedSimpArgs false
open Go.RowKit

set_option maxRecDepth 100000 in
set_option maxHeartbeats 1000000 in
theorem dof_walk {w : World} {D : Nat → Prop} {v : Value} {nm : Bs} {ls : List Bs} (hv : Byts D w v ls) (hl : ls.length ≤ 5864062014634) (hnm : nm.length ≤ 9223372036854775807) :
    Calls Try.prog 18 #[str nm, v] w fun e w' => e = .returned (.tuple #[sumV (ofR nm ls).1, .int .i64 (ofR nm ls).2]) ∧ Ext (fun _ => False) w w' := by
  have hx1 : Ext (fun _ => False) w (w.alloc (.cells ((List.replicate 32 (0 : UInt8)).map byteV).toArray 26 (0, 0))) := (Ext.refl _ _).alloc _
  have hs1 : (w.alloc (.cells ((List.replicate 32 (0 : UInt8)).map byteV).toArray 26 (0, 0))).heap[w.heap.size]? = some (.cells ((List.replicate 32 (0 : UInt8)).map byteV).toArray 26 (0, 0)) := heap_alloc_self _ _
  have hT := dtext_walk (hv.same hx1) hl hnm
  have hlen := textR_len nm ls
  have hof : ofR nm ls = if (textR nm ls).2 = 0 then (rawB (textR nm ls).1, 0) else (List.replicate 32 0, (textR nm ls).2) := rfl
  have hnum := textR_num nm ls
  unfold TextPost at hT
  generalize textR nm ls = tr at *
  obtain ⟨tx, tn⟩ := tr
  dsimp only at hT hlen hof hnum
  have H1 := Lib.hid (And.intro hT (And.intro hx1 (And.intro hs1 (And.intro hof hlen))))
  clear hT hx1 hs1 hof hlen hv
  go_enter Try.func18, Try.ntmps18
  go_wp2_with fail
  refine H1.out.1.mono ?_
  rintro e w2 ⟨v2, rfl, h2⟩
  have hs2 := h2.ext.heap H1.out.2.2.1 id
  have hx2 := H1.out.2.1.trans h2.ext
  have H2 := Lib.hid (And.intro h2 (And.intro hs2 hx2))
  clear h2 hs2 hx2
  rcases hnum with rfl | rfl
  · have hR := draw_walk H2.out.1.byt (by have := H1.out.2.2.2.2; omega)
    have HR := Lib.hid hR
    clear hR
    go_wp2_with fail
    refine HR.out.mono ?_
    rintro e w3 ⟨rfl, hx3⟩
    have hs3 := hx3.heap H2.out.2.1 id
    have H3 := Lib.hid (And.intro hs3 (H2.out.2.2.trans hx3))
    clear hs3 hx3 HR
    rw [sumV_cells]
    have hcz := sum_size (rawB tx) (rawB_len _)
    have hco := sum_one (rawB tx)
    have hce : ((rawB tx).map byteV).toArray = ((rawB tx).map byteV).toArray := rfl
    generalize hcs : ((rawB tx).map byteV).toArray = cs at *
    have Hc := Lib.hid (And.intro hcz (And.intro hco hcs))
    clear hcz hco hcs hce
    go_wp2_with (refine wpList_store_row rfl 26 _ _ rfl w.heap.size cs rfl rfl 26 _ H3.out.1 (by rw [Hc.out.1]; kernel_rfl) (by rw [Hc.out.1]; rfl) Hc.out.2.1 ?_)
    refine bodyPost_ret (results_cell_tmp rfl _ _ w.heap.size 26 cs (0, 0) _ rfl (setRow_heap _ _ _ _ _ _ H3.out.1) Try.underlying26 rfl (by rw [Hc.out.1]; kernel_rfl)) rfl ?_
    refine ⟨?_, H3.out.2.setRow (.inr (Nat.le_refl _)) _⟩
    rw [H1.out.2.2.2.1]
    simp only [if_true]
    rw [sumV_cells, Hc.out.2.2]
    rfl
  · go_wp2_with (refine wpList_store_row rfl 26 _ _ rfl w.heap.size _ rfl rfl 26 _ H2.out.2.1 (by kernel_rfl) (by kernel_rfl) (by kernel_rfl) ?_)
    refine bodyPost_ret (results_cell_tmp rfl _ _ w.heap.size 26 _ (0, 0) _ rfl (setRow_heap _ _ _ _ _ _ H2.out.2.1) Try.underlying26 rfl (by kernel_rfl)) rfl ?_
    refine ⟨?_, H2.out.2.2.setRow (.inr (Nat.le_refl _)) _⟩
    rw [H1.out.2.2.2.1, if_neg (by decide), sumV_cells, zeros_cells]
    rfl
/-- A row of slice values that is one's own, read by Owned. -/
theorem rows8_own {w : World} {base n cap g : Nat} {us : List Value} (h : w.ownsRow base 22 1 (.slice (some ⟨g, 0, none⟩) n cap) n us) (hn : us.length = n) (hc : ∀ u ∈ us, Cap w u none)
    (hg : ∀ u ∈ us, u.ownBlock ≠ some g) (ha : ∀ (i j : Nat) (u u' : Value) (k : Nat), us[i]? = some u → us[j]? = some u' → u.ownBlock = some k → u'.ownBlock = some k → i = j) : Rows8 w (.slice (some ⟨g, 0, none⟩) n cap) us := by
  subst hn
  refine ⟨?_, hc, ha⟩
  rcases h.2 with ⟨h1, _⟩ | ⟨g', cap', cur, h1, _, h3, h4, _, h5, h6⟩
  · cases h1
  · simp only [Value.slice.injEq, Option.some.injEq, Addr.mk.injEq] at h1
    obtain ⟨⟨rfl, _⟩, _, rfl⟩ := h1
    refine ⟨_, cap, rfl, h4, fun _ => ⟨g, 0, rfl, hg, fun i x hx => ?_⟩⟩
    have h7 := congrArg (fun l => l[i]?) h6
    have hlt : i < us.length := (List.getElem?_eq_some_iff.1 hx).1
    simp only [hx] at h7
    rw [List.getElem?_take_of_lt (by omega)] at h7
    show w.cell? ⟨g, 0 + i * 1, none⟩ = some x
    rw [cells_at h3, show 0 + i * 1 = i by omega]
    simpa using h7

set_option maxRecDepth 100000 in
set_option maxHeartbeats 4000000 in
theorem names_walk {w : World} {D : Nat → Prop} {v : Value} {nm : Bs} {ls : List Bs} (hnm : nm.length ≤ 9223372036854775807) (hv : Byts D w v ls) (hl : ls.length ≤ 5864062014634) :
    Calls Try.prog 5 #[str nm, v] w fun e w' => e = .returned (.bool true) ∧ Ext (fun _ => False) w w' := by
  obtain ⟨A, c, rfl, _⟩ := id hv
  have Hv := Lib.hid hv
  have hT1 := fun W (hx : Ext (fun _ => False) w W) => text_walk (nm := nm) (hv.same hx) hl hnm
  have hT2 := fun W (hx : Ext (fun _ => False) w W) => dtext_walk (nm := nm) (hv.same hx) hl hnm
  have hO1 := fun W (hx : Ext (fun _ => False) w W) => of_walk (nm := nm) (hv.same hx) hl hnm
  have hO2 := fun W (hx : Ext (fun _ => False) w W) => dof_walk (nm := nm) (hv.same hx) hl hnm
  have heq := run_eql_sum _ _ (ofR_len nm ls) (ofR_len nm ls)
  have hcz := sum_size _ (ofR_len nm ls)
  have hco := sum_one (ofR nm ls).1
  have hlen := textR_len nm ls
  unfold TextPost at hT1 hT2
  simp only [sumV_cells, decide_true] at heq hO1 hO2
  generalize textR nm ls = t at *
  obtain ⟨x, tn⟩ := t
  generalize ((ofR nm ls).1.map byteV).toArray = cs at *
  generalize (ofR nm ls).2 = on at *
  dsimp only at hT1 hT2 hlen
  have HW := Lib.hid (And.intro (And.intro hT1 hT2) (And.intro (And.intro hO1 hO2) (And.intro heq hlen)))
  have Hc := Lib.hid (And.intro hcz hco)
  clear hT1 hT2 hO1 hO2 hcz hco heq hv hlen
  go_enter Try.func5, Try.ntmps5
  go_wp2_with fail
  refine (small_walk _).mono ?_
  rintro e w1 ⟨rfl, hx1⟩
  have H1 := Lib.hid hx1
  clear hx1
  go_wp2_with fail
  go_loopw [6, 7] (fun m i W => ∃ k : Nat, k ≤ ls.length ∧ k ≤ 20 ∧ m = .int .i64 k ∧ i = .int .i64 k ∧ Ext (fun _ => False) w W) (fun _ i _ => ls.length - (intOf i).toNat)
  case atStart => exact ⟨0, by omega, by omega, rfl, rfl, H1.out⟩
  case round =>
    obtain ⟨k, hk, hk20, rfl, rfl, hx⟩ := hrel
    have hT1 := HW.out.1.1
    have hT2 := HW.out.1.2
    have hO1 := HW.out.2.1.1
    have hO2 := HW.out.2.1.2
    by_cases hlt : k < ls.length
    · have n1 : (k : Int) < (ls.length : Int) := by omega
      have n1' : decide (k < ls.length) = true := by simp; omega
      by_cases h20 : k < 20
      · clear hT1 hT2 hO1 hO2
        have n2 : (k : Int) < 20 := by omega
        have n2' : decide ((k : Int) < 20) = true := by simp; omega
        obtain ⟨g1, o1, c1, hA1, _, u1, hcell1, hu1⟩ := Hv.out.at hlt
        obtain ⟨rfl, rfl⟩ : A = some ⟨g1, o1, none⟩ ∧ c = c1 := by simpa using hA1
        rw [Nat.mul_one] at hcell1
        replace hcell1 := cell_same hcell1 hx
        obtain ⟨B, d, rfl, _⟩ := id hu1
        generalize ls[k] = y at *
        have Hx := Lib.hid hx
        clear hx hu1 hA1
        by_cases h4 : 4096 < y.length
        · have n4 : (4096 : Int) < (y.length : Int) := by omega
          have n4' : decide ((4096 : Int) < (y.length : Int)) = true := by simp; omega
          by_cases h5 : y.length ≤ 65536
          · have n5 : (y.length : Int) ≤ 65536 := by omega
            have n5' : decide ((y.length : Int) ≤ 65536) = true := by simp; omega
            go_wp2_with fail
            go_ret
            exact ⟨rfl, Hx.out⟩
          · have n5 : ¬ (y.length : Int) ≤ 65536 := by omega
            have n5' : decide ((y.length : Int) ≤ 65536) = false := by simp; omega
            go_wp2_with fail
            exact ⟨⟨k + 1, by omega, by omega, by go_num, by go_num, Hx.out⟩, by simp [intOf]; omega⟩
        · have n4 : ¬ (4096 : Int) < (y.length : Int) := by omega
          have n4' : decide ((4096 : Int) < (y.length : Int)) = false := by simp; omega
          go_wp2_with fail
          exact ⟨⟨k + 1, by omega, by omega, by go_num, by go_num, Hx.out⟩, by simp [intOf]; omega⟩
      · have hk2 : k = 20 := by omega
        subst hk2
        have n2' : decide ((20 : Int) < 20) = false := by decide
        rw [show ((20 : Nat) : Int) = (20 : Int) from rfl] at *
        by_cases h5 : ls.length ≤ 4096
        · have n5 : (ls.length : Int) ≤ 4096 := by omega
          have n5' : decide ((ls.length : Int) ≤ 4096) = true := by simp; omega
          have Hx := Lib.hid hx
          clear hx hT1 hT2 hO1 hO2
          go_wp2_with fail
          go_ret
          exact ⟨rfl, Hx.out⟩
        · have n5 : ¬ (ls.length : Int) ≤ 4096 := by omega
          have n5' : decide ((ls.length : Int) ≤ 4096) = false := by simp; omega
          have HB := Lib.hid (And.intro hx (And.intro hT1 (And.intro hT2 (And.intro hO1 hO2))))
          clear hx hT1 hT2 hO1 hO2
          go_wp2_with fail
          refine (HB.out.2.1 _ HB.out.1).mono ?_
          rintro e w2 ⟨u1, rfl, h2⟩
          obtain ⟨B1, d1, hf1, _, _⟩ := h2.own.formP
          subst hf1
          have H2 := Lib.hid (And.intro h2 (HB.out.1.trans h2.ext))
          clear h2
          go_wp2_with fail
          refine (HB.out.2.2.2.1 _ H2.out.2).mono ?_
          rintro e w3 ⟨rfl, hx3⟩
          have H3 := Lib.hid (And.intro (H2.out.1.step hx3) (H2.out.2.trans hx3))
          have H3b := Lib.hid hx3.size
          have hself := heap_alloc_self w3
          have Hs := Lib.hid hself
          clear hx3 hself
          go_wp2_with (refine wpList_store_row rfl 26 _ _ rfl w3.heap.size cs rfl rfl 26 _ (Hs.out _) (by rw [Hc.out.1]; kernel_rfl) (by rw [Hc.out.1]; rfl) Hc.out.2 ?_)
          generalize hw4 : (w3.alloc _).setRow _ cs = w4
          have h4 : w4.heap[w3.heap.size]? = some (.cells cs 26 (0, 0)) := by rw [← hw4]; exact setRow_heap _ _ _ _ _ _ (Hs.out _)
          have hx4 : Ext (fun _ => False) w3 w4 := by rw [← hw4]; exact ((Ext.refl _ _).alloc _).setRow (.inr (Nat.le_refl _)) _
          have H4 := Lib.hid (And.intro (H3.out.1.step hx4) (And.intro (H3.out.2.trans hx4) h4))
          clear h4 hx4 hw4 Hs
          generalize w3.heap.size = b3 at *
          refine (HB.out.2.2.1 _ H4.out.2.1).mono ?_
          rintro e w5 ⟨u2, rfl, h5⟩
          obtain ⟨B2, d2, hf2, _, _⟩ := h5.own.formP
          subst hf2
          have H5 := Lib.hid (And.intro (H4.out.1.step h5.ext) (And.intro h5 (And.intro (H4.out.2.1.trans h5.ext) (h5.ext.heap H4.out.2.2 id))))
          clear h5
          go_wp2_with fail
          refine (HB.out.2.2.2.2 _ H5.out.2.2.1).mono ?_
          rintro e w6 ⟨rfl, hx6⟩
          have H6 := Lib.hid (And.intro (H5.out.1.step hx6) (And.intro (H5.out.2.1.step hx6) (And.intro (H5.out.2.2.1.trans hx6) (hx6.heap H5.out.2.2.2 id))))
          have hself := heap_alloc_self w6
          have Hs := Lib.hid hself
          clear hx6 hself
          have hcv1 := fun W (hx : Ext (fun _ => False) w6 W) => (H6.out.1.step hx).own.byt.conv 22 5 9 Try.underlying22 Try.underlying5 Try.underlying9 W rfl
          have hcv2 := fun W (hx : Ext (fun _ => False) w6 W) => (H6.out.2.1.step hx).own.byt.conv 22 5 9 Try.underlying22 Try.underlying5 Try.underlying9 W rfl
          have hc1 := hcv1 _ (ext_stored w6 (.cells #[.int .u8 0, .int .u8 0, .int .u8 0, .int .u8 0, .int .u8 0, .int .u8 0, .int .u8 0, .int .u8 0, .int .u8 0, .int .u8 0, .int .u8 0, .int .u8 0, .int .u8 0, .int .u8 0, .int .u8 0, .int .u8 0, .int .u8 0, .int .u8 0, .int .u8 0, .int .u8 0, .int .u8 0, .int .u8 0, .int .u8 0, .int .u8 0, .int .u8 0, .int .u8 0, .int .u8 0, .int .u8 0, .int .u8 0, .int .u8 0, .int .u8 0, .int .u8 0] 26) cs)
          have hc2 := hcv2 _ (ext_stored w6 (.cells #[.int .u8 0, .int .u8 0, .int .u8 0, .int .u8 0, .int .u8 0, .int .u8 0, .int .u8 0, .int .u8 0, .int .u8 0, .int .u8 0, .int .u8 0, .int .u8 0, .int .u8 0, .int .u8 0, .int .u8 0, .int .u8 0, .int .u8 0, .int .u8 0, .int .u8 0, .int .u8 0, .int .u8 0, .int .u8 0, .int .u8 0, .int .u8 0, .int .u8 0, .int .u8 0, .int .u8 0, .int .u8 0, .int .u8 0, .int .u8 0, .int .u8 0, .int .u8 0] 26) cs)
          clear hcv1 hcv2
          go_wp2_with (first
            | refine wpList_store_row rfl 26 _ _ rfl w6.heap.size cs rfl rfl 26 _ (Hs.out _) (by rw [Hc.out.1]; kernel_rfl) (by rw [Hc.out.1]; rfl) Hc.out.2 ?_
            | (at_builtin; refine Hid.out ?_))
          refine Lib.hid ?_
          generalize hw7 : (w6.alloc _).setRow _ cs = w7
          have hx7 : Ext (fun _ => False) w6 w7 := by rw [← hw7]; exact ext_stored _ _ _
          have h7 : w7.heap[w6.heap.size]? = some (.cells cs 26 (0, 0)) := by rw [← hw7]; exact setRow_heap _ _ _ _ _ _ (Hs.out _)
          have hz7 : w7.heap.size = w6.heap.size + 1 := by rw [← hw7]; simp [setRow_size]
          have hl7 := lt_of_heap h7
          have HH7 := Lib.hid (And.intro hx7 h7)
          clear hx7 h7 hw7 Hs hc1 hc2
          have hub := H6.out.1.own.lt
          have hub2 := H2.out.1.own.lt
          generalize hub7 : w6.heap.size = b6 at *
          have hb36 : b3 < b6 := by have := lt_of_heap H6.out.2.2.2; omega
          have huB : ∀ k, (Value.slice B1 x.length d1).ownBlock = some k → k < b3 := fun k hk => Nat.lt_of_lt_of_le (hub2 k hk) (by have := H3b.out; omega)
          generalize hW7 : (w7.alloc (Obj.cells #[] 22)).alloc (Obj.cells #[Value.slice B1 x.length d1] 22) = W7
          have hxW : Ext (fun _ => False) w7 W7 := by rw [← hW7]; exact ((Ext.refl _ _).alloc _).alloc _
          have hown0 : W7.ownsRow (b6 + 1) 22 1 (.slice (some ⟨b6 + 1, 0, none⟩) 0 0) 0 [] := ⟨rfl, .inr ⟨b6 + 1, 0, #[], rfl, Nat.le_refl _, by rw [← hW7, ← hz7]; exact two_first _ _ _, Nat.le_refl _, Nat.zero_le _, rfl, rfl⟩⟩
          have hsec : W7.heap[b6 + 1 + 1]? = some (.cells [Value.slice B1 x.length d1].toArray 22 (0, 0)) := by rw [← hW7, ← hz7]; exact heap_alloc_at (by simp)
          refine wpList_append_lit rfl _ _ 30 rfl Try.underlying30 info24 rfl (by decide) (v := .slice (some ⟨b6 + 1, 0, none⟩) 0 0) rfl hown0 (by rw [← hz7]; exact hxW.size) rfl hsec rfl (by simp [Value.oneCell']) (by decide) (by decide) (by decide) ?_
          intro g8 cap8 w8 hown8 hx8 hg8 hlt8
          have hg8' : w7.heap.size ≤ g8 := by
            rcases hg8 with h | h
            · simp only [Value.ownBlock, Option.some.injEq] at h; omega
            · have := hxW.size; omega
          have hx78 : Ext (fun _ => False) w7 w8 := hxW.trans' hx8 fun b hb => by
            simp only [Value.ownBlock, Option.some.injEq] at hb
            exact .inr (by omega)
          have H8 := Lib.hid (And.intro hown8 hx78)
          clear hown8 hx78 hx8 hg8 hown0 hsec hxW hW7
          go_wp2_with (at_builtin; refine Hid.out ?_)
          refine Lib.hid ?_
          have hxa : Ext (fun _ => False) w8 (w8.alloc (Obj.cells #[Value.slice none 0 0] 22)) := (Ext.refl _ _).alloc _
          have hself8 : (w8.alloc (Obj.cells #[Value.slice none 0 0] 22)).heap[w8.heap.size]? = some (.cells [Value.slice none 0 0].toArray 22 (0, 0)) := heap_alloc_self _ _
          have hown8 := own_ext H8.out.1 hxa fun _ _ => id
          rw [Nat.zero_add, List.nil_append] at hown8
          have hsz8 := H8.out.2.size
          refine wpList_append_lit rfl _ _ 30 rfl Try.underlying30 info24 rfl (by decide) (v := .slice (some ⟨g8, 0, none⟩) 1 cap8) rfl hown8 (by have := hxa.size; omega) rfl hself8 rfl (by simp [Value.oneCell']) (by decide) (by decide) (by decide) ?_
          intro g9 cap9 w9 hown9 hx9 hg9 hlt9
          have hg9' : w7.heap.size ≤ g9 := by
            rcases hg9 with h | h
            · simp only [Value.ownBlock, Option.some.injEq] at h; omega
            · have := hxa.size; omega
          have hx89 : Ext (fun k => k = g8) w8 w9 := hxa.mono (fun _ _ => False.elim) |>.trans' hx9 fun b hb => by
            simp only [Value.ownBlock, Option.some.injEq] at hb
            exact .inl hb.symm
          have hx79 : Ext (fun _ => False) w7 w9 := H8.out.2.trans' hx89 fun b hb => .inr (by omega)
          have hx69 := HH7.out.1.trans hx79
          have hu9 := H6.out.1.step hx69
          have hnb : ∀ k, (Value.slice B1 x.length d1).ownBlock = some k → k < b3 := huB
          have h8r : Rows8 w9 (.slice (some ⟨g9, 0, none⟩) 2 cap9) [Value.slice B1 x.length d1, .slice none 0 0] := by
            refine rows8_own hown9 rfl ?_ ?_ ?_
            · intro u hu
              simp only [List.mem_cons, List.not_mem_nil, or_false] at hu
              rcases hu with rfl | rfl
              · exact hu9.own.capA
              · exact .inl rfl
            · intro u hu e
              simp only [List.mem_cons, List.not_mem_nil, or_false] at hu
              rcases hu with rfl | rfl
              · have := huB _ e; omega
              · simp [Value.ownBlock] at e
            · intro i j u u' k hi hj hk hk'
              have key : ∀ (i : Nat) (u : Value), [Value.slice B1 x.length d1, .slice none 0 0][i]? = some u → u.ownBlock = some k → i = 0 := by
                intro i u hi hk
                match i with
                | 0 => rfl
                | 1 => simp at hi; subst hi; simp [Value.ownBlock] at hk
                | n + 2 => simp at hi
              rw [key i u hi hk, key j u' hj hk']
          have hOw := owned_walk h8r (by show (2 : Nat) ≤ 9223372036854775807; decide)
          have H9 := Lib.hid (And.intro hOw (And.intro (hx69.heap H6.out.2.2.2 id) (And.intro (hx79.heap HH7.out.2 id) (H6.out.2.2.1.trans hx69))))
          have H9b := Lib.hid hu9.new
          clear hOw hx69 hx79 hx89 h8r hu9 hown9 hown8 hx9 hself8 hxa
          go_wp2_with fail
          refine H9.out.1.mono ?_
          rintro e w10 ⟨rfl, hx10⟩
          have hF : ∀ b, (∃ u ∈ [Value.slice B1 x.length d1, Value.slice none 0 0], u.ownBlock = some b) → b < b3 ∧ wr.heap.size ≤ b := by
            rintro b ⟨u, hu, hk⟩
            simp only [List.mem_cons, List.not_mem_nil, or_false] at hu
            rcases hu with rfl | rfl
            · exact ⟨huB _ hk, H9b.out _ hk⟩
            · simp [Value.ownBlock] at hk
          have hs3 := hx10.heap H9.out.2.1 fun h => by have := (hF _ h).1; omega
          have hs6 := hx10.heap H9.out.2.2.1 fun h => by have := (hF _ h).1; omega
          have hxF := H9.out.2.2.2.trans' hx10 fun b hb => .inr (by have := (hF b hb).2; have := HB.out.1.size; omega)
          have H10 := Lib.hid (And.intro hs3 (And.intro hs6 hxF))
          clear hs3 hs6 hxF hx10 hF
          have heq := HW.out.2.2.1
          go_wp2_with (first
            | refine wpList_load_row_g 26 _ rfl (by rfl) b3 rfl 26 cs (0, 0) _ H10.out.1 Try.underlying26 rfl (by rw [Hc.out.1]; kernel_rfl) ?_
            | refine wpList_load_row_g 26 _ rfl (by rfl) b6 rfl 26 cs (0, 0) _ H10.out.2.1 Try.underlying26 rfl (by rw [Hc.out.1]; kernel_rfl) ?_)
          go_ret
          exact ⟨rfl, H10.out.2.2⟩
    · have hke : k = ls.length := by omega
      subst hke
      have n1 : ¬ (ls.length : Int) < (ls.length : Int) := by omega
      have HB := Lib.hid (And.intro hx (And.intro hT1 (And.intro hT2 (And.intro hO1 hO2))))
      clear hx hT1 hT2 hO1 hO2
      go_wp2_with fail
      refine (HB.out.2.1 _ HB.out.1).mono ?_
      rintro e w2 ⟨u1, rfl, h2⟩
      obtain ⟨B1, d1, hf1, _, _⟩ := h2.own.formP
      subst hf1
      have H2 := Lib.hid (And.intro h2 (HB.out.1.trans h2.ext))
      clear h2
      go_wp2_with fail
      refine (HB.out.2.2.2.1 _ H2.out.2).mono ?_
      rintro e w3 ⟨rfl, hx3⟩
      have H3 := Lib.hid (And.intro (H2.out.1.step hx3) (H2.out.2.trans hx3))
      have H3b := Lib.hid hx3.size
      have hself := heap_alloc_self w3
      have Hs := Lib.hid hself
      clear hx3 hself
      go_wp2_with (refine wpList_store_row rfl 26 _ _ rfl w3.heap.size cs rfl rfl 26 _ (Hs.out _) (by rw [Hc.out.1]; kernel_rfl) (by rw [Hc.out.1]; rfl) Hc.out.2 ?_)
      generalize hw4 : (w3.alloc _).setRow _ cs = w4
      have h4 : w4.heap[w3.heap.size]? = some (.cells cs 26 (0, 0)) := by rw [← hw4]; exact setRow_heap _ _ _ _ _ _ (Hs.out _)
      have hx4 : Ext (fun _ => False) w3 w4 := by rw [← hw4]; exact ((Ext.refl _ _).alloc _).setRow (.inr (Nat.le_refl _)) _
      have H4 := Lib.hid (And.intro (H3.out.1.step hx4) (And.intro (H3.out.2.trans hx4) h4))
      clear h4 hx4 hw4 Hs
      generalize w3.heap.size = b3 at *
      refine (HB.out.2.2.1 _ H4.out.2.1).mono ?_
      rintro e w5 ⟨u2, rfl, h5⟩
      obtain ⟨B2, d2, hf2, _, _⟩ := h5.own.formP
      subst hf2
      have H5 := Lib.hid (And.intro (H4.out.1.step h5.ext) (And.intro h5 (And.intro (H4.out.2.1.trans h5.ext) (h5.ext.heap H4.out.2.2 id))))
      clear h5
      go_wp2_with fail
      refine (HB.out.2.2.2.2 _ H5.out.2.2.1).mono ?_
      rintro e w6 ⟨rfl, hx6⟩
      have H6 := Lib.hid (And.intro (H5.out.1.step hx6) (And.intro (H5.out.2.1.step hx6) (And.intro (H5.out.2.2.1.trans hx6) (hx6.heap H5.out.2.2.2 id))))
      have hself := heap_alloc_self w6
      have Hs := Lib.hid hself
      clear hx6 hself
      have hcv1 := fun W (hx : Ext (fun _ => False) w6 W) => (H6.out.1.step hx).own.byt.conv 22 5 9 Try.underlying22 Try.underlying5 Try.underlying9 W rfl
      have hcv2 := fun W (hx : Ext (fun _ => False) w6 W) => (H6.out.2.1.step hx).own.byt.conv 22 5 9 Try.underlying22 Try.underlying5 Try.underlying9 W rfl
      have hc1 := hcv1 _ (ext_stored w6 (.cells #[.int .u8 0, .int .u8 0, .int .u8 0, .int .u8 0, .int .u8 0, .int .u8 0, .int .u8 0, .int .u8 0, .int .u8 0, .int .u8 0, .int .u8 0, .int .u8 0, .int .u8 0, .int .u8 0, .int .u8 0, .int .u8 0, .int .u8 0, .int .u8 0, .int .u8 0, .int .u8 0, .int .u8 0, .int .u8 0, .int .u8 0, .int .u8 0, .int .u8 0, .int .u8 0, .int .u8 0, .int .u8 0, .int .u8 0, .int .u8 0, .int .u8 0, .int .u8 0] 26) cs)
      have hc2 := hcv2 _ (ext_stored w6 (.cells #[.int .u8 0, .int .u8 0, .int .u8 0, .int .u8 0, .int .u8 0, .int .u8 0, .int .u8 0, .int .u8 0, .int .u8 0, .int .u8 0, .int .u8 0, .int .u8 0, .int .u8 0, .int .u8 0, .int .u8 0, .int .u8 0, .int .u8 0, .int .u8 0, .int .u8 0, .int .u8 0, .int .u8 0, .int .u8 0, .int .u8 0, .int .u8 0, .int .u8 0, .int .u8 0, .int .u8 0, .int .u8 0, .int .u8 0, .int .u8 0, .int .u8 0, .int .u8 0] 26) cs)
      clear hcv1 hcv2
      go_wp2_with (first
        | refine wpList_store_row rfl 26 _ _ rfl w6.heap.size cs rfl rfl 26 _ (Hs.out _) (by rw [Hc.out.1]; kernel_rfl) (by rw [Hc.out.1]; rfl) Hc.out.2 ?_
        | (at_builtin; refine Hid.out ?_))
      refine Lib.hid ?_
      generalize hw7 : (w6.alloc _).setRow _ cs = w7
      have hx7 : Ext (fun _ => False) w6 w7 := by rw [← hw7]; exact ext_stored _ _ _
      have h7 : w7.heap[w6.heap.size]? = some (.cells cs 26 (0, 0)) := by rw [← hw7]; exact setRow_heap _ _ _ _ _ _ (Hs.out _)
      have hz7 : w7.heap.size = w6.heap.size + 1 := by rw [← hw7]; simp [setRow_size]
      have hl7 := lt_of_heap h7
      have HH7 := Lib.hid (And.intro hx7 h7)
      clear hx7 h7 hw7 Hs hc1 hc2
      have hub := H6.out.1.own.lt
      have hub2 := H2.out.1.own.lt
      generalize hub7 : w6.heap.size = b6 at *
      have hb36 : b3 < b6 := by have := lt_of_heap H6.out.2.2.2; omega
      have huB : ∀ k, (Value.slice B1 x.length d1).ownBlock = some k → k < b3 := fun k hk => Nat.lt_of_lt_of_le (hub2 k hk) (by have := H3b.out; omega)
      generalize hW7 : (w7.alloc (Obj.cells #[] 22)).alloc (Obj.cells #[Value.slice B1 x.length d1] 22) = W7
      have hxW : Ext (fun _ => False) w7 W7 := by rw [← hW7]; exact ((Ext.refl _ _).alloc _).alloc _
      have hown0 : W7.ownsRow (b6 + 1) 22 1 (.slice (some ⟨b6 + 1, 0, none⟩) 0 0) 0 [] := ⟨rfl, .inr ⟨b6 + 1, 0, #[], rfl, Nat.le_refl _, by rw [← hW7, ← hz7]; exact two_first _ _ _, Nat.le_refl _, Nat.zero_le _, rfl, rfl⟩⟩
      have hsec : W7.heap[b6 + 1 + 1]? = some (.cells [Value.slice B1 x.length d1].toArray 22 (0, 0)) := by rw [← hW7, ← hz7]; exact heap_alloc_at (by simp)
      refine wpList_append_lit rfl _ _ 30 rfl Try.underlying30 info24 rfl (by decide) (v := .slice (some ⟨b6 + 1, 0, none⟩) 0 0) rfl hown0 (by rw [← hz7]; exact hxW.size) rfl hsec rfl (by simp [Value.oneCell']) (by decide) (by decide) (by decide) ?_
      intro g8 cap8 w8 hown8 hx8 hg8 hlt8
      have hg8' : w7.heap.size ≤ g8 := by
        rcases hg8 with h | h
        · simp only [Value.ownBlock, Option.some.injEq] at h; omega
        · have := hxW.size; omega
      have hx78 : Ext (fun _ => False) w7 w8 := hxW.trans' hx8 fun b hb => by
        simp only [Value.ownBlock, Option.some.injEq] at hb
        exact .inr (by omega)
      have H8 := Lib.hid (And.intro hown8 hx78)
      clear hown8 hx78 hx8 hg8 hown0 hsec hxW hW7
      go_wp2_with (at_builtin; refine Hid.out ?_)
      refine Lib.hid ?_
      have hxa : Ext (fun _ => False) w8 (w8.alloc (Obj.cells #[Value.slice none 0 0] 22)) := (Ext.refl _ _).alloc _
      have hself8 : (w8.alloc (Obj.cells #[Value.slice none 0 0] 22)).heap[w8.heap.size]? = some (.cells [Value.slice none 0 0].toArray 22 (0, 0)) := heap_alloc_self _ _
      have hown8 := own_ext H8.out.1 hxa fun _ _ => id
      rw [Nat.zero_add, List.nil_append] at hown8
      have hsz8 := H8.out.2.size
      refine wpList_append_lit rfl _ _ 30 rfl Try.underlying30 info24 rfl (by decide) (v := .slice (some ⟨g8, 0, none⟩) 1 cap8) rfl hown8 (by have := hxa.size; omega) rfl hself8 rfl (by simp [Value.oneCell']) (by decide) (by decide) (by decide) ?_
      intro g9 cap9 w9 hown9 hx9 hg9 hlt9
      have hg9' : w7.heap.size ≤ g9 := by
        rcases hg9 with h | h
        · simp only [Value.ownBlock, Option.some.injEq] at h; omega
        · have := hxa.size; omega
      have hx89 : Ext (fun k => k = g8) w8 w9 := hxa.mono (fun _ _ => False.elim) |>.trans' hx9 fun b hb => by
        simp only [Value.ownBlock, Option.some.injEq] at hb
        exact .inl hb.symm
      have hx79 : Ext (fun _ => False) w7 w9 := H8.out.2.trans' hx89 fun b hb => .inr (by omega)
      have hx69 := HH7.out.1.trans hx79
      have hu9 := H6.out.1.step hx69
      have hnb : ∀ k, (Value.slice B1 x.length d1).ownBlock = some k → k < b3 := huB
      have h8r : Rows8 w9 (.slice (some ⟨g9, 0, none⟩) 2 cap9) [Value.slice B1 x.length d1, .slice none 0 0] := by
        refine rows8_own hown9 rfl ?_ ?_ ?_
        · intro u hu
          simp only [List.mem_cons, List.not_mem_nil, or_false] at hu
          rcases hu with rfl | rfl
          · exact hu9.own.capA
          · exact .inl rfl
        · intro u hu e
          simp only [List.mem_cons, List.not_mem_nil, or_false] at hu
          rcases hu with rfl | rfl
          · have := huB _ e; omega
          · simp [Value.ownBlock] at e
        · intro i j u u' k hi hj hk hk'
          have key : ∀ (i : Nat) (u : Value), [Value.slice B1 x.length d1, .slice none 0 0][i]? = some u → u.ownBlock = some k → i = 0 := by
            intro i u hi hk
            match i with
            | 0 => rfl
            | 1 => simp at hi; subst hi; simp [Value.ownBlock] at hk
            | n + 2 => simp at hi
          rw [key i u hi hk, key j u' hj hk']
      have hOw := owned_walk h8r (by show (2 : Nat) ≤ 9223372036854775807; decide)
      have H9 := Lib.hid (And.intro hOw (And.intro (hx69.heap H6.out.2.2.2 id) (And.intro (hx79.heap HH7.out.2 id) (H6.out.2.2.1.trans hx69))))
      have H9b := Lib.hid hu9.new
      clear hOw hx69 hx79 hx89 h8r hu9 hown9 hown8 hx9 hself8 hxa
      go_wp2_with fail
      refine H9.out.1.mono ?_
      rintro e w10 ⟨rfl, hx10⟩
      have hF : ∀ b, (∃ u ∈ [Value.slice B1 x.length d1, Value.slice none 0 0], u.ownBlock = some b) → b < b3 ∧ wr.heap.size ≤ b := by
        rintro b ⟨u, hu, hk⟩
        simp only [List.mem_cons, List.not_mem_nil, or_false] at hu
        rcases hu with rfl | rfl
        · exact ⟨huB _ hk, H9b.out _ hk⟩
        · simp [Value.ownBlock] at hk
      have hs3 := hx10.heap H9.out.2.1 fun h => by have := (hF _ h).1; omega
      have hs6 := hx10.heap H9.out.2.2.1 fun h => by have := (hF _ h).1; omega
      have hxF := H9.out.2.2.2.trans' hx10 fun b hb => .inr (by have := (hF b hb).2; have := HB.out.1.size; omega)
      have H10 := Lib.hid (And.intro hs3 (And.intro hs6 hxF))
      clear hs3 hs6 hxF hx10 hF
      have heq := HW.out.2.2.1
      go_wp2_with (first
        | refine wpList_load_row_g 26 _ rfl (by rfl) b3 rfl 26 cs (0, 0) _ H10.out.1 Try.underlying26 rfl (by rw [Hc.out.1]; kernel_rfl) ?_
        | refine wpList_load_row_g 26 _ rfl (by rfl) b6 rfl 26 cs (0, 0) _ H10.out.2.1 Try.underlying26 rfl (by rw [Hc.out.1]; kernel_rfl) ?_)
      go_ret
      exact ⟨rfl, H10.out.2.2⟩
end Go.Proofs.Ythjmbpgakpnnoaa
