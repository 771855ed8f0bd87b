/- ClientPlays: what the statement's function computes; no condition. -/
import Derived.Test.YtcedpdjjjfdbiaaCliTwo
import Derived.Test.YtcedpdjjjfdbiaaCliAct
import Derived.Test.YtcedpdjjjfdbiaaCliNone
namespace Go.Proofs.Ytcedpdjjjfdbiaa
set_option linter.unusedVariables false
set_option linter.unusedSimpArgs false
open Go.RowKit
/-- The number of texts, and how long they are. -/
def Few (m : Nat) (L : List (Int × Bs)) : Prop := L.length ≤ m ∧ ∀ p ∈ L, p.2.length ≤ 65536
theorem Few.sign {m : Nat} {L : List (Int × Bs)} (h : Few m L) (who : Int) (t : Bs) : Few (m + 1) (signL who t L) := by
  refine ⟨Nat.le_trans (signL_len _ _ _) (by have := h.1; omega), fun p hp => ?_⟩
  rcases signL_sub p hp with hp | ⟨rfl, hl⟩
  · exact h.2 p hp
  · exact hl
theorem Few.ask {m : Nat} {L : List (Int × Bs)} (h : Few m L) (id : Int) (st : Nat) (t : Bs) : Few (m + 1) (askLs id st t L) := by
  unfold askLs
  split
  · exact h.sign _ _
  · exact ⟨by have := h.1; omega, h.2⟩
theorem askN_le (id : Int) (st : Nat) (t : Bs) : askN id st t ≤ st + 1 := by
  unfold askN
  split <;> omega
theorem jc_start {w0 w1 w2 w3 w4 : World} {r s : Nat} {n id : Int} {F' : Nat → Prop} (h1 : RI w0 w1 r []) (g1 : RgRep F' w2 s []) (x2 : Ext (fun _ => False) w1 w2) (g2 : ∀ k, F' k → w1.heap.size ≤ k) (x3 : Ext (fun _ => False) w2 w3) (o3 : w3.heap[w2.heap.size]? = some (cliO r n id 0)) (x4 : Ext (fun _ => False) w3 w4) (o4 : w4.heap[w3.heap.size]? = some (dcliO s n id 0)) :
    JC w0 (fun _ => False) w4 w2.heap.size r w3.heap.size s n id 0 [] 0 [] := by
  obtain ⟨F, f1, f2, f3⟩ := h1
  have l1 := f1.lt
  have l2 := g1.lt
  have s2 := x2.size
  have s3 := x3.size
  have s4 := x4.size
  have s0 := f2.size
  have sa := lt_of_heap o3
  have hx := (x2.trans x3).trans x4
  refine ⟨F, F', ⟨f1.keep hx fun _ _ => _root_.id, x4.heap o3 _root_.id, fun hf => by have := l1 _ hf; omega⟩, ⟨g1.keep (x3.trans x4) fun _ _ => _root_.id, o4, fun hf => by have := l2 _ hf; omega⟩, fun k hk hf => by have := l1 k hk; have := g2 k hf; omega, fun hf => by have := l1 _ hf; omega, fun hf => by have := l2 _ hf; omega, f2.trans hx, ⟨f3, fun k hk => by have := g2 k hk; omega, by omega, by omega⟩, fun k hk => hk.elim⟩
theorem jc_cells {w0 w : World} {K : Nat → Prop} {a r b s : Nat} {n id : Int} {st st' : Nat} {L L' : List (Int × Bs)} (h : JC w0 K w a r b s n id st L st' L') : ∃ A c, w.cell? ⟨b, 3, none⟩ = some (.int .i64 st') ∧ w.cell? ⟨s, 0, none⟩ = some (.slice A L'.length c) ∧ b < w.heap.size ∧ s < w.heap.size := by
  obtain ⟨F, F', _, ⟨⟨ov, h2⟩, h3, _⟩, _⟩ := h
  obtain ⟨A, c, rfl⟩ := own_slice_form h2.order
  exact ⟨A, c, cells_at h3 3, cells_at h2.obj 0, lt_of_heap h3, lt_of_heap h2.obj⟩

set_option maxRecDepth 100000 in
set_option maxHeartbeats 16000000 in
theorem cplays_walk {w : World} (n id : Int) {av : Value} {acts : List Act25} (hA : Acts25 (· < w.heap.size) w av acts) (hl : acts.length ≤ 9223372036854775807) :
    Calls Try.prog 5 #[.int .i64 n, .int .i64 id, av] w fun e w' => e = .returned (.bool true) ∧ Ext (fun _ => False) w w' := by
  obtain ⟨A, c, rfl, hcap, _⟩ := _root_.id hA
  have HS := Lib.hid (client_small w)
  have HA := Lib.hid hA
  clear hA
  go_enter Try.func5, Try.ntmps5
  go_wp2_with fail
  refine HS.out.mono ?_
  rintro e w1 ⟨rfl, hx1⟩
  have HR := Lib.hid (ri_new hx1)
  clear hx1
  go_wp2_with fail
  refine HR.out.mono ?_
  rintro e w2 ⟨r, rfl, h2⟩
  have H2 := Lib.hid h2
  clear h2
  go_wp2_with fail
  refine (rg_new w2).mono ?_
  rintro e w3 ⟨s, F', rfl, g3, x3, n3⟩
  have H3 := Lib.hid (And.intro g3 (And.intro x3 n3))
  clear g3 x3 n3
  go_wp2_with fail
  refine (cli_new w3 r n id).mono ?_
  rintro e w4 ⟨x4, ⟨hok, rfl, o4⟩ | ⟨hno, rfl⟩⟩
  case inr =>
    have H4 := Lib.hid (And.intro x4 hno)
    clear x4 hno
    go_wp2_with fail
    refine (dcli_new w4 s n id).mono ?_
    rintro e w5 ⟨x5, ⟨hok, _⟩ | ⟨_, rfl⟩⟩
    · exact absurd hok H4.out.2
    · have H5 := Lib.hid (((H2.out.old.trans H3.out.2.1).trans H4.out.1).trans x5)
      clear x5
      go_wp2_with fail
      go_ret
      exact ⟨rfl, H5.out⟩
  have H4 := Lib.hid (And.intro x4 (And.intro hok o4))
  clear x4 o4
  go_wp2_with fail
  refine (dcli_new w4 s n id).mono ?_
  rintro e w5 ⟨x5, ⟨_, rfl, o5⟩ | ⟨hno, _⟩⟩
  case inr => exact absurd hok hno
  have H5 := Lib.hid (jc_start H2.out H3.out.1 H3.out.2.1 H3.out.2.2 H4.out.1 H4.out.2.2 x5 o5)
  have hid : 1 ≤ id ∧ id ≤ 8 := ⟨hok.2.1, hok.2.2⟩
  have Hok := Lib.hid hok
  generalize w3.heap.size = a at *
  generalize w4.heap.size = b at *
  clear x5 o5 hok
  go_wp2_with fail
  go_loopw [14] (fun i W => ∃ (k st : Nat) (L : List (Int × Bs)), k ≤ 40 ∧ st ≤ k ∧ i = .int .i64 k ∧ JC w (fun _ => False) W a r b s n id st L st L ∧ Few k L) (fun i _ => 40 - (intOf i).toNat)
  case atStart => exact ⟨0, 0, [], by omega, by omega, rfl, H5.out, by simp, by simp⟩
  case round =>
    obtain ⟨k, st, L, hk, hst, rfl, hJ, hF⟩ := hrel
    by_cases hk1 : k < acts.length
    case neg =>
      have hk1' : decide ((k : Int) < (acts.length : Int)) = false := by simp; omega
      have hk1n : decide (k < acts.length) = false := by simpa using hk1
      obtain ⟨AR, cR, z3, z0, zb, zs⟩ := jc_cells hJ
      have HJ := Lib.hid hJ
      clear hJ hF
      go_wp2_with fail
      refine wp_region_mix (Cls [b] _) [([0, 2, 3, 4, 5], 1)] [6, 7] (by kernel_rfl) (by kernel_rfl) (Cls.refl _ _) ?_
      try dsimp only [wpMix, wpSegs, pick, List.getElem?_cons_zero, List.getElem?_cons_succ]
      generalize hz : Act.mk _ _ = z
      repeat (first | (refine wpQuiet_step (fun K hK => ?_); replace hK := Lib.hid hK; subst hz; go_simp; generalize hz : Act.mk _ _ = z; refine hK.out z ?_; clear hK K) | (refine wpQuiet_step (fun K hK => ?_); replace hK := Lib.hid hK; subst hz; refine iteSkip (by kernel_rfl) ?_; go_simp; generalize hz : Act.mk _ _ = z; refine hK.out z ?_; clear hK K))
      refine wpQuiet_nil ?_
      subst hz
      try dsimp only [NoPan]
      go_wp2_with fail
      refine (jc_stamp (HJ.out.ext ((Ext.refl _ _).drew))).mono ?_
      rintro e _ ⟨rfl, rfl⟩
      go_wp2_with fail
      try refine ⟨Cls.refl _ _, ?_⟩
      try dsimp only [wpMix, wpSegs, pick, List.getElem?_cons_zero, List.getElem?_cons_succ]
      generalize hz : Act.mk _ _ = z
      repeat (first | (refine wpQuiet_step (fun K hK => ?_); replace hK := Lib.hid hK; subst hz; go_simp; generalize hz : Act.mk _ _ = z; refine hK.out z ?_; clear hK K) | (refine wpQuiet_step (fun K hK => ?_); replace hK := Lib.hid hK; subst hz; refine iteSkip (by kernel_rfl) ?_; go_simp; generalize hz : Act.mk _ _ = z; refine hK.out z ?_; clear hK K))
      refine wpQuiet_nil ?_
      subst hz
      try dsimp only [NoPan]
      go_wp2_with fail
      go_ret
      exact ⟨rfl, HJ.out.old.drew⟩
    have hk1' : (k : Int) < (acts.length : Int) := by omega
    have hk1n : decide (k < acts.length) = true := by simpa using hk1
    by_cases hk2 : k < 40
    case neg =>
      have hk2' : decide ((k : Int) < 40) = false := by simp; omega
      obtain ⟨AR, cR, z3, z0, zb, zs⟩ := jc_cells hJ
      have HJ := Lib.hid hJ
      clear hJ hF
      go_wp2_with fail
      refine wp_region_mix (Cls [b] _) [([0, 2, 3, 4, 5], 1)] [6, 7] (by kernel_rfl) (by kernel_rfl) (Cls.refl _ _) ?_
      try dsimp only [wpMix, wpSegs, pick, List.getElem?_cons_zero, List.getElem?_cons_succ]
      generalize hz : Act.mk _ _ = z
      repeat (first | (refine wpQuiet_step (fun K hK => ?_); replace hK := Lib.hid hK; subst hz; go_simp; generalize hz : Act.mk _ _ = z; refine hK.out z ?_; clear hK K) | (refine wpQuiet_step (fun K hK => ?_); replace hK := Lib.hid hK; subst hz; refine iteSkip (by kernel_rfl) ?_; go_simp; generalize hz : Act.mk _ _ = z; refine hK.out z ?_; clear hK K))
      refine wpQuiet_nil ?_
      subst hz
      try dsimp only [NoPan]
      go_wp2_with fail
      refine (jc_stamp (HJ.out.ext ((Ext.refl _ _).drew))).mono ?_
      rintro e _ ⟨rfl, rfl⟩
      go_wp2_with fail
      try refine ⟨Cls.refl _ _, ?_⟩
      try dsimp only [wpMix, wpSegs, pick, List.getElem?_cons_zero, List.getElem?_cons_succ]
      generalize hz : Act.mk _ _ = z
      repeat (first | (refine wpQuiet_step (fun K hK => ?_); replace hK := Lib.hid hK; subst hz; go_simp; generalize hz : Act.mk _ _ = z; refine hK.out z ?_; clear hK K) | (refine wpQuiet_step (fun K hK => ?_); replace hK := Lib.hid hK; subst hz; refine iteSkip (by kernel_rfl) ?_; go_simp; generalize hz : Act.mk _ _ = z; refine hK.out z ?_; clear hK K))
      refine wpQuiet_nil ?_
      subst hz
      try dsimp only [NoPan]
      go_wp2_with fail
      go_ret
      exact ⟨rfl, HJ.out.old.drew⟩
    have hk2' : decide ((k : Int) < 40) = true := by simp; omega
    have hx := hJ.old
    obtain ⟨g, off, c', hav, hg, lv, c0, c1, c2, c3, c4, c5, hb⟩ := HA.out.at hk1
    obtain ⟨rfl, rfl⟩ : A = some ⟨g, off, none⟩ ∧ c = c' := by simpa using hav
    clear hav
    replace c0 := cell_same c0 hx
    replace c1 := cell_same c1 hx
    replace c2 := cell_same c2 hx
    replace c3 := cell_same c3 hx
    replace c4 := cell_same c4 hx
    replace c5 := cell_same c5 hx
    generalize acts[k] = act at *
    obtain ⟨lA, lc, rfl, _, _⟩ := _root_.id hb
    have hgw : g < wr.heap.size := by have := hx.size; omega
    have Hb := Lib.hid hb
    by_cases hlong : act.B.length ≤ 16384
    case neg =>
      have hlong' : decide (16384 < (act.B.length : Int)) = true := by simp; omega
      have hlongn : decide (16384 < act.B.length) = true := by simp; omega
      have Hx := Lib.hid hx
      clear hJ hx hb hF
      go_wp2_with fail
      go_ret
      exact ⟨rfl, (Hx.out).alloc _⟩
    have hlong' : decide (16384 < (act.B.length : Int)) = false := by simp; omega
    have hlongn : decide (16384 < act.B.length) = false := by simp; omega
    by_cases hlons : act.S.length ≤ 16384
    case neg =>
      have hlons' : decide (16384 < (act.S.length : Int)) = true := by simp; omega
      have hlonsn : decide (16384 < act.S.length) = true := by simp; omega
      have Hx := Lib.hid hx
      clear hJ hx hb hF
      go_wp2_with fail
      go_ret
      exact ⟨rfl, (Hx.out).alloc _⟩
    have hlons' : decide (16384 < (act.S.length : Int)) = false := by simp; omega
    have hlonsn : decide (16384 < act.S.length) = false := by simp; omega
    have hxb := (Ext.refl (fun _ => False) wr).alloc (Obj.cells #[.int .i64 act.Do, .int .i64 act.N, .int .i64 act.M, .int .i64 act.K, str act.S, .slice lA act.B.length lc] 35)
    have hob := heap_alloc_self wr (Obj.cells #[.int .i64 act.Do, .int .i64 act.N, .int .i64 act.M, .int .i64 act.K, str act.S, .slice lA act.B.length lc] 35)
    have HB := Lib.hid (And.intro (hJ.more (K' := fun k => k = wr.heap.size) hxb (fun _ => False.elim) (fun k hk => .inr (by simp; omega))) (And.intro hob hF))
    have hwold := hx.size
    clear hJ hx hb hF hxb hob
    by_cases d0 : act.Do = 0
    · have d0' : (act.Do == 0) = true := by simpa using d0
      have Hd := Lib.hid d0
      clear d0
      go_wp2_with fail
      generalize wr.alloc (Obj.cells #[.int .i64 act.Do, .int .i64 act.N, .int .i64 act.M, .int .i64 act.K, str act.S, .slice lA act.B.length lc] 35) = W1 at *
      have hbx1 := lt_of_heap HB.out.2.1
      refine (jc_ask' HB.out.1 act.S (by omega) hid (by have := HB.out.2.2.1; omega)).mono ?_
      rintro e W2 ⟨hk2x, v, rfl, hJ2, hv, hn⟩
      have ho2 := (hk2x.2 _ rfl).trans HB.out.2.1
      have e4 : W2.cell? ⟨wr.heap.size, 4, none⟩ = some (str act.S) := cells_at ho2 4
      obtain ⟨AV, cv, hfv, _, _⟩ := hv.formP
      subst hfv
      have H2x := Lib.hid (And.intro hJ2 (And.intro hv (And.intro hn ho2)))
      have hsW2 := hk2x.1
      clear hk2x hJ2 hv hn ho2 c0 c1 c2 c3 c4 c5
      go_wp2_with fail
      refine (jc_dask' H2x.out.1 act.S (by omega) hid (by have := HB.out.2.2.1; omega)).mono ?_
      rintro e W3 ⟨hk3x, u, rfl, hJ3, hu⟩
      obtain ⟨AU, cu, hfu, _, _⟩ := hu.formP
      have hv3 := H2x.out.2.1.keptK hk3x fun k hk => .inr hk
      have ho3 := (hk3x.2 _ (.inl rfl)).trans H2x.out.2.2.2
      have hcv := hv3.byt.conv 33 5 9 Try.underlying33 Try.underlying5 Try.underlying9 W3 rfl
      have hcu := hu.byt.conv 33 5 9 Try.underlying33 Try.underlying5 Try.underlying9 W3 rfl
      subst hfu
      have hF3 := HB.out.2.2.ask id st act.S
      have hN3 := askN_le id st act.S
      have H3x := Lib.hid (And.intro hJ3 (And.intro hv3 (And.intro ho3 (And.intro hF3 (owned_one hv3)))))
      have hsW3 := hk3x.1
      clear hk3x hJ3 hv3 hu ho3 hF3 e4
      generalize askT id st act.S = tt at *
      generalize askC id st act.S = cc at *
      generalize askN id st act.S = st1 at *
      generalize askLs id st act.S L = L1 at *
      go_wp2_with fail
      refine H3x.out.2.2.2.2.mono ?_
      rintro e W4 ⟨rfl, hx4⟩
      have hvb : ∀ q, (Value.slice AV tt.length cv).ownBlock = some q → W1.heap.size ≤ q := H2x.out.2.2.1
      have hJ4 := H3x.out.1.more (K' := fun k => k = wr.heap.size) hx4 (fun q hq => ⟨.inr hq, by have := hvb q hq; omega⟩) (fun q hq => .inl (.inl hq))
      have hob := hx4.heap H3x.out.2.2.1 fun e => by have := hvb _ e; omega
      have HW := Lib.hid (And.intro hJ4 (And.intro hob H3x.out.2.2.2.1))
      have c3W : W4.cell? ⟨wr.heap.size, 3, none⟩ = some (.int .i64 act.K) := cells_at hob 3
      clear hJ4 hob hx4 hcv hcu hvb
      go_wp2_with fail
      refine (jc_result HW.out.1 act.K Hok.out HW.out.2.2.2 (by have := HW.out.2.2.1; omega)).mono ?_
      rintro e Y5 ⟨b5, v5, hag5, rfl, hf5⟩
      obtain ⟨A5, k5, hf5e, _, _⟩ := hf5.own.formP
      subst hf5e
      have c3Y : Y5.cell? ⟨wr.heap.size, 3, none⟩ = some (.int .i64 act.K) := cell_same c3W hf5.ext
      have hJ5y := HW.out.1.more (K' := fun q => q = wr.heap.size ∨ (Value.slice A5 b5.length k5).ownBlock = some q) hf5.ext (fun _ => False.elim) (fun q hq => hq.imp _root_.id fun e => ⟨hf5.new q e, hf5.own.lt q e⟩)
      have HY5 := Lib.hid (And.intro hJ5y (And.intro hf5 hag5))
      clear hf5 hag5 hJ5y c3W
      go_wp2_with fail
      refine (jc_dresult HY5.out.1 act.K Hok.out HW.out.2.2.2 (by have := HW.out.2.2.1; omega)).mono ?_
      rintro e Y6 ⟨b6, v6, hag6, rfl, hf6⟩
      have hbb : b6 = b5 := hag6.unique HY5.out.2.2
      subst hbb
      have hv5 := HY5.out.2.1.own.ext hf6.ext fun _ _ => _root_.id
      have hcv5 := hv5.byt.conv 33 5 9 Try.underlying33 Try.underlying5 Try.underlying9 Y6 rfl
      have hcv6 := hf6.own.byt.conv 33 5 9 Try.underlying33 Try.underlying5 Try.underlying9 Y6 rfl
      obtain ⟨A6, k6, hf6e, _, _⟩ := hf6.own.formP
      subst hf6e
      have HY6 := Lib.hid (And.intro (owned_one hv5) (HY5.out.1.ext hf6.ext))
      have hbnew := HY5.out.2.1.new
      have HNw := Lib.hid hbnew
      clear hv5 hf6 hag6 hbnew c3Y
      go_wp2_with fail
      refine HY6.out.1.mono ?_
      rintro e Y7 ⟨rfl, hx7⟩
      have hwo : w.heap.size ≤ W4.heap.size := HW.out.1.old.size
      have hJ7 := HY6.out.2.more (K' := fun _ => False) hx7 (fun q hq => ⟨.inr hq, by have := HNw.out q hq; omega⟩) (fun _ => False.elim)
      obtain ⟨AR, cR, z3, z0, zb, zs⟩ := jc_cells hJ7
      have HJ7 := Lib.hid hJ7
      clear hJ7 hx7 hcv5 hcv6
      go_wp2_with fail
      refine wp_region_mix (Cls [b, s] _) [([0, 1, 2, 3, 4, 5, 6, 7, 8, 10, 11, 12, 13], 9), ([14, 15, 16, 17, 19, 20, 21, 22, 23], 18)] [24, 25] (by kernel_rfl) (by kernel_rfl) (Cls.refl _ _) ?_
      try dsimp only [wpMix, wpSegs, pick, List.getElem?_cons_zero, List.getElem?_cons_succ]
      generalize hz : Act.mk _ _ = z
      repeat (first | (refine wpQuiet_step (fun K hK => ?_); replace hK := Lib.hid hK; subst hz; go_simp; generalize hz : Act.mk _ _ = z; refine hK.out z ?_; clear hK K) | (refine wpQuiet_step (fun K hK => ?_); replace hK := Lib.hid hK; subst hz; refine iteSkip (by kernel_rfl) ?_; go_simp; generalize hz : Act.mk _ _ = z; refine hK.out z ?_; clear hK K))
      refine wpQuiet_nil ?_
      subst hz
      try dsimp only [NoPan]
      go_wp2_with fail
      refine (jc_stamp (HJ7.out.ext ((Ext.refl _ _).drew))).mono ?_
      rintro e _ ⟨rfl, rfl⟩
      go_wp2_with fail
      refine ⟨Cls.refl _ _, ?_⟩
      try dsimp only [wpMix, wpSegs, pick, List.getElem?_cons_zero, List.getElem?_cons_succ]
      generalize hz : Act.mk _ _ = z
      repeat (first | (refine wpQuiet_step (fun K hK => ?_); replace hK := Lib.hid hK; subst hz; go_simp; generalize hz : Act.mk _ _ = z; refine hK.out z ?_; clear hK K) | (refine wpQuiet_step (fun K hK => ?_); replace hK := Lib.hid hK; subst hz; refine iteSkip (by kernel_rfl) ?_; go_simp; generalize hz : Act.mk _ _ = z; refine hK.out z ?_; clear hK K))
      refine wpQuiet_nil ?_
      subst hz
      try dsimp only [NoPan]
      go_wp2_with fail
      refine (jc_count (HJ7.out.ext ((Ext.refl _ _).drew))).mono ?_
      rintro e _ ⟨rfl, rfl⟩
      go_wp2_with fail
      try refine ⟨Cls.refl _ _, ?_⟩
      try dsimp only [wpMix, wpSegs, pick, List.getElem?_cons_zero, List.getElem?_cons_succ]
      generalize hz : Act.mk _ _ = z
      repeat (first | (refine wpQuiet_step (fun K hK => ?_); replace hK := Lib.hid hK; subst hz; go_simp; generalize hz : Act.mk _ _ = z; refine hK.out z ?_; clear hK K) | (refine wpQuiet_step (fun K hK => ?_); replace hK := Lib.hid hK; subst hz; refine iteSkip (by kernel_rfl) ?_; go_simp; generalize hz : Act.mk _ _ = z; refine hK.out z ?_; clear hK K))
      refine wpQuiet_nil ?_
      subst hz
      try dsimp only [NoPan]
      go_wp2_with fail
      exact ⟨⟨k + 1, st1, L1, by omega, by omega, by go_num, HJ7.out.ext ((Ext.refl _ _).drew), HW.out.2.2⟩, by simp [intOf]; omega⟩
    · have d0' : (act.Do == 0) = false := by simpa using d0
      clear d0
      go_wp2_with fail
      generalize wr.alloc (Obj.cells #[.int .i64 act.Do, .int .i64 act.N, .int .i64 act.M, .int .i64 act.K, str act.S, .slice lA act.B.length lc] 35) = W1 at *
      have hbx1 := lt_of_heap HB.out.2.1
      clear c0 c1 c2 c3 c4 c5
      have q0W1 : W1.cell? ⟨wr.heap.size, 0, none⟩ = some (.int .i64 act.Do) := cells_at HB.out.2.1 0
      have q1W1 : W1.cell? ⟨wr.heap.size, 1, none⟩ = some (.int .i64 act.N) := cells_at HB.out.2.1 1
      have q2W1 : W1.cell? ⟨wr.heap.size, 2, none⟩ = some (.int .i64 act.M) := cells_at HB.out.2.1 2
      have q3W1 : W1.cell? ⟨wr.heap.size, 3, none⟩ = some (.int .i64 act.K) := cells_at HB.out.2.1 3
      have q4W1 : W1.cell? ⟨wr.heap.size, 4, none⟩ = some (str act.S) := cells_at HB.out.2.1 4
      have q5W1 : W1.cell? ⟨wr.heap.size, 5, none⟩ = some (.slice lA act.B.length lc) := cells_at HB.out.2.1 5
      have HSg := Lib.hid (sign_walk2 act ((Hb.out.ext (HB.out.1.old) fun _ _ => _root_.id).same ((Ext.refl (fun _ => False) W1).drew)))
      refine wp_region_bar (Cls [wr.heap.size] _) [([0, 1, 2, 3], 4)] [] 5 [] [] (by kernel_rfl) (by kernel_rfl) (Cls.refl _ _) ?_
      try dsimp only [wpMix, wpSegs, pick, List.getElem?_cons_zero, List.getElem?_cons_succ]
      generalize hz : Act.mk _ _ = z
      repeat (first | (refine wpQuiet_step (fun K hK => ?_); replace hK := Lib.hid hK; subst hz; go_simp; generalize hz : Act.mk _ _ = z; refine hK.out z ?_; clear hK K) | (refine wpQuiet_step (fun K hK => ?_); replace hK := Lib.hid hK; subst hz; refine iteSkip (by kernel_rfl) ?_; go_simp; generalize hz : Act.mk _ _ = z; refine hK.out z ?_; clear hK K))
      refine wpQuiet_nil ?_
      subst hz
      try dsimp only [NoPan]
      go_wp2_with fail
      refine HSg.out.mono ?_
      rintro e W2 ⟨v, rfl, hv, hx2⟩
      have hJ2 := HB.out.1.ext ((Ext.refl (fun _ => False) W1).drew.trans hx2)
      have HS2 := Lib.hid (And.intro (jc_sign hJ2 act.N hv (by have := HB.out.2.2.1; omega)) (And.intro hx2 (hx2.heap HB.out.2.1 _root_.id)))
      clear hv hx2 hJ2
      go_wp2_with fail
      refine ⟨Cls.of_ext HS2.out.2.1 fun q hq => ⟨by simp at hq; subst hq; exact hbx1, _root_.id⟩, ?_⟩
      try dsimp only [wpMix, wpSegs, pick, List.getElem?_cons_zero, List.getElem?_cons_succ]
      generalize hz : Act.mk _ _ = z
      repeat (first | (refine wpQuiet_step (fun K hK => ?_); replace hK := Lib.hid hK; subst hz; go_simp; generalize hz : Act.mk _ _ = z; refine hK.out z ?_; clear hK K) | (refine wpQuiet_step (fun K hK => ?_); replace hK := Lib.hid hK; subst hz; refine iteSkip (by kernel_rfl) ?_; go_simp; generalize hz : Act.mk _ _ = z; refine hK.out z ?_; clear hK K))
      refine wpQuiet_nil ?_
      subst hz
      try dsimp only [NoPan]
      go_wp2_with fail
      refine HS2.out.1.mono ?_
      rintro e W3 ⟨rfl, hJ3, hk3x⟩
      have ho3 := (hk3x.2 _ rfl).trans HS2.out.2.2
      have hbx3 := lt_of_heap ho3
      have H3x := Lib.hid (And.intro hJ3 ho3)
      have q0W3 : W3.cell? ⟨wr.heap.size, 0, none⟩ = some (.int .i64 act.Do) := cells_at ho3 0
      have q1W3 : W3.cell? ⟨wr.heap.size, 1, none⟩ = some (.int .i64 act.N) := cells_at ho3 1
      have q2W3 : W3.cell? ⟨wr.heap.size, 2, none⟩ = some (.int .i64 act.M) := cells_at ho3 2
      have q3W3 : W3.cell? ⟨wr.heap.size, 3, none⟩ = some (.int .i64 act.K) := cells_at ho3 3
      have q4W3 : W3.cell? ⟨wr.heap.size, 4, none⟩ = some (str act.S) := cells_at ho3 4
      have q5W3 : W3.cell? ⟨wr.heap.size, 5, none⟩ = some (.slice lA act.B.length lc) := cells_at ho3 5
      have HSg2 := Lib.hid (sign_walk2 act ((Hb.out.ext (hJ3.old) fun _ _ => _root_.id).same ((Ext.refl (fun _ => False) W3).drew)))
      clear hk3x hJ3 ho3 q0W1 q1W1 q2W1 q3W1 q4W1 q5W1
      go_wp2_with fail
      try dsimp only [wpMix, wpSegs, pick, List.getElem?_cons_zero, List.getElem?_cons_succ]
      generalize hz : Act.mk _ _ = z
      repeat (first | (refine wpQuiet_step (fun K hK => ?_); replace hK := Lib.hid hK; subst hz; go_simp; generalize hz : Act.mk _ _ = z; refine hK.out z ?_; clear hK K) | (refine wpQuiet_step (fun K hK => ?_); replace hK := Lib.hid hK; subst hz; refine iteSkip (by kernel_rfl) ?_; go_simp; generalize hz : Act.mk _ _ = z; refine hK.out z ?_; clear hK K))
      refine wpQuiet_nil ?_
      subst hz
      try dsimp only [NoPan]
      go_wp2_with fail
      refine wp_region_bar (Cls [wr.heap.size] _) [([0, 1, 2, 3], 4)] [] 5 [] [] (by kernel_rfl) (by kernel_rfl) (Cls.refl _ _) ?_
      try dsimp only [wpMix, wpSegs, pick, List.getElem?_cons_zero, List.getElem?_cons_succ]
      generalize hz : Act.mk _ _ = z
      repeat (first | (refine wpQuiet_step (fun K hK => ?_); replace hK := Lib.hid hK; subst hz; go_simp; generalize hz : Act.mk _ _ = z; refine hK.out z ?_; clear hK K) | (refine wpQuiet_step (fun K hK => ?_); replace hK := Lib.hid hK; subst hz; refine iteSkip (by kernel_rfl) ?_; go_simp; generalize hz : Act.mk _ _ = z; refine hK.out z ?_; clear hK K))
      refine wpQuiet_nil ?_
      subst hz
      try dsimp only [NoPan]
      go_wp2_with fail
      refine HSg2.out.mono ?_
      rintro e W4 ⟨v2, rfl, hv2, hx4⟩
      have hJ4 := H3x.out.1.more (K' := fun q => q = wr.heap.size ∨ W3.heap.size ≤ q ∧ q < W4.heap.size) ((Ext.refl (fun _ => False) W3).drew.trans hx4) (fun _ => False.elim) (fun q hq => hq.imp _root_.id _root_.id)
      have HS4 := Lib.hid (And.intro (jc_dsign hJ4 act.N hv2 (fun q hq => hq.elim .inl fun h => .inr (.inr h)) (by have := HB.out.2.2.1; omega)) (And.intro hx4 (hx4.heap H3x.out.2 _root_.id)))
      clear hv2 hx4 hJ4
      go_wp2_with fail
      refine ⟨Cls.of_ext HS4.out.2.1 fun q hq => ⟨by simp at hq; subst hq; exact hbx3, _root_.id⟩, ?_⟩
      try dsimp only [wpMix, wpSegs, pick, List.getElem?_cons_zero, List.getElem?_cons_succ]
      generalize hz : Act.mk _ _ = z
      repeat (first | (refine wpQuiet_step (fun K hK => ?_); replace hK := Lib.hid hK; subst hz; go_simp; generalize hz : Act.mk _ _ = z; refine hK.out z ?_; clear hK K) | (refine wpQuiet_step (fun K hK => ?_); replace hK := Lib.hid hK; subst hz; refine iteSkip (by kernel_rfl) ?_; go_simp; generalize hz : Act.mk _ _ = z; refine hK.out z ?_; clear hK K))
      refine wpQuiet_nil ?_
      subst hz
      try dsimp only [NoPan]
      go_wp2_with fail
      refine HS4.out.1.mono ?_
      rintro e W5 ⟨rfl, hJ5, hk5x⟩
      have hob := (hk5x.2 _ (.inl rfl)).trans HS4.out.2.2
      have HW := Lib.hid (And.intro (hJ5.more (K' := fun k => k = wr.heap.size) (Ext.refl _ _) (fun _ => False.elim) (fun q hq => .inl (.inl hq))) (And.intro hob (HB.out.2.2.sign act.N (signB act))))
      have c3W : W5.cell? ⟨wr.heap.size, 3, none⟩ = some (.int .i64 act.K) := cells_at hob 3
      have hN3 : st ≤ st + 1 := by omega
      clear hJ5 hk5x hob q0W3 q1W3 q2W3 q3W3 q4W3 q5W3
      generalize signL act.N (signB act) L = L1 at *
      go_wp2_with fail
      try dsimp only [wpMix, wpSegs, pick, List.getElem?_cons_zero, List.getElem?_cons_succ]
      generalize hz : Act.mk _ _ = z
      repeat (first | (refine wpQuiet_step (fun K hK => ?_); replace hK := Lib.hid hK; subst hz; go_simp; generalize hz : Act.mk _ _ = z; refine hK.out z ?_; clear hK K) | (refine wpQuiet_step (fun K hK => ?_); replace hK := Lib.hid hK; subst hz; refine iteSkip (by kernel_rfl) ?_; go_simp; generalize hz : Act.mk _ _ = z; refine hK.out z ?_; clear hK K))
      refine wpQuiet_nil ?_
      subst hz
      try dsimp only [NoPan]
      go_wp2_with fail
      refine (jc_result HW.out.1 act.K Hok.out HW.out.2.2.2 (by have := HW.out.2.2.1; omega)).mono ?_
      rintro e Y5 ⟨b5, v5, hag5, rfl, hf5⟩
      obtain ⟨A5, k5, hf5e, _, _⟩ := hf5.own.formP
      subst hf5e
      have c3Y : Y5.cell? ⟨wr.heap.size, 3, none⟩ = some (.int .i64 act.K) := cell_same c3W hf5.ext
      have hJ5y := HW.out.1.more (K' := fun q => q = wr.heap.size ∨ (Value.slice A5 b5.length k5).ownBlock = some q) hf5.ext (fun _ => False.elim) (fun q hq => hq.imp _root_.id fun e => ⟨hf5.new q e, hf5.own.lt q e⟩)
      have HY5 := Lib.hid (And.intro hJ5y (And.intro hf5 hag5))
      clear hf5 hag5 hJ5y c3W
      go_wp2_with fail
      refine (jc_dresult HY5.out.1 act.K Hok.out HW.out.2.2.2 (by have := HW.out.2.2.1; omega)).mono ?_
      rintro e Y6 ⟨b6, v6, hag6, rfl, hf6⟩
      have hbb : b6 = b5 := hag6.unique HY5.out.2.2
      subst hbb
      have hv5 := HY5.out.2.1.own.ext hf6.ext fun _ _ => _root_.id
      have hcv5 := hv5.byt.conv 33 5 9 Try.underlying33 Try.underlying5 Try.underlying9 Y6 rfl
      have hcv6 := hf6.own.byt.conv 33 5 9 Try.underlying33 Try.underlying5 Try.underlying9 Y6 rfl
      obtain ⟨A6, k6, hf6e, _, _⟩ := hf6.own.formP
      subst hf6e
      have HY6 := Lib.hid (And.intro (owned_one hv5) (HY5.out.1.ext hf6.ext))
      have hbnew := HY5.out.2.1.new
      have HNw := Lib.hid hbnew
      clear hv5 hf6 hag6 hbnew c3Y
      go_wp2_with fail
      refine HY6.out.1.mono ?_
      rintro e Y7 ⟨rfl, hx7⟩
      have hwo : w.heap.size ≤ W5.heap.size := HW.out.1.old.size
      have hJ7 := HY6.out.2.more (K' := fun _ => False) hx7 (fun q hq => ⟨.inr hq, by have := HNw.out q hq; omega⟩) (fun _ => False.elim)
      obtain ⟨AR, cR, z3, z0, zb, zs⟩ := jc_cells hJ7
      have HJ7 := Lib.hid hJ7
      clear hJ7 hx7 hcv5 hcv6
      go_wp2_with fail
      refine wp_region_mix (Cls [b, s] _) [([0, 1, 2, 3, 4, 5, 6, 7, 8, 10, 11, 12, 13], 9), ([14, 15, 16, 17, 19, 20, 21, 22, 23], 18)] [24, 25] (by kernel_rfl) (by kernel_rfl) (Cls.refl _ _) ?_
      try dsimp only [wpMix, wpSegs, pick, List.getElem?_cons_zero, List.getElem?_cons_succ]
      generalize hz : Act.mk _ _ = z
      repeat (first | (refine wpQuiet_step (fun K hK => ?_); replace hK := Lib.hid hK; subst hz; go_simp; generalize hz : Act.mk _ _ = z; refine hK.out z ?_; clear hK K) | (refine wpQuiet_step (fun K hK => ?_); replace hK := Lib.hid hK; subst hz; refine iteSkip (by kernel_rfl) ?_; go_simp; generalize hz : Act.mk _ _ = z; refine hK.out z ?_; clear hK K))
      refine wpQuiet_nil ?_
      subst hz
      try dsimp only [NoPan]
      go_wp2_with fail
      refine (jc_stamp (HJ7.out.ext ((Ext.refl _ _).drew))).mono ?_
      rintro e _ ⟨rfl, rfl⟩
      go_wp2_with fail
      refine ⟨Cls.refl _ _, ?_⟩
      try dsimp only [wpMix, wpSegs, pick, List.getElem?_cons_zero, List.getElem?_cons_succ]
      generalize hz : Act.mk _ _ = z
      repeat (first | (refine wpQuiet_step (fun K hK => ?_); replace hK := Lib.hid hK; subst hz; go_simp; generalize hz : Act.mk _ _ = z; refine hK.out z ?_; clear hK K) | (refine wpQuiet_step (fun K hK => ?_); replace hK := Lib.hid hK; subst hz; refine iteSkip (by kernel_rfl) ?_; go_simp; generalize hz : Act.mk _ _ = z; refine hK.out z ?_; clear hK K))
      refine wpQuiet_nil ?_
      subst hz
      try dsimp only [NoPan]
      go_wp2_with fail
      refine (jc_count (HJ7.out.ext ((Ext.refl _ _).drew))).mono ?_
      rintro e _ ⟨rfl, rfl⟩
      go_wp2_with fail
      try refine ⟨Cls.refl _ _, ?_⟩
      try dsimp only [wpMix, wpSegs, pick, List.getElem?_cons_zero, List.getElem?_cons_succ]
      generalize hz : Act.mk _ _ = z
      repeat (first | (refine wpQuiet_step (fun K hK => ?_); replace hK := Lib.hid hK; subst hz; go_simp; generalize hz : Act.mk _ _ = z; refine hK.out z ?_; clear hK K) | (refine wpQuiet_step (fun K hK => ?_); replace hK := Lib.hid hK; subst hz; refine iteSkip (by kernel_rfl) ?_; go_simp; generalize hz : Act.mk _ _ = z; refine hK.out z ?_; clear hK K))
      refine wpQuiet_nil ?_
      subst hz
      try dsimp only [NoPan]
      go_wp2_with fail
      exact ⟨⟨k + 1, st, L1, by omega, by omega, by go_num, HJ7.out.ext ((Ext.refl _ _).drew), HW.out.2.2⟩, by simp [intOf]; omega⟩
end Go.Proofs.Ytcedpdjjjfdbiaa
