/- The digest of bytes; no condition. -/
import Derived.Test.YtoflfhjeabpcjaaSha6
namespace Go.Proofs.Ytoflfhjeabpcjaa
set_option linter.unusedVariables false
set_option linter.unusedSimpArgs false
open Go.RowKit

theorem sums_len (hs ss : List Nat) (h : hs.length = 8) (h2 : ss.length = 8) : (sums hs ss).length = 8 := by simp [sums, h, h2]
theorem mixS_len (ks hs : List Nat) (l : Bs) (h : hs.length = 8) : (mixS ks hs l).length = 8 := by
  match hs, h with
  | [x0, x1, x2, x3, x4, x5, x6, x7], _ => exact sums_len _ _ rfl rfl
/-- The words behind j blocks of p. -/
def hashN (p : Bs) : Nat → List Nat
  | 0 => hs0
  | j + 1 => mixS ks0 (hashN p j) ((p.drop (64 * j)).take 64)
theorem hashN_len (p : Bs) : ∀ j, (hashN p j).length = 8
  | 0 => rfl
  | j + 1 => mixS_len _ _ _ (hashN_len p j)
def sumAt (hs : List Nat) (i : Nat) : UInt8 := UInt8.ofNat ((hs.getD (i / 4) 0 / 2 ^ (24 - i % 4 * 8)) % 256)
def sumB (hs : List Nat) : Bs := (List.range 32).map (sumAt hs)
/-- The digest of l. -/
def rawB (l : Bs) : Bs := sumB (hashN (fillB l) ((fillB l).length / 64))
theorem rawB_len (l : Bs) : (rawB l).length = 32 := by simp [rawB, sumB]
/-- A digest's value. -/
def sumV (s : Bs) : Value := .agg (s.map byteV).toArray
/-- Bytes in a block of their own. -/
structure Arr (w : World) (b : Nat) (t : TypeId) (s : Bs) : Prop where
  obj : w.heap[b]? = some (.cells (s.map byteV).toArray t (0, 0))
theorem Arr.cell {w : World} {b : Nat} {t : TypeId} {s : Bs} (h : Arr w b t s) {i : Nat} (hi : i < s.length) : w.cell? ⟨b, i, none⟩ = some (byteV s[i]) := by
  rw [cells_at h.obj]
  simp [hi]
theorem Arr.melt {w : World} {b : Nat} {t : TypeId} {s : Bs} (h : Arr w b t s) (i : Nat) : w.frozen? ⟨b, i, none⟩ = false := by simp [World.frozen?, h.obj]
theorem Arr.put {w : World} {b : Nat} {t : TypeId} {s : Bs} (h : Arr w b t s) (i : Nat) (x : UInt8) : Arr (w.setCell ⟨b, i, none⟩ (.int .u8 x.toNat)) b t (s.set i x) := by
  refine ⟨?_⟩
  rw [heap_setCell_self h.obj]
  simp [byteV]
theorem two_first (w : World) (o1 o2 : Obj) : ((w.alloc o1).alloc o2).heap[w.heap.size]? = some o1 := by
  rw [heap_alloc_lt _ _ _ (lt_of_heap (heap_alloc_self w o1))]
  exact heap_alloc_self w o1
theorem two_second (w : World) (o1 o2 : Obj) (X : Array Value) : (((w.alloc o1).alloc o2).setRow w.heap.size X).heap[w.heap.size + 1]? = some o2 := by
  rw [setRow_other _ _ _ _ (by omega)]
  refine heap_alloc_at ?_
  simp
/-- The two tables laid out. -/
theorem two_tables (w : World) (o1 o2 : Array Value) (X Y : Array Value) (hs ks : List Nat) (hX : (hs.map u32).toArray = X) (hY : (ks.map u32).toArray = Y) (h1 : ∀ x ∈ hs, x < 4294967296) (h2 : ∀ x ∈ ks, x < 4294967296) :
    ∀ W, W = (((w.alloc (.cells o1 126 (0, 0))).alloc (.cells o2 128 (0, 0))).setRow w.heap.size X).setRow (w.heap.size + 1) Y →
      Words W w.heap.size 126 hs ∧ Words W (w.heap.size + 1) 128 ks ∧ Ext (fun _ => False) w W ∧ W.heap.size = w.heap.size + 2 := by
  rintro W rfl
  subst hX hY
  refine ⟨⟨?_, h1⟩, ⟨setRow_heap _ _ _ _ _ _ (two_second _ _ _ _), h2⟩, ((((Ext.refl _ _).alloc _).alloc _).setRow (.inr (Nat.le_refl _)) _).setRow (.inr (by omega)) _, by simp⟩
  rw [setRow_other _ _ _ _ (by omega)]
  exact setRow_heap _ _ _ _ _ _ (two_first _ _ _)
theorem Arr.ext {F : Nat → Prop} {w w' : World} {b : Nat} {t : TypeId} {s : Bs} (h : Arr w b t s) (hx : Ext F w w') (hF : ¬ F b) : Arr w' b t s := ⟨hx.heap h.obj hF⟩
theorem byt_block {w W : World} {bh g o : Nat} {p : Bs} (j : Nat) {nb : Nat} (hcell : ∀ (i : Nat) (u : UInt8), p[i]? = some u → w.cell? ⟨g, o + i, none⟩ = some (.int .u8 u.toNat)) (hx : Ext (· = bh) w W) (hg : g ≠ bh) (hj : j < nb) (hp : p.length = 64 * nb) (c : Nat) (hc : 64 ≤ c) :
    Byt (· = g) W (.slice (some ⟨g, o + 64 * j, none⟩) 64 c) ((p.drop (64 * j)).take 64) := by
  have hl : ((p.drop (64 * j)).take 64).length = 64 := by rw [List.length_take, List.length_drop, hp]; omega
  refine ⟨_, c, by rw [hl], by rw [hl]; exact hc, fun _ => ⟨_, rfl, rfl, fun i u hu => ?_⟩⟩
  have hi : i < 64 := by
    have := (List.getElem?_eq_some_iff.1 hu).1
    omega
  rw [List.getElem?_take_of_lt hi, List.getElem?_drop] at hu
  have ha : (⟨g, o + 64 * j, none⟩ : Addr).add i = ⟨g, o + (64 * j + i), none⟩ := by unfold Addr.add; split <;> simp_all [Nat.add_assoc]
  rw [ha]
  exact cell_ext (hcell _ _ hu) hx hg
theorem sum_set (hs : List Nat) (i : Nat) (h : i < 32) : ((sumB hs).take i ++ List.replicate (32 - i) (0 : UInt8)).set i (sumAt hs i) = (sumB hs).take (i + 1) ++ List.replicate (32 - (i + 1)) 0 := by
  have h32 : (sumB hs).length = 32 := by simp [sumB]
  rw [List.take_succ_eq_append_getElem (by rw [h32]; exact h), List.set_append, if_neg (by simp [h32]; omega)]
  have e : i - ((sumB hs).take i).length = 0 := by simp [h32]; omega
  rw [e, show 32 - i = (32 - (i + 1)) + 1 by omega, List.replicate_succ, List.set_cons_zero]
  simp [sumB]

set_option maxRecDepth 100000 in
set_option maxHeartbeats 1000000 in
theorem raw_walk {w : World} {D : Nat → Prop} {v : Value} {l : Bs} (hv : Byt D w v l) (hl : l.length ≤ 140737488351232) :
    Calls Try.prog 47 #[v] w fun e w' => e = .returned (sumV (rawB l)) ∧ Ext (fun _ => False) w w' := by
  obtain ⟨A, c, rfl, hle, _⟩ := id hv
  have Hv := Lib.hid hv
  have hxa : ∀ W o, Ext (fun _ => False) w W → Ext (fun _ => False) w (W.alloc o) := fun W o h => h.alloc o
  have H0 := Lib.hid (And.intro hxa (first_walk (w.alloc (.cells ((List.replicate 32 (0 : UInt8)).map byteV).toArray 29 (0, 0)))))
  clear hv hle hxa
  go_enter Try.func47, Try.ntmps47
  go_wp2_with fail
  refine H0.out.2.mono ?_
  rintro e w1 ⟨rfl, h1⟩
  have H1 := Lib.hid (And.intro h1 (constants_walk w1))
  clear h1
  generalize hX : (List.map u32 hs0).toArray = X
  have HX := Lib.hid hX
  clear hX
  go_wp2_with fail
  refine H1.out.2.mono ?_
  rintro e w2 ⟨rfl, h2⟩
  have H2 := Lib.hid h2
  clear h2
  generalize hY : (List.map u32 ks0).toArray = Y
  have HY := Lib.hid hY
  clear hY
  have hXs : X.size = 8 := by rw [← HX.out]; rfl
  have hYs : Y.size = 64 := by rw [← HY.out]; rfl
  have hXo : X.all (·.oneCell') = true := by rw [← HX.out]; kernel_rfl
  have hYo : Y.all (·.oneCell') = true := by rw [← HY.out]; kernel_rfl
  have hXi : (Try.prog.info? 126).map (·.size) = some X.size := by rw [hXs]; kernel_rfl
  have hYi : (Try.prog.info? 128).map (·.size) = some Y.size := by rw [hYs]; kernel_rfl
  have HT := Lib.hid (two_tables w2 #[.int .u32 0, .int .u32 0, .int .u32 0, .int .u32 0, .int .u32 0, .int .u32 0, .int .u32 0, .int .u32 0] #[.int .u32 0, .int .u32 0, .int .u32 0, .int .u32 0, .int .u32 0, .int .u32 0, .int .u32 0, .int .u32 0, .int .u32 0, .int .u32 0, .int .u32 0, .int .u32 0, .int .u32 0, .int .u32 0, .int .u32 0, .int .u32 0, .int .u32 0, .int .u32 0, .int .u32 0, .int .u32 0, .int .u32 0, .int .u32 0, .int .u32 0, .int .u32 0, .int .u32 0, .int .u32 0, .int .u32 0, .int .u32 0, .int .u32 0, .int .u32 0, .int .u32 0, .int .u32 0, .int .u32 0, .int .u32 0, .int .u32 0, .int .u32 0, .int .u32 0, .int .u32 0, .int .u32 0, .int .u32 0, .int .u32 0, .int .u32 0, .int .u32 0, .int .u32 0, .int .u32 0, .int .u32 0, .int .u32 0, .int .u32 0, .int .u32 0, .int .u32 0, .int .u32 0, .int .u32 0, .int .u32 0, .int .u32 0, .int .u32 0, .int .u32 0, .int .u32 0, .int .u32 0, .int .u32 0, .int .u32 0, .int .u32 0, .int .u32 0, .int .u32 0, .int .u32 0] X Y hs0 ks0 HX.out HY.out (by decide) (by decide))
  have HS := Lib.hid (And.intro (two_first w2) (And.intro (two_second w2) (And.intro (And.intro hXs hYs) (And.intro (And.intro hXo hYo) (And.intro hXi hYi)))))
  clear hXs hYs hXo hYo hXi hYi
  go_wp2_with (first
    | refine wpList_store_row rfl 126 _ _ rfl w2.heap.size X rfl rfl 126 _ (HS.out.1 _ _) HS.out.2.2.2.2.1 HS.out.2.2.1.1.symm HS.out.2.2.2.1.1 ?_
    | refine wpList_store_row rfl 128 _ _ rfl (w2.heap.size + 1) Y rfl rfl 128 _ (HS.out.2.1 _ _ _) HS.out.2.2.2.2.2 HS.out.2.2.1.2.symm HS.out.2.2.2.1.2 ?_)
  have hT := HT.out _ rfl
  generalize (((w2.alloc (Obj.cells #[.int .u32 0, .int .u32 0, .int .u32 0, .int .u32 0, .int .u32 0, .int .u32 0, .int .u32 0, .int .u32 0] 126)).alloc (Obj.cells #[.int .u32 0, .int .u32 0, .int .u32 0, .int .u32 0, .int .u32 0, .int .u32 0, .int .u32 0, .int .u32 0, .int .u32 0, .int .u32 0, .int .u32 0, .int .u32 0, .int .u32 0, .int .u32 0, .int .u32 0, .int .u32 0, .int .u32 0, .int .u32 0, .int .u32 0, .int .u32 0, .int .u32 0, .int .u32 0, .int .u32 0, .int .u32 0, .int .u32 0, .int .u32 0, .int .u32 0, .int .u32 0, .int .u32 0, .int .u32 0, .int .u32 0, .int .u32 0, .int .u32 0, .int .u32 0, .int .u32 0, .int .u32 0, .int .u32 0, .int .u32 0, .int .u32 0, .int .u32 0, .int .u32 0, .int .u32 0, .int .u32 0, .int .u32 0, .int .u32 0, .int .u32 0, .int .u32 0, .int .u32 0, .int .u32 0, .int .u32 0, .int .u32 0, .int .u32 0, .int .u32 0, .int .u32 0, .int .u32 0, .int .u32 0, .int .u32 0, .int .u32 0, .int .u32 0, .int .u32 0, .int .u32 0, .int .u32 0, .int .u32 0, .int .u32 0] 128)).setRow w2.heap.size X).setRow (w2.heap.size + 1) Y = w5 at *
  obtain ⟨hh5, hk5, hx5, hs5⟩ := hT
  clear HT HS HX HY
  have hlt2 : w.heap.size < w2.heap.size := by
    have h1 := lt_of_heap (heap_alloc_self w (.cells ((List.replicate 32 (0 : UInt8)).map byteV).toArray 29 (0, 0)))
    have h2 := (H1.out.1.trans H2.out).size
    omega
  generalize w2.heap.size = bh at *
  have hx05 : Ext (fun _ => False) w w5 := (((H0.out.1 _ _ (Ext.refl _ _)).trans H1.out.1).trans H2.out).trans hx5
  have c2 : w5.heap[w.heap.size]? = some (.cells ((List.replicate 32 (0 : UInt8)).map byteV).toArray 29 (0, 0)) :=
    ((H1.out.1.trans H2.out).trans hx5).heap (heap_alloc_self _ _) id
  have HF := Lib.hid (filled_walk (Hv.out.same hx05) hl)
  have H5 := Lib.hid (And.intro hh5 (And.intro hk5 (And.intro hx05 c2)))
  clear hh5 hk5 hx5 hx05 c2 H0 H1 H2
  refine HF.out.mono ?_
  rintro e w6 ⟨v6, rfl, h6⟩
  clear HF
  have hpl := fillB_len l
  have hne : fillB l ≠ [] := by intro e; simp [fillB] at e
  have hraw : rawB l = sumB (hashN (fillB l) ((fillB l).length / 64)) := rfl
  generalize fillB l = p at *
  obtain ⟨g, o, cp, rfl, hcp, hgD, hcell⟩ := h6.byt.plain hne
  rw [hpl] at hraw hcp ⊢
  have h64 : 64 * ((l.length + 9 + padZ l.length) / 64) / 64 = (l.length + 9 + padZ l.length) / 64 := by omega
  have hnb : (l.length + 9 + padZ l.length) / 64 ≤ 2199023255600 := by
    have : padZ l.length < 64 := Nat.mod_lt _ (by decide)
    omega
  rw [h64] at hraw
  generalize (l.length + 9 + padZ l.length) / 64 = nb at *
  have hh6 := H5.out.1.ext h6.ext id
  have hk6 := H5.out.2.1.ext h6.ext id
  have ha6 : Arr w6 w.heap.size 29 (List.replicate 32 (0 : UInt8)) := ⟨h6.ext.heap H5.out.2.2.2 id⟩
  have hx6 := H5.out.2.2.1.trans h6.ext
  have hgb : bh + 2 ≤ g := by omega
  have H6 := Lib.hid (And.intro (And.intro hh6 hk6) (And.intro ha6 (And.intro hx6 (And.intro hcell (And.intro hpl hraw)))))
  clear hh6 hk6 ha6 hx6 hcell hpl hraw h6 hgD H5
  go_wp2_with fail
  go_loopw [5] (fun u W => ∃ (j : Nat) (A' : Option Addr) (c' : Nat), j ≤ nb ∧ u = .slice A' (64 * nb - 64 * j) c' ∧ 64 * nb - 64 * j ≤ c' ∧ (j < nb → A' = some ⟨g, o + 64 * j, none⟩) ∧ Words W bh 126 (hashN p j) ∧ Ext (· = bh) w6 W) (fun u _ => lenV u)
  case atStart => exact ⟨0, _, cp, by omega, rfl, by omega, fun _ => rfl, H6.out.1.1, Ext.refl _ _⟩
  case round =>
    obtain ⟨j, A', c', hj, rfl, hc', hA', hW, hx⟩ := hrel
    by_cases hlt : j < nb
    · obtain rfl := hA' hlt
      have hb := byt_block j (H6.out.2.2.2.1) hx (by omega) hlt H6.out.2.2.2.2.1 c' (by omega)
      have HM := Lib.hid (mix_walk (ks := ks0) hW (H6.out.1.2.ext hx (by omega)) (hashN_len p j) rfl hb (by rw [List.length_take, List.length_drop, H6.out.2.2.2.2.1]; omega))
      have HX := Lib.hid hx
      clear hb hW hx hA'
      have hpos : decide ((0 : Int) < ((64 * nb - 64 * j : Nat) : Int)) = true := by simp; omega
      go_wp2_with fail
      refine HM.out.mono ?_
      rintro e w7 ⟨rfl, hW7, hx7⟩
      have H7 := Lib.hid (And.intro hW7 (HX.out.trans hx7))
      clear hW7 hx7 HX HM
      go_wp2_with fail
      refine ⟨⟨j + 1, _, _, by omega, by rw [show 64 * nb - 64 * j - 64 = 64 * nb - 64 * (j + 1) by omega], by omega, fun hlt2 => ?_, H7.out.1, H7.out.2⟩, by simp [lenV]; omega⟩
      rw [if_neg (by omega)]
      rfl
    · have hje : j = nb := by omega
      subst hje
      have hz : 64 * j - 64 * j = 0 := by omega
      rw [hz]
      have hb2 : w.heap.size ≠ bh := by omega
      have hax : ∀ o, Ext (fun _ => False) wr (wr.alloc o) := fun o => (Ext.refl _ wr).alloc o
      have hb6 : bh < wr.heap.size := lt_of_heap hW.obj
      have hx08 : Ext (fun _ => False) w wr := H6.out.2.2.1.trans' hx fun b hb => .inr (by omega)
      have H7 := Lib.hid (And.intro hW (And.intro (H6.out.2.1.ext hx (by omega)) (And.intro hx08 (And.intro hax (heap_alloc_self wr)))))
      have hhl := hashN_len p j
      have hraw := H6.out.2.2.2.2.2
      generalize hashN p j = hs at *
      have HR := Lib.hid hraw
      clear hW hx hax hx08 hc' hA' H6 hraw
      go_wp2_with fail
      generalize hw8 : wr.alloc _ = w8
      have hxa : Ext (fun _ => False) wr w8 := by rw [← hw8]; exact H7.out.2.2.2.1 _
      have ha8 : Arr w8 wr.heap.size 29 (List.replicate 32 (0 : UInt8)) := ⟨by rw [← hw8]; exact H7.out.2.2.2.2 _⟩
      have H8 := Lib.hid (And.intro (H7.out.1.ext hxa id) (And.intro (H7.out.2.1.ext hxa id) (And.intro ha8 (H7.out.2.2.1.trans hxa))))
      clear hxa ha8 H7 hw8
      generalize wr.heap.size = b6 at *
      go_loopw [20] (fun t W => ∃ i : Nat, i ≤ 32 ∧ t = .int .i64 i ∧ Arr W b6 29 ((sumB hs).take i ++ List.replicate (32 - i) 0) ∧ Ext (· = b6) w8 W) (fun t _ => 32 - (intOf t).toNat)
      case atStart => exact ⟨0, by omega, rfl, by simpa using H8.out.2.2.1, Ext.refl _ _⟩
      case round =>
        obtain ⟨i, hi, rfl, hA, hx⟩ := hrel
        by_cases hlt : i < 32
        · have hi' : decide ((i : Int) < 32) = true := by simp; omega
          have hi'' : (i : Int) < 32 := by omega
          have hWr := H8.out.1.ext hx (by omega)
          have hd : (i : Int) / 4 = ((i / 4 : Nat) : Int) := by omega
          have hm : (i : Int) % 4 = ((i % 4 : Nat) : Int) := by omega
          have ck := hWr.cell (i := i / 4) (by omega)
          have halw := lt_of_heap hWr.obj
          have hala := lt_of_heap hA.obj
          have hfr := hA.melt i
          have hal : ((sumB hs).take i ++ List.replicate (32 - i) (0 : UInt8)).length = 32 := by simp [sumB]; omega
          obtain ⟨v0, hca⟩ : ∃ v0, wr.cell? ⟨b6, i, none⟩ = some v0 := ⟨_, hA.cell (i := i) (by rw [hal]; exact hlt)⟩
          have hsum : sumAt hs i = UInt8.ofNat ((hs[i / 4]'(by omega) / 2 ^ (24 - i % 4 * 8)) % 256) := by
            rw [sumAt, List.getD_eq_getElem?_getD, List.getElem?_eq_getElem (by omega)]; rfl
          have hbv : ((hs[i / 4]'(by omega) : Nat) : Int) / 2 ^ (24 - i % 4 * 8) % 256 = ((sumAt hs i).toNat : Int) := by
            rw [hsum, UInt8.toNat_ofNat', Nat.mod_mod]; push_cast; rfl
          have hput := hA.put i (sumAt hs i)
          have hset : ((sumB hs).take i ++ List.replicate (32 - i) (0 : UInt8)).set i (sumAt hs i) = (sumB hs).take (i + 1) ++ List.replicate (32 - (i + 1)) 0 := sum_set hs i hlt
          rw [hset] at hput
          have H9 := Lib.hid (And.intro hput (And.intro hx hbv))
          generalize hs[i / 4]'(by omega) = y at *
          generalize sumAt hs i = z at *
          clear hput hset hx hsum hA hWr hal hbv hd hm
          go_wp2_with fail
          rw [H9.out.2.2]
          exact ⟨⟨i + 1, by omega, by go_num, H9.out.1, H9.out.2.1.setCell (a := ⟨b6, i, none⟩) (.inl rfl) _⟩, by simp [intOf]; omega⟩
        · have : i = 32 := by omega
          subst this
          have hi' : decide ((32 : Int) < 32) = false := by decide
          have hsv : (sumB hs).take 32 ++ List.replicate (32 - 32) (0 : UInt8) = sumB hs := by
            rw [List.take_of_length_le (by simp [sumB])]
            simp
          rw [hsv] at hA
          have hB := H8.out.2.1.ext hx (by omega)
          have h32 : (sumB hs).length = 32 := by simp [sumB]
          have hall : (((sumB hs).map byteV).toArray).all (·.oneCell') = true := by
            rw [Array.all_eq_true]
            intro k hk
            simp [byteV, Value.oneCell']
          have hsz : (((sumB hs).map byteV).toArray).size = 32 := by simp [h32]
          have hxf := H8.out.2.2.2.trans' hx fun b hb => .inr (by omega)
          have H9 := Lib.hid (And.intro (And.intro hA hB) (And.intro hall (And.intro hsz hxf)))
          clear hA hB hall hsz hx h32 hsv
          generalize hcs : ((sumB hs).map byteV).toArray = cs at *
          have Hcs := Lib.hid hcs
          clear hcs
          go_wp2_with (first
            | refine wpList_load_row rfl 29 _ rfl b6 rfl 29 cs (0, 0) _ (by have := H9.out.1.1.obj; rw [Hcs.out] at this; exact this) Try.underlying29 rfl (by rw [H9.out.2.2.1]; kernel_rfl) ?_
            | refine wpList_store_row rfl 29 _ _ rfl w.heap.size cs rfl rfl 29 _ H9.out.1.2.obj (by rw [H9.out.2.2.1]; kernel_rfl) (by rw [H9.out.2.2.1]; simp) H9.out.2.1 ?_)
          refine bodyPost_ret (results_cell_row rfl _ _ w.heap.size 29 cs (0, 0) _ rfl (setRow_heap _ _ _ _ _ _ H9.out.1.2.obj) Try.underlying29 rfl (by rw [H9.out.2.2.1]; kernel_rfl)) rfl ?_
          refine ⟨?_, H9.out.2.2.2.setRow (.inr (Nat.le_refl _)) _⟩
          rw [HR.out, ← Hcs.out]
          rfl
end Go.Proofs.Ytoflfhjeabpcjaa
