/- The document's digest of bytes; no condition. -/
import Derived.Test.YtoflfhjeabpcjaaRefSha3
namespace Go.Proofs.Ytoflfhjeabpcjaa
set_option linter.unusedVariables false
set_option linter.unusedSimpArgs false
open Go.RowKit

theorem runsE_list (s : St) : s.list = [s.a, s.b, s.c, s.d, s.e, s.f, s.g, s.i] := rfl
theorem fresh_none {w : World} {g : Nat} {t : TypeId} (h : w.heap[g]? = some (.cells #[] t (0, 0))) (ht : t = 5) : OwnB w (.slice (some ⟨g, 0, none⟩) 0 0) [] := by
  subst ht
  exact .inr ⟨g, 0, _, (0, 0), rfl, h, Nat.le_refl _, Nat.zero_le _, by omega, fun i _ h => by simp at h, fun j u hu => by simp at hu⟩
theorem fresh_empty (w : World) : FreshB w [] (.slice (some ⟨w.heap.size, 0, none⟩) 0 0) (w.alloc (Obj.cells #[] 5)) :=
  ⟨fresh_none (heap_alloc_self _ _) rfl, (Ext.refl _ _).alloc _, fun k hk => by
    simp only [Value.ownBlock, Option.some.injEq] at hk
    omega⟩
theorem sums_step (x0 x1 x2 x3 x4 x5 x6 x7 s0 s1 s2 s3 s4 s5 s6 s7 k : Nat) (hk : k < 8) : ∃ x s : Nat,
    ([s0, s1, s2, s3, s4, s5, s6, s7] : List Nat)[k]? = some s ∧ (partS [x0, x1, x2, x3, x4, x5, x6, x7] [s0, s1, s2, s3, s4, s5, s6, s7] k)[k]? = some x ∧
      (partS [x0, x1, x2, x3, x4, x5, x6, x7] [s0, s1, s2, s3, s4, s5, s6, s7] k).set k ((x + s) % 4294967296) = partS [x0, x1, x2, x3, x4, x5, x6, x7] [s0, s1, s2, s3, s4, s5, s6, s7] (k + 1) ∧
      (partS [x0, x1, x2, x3, x4, x5, x6, x7] [s0, s1, s2, s3, s4, s5, s6, s7] k).length = 8 ∧ x ∈ [x0, x1, x2, x3, x4, x5, x6, x7] ∧ s ∈ [s0, s1, s2, s3, s4, s5, s6, s7] := by
  have hcs : k = 0 ∨ k = 1 ∨ k = 2 ∨ k = 3 ∨ k = 4 ∨ k = 5 ∨ k = 6 ∨ k = 7 := by omega
  rcases hcs with rfl | rfl | rfl | rfl | rfl | rfl | rfl | rfl <;> exact ⟨_, _, rfl, rfl, rfl, rfl, by simp, by simp⟩
theorem St.mem_lt {s : St} (h : StOk s) : ∀ x ∈ s.list, x < 4294967296 := by
  obtain ⟨h1, h2, h3, h4, h5, h6, h7, h8⟩ := h
  intro x hx
  simp only [St.list, List.mem_cons, List.not_mem_nil, or_false] at hx
  rcases hx with rfl | rfl | rfl | rfl | rfl | rfl | rfl | rfl <;> assumption
theorem hs0_lt : ∀ x ∈ hs0, x < 4294967296 := by decide
theorem sums_lt (a b : List Nat) : ∀ x ∈ sums a b, x < 4294967296 := by
  intro x hx
  obtain ⟨n, hn⟩ := List.mem_iff_getElem?.1 hx
  rw [sums, List.getElem?_zipWith] at hn
  split at hn
  · obtain rfl := Option.some.inj hn
    exact mod_u32 _
  · cases hn
theorem mixS_lt (ks hs : List Nat) (l : Bs) (h : hs.length = 8) : ∀ x ∈ mixS ks hs l, x < 4294967296 := by
  match hs, h with
  | [x0, x1, x2, x3, x4, x5, x6, x7], _ => exact sums_lt _ _
theorem hashN_lt (p : Bs) : ∀ j, ∀ x ∈ hashN p j, x < 4294967296
  | 0 => hs0_lt
  | j + 1 => mixS_lt _ _ _ (hashN_len p j)
theorem ks0_lt : ∀ x ∈ ks0, x < 4294967296 := by decide
theorem ks0_get (t : Nat) (h : t < 64) : ∃ k, ks0[t]? = some k ∧ ks0.getD t 0 = k ∧ k < 4294967296 := by
  have hl : ks0.length = 64 := by decide
  refine ⟨ks0[t]'(by omega), List.getElem?_eq_getElem _, ?_, ks0_lt _ (List.getElem_mem _)⟩
  rw [List.getD_eq_getElem?_getD, List.getElem?_eq_getElem (by omega)]
  rfl
theorem exp_get (l : Bs) (t : Nat) (h : t < 64) : (expL l 64)[t]? = some (wE l t) := by
  have := expL_get l 64 t h
  have hl := expL_len l 64
  rw [List.getD_eq_getElem?_getD, List.getElem?_eq_getElem (by omega), Option.getD_some] at this
  rw [List.getElem?_eq_getElem (by omega), this]

set_option maxRecDepth 100000 in
set_option maxHeartbeats 4000000 in
theorem draw_walk {w : World} {D : Nat → Prop} {v : Value} {l : Bs} (hv : Byt D w v l) (hl : l.length ≤ 140737488351232) :
    Calls Try.prog 37 #[v] w fun e w' => e = .returned (sumV (rawB l)) ∧ Ext (fun _ => False) w w' := by
  obtain ⟨A, c, rfl, hle, _⟩ := id hv
  have hxa0 : Ext (fun _ => False) w (w.alloc (.cells ((List.replicate 32 (0 : UInt8)).map byteV).toArray 29 (0, 0))) := (Ext.refl _ _).alloc _
  have hs0 : (w.alloc (.cells ((List.replicate 32 (0 : UInt8)).map byteV).toArray 29 (0, 0))).heap[w.heap.size]? = some (.cells ((List.replicate 32 (0 : UInt8)).map byteV).toArray 29 (0, 0)) := heap_alloc_self _ _
  have Hv := Lib.hid (And.intro hv (And.intro hxa0 hs0))
  have q8 : IntKind.i64.wrap (8 * (l.length : Int)) = 8 * (l.length : Int) := by rw [IntKind.wrap_i64]; omega
  clear hv hle hxa0 hs0
  go_enter Try.func37, Try.ntmps37
  go_wp2_with (at_builtin; refine Hid.out ?_)
  generalize hw1 : w.alloc _ = w1
  have hx1 : Ext (fun _ => False) w w1 := by rw [← hw1]; exact Hv.out.2.1
  have hs1 : w1.heap[w.heap.size]? = some (.cells ((List.replicate 32 (0 : UInt8)).map byteV).toArray 29 (0, 0)) := by rw [← hw1]; exact Hv.out.2.2
  have hz1 : w1.heap.size = w.heap.size + 1 := by rw [← hw1]; simp
  have Hv1 := Lib.hid (And.intro hx1 hs1)
  clear hx1 hs1 hw1
  rw [← hz1]
  refine Lib.hid ?_
  have h0 := fresh_empty w1
  refine wpList_append_bytes rfl _ _ 22 rfl Try.underlying22 info8p (sv := .slice (some ⟨w1.heap.size, 0, none⟩) 0 0) rfl rfl h0.own (Hv.out.1.same (Hv1.out.1.trans h0.ext)) (by simp; omega) ?_
  intro v2 w2 hown2 hx2 hb2
  have h2 := h0.appended hown2 hx2 hb2
  rw [List.nil_append] at h2
  obtain ⟨A2, c2, hform2, _, _⟩ := h2.own.formP
  subst hform2
  have H2 := Lib.hid h2
  clear hown2 hx2 hb2 h2 h0
  go_wp2_with (at_builtin; refine Hid.out ?_)
  refine Lib.hid ?_
  refine wpList_append_bytes rfl _ _ 22 rfl Try.underlying22 info8p (sv := .slice A2 _ c2) rfl rfl (H2.out.step ((Ext.refl _ _).alloc _)).own (byt_lit w2 [128] (0, 0)) (by simp; omega) ?_
  intro v3 w3 hown3 hx3 hb3
  have h3 := (H2.out.step ((Ext.refl _ _).alloc _)).appended hown3 hx3 hb3
  have H3 := Lib.hid h3
  clear hown3 hx3 hb3 h3
  go_wp2_with fail
  go_loopw [3] (fun u W => ∃ z : Nat, z ≤ padZ l.length ∧ FreshB w1 (l ++ [128] ++ List.replicate z 0) u W) (fun u _ => l.length + 200 - lenV u)
  case atStart => exact ⟨0, by omega, by simpa using H3.out⟩
  case round =>
    obtain ⟨z, hz, hu⟩ := hrel
    obtain ⟨A3, c3, hform3, _, _⟩ := hu.own.formP
    subst hform3
    have hln : (l ++ [128] ++ List.replicate z 0).length = l.length + 1 + z := by simp; omega
    have hpz : padZ l.length < 64 := Nat.mod_lt _ (by decide)
    generalize hm : (l ++ [128] ++ List.replicate z 0).length = m at *
    by_cases hlt : z < padZ l.length
    · have hne : m % 64 ≠ 56 := by unfold padZ at hlt; omega
      have hne' : (((m : Int) % 64 != 56)) = true := by simp; omega
      have Hu := Lib.hid (And.intro hu hln)
      clear hu hln
      go_wp2_with (at_builtin; refine Hid.out ?_)
      refine Lib.hid ?_
      have hu1 := Hu.out.1.step ((Ext.refl (fun _ => False) _).alloc (.cells #[.int .u8 0] 5 (0, 0)))
      refine wpList_append_bytes rfl _ _ 22 rfl Try.underlying22 info8p (sv := .slice A3 m c3) rfl rfl hu1.own (byt_lit wr [0] (0, 0)) (by rw [hm]; have := Hu.out.2; simp; omega) ?_
      intro v4 w4 hown4 hx4 hb4
      have h4 := hu1.appended hown4 hx4 hb4
      rw [List.append_assoc, ← List.replicate_succ'] at h4
      obtain ⟨A4, c4, hform4, _, _⟩ := h4.own.formP
      subst hform4
      have H4 := Lib.hid h4
      clear hown4 hx4 hb4 h4 hu1
      go_wp2_with fail
      have h4 := H4.out
      have hl4 : List.length (l ++ [128] ++ List.replicate (z + 1) 0) = l.length + (z + 1 + 1) := by simp
      rw [hl4] at h4
      refine ⟨⟨z + 1, by omega, h4⟩, ?_⟩
      have := Hu.out.2
      simp [lenV]
      omega
    · have hze : z = padZ l.length := by omega
      have hne : m % 64 = 56 := by unfold padZ at hze; omega
      have hne' : (((m : Int) % 64 != 56)) = false := by simp; omega
      have Hu := Lib.hid (And.intro hu hln)
      have HN := Lib.hid (dnum_walk wr (8 * (l.length : Int)))
      clear hu hln
      go_wp2_with fail
      refine HN.out.mono ?_
      rintro e w4 ⟨v4, rfl, h4⟩
      have hu4 := Hu.out.1.step h4.ext
      obtain ⟨A4, c4, hform4, _, _⟩ := h4.own.formP
      subst hform4
      have H4 := Lib.hid (And.intro h4 hu4)
      clear h4 hu4
      go_wp2_with (at_builtin; refine Hid.out ?_)
      refine Lib.hid ?_
      refine wpList_append_bytes rfl _ _ 22 rfl Try.underlying22 info8p (sv := .slice A3 m c3) rfl rfl H4.out.2.own H4.out.1.byt (by rw [hm]; have := Hu.out.2; simp [beB_len]; omega) ?_
      intro v5 w5 hown5 hx5 hb5
      have h5 := H4.out.2.appended hown5 hx5 hb5
      rw [hze, show l ++ [128] ++ List.replicate (padZ l.length) 0 ++ beB (8 * (l.length : Int)) 8 = fillB l from rfl] at h5
      have hpl := fillB_len l
      have hne2 : fillB l ≠ [] := by intro e; simp [fillB] at e
      have hraw : rawB l = sumB (hashN (fillB l) ((fillB l).length / 64)) := rfl
      generalize fillB l = p at *
      obtain ⟨g, o, cp, rfl, hcp, hgD, hcell⟩ := h5.byt.plain hne2
      rw [hpl] at hraw hcp ⊢
      have h64 : 64 * ((l.length + 9 + padZ l.length) / 64) / 64 = (l.length + 9 + padZ l.length) / 64 := by omega
      have hnb : (l.length + 9 + padZ l.length) / 64 ≤ 2199023255600 := by omega
      rw [h64] at hraw
      generalize (l.length + 9 + padZ l.length) / 64 = nb at *
      have hs5 := h5.ext.heap Hv1.out.2 id
      have hx05 := Hv1.out.1.trans h5.ext
      have HK := Lib.hid (dks_walk w5)
      have hg5 : g < w5.heap.size := by
        have hlen : 0 < p.length := List.length_pos_iff.2 hne2
        exact World.block_lt_of_cell? _ _ (hcell 0 _ (List.getElem?_eq_getElem hlen))
      have H5 := Lib.hid (And.intro hs5 (And.intro hx05 (And.intro hcell (And.intro hpl hraw))))
      clear hs5 hx05 hcell hpl hraw h5 hown5 hx5 hb5 H4 HN Hu hne' hne hm hze
      go_wp2_with fail
      refine HK.out.mono ?_
      rintro e w6 ⟨rfl, hk6, hx6, hz6⟩
      have Hz6 := Lib.hid hz6
      clear hz6
      have HHs := Lib.hid (dhs_walk w6)
      generalize hgk : w5.heap.size = gk at *
      have H6 := Lib.hid (And.intro hk6 hx6)
      clear hk6 hx6 HK
      go_wp2_with fail
      refine HHs.out.mono ?_
      rintro e w7 ⟨rfl, hh7, hx7, hz7⟩
      have Hz7 := Lib.hid hz7
      clear hz7
      have hk7 := H6.out.1.ext hx7 id
      have hx57 := H6.out.2.trans hx7
      have hx07 := H5.out.2.1.trans hx57
      have hs7 := hx57.heap H5.out.1 id
      have hgD1 : w1.heap.size ≤ g := hgD
      generalize hgh : w6.heap.size = gh at *
      have hgg : g < gk := by omega
      have hkh : gk < gh := by have := Hz6.out; omega
      have hcell7 : ∀ (i : Nat) (u : UInt8), p[i]? = some u → w7.cell? ⟨g, o + i, none⟩ = some (.int .u8 u.toNat) := fun i u hu => cell_same (H5.out.2.2.1 i u hu) hx57
      have H7 := Lib.hid (And.intro (And.intro hh7 hk7) (And.intro hs7 (And.intro hx07 (And.intro hcell7 H5.out.2.2.2))))
      clear hh7 hk7 hx7 hx57 hx07 hs7 hcell7 H6 H5 HHs Hv Hv1
      go_wp2_with fail
      go_loopw [6] (fun u W => ∃ j : Nat, j ≤ nb ∧ u = .int .i64 ((64 * j : Nat) : Int) ∧ IntsB W gh (hashN p j) ∧ Ext (· = gh) w7 W) (fun u _ => 64 * nb - (intOf u).toNat)
      case atStart => exact ⟨0, by omega, rfl, H7.out.1.1, Ext.refl _ _⟩
      case round =>
        obtain ⟨j, hj, rfl, hh, hx⟩ := hrel
        by_cases hjn : j < nb
        · have hpos : decide (64 * j < 64 * nb) = true := by simp; omega
          have hpos' : decide (((64 * j : Nat) : Int) < ((64 * nb : Nat) : Int)) = true := by simp; omega
          have hposP : ((64 * j : Nat) : Int) < 64 * (nb : Int) := by omega
          have hb64 : 64 * j + 64 ≤ cp := by omega
          have hblk := byt_block j (H7.out.2.2.2.1) hx (by omega) hjn H7.out.2.2.2.2.1 (cp - 64 * j) (by omega)
          have hbl : ((p.drop (64 * j)).take 64).length = 64 := by rw [List.length_take, List.length_drop, H7.out.2.2.2.2.1]; omega
          have HE := Lib.hid (expand_walk hblk hbl)
          have hmix : hashN p (j + 1) = mixS ks0 (hashN p j) ((p.drop (64 * j)).take 64) := rfl
          generalize (p.drop (64 * j)).take 64 = bl at *
          have hhl := hashN_len p j
          have hhlt := hashN_lt p j
          generalize hashN p j = hs at *
          have hnx : ((64 * j : Nat) : Int) + 64 = ((64 * (j + 1) : Nat) : Int) := by omega
          have H8 := Lib.hid (And.intro hh (And.intro hx (And.intro hmix hnx)))
          clear hh hx hblk hmix hnx
          obtain ⟨ps, hps⟩ : ∃ ps, ps = 64 * j := ⟨_, rfl⟩
          rw [← hps] at hb64 hpos hpos' hposP HE ⊢
          have hps1 : (ps : Int) ≤ 140737488399999 := by omega
          have Hps := Lib.hid hps
          clear hps
          go_wp2_with fail
          refine HE.out.mono ?_
          rintro e w8 ⟨g7, rfl, hE, hx8, hg7⟩
          have hh8 := H8.out.1.ext hx8 id
          have hk8 := (H7.out.1.2.ext H8.out.2.1 (by omega)).ext hx8 id
          have hx78 := H8.out.2.1.trans' hx8 fun _ => False.elim
          have hlh := hh8.lt
          have h7h : gh < g7 := by have := H8.out.1.lt; omega
          have hxa8 := fun o => (Ext.refl (fun _ => False) w8).alloc o
          have H9 := Lib.hid (And.intro (And.intro hh8 hk8) (And.intro hE (And.intro hx78 hxa8)))
          have hg7' := hE.lt
          clear hh8 hk8 hE hx8 hx78 hxa8 HE
          go_wp2_with (at_builtin; refine Hid.out ?_)
          refine Lib.hid ?_
          generalize hw9 : w8.alloc _ = w9
          have hx9 : Ext (fun _ => False) w8 w9 := by rw [← hw9]; exact H9.out.2.2.2 _
          have hz9 : w9.heap.size = w8.heap.size + 1 := by rw [← hw9]; simp
          refine wpList_append_ints rfl _ _ 113 rfl Try.underlying113 info64 rfl rfl hhl (by decide) (by decide) (H9.out.1.1.ext hx9 id) ?_
          intro cv w10 hv10 hx10 hcv hz10
          generalize hgv : w9.heap.size = gv at *
          have hx810 := hx9.trans hx10
          have hh10 := H9.out.1.1.ext hx810 id
          have hk10 := H9.out.1.2.ext hx810 id
          have hE10 := H9.out.2.1.ext hx810 id
          have hx710 := H9.out.2.2.1.trans' hx810 fun _ => False.elim
          have hb10 : g7 < gv := by omega
          have hzv : gv < w10.heap.size := by omega
          have hgvh : gv ≠ gh := by omega
          have hw7 : w7.heap.size ≤ gv := by have := H9.out.2.2.1.size; omega
          clear hz9 hz10 hgv
          obtain ⟨x0, x1, x2, x3, x4, x5, x6, x7, rfl⟩ : ∃ x0 x1 x2 x3 x4 x5 x6 x7 : Nat, hs = [x0, x1, x2, x3, x4, x5, x6, x7] := by
            match hs, hhl with
            | [x0, x1, x2, x3, x4, x5, x6, x7], _ => exact ⟨x0, x1, x2, x3, x4, x5, x6, x7, rfl⟩
          have hok0 : StOk ⟨x0, x1, x2, x3, x4, x5, x6, x7⟩ := ⟨hhlt x0 (by simp), hhlt x1 (by simp), hhlt x2 (by simp), hhlt x3 (by simp), hhlt x4 (by simp), hhlt x5 (by simp), hhlt x6 (by simp), hhlt x7 (by simp)⟩
          have hme := mixS_eq ks0 x0 x1 x2 x3 x4 x5 x6 x7 bl
          obtain ⟨S, hS⟩ : ∃ S : Nat → St, S = runsE ks0 ⟨x0, x1, x2, x3, x4, x5, x6, x7⟩ bl := ⟨_, rfl⟩
          have hS0 : (S 0).list = [x0, x1, x2, x3, x4, x5, x6, x7] := by rw [hS]; rfl
          have hSn : ∀ n, S (n + 1) = rnd (S n) (ks0.getD n 0) (wE bl n) := fun n => by rw [hS]; rfl
          have hSok : ∀ n, StOk (S n) := fun n => by rw [hS]; exact runsE_ok _ _ _ hok0 n
          rw [← hS] at hme
          have H10 := Lib.hid (And.intro (And.intro hh10 hk10) (And.intro hE10 (And.intro hv10 (And.intro hx710 (And.intro hme (And.intro hS0 (And.intro hSn hSok)))))))
          have Hlt := Lib.hid hhlt
          clear hh10 hk10 hE10 hv10 hx710 hme hS0 hSn hSok hS hx810 hx10 hx9 hw9 H9 hhlt hhl hok0
          go_wp2_with fail
          go_loopw [9] (fun u W => ∃ t : Nat, t ≤ 64 ∧ u = .int .i64 t ∧ IntsB W gv (S t).list ∧ Ext (· = gv) w10 W) (fun u _ => 64 - (intOf u).toNat)
          case atStart => exact ⟨0, by omega, rfl, by rw [H10.out.2.2.2.2.2.1]; exact H10.out.2.2.1, Ext.refl _ _⟩
          case round =>
            obtain ⟨t, ht, rfl, hV, hxv⟩ := hrel
            by_cases ht64 : t < 64
            · have ht' : decide ((t : Int) < 64) = true := by simp; omega
              have ht'' : (t : Int) < 64 := by omega
              have hstep := H10.out.2.2.2.2.2.2.1 t
              have hok := H10.out.2.2.2.2.2.2.2 t
              have hk11 := H10.out.1.2.ext hxv (by omega)
              have hE11 := H10.out.2.1.ext hxv (by omega)
              obtain ⟨kk, hk1, hk2, hk3⟩ := ks0_get t ht64
              have ck := hk11.cell hk1
              have hlk := hk11.lt
              have ce := hE11.cell (exp_get bl t ht64)
              have hle := hE11.lt
              have hlv := hV.lt
              have hwlt := wE_lt bl t
              rw [hk2] at hstep
              generalize wE bl t = ww at *
              generalize S t = st at *
              obtain ⟨sa, sb, sc, sd, se, sf, sg, si⟩ := st
              have v0 : wr.cell? ⟨gv, 0, none⟩ = some (.int .i64 (sa : Int)) := hV.cell rfl
              have v1 : wr.cell? ⟨gv, 1, none⟩ = some (.int .i64 (sb : Int)) := hV.cell rfl
              have v2 : wr.cell? ⟨gv, 2, none⟩ = some (.int .i64 (sc : Int)) := hV.cell rfl
              have v4 : wr.cell? ⟨gv, 4, none⟩ = some (.int .i64 (se : Int)) := hV.cell rfl
              have v5 : wr.cell? ⟨gv, 5, none⟩ = some (.int .i64 (sf : Int)) := hV.cell rfl
              have v6 : wr.cell? ⟨gv, 6, none⟩ = some (.int .i64 (sg : Int)) := hV.cell rfl
              have v7 : wr.cell? ⟨gv, 7, none⟩ = some (.int .i64 (si : Int)) := hV.cell rfl
              obtain ⟨d1, d2, n1, n2, cc, z1, z2, z3, pp, m1, m2, m3, m4, mm, qq, y1, y2, ⟨e1, e2, e3, e4, e5, e6, e7, e8, e9⟩, ⟨f1, f2, f3, f4, f5, f6, f7, f8⟩, ⟨r1, r2, r3, r3'⟩, ⟨r4, r5, r6, r6'⟩⟩ := dround ⟨sa, sb, sc, sd, se, sf, sg, si⟩ hok kk ww hk3 hwlt
              have t6 := dturn_walk6 se hok.2.2.2.2.1
              have t11 := dturn_walk11 se hok.2.2.2.2.1
              have t25 := dturn_walk25 se hok.2.2.2.2.1
              have tn := not_walk se hok.2.2.2.2.1
              have t2 := dturn_walk2 sa hok.1
              have t13 := dturn_walk13 sa hok.1
              have t22 := dturn_walk22 sa hok.1
              have hl1 : (rnd ⟨sa, sb, sc, sd, se, sf, sg, si⟩ kk ww).list = [(rnd ⟨sa, sb, sc, sd, se, sf, sg, si⟩ kk ww).a, sa, sb, sc, (rnd ⟨sa, sb, sc, sd, se, sf, sg, si⟩ kk ww).e, se, sf, sg] := rfl
              rw [← hstep] at hl1 r3 r3' r6 r6'
              simp only at e1 e2 e3 e4 e5 f1 f2 f3 f4 f6 r4 r5
              generalize (S (t + 1)).a = na at *
              generalize (S (t + 1)).e = nn at *
              generalize three1 se = s1 at *
              generalize three0 sa = s0 at *
              generalize rot se 6 = r06 at *
              generalize rot se 11 = r11 at *
              generalize rot se 25 = r25 at *
              generalize rot sa 2 = r02 at *
              generalize rot sa 13 = r13 at *
              generalize rot sa 22 = r22 at *
              generalize (4294967295 ^^^ se) = ne at *
              have H11 := Lib.hid (And.intro (And.intro (And.intro t6 t11) (And.intro t25 tn)) (And.intro (And.intro t2 (And.intro t13 t22)) (And.intro hV (And.intro hxv hl1))))
              clear t6 t11 t25 tn t2 t13 t22 hV hxv hl1 hstep hok hk1 hk2 hk3 hwlt hk11 hE11
              go_wp2_with fail
              refine wp_region_mix (Cls [gv, gk, g7] _) [([0, 1, 2, 3, 5, 8, 12, 13, 14, 15, 16, 17, 19, 20, 21, 25, 26, 27, 28, 30, 31, 32, 33], 4), ([], 6), ([7], 9), ([10, 11], 18)] [22, 23, 24, 29, 34, 35] (by kernel_rfl) (by kernel_rfl) (Cls.refl _ _) ?_
              try dsimp only [wpMix, wpSegs, pick, List.getElem?_cons_zero, List.getElem?_cons_succ]
              generalize hz : Act.mk _ _ = z
              repeat (first | (refine wpQuiet_step (fun K hK => ?_); replace hK := Lib.hid hK; subst hz; go_simp; generalize hz : Act.mk _ _ = z; refine hK.out z ?_; clear hK K) | (refine wpQuiet_step (fun K hK => ?_); replace hK := Lib.hid hK; subst hz; refine iteSkip (by kernel_rfl) ?_; go_simp; generalize hz : Act.mk _ _ = z; refine hK.out z ?_; clear hK K))
              try refine wpQuiet_nil ?_
              subst hz
              try dsimp only [NoPan]
              go_wp2_with fail
              refine (H11.out.1.1.1 _).mono ?_
              rintro e _ ⟨rfl, rfl⟩
              go_wp2_with fail
              refine ⟨Cls.mk fun b hb => rfl, ?_⟩
              try dsimp only [wpMix, wpSegs, pick, List.getElem?_cons_zero, List.getElem?_cons_succ]
              generalize hz : Act.mk _ _ = z
              repeat (first | (refine wpQuiet_step (fun K hK => ?_); replace hK := Lib.hid hK; subst hz; go_simp; generalize hz : Act.mk _ _ = z; refine hK.out z ?_; clear hK K) | (refine wpQuiet_step (fun K hK => ?_); replace hK := Lib.hid hK; subst hz; refine iteSkip (by kernel_rfl) ?_; go_simp; generalize hz : Act.mk _ _ = z; refine hK.out z ?_; clear hK K))
              try refine wpQuiet_nil ?_
              subst hz
              try dsimp only [NoPan]
              go_wp2_with fail
              refine (H11.out.1.1.2 _).mono ?_
              rintro e _ ⟨rfl, rfl⟩
              go_wp2_with fail
              refine ⟨Cls.mk fun b hb => rfl, ?_⟩
              try dsimp only [wpMix, wpSegs, pick, List.getElem?_cons_zero, List.getElem?_cons_succ]
              generalize hz : Act.mk _ _ = z
              repeat (first | (refine wpQuiet_step (fun K hK => ?_); replace hK := Lib.hid hK; subst hz; go_simp; generalize hz : Act.mk _ _ = z; refine hK.out z ?_; clear hK K) | (refine wpQuiet_step (fun K hK => ?_); replace hK := Lib.hid hK; subst hz; refine iteSkip (by kernel_rfl) ?_; go_simp; generalize hz : Act.mk _ _ = z; refine hK.out z ?_; clear hK K))
              try refine wpQuiet_nil ?_
              subst hz
              try dsimp only [NoPan]
              go_wp2_with fail
              refine (H11.out.1.2.1 _).mono ?_
              rintro e _ ⟨rfl, rfl⟩
              go_wp2_with fail
              refine ⟨Cls.mk fun b hb => rfl, ?_⟩
              try dsimp only [wpMix, wpSegs, pick, List.getElem?_cons_zero, List.getElem?_cons_succ]
              generalize hz : Act.mk _ _ = z
              repeat (first | (refine wpQuiet_step (fun K hK => ?_); replace hK := Lib.hid hK; subst hz; go_simp; generalize hz : Act.mk _ _ = z; refine hK.out z ?_; clear hK K) | (refine wpQuiet_step (fun K hK => ?_); replace hK := Lib.hid hK; subst hz; refine iteSkip (by kernel_rfl) ?_; go_simp; generalize hz : Act.mk _ _ = z; refine hK.out z ?_; clear hK K))
              try refine wpQuiet_nil ?_
              subst hz
              try dsimp only [NoPan]
              go_wp2_with fail
              refine (H11.out.1.2.2 _).mono ?_
              rintro e _ ⟨rfl, rfl⟩
              go_wp2_with fail
              refine ⟨Cls.mk fun b hb => rfl, ?_⟩
              try dsimp only [wpMix, wpSegs, pick, List.getElem?_cons_zero, List.getElem?_cons_succ]
              generalize hz : Act.mk _ _ = z
              repeat (first | (refine wpQuiet_step (fun K hK => ?_); replace hK := Lib.hid hK; subst hz; go_simp; generalize hz : Act.mk _ _ = z; refine hK.out z ?_; clear hK K) | (refine wpQuiet_step (fun K hK => ?_); replace hK := Lib.hid hK; subst hz; refine iteSkip (by kernel_rfl) ?_; go_simp; generalize hz : Act.mk _ _ = z; refine hK.out z ?_; clear hK K))
              try refine wpQuiet_nil ?_
              subst hz
              try dsimp only [NoPan]
              go_wp2_with fail
              refine wp_region_mix (Cls [gv] _) [([0, 2, 5, 8, 9, 10, 11, 12, 13, 14, 15, 16, 17, 18, 19, 20, 21, 22, 23, 24, 25, 26], 1), ([], 3), ([4], 6)] [7, 27, 28] (by kernel_rfl) (by kernel_rfl) (Cls.refl _ _) ?_
              try dsimp only [wpMix, wpSegs, pick, List.getElem?_cons_zero, List.getElem?_cons_succ]
              generalize hz : Act.mk _ _ = z
              repeat (first | (refine wpQuiet_step (fun K hK => ?_); replace hK := Lib.hid hK; subst hz; go_simp; generalize hz : Act.mk _ _ = z; refine hK.out z ?_; clear hK K) | (refine wpQuiet_step (fun K hK => ?_); replace hK := Lib.hid hK; subst hz; refine iteSkip (by kernel_rfl) ?_; go_simp; generalize hz : Act.mk _ _ = z; refine hK.out z ?_; clear hK K))
              try refine wpQuiet_nil ?_
              subst hz
              try dsimp only [NoPan]
              go_wp2_with fail
              refine (H11.out.2.1.1 _).mono ?_
              rintro e _ ⟨rfl, rfl⟩
              go_wp2_with fail
              refine ⟨Cls.mk fun b hb => rfl, ?_⟩
              try dsimp only [wpMix, wpSegs, pick, List.getElem?_cons_zero, List.getElem?_cons_succ]
              generalize hz : Act.mk _ _ = z
              repeat (first | (refine wpQuiet_step (fun K hK => ?_); replace hK := Lib.hid hK; subst hz; go_simp; generalize hz : Act.mk _ _ = z; refine hK.out z ?_; clear hK K) | (refine wpQuiet_step (fun K hK => ?_); replace hK := Lib.hid hK; subst hz; refine iteSkip (by kernel_rfl) ?_; go_simp; generalize hz : Act.mk _ _ = z; refine hK.out z ?_; clear hK K))
              try refine wpQuiet_nil ?_
              subst hz
              try dsimp only [NoPan]
              go_wp2_with fail
              refine (H11.out.2.1.2.1 _).mono ?_
              rintro e _ ⟨rfl, rfl⟩
              go_wp2_with fail
              refine ⟨Cls.mk fun b hb => rfl, ?_⟩
              try dsimp only [wpMix, wpSegs, pick, List.getElem?_cons_zero, List.getElem?_cons_succ]
              generalize hz : Act.mk _ _ = z
              repeat (first | (refine wpQuiet_step (fun K hK => ?_); replace hK := Lib.hid hK; subst hz; go_simp; generalize hz : Act.mk _ _ = z; refine hK.out z ?_; clear hK K) | (refine wpQuiet_step (fun K hK => ?_); replace hK := Lib.hid hK; subst hz; refine iteSkip (by kernel_rfl) ?_; go_simp; generalize hz : Act.mk _ _ = z; refine hK.out z ?_; clear hK K))
              try refine wpQuiet_nil ?_
              subst hz
              try dsimp only [NoPan]
              go_wp2_with fail
              refine (H11.out.2.1.2.2 _).mono ?_
              rintro e _ ⟨rfl, rfl⟩
              go_wp2_with fail
              refine ⟨Cls.mk fun b hb => rfl, ?_⟩
              try dsimp only [wpMix, wpSegs, pick, List.getElem?_cons_zero, List.getElem?_cons_succ]
              generalize hz : Act.mk _ _ = z
              repeat (first | (refine wpQuiet_step (fun K hK => ?_); replace hK := Lib.hid hK; subst hz; go_simp; generalize hz : Act.mk _ _ = z; refine hK.out z ?_; clear hK K) | (refine wpQuiet_step (fun K hK => ?_); replace hK := Lib.hid hK; subst hz; refine iteSkip (by kernel_rfl) ?_; go_simp; generalize hz : Act.mk _ _ = z; refine hK.out z ?_; clear hK K))
              try refine wpQuiet_nil ?_
              subst hz
              try dsimp only [NoPan]
              go_wp2_with fail
              clear v0 v1 v2 v4 v5 v6 v7 ck ce e1 e2 e3 e4 e5 e6 e7 e8 e9 f1 f2 f3 f4 f5 f6 f7 f8
              generalize wr = wq at *
              go_loopw [14] (fun u W => ∃ i : Nat, i ≤ 7 ∧ u = .int .i64 i ∧ IntsB W gv (shf [sa, sb, sc, sd, se, sf, sg, si] i) ∧ Ext (· = gv) wq W) (fun u _ => (intOf u).toNat)
              case atStart => exact ⟨7, by omega, rfl, H11.out.2.2.1, by repeat (first | exact Ext.refl _ _ | apply Ext.drew)⟩
              case round =>
                obtain ⟨i, hi, rfl, hS, hxs⟩ := hrel
                by_cases hi0 : 0 < i
                · obtain ⟨k, hk⟩ : ∃ k, i = k + 1 := ⟨i - 1, by omega⟩
                  obtain ⟨y, hy1, hy2, hy3⟩ := shf_step sa sb sc sd se sf sg si k (by omega)
                  rw [← hk] at hy1 hy2 hy3
                  have hc := hS.cell hy1
                  obtain ⟨u0, hc2⟩ : ∃ u, wr.cell? ⟨gv, i, none⟩ = some u := ⟨_, hS.cell (List.getElem?_eq_getElem (by rw [hy3]; omega))⟩
                  have hf := hS.melt i
                  have hP := hS.put i y (by omega)
                  rw [hy2] at hP
                  have hlr := hS.lt
                  have hgt : decide ((0 : Int) < (i : Int)) = true := by simp; omega
                  have hgtP : (0 : Int) < (i : Int) := by omega
                  have q1 : IntKind.i64.wrap ((i : Int) - 1) = (k : Int) := by rw [IntKind.wrap_i64]; omega
                  have p1 : (i : Int) - 1 = (k : Int) := by omega
                  have mk : (k : Int) < 8 := by omega
                  have mi : (i : Int) < 8 := by omega
                  have HP := Lib.hid (And.intro hP (And.intro hxs hk))
                  clear hP hxs hS hy1 hy2 hy3 hk hi0
                  go_wp2_with fail
                  refine ⟨⟨k, by omega, rfl, HP.out.1, HP.out.2.1.setCell (a := ⟨gv, i, none⟩) (.inl rfl) _⟩, by have := HP.out.2.2; simp [intOf]; omega⟩
                · have : i = 0 := by omega
                  subst this
                  have hgt : decide ((0 : Int) < ((0 : Nat) : Int)) = false := by decide
                  rw [shf_end] at hS
                  have c0 : wr.cell? ⟨gv, 0, none⟩ = some (.int .i64 (sa : Int)) := hS.cell rfl
                  have c4 : wr.cell? ⟨gv, 4, none⟩ = some (.int .i64 (sd : Int)) := hS.cell rfl
                  have m0' := hS.melt 0
                  have m4' := hS.melt 4
                  have hlr := hS.lt
                  have HP := Lib.hid (And.intro hS hxs)
                  clear hS hxs
                  go_wp2_with fail
                  have w1' : wrap64 (y1 : Int) = (y1 : Int) := by have h := r1; rw [r2] at h; exact (IntWalk.i64_left _).symm.trans h
                  have w2' : wrap64 (y2 : Int) = (y2 : Int) := by have h := r4; rw [r5] at h; exact (IntWalk.i64_left _).symm.trans h
                  rw [w1', w2', r3, r6]
                  refine ⟨⟨t + 1, by omega, by go_num, ?_, ?_⟩, by simp [intOf]; omega⟩
                  · have h := ((HP.out.1.put 0 na (by simp)).put 4 nn (by simp))
                    rw [H11.out.2.2.2.2]
                    exact h
                  · exact ((H11.out.2.2.2.1.trans HP.out.2).setCell (a := ⟨gv, 0, none⟩) (.inl rfl) _).setCell (a := ⟨gv, 4, none⟩) (.inl rfl) _
            · have : t = 64 := by omega
              subst this
              rw [show ((64 : Nat) : Int) = (64 : Int) from rfl]
              have ht' : decide ((64 : Int) < 64) = false := by decide
              have hh11 := H10.out.1.1.ext hxv (by omega)
              have hx711 := H10.out.2.2.2.1.trans' hxv fun b hb => .inr (by omega)
              have H11 := Lib.hid (And.intro hV (And.intro hh11 hx711))
              clear hV hh11 hxv hx711
              have hme := H10.out.2.2.2.2.1
              have hsl := St.mem_lt (H10.out.2.2.2.2.2.2.2 64)
              generalize S 64 = st at *
              obtain ⟨sa, sb, sc, sd, se, sf, sg, si⟩ := st
              have Hme := Lib.hid hme
              have Hsl := Lib.hid hsl
              clear hme hsl
              go_wp2_with fail
              go_loopw [15] (fun u W => ∃ k : Nat, k ≤ 8 ∧ u = .int .i64 k ∧ IntsB W gh (partS [x0, x1, x2, x3, x4, x5, x6, x7] [sa, sb, sc, sd, se, sf, sg, si] k) ∧ IntsB W gv [sa, sb, sc, sd, se, sf, sg, si] ∧ Ext (· = gh) w7 W) (fun u _ => 8 - (intOf u).toNat)
              case atStart => exact ⟨0, by omega, rfl, H11.out.2.1, H11.out.1, H11.out.2.2⟩
              case round =>
                obtain ⟨k, hk, rfl, hA, hB, hxk⟩ := hrel
                by_cases hk8 : k < 8
                · obtain ⟨x, y, hy, hx, hset, hlen8, hxm, hym⟩ := sums_step x0 x1 x2 x3 x4 x5 x6 x7 sa sb sc sd se sf sg si k hk8
                  have hk' : decide ((k : Int) < 8) = true := by simp; omega
                  have hk'' : (k : Int) < 8 := by omega
                  have cx := hA.cell hx
                  have cy := hB.cell hy
                  have hf := hA.melt k
                  have lA := hA.lt
                  have lB := hB.lt
                  have hP := hA.put k ((x + y) % 4294967296) (by omega)
                  rw [hset] at hP
                  have bx := Hlt.out x hxm
                  have by' : y < 4294967296 := Hsl.out y hym
                  have s1 := sum64 x y (by omega)
                  have s2 := mod64 (x + y)
                  have s3 : ((x + y : Nat) : Int) % 4294967296 = (((x + y) % 4294967296 : Nat) : Int) := by omega
                  generalize (x + y) % 4294967296 = r at *
                  generalize x + y = z at *
                  have HP := Lib.hid (And.intro hP (And.intro hB hxk))
                  clear hP hB hxk hA hx hy hset hlen8 hxm hym bx by'
                  go_wp2_with fail
                  refine wp_region_bar (Cls [gh, gv] _) [] [0, 1, 2, 3, 4, 5, 6, 7, 8, 9, 10, 11, 12] 13 [] [] (by kernel_rfl) (by kernel_rfl) (Cls.refl _ _) ?_
                  try dsimp only [wpMix, wpSegs, pick, List.getElem?_cons_zero, List.getElem?_cons_succ]
                  generalize hz : Act.mk _ _ = z
                  repeat (first | (refine wpQuiet_step (fun K hK => ?_); replace hK := Lib.hid hK; subst hz; go_simp; generalize hz : Act.mk _ _ = z; refine hK.out z ?_; clear hK K) | (refine wpQuiet_step (fun K hK => ?_); replace hK := Lib.hid hK; subst hz; refine iteSkip (by kernel_rfl) ?_; go_simp; generalize hz : Act.mk _ _ = z; refine hK.out z ?_; clear hK K))
                  try refine wpQuiet_nil ?_
                  subst hz
                  try dsimp only [NoPan]
                  go_wp2_with fail
                  try dsimp only [wpMix, wpSegs, pick, List.getElem?_cons_zero, List.getElem?_cons_succ]
                  generalize hz : Act.mk _ _ = z
                  repeat (first | (refine wpQuiet_step (fun K hK => ?_); replace hK := Lib.hid hK; subst hz; go_simp; generalize hz : Act.mk _ _ = z; refine hK.out z ?_; clear hK K) | (refine wpQuiet_step (fun K hK => ?_); replace hK := Lib.hid hK; subst hz; refine iteSkip (by kernel_rfl) ?_; go_simp; generalize hz : Act.mk _ _ = z; refine hK.out z ?_; clear hK K))
                  try refine wpQuiet_nil ?_
                  subst hz
                  try dsimp only [NoPan]
                  go_wp2_with fail
                  have hxs : Ext (· = gh) wr (wr.setCell ⟨gh, k, none⟩ (.int .i64 (r : Int))) := (Ext.refl (· = gh) wr).setCell (a := ⟨gh, k, none⟩) (.inl rfl) _
                  exact ⟨⟨k + 1, by omega, by go_num, HP.out.1, HP.out.2.1.ext hxs.drew hgvh, (HP.out.2.2.trans hxs).drew⟩, by simp [intOf]; omega⟩
                · have : k = 8 := by omega
                  subst this
                  have hk' : decide ((8 : Int) < 8) = false := by decide
                  have H12 := Lib.hid (And.intro hA hxk)
                  clear hA hB hxk
                  go_wp2_with fail
                  refine ⟨⟨j + 1, by omega, ?_, ?_, H12.out.2⟩, ?_⟩
                  · have h1 := H8.out.2.2.2
                    rw [← Hps.out] at h1
                    rw [h1]
                  · have h1 := H8.out.2.2.1
                    rw [h1, Hme.out]
                    exact H12.out.1
                  · have h1 := Hps.out
                    simp [intOf]
                    omega
        · have hje : j = nb := by omega
          subst hje
          have hposP : ¬ ((64 * j : Nat) : Int) < 64 * (j : Int) := by omega
          have hpos : decide (((64 * j : Nat) : Int) < 64 * (j : Int)) = false := by simp
          have hhl := hashN_len p j
          have hraw := H7.out.2.2.2.2.2
          generalize hashN p j = hs at *
          have hx07 := H7.out.2.2.1.trans' hx fun b hb => .inr (by have := H7.out.2.2.1.size; have := hh.lt; omega)
          have ha7 : Arr wr w.heap.size 29 (List.replicate 32 (0 : UInt8)) := ⟨hx.heap H7.out.2.1 (by omega)⟩
          have hax : ∀ o, Ext (fun _ => False) wr (wr.alloc o) := fun o => (Ext.refl _ wr).alloc o
          have H8 := Lib.hid (And.intro hh (And.intro ha7 (And.intro hx07 (And.intro hax (heap_alloc_self wr)))))
          have HR := Lib.hid hraw
          have hb6 := hh.lt
          clear hraw hh hx hx07 ha7 hax
          go_wp2_with fail
          generalize hw8 : wr.alloc _ = w8
          have hxa : Ext (fun _ => False) wr w8 := by rw [← hw8]; exact H8.out.2.2.2.1 _
          have ha8 : Arr w8 wr.heap.size 29 (List.replicate 32 (0 : UInt8)) := ⟨by rw [← hw8]; exact H8.out.2.2.2.2 _⟩
          have hlw := lt_of_heap H8.out.2.1.obj
          have hne0 : w.heap.size ≠ gh := by have := H7.out.2.2.1.size; have := lt_of_heap H7.out.2.1; omega
          have H9 := Lib.hid (And.intro (H8.out.1.ext hxa id) (And.intro (H8.out.2.1.ext hxa id) (And.intro ha8 (H8.out.2.2.1.trans hxa))))
          clear hxa ha8 H8 hw8
          generalize wr.heap.size = b6 at *
          go_loopw [17] (fun t W => ∃ i : Nat, i ≤ 32 ∧ t = .int .i64 i ∧ Arr W b6 29 ((sumB hs).take i ++ List.replicate (32 - i) 0) ∧ Ext (· = b6) w8 W) (fun t _ => 32 - (intOf t).toNat)
          case atStart => exact ⟨0, by omega, rfl, by simpa using H9.out.2.2.1, Ext.refl _ _⟩
          case round =>
            obtain ⟨i, hi, rfl, hA, hx⟩ := hrel
            by_cases hlt : i < 32
            · have hi' : decide ((i : Int) < 32) = true := by simp; omega
              have hi'' : (i : Int) < 32 := by omega
              have hWr := H9.out.1.ext hx (by omega)
              have hil : i / 4 < hs.length := by omega
              have ck := hWr.cell (List.getElem?_eq_getElem hil)
              have halw := hWr.lt
              have hala := lt_of_heap hA.obj
              have hfr := hA.melt i
              have hal : ((sumB hs).take i ++ List.replicate (32 - i) (0 : UInt8)).length = 32 := by simp [sumB]; omega
              obtain ⟨v0, hca⟩ : ∃ v0, wr.cell? ⟨b6, i, none⟩ = some v0 := ⟨_, hA.cell (i := i) (by rw [hal]; exact hlt)⟩
              have hsum : sumAt hs i = UInt8.ofNat ((hs[i / 4]'(by omega) / 2 ^ (24 - 8 * (i % 4))) % 256) := by
                rw [sumAt, List.getD_eq_getElem?_getD, List.getElem?_eq_getElem (by omega), Nat.mul_comm 8]; rfl
              have hbv : ((hs[i / 4]'(by omega) : Nat) : Int) / 2 ^ (24 - 8 * (i % 4)) % 256 = ((sumAt hs i).toNat : Int) := by
                rw [hsum, UInt8.toNat_ofNat', Nat.mod_mod]; push_cast; rfl
              have hput := hA.put i (sumAt hs i)
              have hset : ((sumB hs).take i ++ List.replicate (32 - i) (0 : UInt8)).set i (sumAt hs i) = (sumB hs).take (i + 1) ++ List.replicate (32 - (i + 1)) 0 := sum_set hs i hlt
              rw [hset] at hput
              have H10 := Lib.hid (And.intro hput (And.intro hx hbv))
              generalize hs[i / 4]'(by omega) = y at *
              generalize sumAt hs i = z at *
              clear hput hset hx hsum hA hWr hal hbv
              go_wp2_with fail
              rw [H10.out.2.2]
              exact ⟨⟨i + 1, by omega, by go_num, H10.out.1, H10.out.2.1.setCell (a := ⟨b6, i, none⟩) (.inl rfl) _⟩, by simp [intOf]; omega⟩
            · have : i = 32 := by omega
              subst this
              have hi' : decide ((32 : Int) < 32) = false := by decide
              have hsv : (sumB hs).take 32 ++ List.replicate (32 - 32) (0 : UInt8) = sumB hs := by
                rw [List.take_of_length_le (by simp [sumB])]
                simp
              rw [hsv] at hA
              have hB := H9.out.2.1.ext hx (by omega)
              have h32 : (sumB hs).length = 32 := by simp [sumB]
              have hall : (((sumB hs).map byteV).toArray).all (·.oneCell') = true := by
                rw [Array.all_eq_true]
                intro k hk
                simp [byteV, Value.oneCell']
              have hsz : (((sumB hs).map byteV).toArray).size = 32 := by simp [h32]
              have hxf := H9.out.2.2.2.trans' hx fun b hb => .inr (by omega)
              have H10 := Lib.hid (And.intro (And.intro hA hB) (And.intro hall (And.intro hsz hxf)))
              clear hA hB hall hsz hx h32 hsv
              generalize hcs : ((sumB hs).map byteV).toArray = cs at *
              have Hcs := Lib.hid hcs
              clear hcs
              go_wp2_with (first
                | refine wpList_load_row rfl 29 _ rfl b6 rfl 29 cs (0, 0) _ (by have := H10.out.1.1.obj; rw [Hcs.out] at this; exact this) Try.underlying29 rfl (by rw [H10.out.2.2.1]; kernel_rfl) ?_
                | refine wpList_store_row rfl 29 _ _ rfl w.heap.size cs rfl rfl 29 _ H10.out.1.2.obj (by rw [H10.out.2.2.1]; kernel_rfl) (by rw [H10.out.2.2.1]; simp) H10.out.2.1 ?_)
              refine bodyPost_ret (results_cell_row rfl _ _ w.heap.size 29 cs (0, 0) _ rfl (setRow_heap _ _ _ _ _ _ H10.out.1.2.obj) Try.underlying29 rfl (by rw [H10.out.2.2.1]; kernel_rfl)) rfl ?_
              refine ⟨?_, H10.out.2.2.2.setRow (.inr (Nat.le_refl _)) _⟩
              rw [HR.out, ← Hcs.out]
              rfl
end Go.Proofs.Ytoflfhjeabpcjaa
