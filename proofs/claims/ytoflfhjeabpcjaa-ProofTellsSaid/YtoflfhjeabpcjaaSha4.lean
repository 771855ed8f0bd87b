/- A block is mixed in; no condition. -/
import Derived.Test.YtoflfhjeabpcjaaSha3
namespace Go.Proofs.Ytoflfhjeabpcjaa
set_option linter.unusedVariables false
set_option linter.unusedSimpArgs false
open Go.RowKit

structure St where
  a : Nat
  b : Nat
  c : Nat
  d : Nat
  e : Nat
  f : Nat
  g : Nat
  i : Nat
def ch (e f g : Nat) : Nat := (e &&& f) ^^^ ((4294967295 ^^^ e) &&& g)
def maj (a b c : Nat) : Nat := ((a &&& b) ^^^ (a &&& c)) ^^^ (b &&& c)
def rndP (s : St) (k w : Nat) : Nat := ((((s.i + three1 s.e) % 4294967296 + ch s.e s.f s.g) % 4294967296 + k) % 4294967296 + w) % 4294967296
def rndQ (s : St) : Nat := (three0 s.a + maj s.a s.b s.c) % 4294967296
def rnd (s : St) (k w : Nat) : St := ⟨(rndP s k w + rndQ s) % 4294967296, s.a, s.b, s.c, (s.d + rndP s k w) % 4294967296, s.e, s.f, s.g⟩
def StOk (s : St) : Prop := s.a < 4294967296 ∧ s.b < 4294967296 ∧ s.c < 4294967296 ∧ s.d < 4294967296 ∧ s.e < 4294967296 ∧ s.f < 4294967296 ∧ s.g < 4294967296 ∧ s.i < 4294967296
theorem rnd_ok {s : St} (h : StOk s) (k w : Nat) : StOk (rnd s k w) := ⟨mod_u32 _, h.1, h.2.1, h.2.2.1, mod_u32 _, h.2.2.2.2.1, h.2.2.2.2.2.1, h.2.2.2.2.2.2.1⟩
theorem and_u32 {a b : Nat} (ha : a < 4294967296) : (a &&& b) < 4294967296 := Nat.lt_of_le_of_lt Nat.and_le_left ha
theorem not_u32 (e : Nat) (he : e < 4294967296) : bits .xor .u32 (if IntKind.u32.signed = true then -1 else IntKind.u32.max) (e : Int) = ((4294967295 ^^^ e : Nat) : Int) := by
  rw [show (if IntKind.u32.signed = true then (-1 : Int) else IntKind.u32.max) = ((4294967295 : Nat) : Int) by decide]
  exact u32_xor _ e (by decide) he
theorem rnd_facts (s : St) (h : StOk s) (k w : Nat) : ∃ y1 n1 ne n2 n3 y2 y3 m1 m2 m3 m4 m5 : Nat,
    (IntKind.u32.wrap ((s.i : Int) + (three1 s.e : Int)) = (y1 : Int) ∧ bits .and .u32 (s.e : Int) (s.f : Int) = (n1 : Int) ∧ bits .xor .u32 (if IntKind.u32.signed = true then -1 else IntKind.u32.max) (s.e : Int) = (ne : Int) ∧ bits .and .u32 (ne : Int) (s.g : Int) = (n2 : Int) ∧
      bits .xor .u32 (n1 : Int) (n2 : Int) = (n3 : Int) ∧ IntKind.u32.wrap ((y1 : Int) + (n3 : Int)) = (y2 : Int) ∧ IntKind.u32.wrap ((y2 : Int) + (k : Int)) = (y3 : Int) ∧ IntKind.u32.wrap ((y3 : Int) + (w : Int)) = (rndP s k w : Int)) ∧
    (bits .and .u32 (s.a : Int) (s.b : Int) = (m1 : Int) ∧ bits .and .u32 (s.a : Int) (s.c : Int) = (m2 : Int) ∧ bits .xor .u32 (m1 : Int) (m2 : Int) = (m3 : Int) ∧ bits .and .u32 (s.b : Int) (s.c : Int) = (m4 : Int) ∧ bits .xor .u32 (m3 : Int) (m4 : Int) = (m5 : Int) ∧
      IntKind.u32.wrap ((three0 s.a : Int) + (m5 : Int)) = (rndQ s : Int) ∧ IntKind.u32.wrap ((rndP s k w : Int) + (rndQ s : Int)) = ((rnd s k w).a : Int) ∧ IntKind.u32.wrap ((s.d : Int) + (rndP s k w : Int)) = ((rnd s k w).e : Int)) := by
  obtain ⟨ha, hb, hc, hd, he, hf, hg, hi⟩ := h
  have hnx : (4294967295 ^^^ s.e) < 4294967296 := xor_lt (by decide) he
  exact ⟨_, _, _, _, _, _, _, _, _, _, _, _, ⟨sum_u32 _ _, u32_and _ _ he hf, not_u32 _ he, u32_and _ _ hnx hg, u32_xor _ _ (and_u32 he) (and_u32 hnx), sum_u32 _ _, sum_u32 _ _, sum_u32 _ _⟩,
    ⟨u32_and _ _ ha hb, u32_and _ _ ha hc, u32_xor _ _ (and_u32 ha) (and_u32 ha), u32_and _ _ hb hc, u32_xor _ _ (xor_lt (and_u32 ha) (and_u32 ha)) (and_u32 hb), sum_u32 _ _, sum_u32 _ _, sum_u32 _ _⟩⟩
/-- The state and the window behind t rounds. -/
def runs (ks : List Nat) (s : St) (ws : List Nat) : Nat → St × List Nat
  | 0 => (s, ws)
  | t + 1 => (rnd (runs ks s ws t).1 (ks.getD t 0) ((winAt (runs ks s ws t).2 t).getD (t % 16) 0), winAt (runs ks s ws t).2 t)

def sums (hs ss : List Nat) : List Nat := List.zipWith (fun x s => (x + s) % 4294967296) hs ss
def partS (hs ss : List Nat) (k : Nat) : List Nat := (sums hs ss).take k ++ hs.drop k
def St.list (s : St) : List Nat := [s.a, s.b, s.c, s.d, s.e, s.f, s.g, s.i]
/-- A block l taken into the eight words. -/
def mixS (ks hs : List Nat) (l : Bs) : List Nat :=
  match hs with
  | [x0, x1, x2, x3, x4, x5, x6, x7] => sums hs (runs ks ⟨x0, x1, x2, x3, x4, x5, x6, x7⟩ (wordsOf l) 64).1.list
  | _ => []

theorem run_index_arr {P : Program} {w : World} (t e : TypeId) (n : Nat) (cs : Array Value) (kk : IntKind) (i : Nat) (v : Value) (h : P.underlying t = some (.array n e)) (hs : (sizeOf e).run P w = .ok 1 w) (ha : (isAgg e).run P w = .ok false w) (hi : i < n) (hv : cs[i]? = some v) :
    (Instr.index t (.agg cs) (.int kk i)).run P w = .ok v w := by
  have h1 : (0 : Int) ≤ (i : Int) ∧ (i : Int) < (n : Int) := by omega
  simp [Instr.index, run_underlying h, asIntOf, hi, hv, h1, hs, ha, go_sem]
theorem part_len (hs ss : List Nat) (k : Nat) (hh : hs.length = 8) (hss : ss.length = 8) : (partS hs ss k).length = 8 := by
  unfold partS sums
  simp
  omega
theorem part_step (x0 x1 x2 x3 x4 x5 x6 x7 s0 s1 s2 s3 s4 s5 s6 s7 k : Nat) (hk : k < 8) : ∃ x y s : Nat,
    (#[u32 s0, u32 s1, u32 s2, u32 s3, u32 s4, u32 s5, u32 s6, u32 s7] : Array Value)[k]? = some (u32 s) ∧
      (partS [x0, x1, x2, x3, x4, x5, x6, x7] [s0, s1, s2, s3, s4, s5, s6, s7] k)[k]? = some x ∧ IntKind.u32.wrap ((x : Int) + (s : Int)) = (y : Int) ∧ y < 4294967296 ∧
      (partS [x0, x1, x2, x3, x4, x5, x6, x7] [s0, s1, s2, s3, s4, s5, s6, s7] k).set k y = partS [x0, x1, x2, x3, x4, x5, x6, x7] [s0, s1, s2, s3, s4, s5, s6, s7] (k + 1) := by
  have hcs : k = 0 ∨ k = 1 ∨ k = 2 ∨ k = 3 ∨ k = 4 ∨ k = 5 ∨ k = 6 ∨ k = 7 := by omega
  rcases hcs with rfl | rfl | rfl | rfl | rfl | rfl | rfl | rfl <;> exact ⟨_, _, _, rfl, rfl, sum_u32 _ _, mod_u32 _, rfl⟩

set_option maxRecDepth 100000 in
set_option maxHeartbeats 4000000 in
theorem mix_walk {w : World} {bh bk : Nat} {hs ks : List Nat} {D : Nat → Prop} {v : Value} {l : Bs} (hh : Words w bh 126 hs) (hk : Words w bk 128 ks) (hl8 : hs.length = 8) (hl64 : ks.length = 64) (hb : Byt D w v l) (hl : l.length = 64) :
    Calls Try.prog 94 #[.pointer (some ⟨bh, 0, none⟩), .pointer (some ⟨bk, 0, none⟩), v] w fun e w' => e = .returned (.tuple #[]) ∧ Words w' bh 126 (mixS ks hs l) ∧ Ext (· = bh) w w' := by
  obtain ⟨x0, x1, x2, x3, x4, x5, x6, x7, rfl⟩ : ∃ x0 x1 x2 x3 x4 x5 x6 x7 : Nat, hs = [x0, x1, x2, x3, x4, x5, x6, x7] := by
    match hs, hl8 with
    | [x0, x1, x2, x3, x4, x5, x6, x7], _ => exact ⟨x0, x1, x2, x3, x4, x5, x6, x7, rfl⟩
  obtain ⟨g, o, c, rfl, hcap, _, _⟩ := hb.plain (by intro e; rw [e] at hl; simp at hl)
  have hww := words_walk hb hl
  have hwl : (wordsOf l).length = 16 := by simp [wordsOf]
  have hwlt : ∀ x ∈ wordsOf l, x < 4294967296 := fun x hx => by
    obtain ⟨i, _, rfl⟩ := List.mem_map.1 hx
    exact part_lt l i 4
  unfold mixS
  simp only
  generalize wordsOf l = W0 at *
  obtain ⟨y0, y1, y2, y3, y4, y5, y6, y7, y8, y9, y10, y11, y12, y13, y14, y15, rfl⟩ := list16 W0 hwl
  simp only [List.map_cons, List.map_nil] at hww
  rw [hl] at hww ⊢
  have H := Lib.hid (And.intro hww (And.intro hh (And.intro hk (And.intro hwl hwlt))))
  clear hww hh hk hb hwl hwlt hl8
  go_enter Try.func94, Try.ntmps94
  go_wp2_with fail
  refine H.out.1.mono ?_
  rintro e w1 ⟨he, hx1⟩
  subst he
  go_wp2_with fail
  have hxa : Ext (fun _ => False) w (w1.alloc (Obj.cells #[u32 y0, u32 y1, u32 y2, u32 y3, u32 y4, u32 y5, u32 y6, u32 y7, u32 y8, u32 y9, u32 y10, u32 y11, u32 y12, u32 y13, u32 y14, u32 y15] 153)) := hx1.alloc _
  have hw2 : Words (w1.alloc (Obj.cells #[u32 y0, u32 y1, u32 y2, u32 y3, u32 y4, u32 y5, u32 y6, u32 y7, u32 y8, u32 y9, u32 y10, u32 y11, u32 y12, u32 y13, u32 y14, u32 y15] 153)) w1.heap.size 153 [y0, y1, y2, y3, y4, y5, y6, y7, y8, y9, y10, y11, y12, y13, y14, y15] := ⟨heap_alloc_self _ _, H.out.2.2.2.2⟩
  have hh2 := H.out.2.1.ext hxa id
  have hk2 := H.out.2.2.1.ext hxa id
  have hsz := hx1.size
  have hbn : w.heap.size ≤ w1.heap.size := hx1.size
  generalize w1.alloc (Obj.cells #[u32 y0, u32 y1, u32 y2, u32 y3, u32 y4, u32 y5, u32 y6, u32 y7, u32 y8, u32 y9, u32 y10, u32 y11, u32 y12, u32 y13, u32 y14, u32 y15] 153) = W2 at *
  generalize w1.heap.size = b6 at *
  have c0 : W2.cell? ⟨bh, 0, none⟩ = some (u32 x0) := hh2.cell (i := 0) (by simp)
  have c1 : W2.cell? ⟨bh, 1, none⟩ = some (u32 x1) := hh2.cell (i := 1) (by simp)
  have c2 : W2.cell? ⟨bh, 2, none⟩ = some (u32 x2) := hh2.cell (i := 2) (by simp)
  have c3 : W2.cell? ⟨bh, 3, none⟩ = some (u32 x3) := hh2.cell (i := 3) (by simp)
  have c4 : W2.cell? ⟨bh, 4, none⟩ = some (u32 x4) := hh2.cell (i := 4) (by simp)
  have c5 : W2.cell? ⟨bh, 5, none⟩ = some (u32 x5) := hh2.cell (i := 5) (by simp)
  have c6 : W2.cell? ⟨bh, 6, none⟩ = some (u32 x6) := hh2.cell (i := 6) (by simp)
  have c7 : W2.cell? ⟨bh, 7, none⟩ = some (u32 x7) := hh2.cell (i := 7) (by simp)
  have halh := lt_of_heap hh2.obj
  have H2 := Lib.hid (And.intro hxa (And.intro hw2 (And.intro hh2 hk2)))
  clear hxa hw2 hh2 hk2 hsz
  refine wp_region_mix (Cls [bh] _) [] [0, 1, 2, 3, 4, 5, 6, 7, 8, 9, 10, 11, 12, 13, 14, 15, 16, 17, 18, 19, 20, 21, 22, 23, 24, 25, 26, 27, 28, 29, 30, 31, 32, 33, 34, 35, 36, 37, 38, 39] (by kernel_rfl) (by kernel_rfl) (Cls.refl _ _) ?_
  try dsimp only [wpMix, wpSegs, pick, List.getElem?_cons_zero, List.getElem?_cons_succ]
  generalize hz : Act.mk _ _ = z
  repeat (first | (refine wpQuiet_step (fun K hK => ?_); replace hK := Lib.hid hK; subst hz; go_simp; generalize hz : Act.mk _ _ = z; refine hK.out z ?_; clear hK K) | (refine wpQuiet_step (fun K hK => ?_); replace hK := Lib.hid hK; subst hz; refine iteSkip (by kernel_rfl) ?_; go_simp; generalize hz : Act.mk _ _ = z; refine hK.out z ?_; clear hK K))
  try refine wpQuiet_nil ?_
  subst hz
  try dsimp only [NoPan]
  go_wp2_with fail
  obtain ⟨S, hS⟩ : ∃ S : Nat → St × List Nat, S = runs ks ⟨x0, x1, x2, x3, x4, x5, x6, x7⟩ [y0, y1, y2, y3, y4, y5, y6, y7, y8, y9, y10, y11, y12, y13, y14, y15] := ⟨_, rfl⟩
  have hS0 : S 0 = (⟨x0, x1, x2, x3, x4, x5, x6, x7⟩, [y0, y1, y2, y3, y4, y5, y6, y7, y8, y9, y10, y11, y12, y13, y14, y15]) := by rw [hS]; rfl
  have hSn : ∀ n, S (n + 1) = (rnd (S n).1 (ks.getD n 0) ((winAt (S n).2 n).getD (n % 16) 0), winAt (S n).2 n) := fun n => by rw [hS]; rfl
  have HS := Lib.hid (And.intro hS (And.intro hS0 hSn))
  clear hS hS0 hSn c0 c1 c2 c3 c4 c5 c6 c7
  go_loopw [7, 8, 9, 10, 11, 12, 13, 14, 56] (fun va vb vc vd ve vf vg vi vt W => ∃ n : Nat, n ≤ 64 ∧ vt = .int .i64 n ∧ va = u32 (S n).1.a ∧ vb = u32 (S n).1.b ∧ vc = u32 (S n).1.c ∧ vd = u32 (S n).1.d ∧ ve = u32 (S n).1.e ∧ vf = u32 (S n).1.f ∧ vg = u32 (S n).1.g ∧ vi = u32 (S n).1.i ∧
      Words W b6 153 (S n).2 ∧ (S n).2.length = 16 ∧ StOk (S n).1 ∧ Ext (· = b6) W2 W) (fun _ _ _ _ _ _ _ _ vt _ => 64 - (intOf vt).toNat)
  case atStart =>
    have h0 := HS.out.2.1
    refine ⟨0, by omega, rfl, by rw [h0], by rw [h0], by rw [h0], by rw [h0], by rw [h0], by rw [h0], by rw [h0], by rw [h0], ?_, by rw [h0]; rfl, ?_, (Ext.refl _ _).drew⟩
    · rw [h0]; exact H2.out.2.1.ext ((Ext.refl (fun _ => False) _).drew) id
    · rw [h0]
      have hlt := H2.out.2.2.1.lt
      exact ⟨hlt x0 (by simp), hlt x1 (by simp), hlt x2 (by simp), hlt x3 (by simp), hlt x4 (by simp), hlt x5 (by simp), hlt x6 (by simp), hlt x7 (by simp)⟩
  case round =>
    obtain ⟨n, hn, rfl, rfl, rfl, rfl, rfl, rfl, rfl, rfl, rfl, hW, hwl, hok, hx⟩ := hrel
    by_cases hn64 : n < 64
    · have hn' : decide ((n : Int) < 64) = true := by simp; omega
      have hn'' : (n : Int) < 64 := by omega
      have hkb : bk ≠ b6 := by
        have := lt_of_heap H.out.2.2.1.obj
        omega
      have hkr := H2.out.2.2.2.ext hx hkb
      have ck := hkr.cell (i := n) (by omega)
      have hkal := lt_of_heap hkr.obj
      have hat := at_walk n (hW.ext ((Ext.refl (fun _ => False) _).drew) id) hwl hn64
      have hstep := HS.out.2.2 n
      have hkg : ks.getD n 0 = ks[n]'(by omega) := by rw [List.getD_eq_getElem?_getD, List.getElem?_eq_getElem (by omega)]; rfl
      rw [hkg] at hstep
      generalize (S n).1 = st at *
      obtain ⟨sa, sb, sc, sd, se, sf, sg, si⟩ := st
      simp only at *
      have h3 := three1_walk se hok.2.2.2.2.1
      have h4 := three0_walk sa hok.1
      obtain ⟨wv, hwv⟩ : ∃ wv, (winAt (S n).2 n).getD (n % 16) 0 = wv := ⟨_, rfl⟩
      rw [hwv] at hat hstep
      have hrok := rnd_ok hok (ks[n]'(by omega)) wv
      obtain ⟨z1, n1, ne, n2, n3, z2, z3, m1, m2, m3, m4, m5, ⟨q1, q2, q3, q4, q5, q6, q7, q8⟩, ⟨p1, p2, p3, p4, p5, p6, p7, p8⟩⟩ := rnd_facts ⟨sa, sb, sc, sd, se, sf, sg, si⟩ hok (ks[n]'(by omega)) wv
      have hra : (rnd ⟨sa, sb, sc, sd, se, sf, sg, si⟩ (ks[n]'(by omega)) wv) = ⟨(rnd ⟨sa, sb, sc, sd, se, sf, sg, si⟩ (ks[n]'(by omega)) wv).a, sa, sb, sc, (rnd ⟨sa, sb, sc, sd, se, sf, sg, si⟩ (ks[n]'(by omega)) wv).e, se, sf, sg⟩ := rfl
      have hra1 := hra
      have hwn : (winAt (S n).2 n).length = 16 := by
        unfold winAt winNext
        split
        · exact hwl
        · rw [List.length_set]; exact hwl
      rw [hra] at hstep hrok
      simp only at q1 q2 q3 q4 p1 p2 p4 p6 p8
      generalize (rnd ⟨sa, sb, sc, sd, se, sf, sg, si⟩ (ks[n]'(by omega)) wv).a = na at *
      generalize (rnd ⟨sa, sb, sc, sd, se, sf, sg, si⟩ (ks[n]'(by omega)) wv).e = nn at *
      generalize rndP ⟨sa, sb, sc, sd, se, sf, sg, si⟩ (ks[n]'(by omega)) wv = pp at *
      generalize rndQ ⟨sa, sb, sc, sd, se, sf, sg, si⟩ = qq at *
      generalize three1 se = t1 at *
      generalize three0 sa = t0 at *
      clear hra hra1 hwv
      generalize ks[n]'(by omega) = kk at *
      have HR := Lib.hid (And.intro (And.intro hat (And.intro h3 h4)) (And.intro hstep (And.intro hrok (And.intro hx hwn))))
      clear hat h3 h4 hstep hok hx hwl hkr hkg hW hrok hwn
      go_wp2_with fail
      refine wp_region_mix (Cls [bk] _) [] [0, 1, 2, 3, 4, 5] (by kernel_rfl) (by kernel_rfl) (Cls.refl _ _) ?_
      try dsimp only [wpMix, wpSegs, pick, List.getElem?_cons_zero, List.getElem?_cons_succ]
      generalize hz : Act.mk _ _ = z
      repeat (first | (refine wpQuiet_step (fun K hK => ?_); replace hK := Lib.hid hK; subst hz; go_simp; generalize hz : Act.mk _ _ = z; refine hK.out z ?_; clear hK K) | (refine wpQuiet_step (fun K hK => ?_); replace hK := Lib.hid hK; subst hz; refine iteSkip (by kernel_rfl) ?_; go_simp; generalize hz : Act.mk _ _ = z; refine hK.out z ?_; clear hK K))
      try refine wpQuiet_nil ?_
      subst hz
      try dsimp only [NoPan]
      go_wp2_with fail
      refine (HR.out.1.2.1 _).mono ?_
      rintro e _ ⟨rfl, rfl⟩
      go_wp2_with fail
      refine (HR.out.1.1).mono ?_
      rintro e W3 ⟨rfl, hW3, hx3⟩
      have H3 := Lib.hid (And.intro hW3 hx3)
      clear hW3 hx3
      go_wp2_with fail
      refine (HR.out.1.2.2 _).mono ?_
      rintro e _ ⟨rfl, rfl⟩
      go_wp2_with fail
      refine ⟨⟨n + 1, by omega, by go_num, ?_, ?_, ?_, ?_, ?_, ?_, ?_, ?_, ?_, ?_, ?_, ?_⟩, by simp [intOf]; omega⟩
      all_goals try rw [HR.out.2.1]
      · exact H3.out.1
      · exact HR.out.2.2.2.2
      · exact HR.out.2.2.1
      · exact HR.out.2.2.2.1.drew.trans H3.out.2
    · have : n = 64 := by omega
      subst this
      have hn' : decide ((64 : Int) < 64) = false := by decide
      have hbb : bh ≠ b6 := by
        have := lt_of_heap H.out.2.1.obj
        omega
      have hhr := H2.out.2.2.1.ext hx hbb
      generalize hst64 : (S 64).1 = st at *
      obtain ⟨sa, sb, sc, sd, se, sf, sg, si⟩ := st
      simp only at *
      have hx0 : Ext (· = bh) w wr := (H2.out.1.mono fun _ _ h => h.elim).trans' hx fun b hb => .inr (by rw [hb]; exact hbn)
      have hse : (S 64).1 = ⟨sa, sb, sc, sd, se, sf, sg, si⟩ := hst64
      have HR := Lib.hid (And.intro hhr (And.intro hok (And.intro hx0 hse)))
      clear hhr hok hx hW hwl hx0 hse hst64
      go_wp2_with fail
      go_loopw [116] (fun t W => ∃ k : Nat, k ≤ 8 ∧ t = .int .i64 k ∧ Words W bh 126 (partS [x0, x1, x2, x3, x4, x5, x6, x7] [sa, sb, sc, sd, se, sf, sg, si] k) ∧ Ext (· = bh) w W) (fun t _ => 8 - (intOf t).toNat)
      case atStart => exact ⟨0, by omega, rfl, HR.out.1, HR.out.2.2.1⟩
      case round =>
        obtain ⟨k, hk, rfl, hP, hxw⟩ := hrel
        by_cases hk8 : k < 8
        · have halw := lt_of_heap hP.obj
          have hkd : decide ((k : Int) < 8) = true := by simp; omega
          have hki : (k : Int) < 8 := by omega
          have hkw : IntKind.i64.wrap (k + 1) = ((k + 1 : Nat) : Int) := by rw [IntKind.wrap_i64] <;> omega
          obtain ⟨x, y, s, hsv, hc, hwr, hylt, hyp⟩ := part_step x0 x1 x2 x3 x4 x5 x6 x7 sa sb sc sd se sf sg si k hk8
          have hc' : wr.cell? ⟨bh, k, none⟩ = some (u32 x) := by
            have := hP.cell (i := k) (by rw [part_len _ _ _ rfl rfl]; exact hk8)
            rw [this]
            congr 2
            rw [List.getElem?_eq_getElem (by rw [part_len _ _ _ rfl rfl]; exact hk8)] at hc
            exact Option.some.inj hc
          have hf := hP.melt k
          have hPn := hP.put k y hylt
          rw [hyp] at hPn
          have hxn : Ext (· = bh) w (wr.setCell ⟨bh, k, none⟩ (u32 y)) := hxw.setCell (a := ⟨bh, k, none⟩) (.inl rfl) _
          have HN := Lib.hid (And.intro hsv (And.intro hPn hxn))
          clear hc hPn hyp hxn hP hxw hsv hylt
          go_wp2_with fail
          rw [run_index_arr (w := wr) _ _ _ _ _ k _ rfl (by kernel_rfl) (by kernel_rfl) hk8 HN.out.1]
          go_wp2_with fail
          refine wp_region_bar (Cls [bh] _) [] [0, 1, 2, 3, 4, 5, 6, 7, 8] 9 [] [] (by kernel_rfl) (by kernel_rfl) (Cls.refl _ _) ?_
          try dsimp only [wpMix, wpSegs, pick, List.getElem?_cons_zero, List.getElem?_cons_succ]
          generalize hz : Act.mk _ _ = z
          repeat (first | (refine wpQuiet_step (fun K hK => ?_); replace hK := Lib.hid hK; subst hz; go_simp; generalize hz : Act.mk _ _ = z; refine hK.out z ?_; clear hK K) | (refine wpQuiet_step (fun K hK => ?_); replace hK := Lib.hid hK; subst hz; refine iteSkip (by kernel_rfl) ?_; go_simp; generalize hz : Act.mk _ _ = z; refine hK.out z ?_; clear hK K))
          try refine wpQuiet_nil ?_
          subst hz
          try dsimp only [NoPan]
          go_wp2_with fail
          try dsimp only [wpMix, wpSegs, pick, List.getElem?_cons_zero, List.getElem?_cons_succ]
          generalize hz : Act.mk _ _ = z
          repeat (first | (refine wpQuiet_step (fun K hK => ?_); replace hK := Lib.hid hK; subst hz; go_simp; generalize hz : Act.mk _ _ = z; refine hK.out z ?_; clear hK K) | (refine wpQuiet_step (fun K hK => ?_); replace hK := Lib.hid hK; subst hz; refine iteSkip (by kernel_rfl) ?_; go_simp; generalize hz : Act.mk _ _ = z; refine hK.out z ?_; clear hK K))
          try refine wpQuiet_nil ?_
          subst hz
          try dsimp only [NoPan]
          go_wp2_with fail
          refine ⟨⟨_, _, _, _, _, _, _, _, _, _, _, _, _, _, _, _, ⟨k + 1, by omega, ?_, HN.out.2.1.ext ((Ext.refl (fun _ => False) _).drew) id, HN.out.2.2.drew⟩, rfl⟩, ?_⟩
          · go_num
          · simp [intOf]; omega
        · have : k = 8 := by omega
          subst this
          have hk' : decide ((8 : Int) < 8) = false := by decide
          have HF := Lib.hid (And.intro hP hxw)
          clear hP hxw
          go_wp2_with fail
          refine bodyPost_end (results_none rfl _ _ _) rfl ?_
          refine ⟨rfl, ?_, HF.out.2⟩
          have h1 := HF.out.1
          rw [← HS.out.1, HR.out.2.2.2]
          exact h1
end Go.Proofs.Ytoflfhjeabpcjaa
