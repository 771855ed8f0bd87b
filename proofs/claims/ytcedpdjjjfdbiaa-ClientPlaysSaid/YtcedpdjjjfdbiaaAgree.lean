/- Agreed: the program's and the document's; no condition. -/
import Derived.Test.YtcedpdjjjfdbiaaQuo
import Derived.Test.YtcedpdjjjfdbiaaBest
import Derived.Lib.Walk
import Derived.Test.YtcedpdjjjfdbiaaReg
namespace Go.Proofs.Ytcedpdjjjfdbiaa
set_option linter.unusedVariables false
set_option linter.unusedSimpArgs false
open Go.RowKit

/-- A row of texts. -/
abbrev Texts (D : Nat → Prop) (w : World) (v : Value) (l : List Bs) : Prop := Row (fun w g n x => w.cell? ⟨g, n, none⟩ = some (str x)) 1 D w v l
def AgreedIs (n : Int) (l : List Bs) (b : Bs) : Prop := (¬ okN n ∧ b = []) ∨ (okN n ∧ IsBest (Pass (fewQ n).toNat (l.take n.toNat)) b)
theorem AgreedIs.unique {n : Int} {l : List Bs} {b b' : Bs} (h : AgreedIs n l b) (h' : AgreedIs n l b') : b = b' := by
  rcases h with ⟨h1, rfl⟩ | ⟨h1, h2⟩
  · rcases h' with ⟨_, rfl⟩ | ⟨k1, _⟩
    · rfl
    · exact absurd k1 h1
  · rcases h' with ⟨k1, _⟩ | ⟨_, k2⟩
    · exact absurd h1 k1
    · exact h2.unique (fun s hs => hs.1) k2

theorem chk_string (n : Nat) (e : Bool) (x : Bs) (W : World) : (Instr.checkKey e (n + 1) 9 (str x)).run Try.prog W = .ok () W := by
  simp [Instr.checkKey, run_underlying Try.underlying9]
theorem key_string : KeyOf Try.prog 9 str where
  und := ⟨_, Try.underlying9, fun x y => .inr (by simp only [Instr.sameNow, str_eq])⟩
  eql := fun x y W => by
    have e : Op.equal 9 (str x) (str y) = Op.equalIn (9999 + 1) 9 (str x) (str y) := rfl
    have := run_equalIn_string (P := Try.prog) W 9999 9 ⟨x.toArray⟩ ⟨y.toArray⟩ Try.underlying9
    rw [toList_str, toList_str] at this
    rw [e, this]
    by_cases h : x = y <;> simp [h]
  chk := fun e x W => chk_string 9999 e x W
  bits := fun x => by simp [Instr.sameBits, str_eq]
theorem zero_int (W : World) : (zeroValue 3).run Try.prog W = .ok (.int .i64 0) W := by kernel_rfl

theorem few_pos {n : Int} (h : okN n) : ∃ q : Nat, fewQ n = q ∧ 0 < q ∧ q ≤ 6 ∧ ∃ m : Nat, n = m ∧ m ≤ 16 := by
  obtain ⟨h1, h2, h3⟩ := id h
  refine ⟨(n / 3 + 1).toNat, by rw [fewQ, if_pos h]; omega, by omega, by omega, n.toNat, by omega, by omega⟩

set_option maxRecDepth 100000 in
theorem quo_agreed {w : World} {D : Nat → Prop} {v : Value} {l : List Bs} (h : Texts D w v l) (hl : l.length ≤ 9223372036854775807) (n : Int) :
    Calls Try.prog 33 #[.int .i64 n, v] w fun e w' => ∃ b, e = .returned (.tuple #[str b, .bool (!(b == []))]) ∧ Ext (fun _ => False) w w' ∧ AgreedIs n l b := by
  obtain ⟨A, c, rfl, hcap, _⟩ := id h
  have hmm := @run_makeMap_new Try.prog
  have hfew := quo_few n
  by_cases hok : okN n
  · obtain ⟨q, hq, hq0, hq6, m, rfl, hm⟩ := few_pos hok
    have hqz : ((q : Int) == 0) = false := by simp; omega
    rw [hq] at hfew
    have Hfew := Lib.hid hfew
    have Hok := Lib.hid (And.intro hok hq)
    clear hfew hok hq
    obtain ⟨N, hN⟩ : ∃ N : Nat, N = min m l.length := ⟨_, rfl⟩
    have hmin : min (m : Int) (l.length : Int) = (N : Int) := by omega
    have hmax : max (N : Int) 0 = (N : Int) := by omega
    have hNl : N ≤ l.length := by omega
    have htk : l.take N = l.take m := by rw [hN, List.take_eq_take_iff]; omega
    have Htk := Lib.hid (And.intro hN htk)
    clear hN htk
    have hNc : (N : Int) ≤ (c : Int) := by omega
    go_enter Try.func33, Try.ntmps33
    go_wp2_with fail
    refine (Hfew.out _).mono ?_
    rintro e _ ⟨rfl, rfl⟩
    go_wp2_with fail
    go_loopw [8, 23] (fun best i W => ∃ (k : Nat) (E : List (Bs × Value)) (b : Bs), k ≤ N ∧ i = .int .i64 k ∧ best = str b ∧ MapIs str W w.heap.size E ∧ (∀ s, (assoc s E).getD (.int .i64 0) = .int .i64 ((l.take k).count s : Nat)) ∧ Ext (fun _ => False) w W ∧ IsBest (Pass q (l.take k)) b)
      (fun _ i _ => N - (intOf i).toNat)
    case atStart => exact ⟨0, [], [], by omega, rfl, rfl, MapIs.new _ (heap_alloc_self _ _), fun s => by simp [assoc], (Ext.refl _ _).alloc _, best_nil hq0⟩
    case round =>
      obtain ⟨k, E, b, hk, rfl, rfl, hmap, hcnt, hx, hbest⟩ := hrel
      by_cases hkN : k < N
      · have hkN' : (k : Int) < (N : Int) := by omega
        have hkl : k < l.length := by omega
        obtain ⟨g, o, c', hav, _, hcell⟩ := h.at hkl
        obtain ⟨rfl, rfl⟩ : A = some ⟨g, o, none⟩ ∧ c = c' := by simpa using hav
        clear hav
        rw [Nat.mul_one] at hcell
        replace hcell := cell_same hcell hx
        have hsucc : l.take (k + 1) = l.take k ++ [l[k]] := List.take_succ_eq_append_getElem hkl
        have hle : (l.take k).count l[k] ≤ k := by
          have := List.count_le_length (l := l.take k) (a := l[k])
          simp at this
          omega
        generalize l[k] = s at *
        have hlk := hmap.lookup key_string Try.underlying97 _ zero_int s
        rw [hcnt] at hlk
        have hbs := best_step (s := s) hq0 hbest
        have hc1 : (l.take k ++ [s]).count s = (l.take k).count s + 1 := by simp
        rw [hc1, ← hsucc] at hbs
        have hfin : ∀ (w2 : World) (b' : Bs), MapIs str w2 w.heap.size (assocSet s (.int .i64 (((l.take k).count s : Int) + 1)) E) → Ext (· = w.heap.size) wr w2 →
            b' = (if (s ≠ [] ∧ (l.take k).count s + 1 = q) ∧ (b = [] ∨ less s b = true) then s else b) →
            k + 1 ≤ N ∧ MapIs str w2 w.heap.size (assocSet s (.int .i64 (((l.take k).count s : Int) + 1)) E) ∧ (∀ t, (assoc t (assocSet s (.int .i64 (((l.take k).count s : Int) + 1)) E)).getD (.int .i64 0) = .int .i64 ((l.take (k + 1)).count t : Nat)) ∧
              Ext (fun _ => False) w w2 ∧ IsBest (Pass q (l.take (k + 1))) b' := by
          intro w2 b' h1 h2 h3
          refine ⟨by omega, h1, fun t => ?_, hx.trans' h2 fun b hb => .inr (by omega), by rw [h3]; exact hbs⟩
          rw [assoc_set, hsucc, List.count_append]
          by_cases ht : t = s
          · subst ht
            rw [if_pos rfl]
            simp
          · rw [if_neg ht, hcnt]
            simp [List.count_cons, Ne.symm ht]
        have hml := hmap.lt
        generalize (l.take k).count s = cn at *
        have Hfin := Lib.hid hfin
        clear hsucc hcnt hbest hbs hc1 hfin
        by_cases hse : s = []
        · have hse' : s.isEmpty = true := by simpa using hse
          have Hse := Lib.hid hse
          clear hse
          go_wp2_with (refine wpList_mapUpdate key_string Try.underlying97 rfl _ _ _ rfl (k := s) (v := .int .i64 ((cn : Int) + 1)) rfl rfl rfl hmap ?_; intro w2 hm2 hx2 hs2; have hlk2 := hm2.lookup key_string Try.underlying97 _ zero_int s w2 rfl; rw [assoc_set, if_pos rfl, Option.getD_some] at hlk2; have H2 := Lib.hid (And.intro hm2 hx2); clear hm2 hx2 hs2)
          obtain ⟨r1, r2, r3, r4, r5⟩ := Hfin.out _ b H2.out.1 H2.out.2 (by rw [if_neg (fun hh => hh.1.1 Hse.out)])
          exact ⟨⟨k + 1, _, b, r1, by go_num, rfl, r2, r3, r4, r5⟩, by simp [intOf]; omega⟩
        have hse' : s.isEmpty = false := by simpa using hse
        have Hse := Lib.hid hse
        clear hse
        by_cases hcq : cn + 1 = q
        · have hcq' : ((cn : Int) + 1 == (q : Int)) = true := by simp; omega
          have Hcq := Lib.hid hcq
          clear hcq
          by_cases hb0 : b = []
          · have hb0' : b.isEmpty = true := by simpa using hb0
            have Hb0 := Lib.hid hb0
            clear hb0
            go_wp2_with (refine wpList_mapUpdate key_string Try.underlying97 rfl _ _ _ rfl (k := s) (v := .int .i64 ((cn : Int) + 1)) rfl rfl rfl hmap ?_; intro w2 hm2 hx2 hs2; have hlk2 := hm2.lookup key_string Try.underlying97 _ zero_int s w2 rfl; rw [assoc_set, if_pos rfl, Option.getD_some] at hlk2; have H2 := Lib.hid (And.intro hm2 hx2); clear hm2 hx2 hs2)
            obtain ⟨r1, r2, r3, r4, r5⟩ := Hfin.out _ s H2.out.1 H2.out.2 (by rw [if_pos ⟨⟨Hse.out, Hcq.out⟩, .inl Hb0.out⟩])
            exact ⟨⟨k + 1, _, s, r1, by go_num, rfl, r2, r3, r4, r5⟩, by simp [intOf]; omega⟩
          have hb0' : b.isEmpty = false := by simpa using hb0
          have Hb0 := Lib.hid hb0
          clear hb0
          by_cases hl2 : less s b = true
          · have hl2' : Op.bytesLess s b = true := hl2
            have Hl2 := Lib.hid hl2
            clear hl2
            go_wp2_with (refine wpList_mapUpdate key_string Try.underlying97 rfl _ _ _ rfl (k := s) (v := .int .i64 ((cn : Int) + 1)) rfl rfl rfl hmap ?_; intro w2 hm2 hx2 hs2; have hlk2 := hm2.lookup key_string Try.underlying97 _ zero_int s w2 rfl; rw [assoc_set, if_pos rfl, Option.getD_some] at hlk2; have H2 := Lib.hid (And.intro hm2 hx2); clear hm2 hx2 hs2)
            obtain ⟨r1, r2, r3, r4, r5⟩ := Hfin.out _ s H2.out.1 H2.out.2 (by rw [if_pos ⟨⟨Hse.out, Hcq.out⟩, .inr Hl2.out⟩])
            exact ⟨⟨k + 1, _, s, r1, by go_num, rfl, r2, r3, r4, r5⟩, by simp [intOf]; omega⟩
          · have hl2' : Op.bytesLess s b = false := Bool.eq_false_iff.2 hl2
            have Hl2 := Lib.hid hl2
            clear hl2
            go_wp2_with (refine wpList_mapUpdate key_string Try.underlying97 rfl _ _ _ rfl (k := s) (v := .int .i64 ((cn : Int) + 1)) rfl rfl rfl hmap ?_; intro w2 hm2 hx2 hs2; have hlk2 := hm2.lookup key_string Try.underlying97 _ zero_int s w2 rfl; rw [assoc_set, if_pos rfl, Option.getD_some] at hlk2; have H2 := Lib.hid (And.intro hm2 hx2); clear hm2 hx2 hs2)
            obtain ⟨r1, r2, r3, r4, r5⟩ := Hfin.out _ b H2.out.1 H2.out.2 (by rw [if_neg (fun hh => hh.2.elim Hb0.out Hl2.out)])
            exact ⟨⟨k + 1, _, b, r1, by go_num, rfl, r2, r3, r4, r5⟩, by simp [intOf]; omega⟩
        · have hcq' : ((cn : Int) + 1 == (q : Int)) = false := by simp; omega
          have Hcq := Lib.hid hcq
          clear hcq
          go_wp2_with (refine wpList_mapUpdate key_string Try.underlying97 rfl _ _ _ rfl (k := s) (v := .int .i64 ((cn : Int) + 1)) rfl rfl rfl hmap ?_; intro w2 hm2 hx2 hs2; have hlk2 := hm2.lookup key_string Try.underlying97 _ zero_int s w2 rfl; rw [assoc_set, if_pos rfl, Option.getD_some] at hlk2; have H2 := Lib.hid (And.intro hm2 hx2); clear hm2 hx2 hs2)
          obtain ⟨r1, r2, r3, r4, r5⟩ := Hfin.out _ b H2.out.1 H2.out.2 (by rw [if_neg (fun hh => Hcq.out hh.1.2)])
          exact ⟨⟨k + 1, _, b, r1, by go_num, rfl, r2, r3, r4, r5⟩, by simp [intOf]; omega⟩
      · have : k = N := by omega
        subst this
        have hkN' : decide ((k : Int) < (k : Int)) = false := by simp
        rw [Htk.out.2] at hbest
        have Hb := Lib.hid (And.intro hbest hx)
        clear hbest hcnt hx
        go_wp2_with fail
        go_ret2
        refine ⟨b, ?_, Hb.out.2, .inr ⟨Hok.out.1, by rw [Hok.out.2]; exact Hb.out.1⟩⟩
        first | rfl | (cases b <;> rfl)
  · rw [fewQ, if_neg hok] at hfew
    have Hfew := Lib.hid (And.intro hfew hok)
    clear hfew hok
    go_enter Try.func33, Try.ntmps33
    go_wp2_with fail
    refine (Hfew.out.1 _).mono ?_
    rintro e _ ⟨rfl, rfl⟩
    go_wp2_with fail
    go_ret2
    exact ⟨[], rfl, (Ext.refl _ _).alloc _, .inl ⟨Hfew.out.2, rfl⟩⟩

/-- What is passed by some of the first ones. -/
def PassR (few : Nat) (all : List Bs) (i : Nat) (s : Bs) : Prop := s ∈ all.take i ∧ s ≠ [] ∧ few ≤ all.count s
theorem bestR_step {few : Nat} {all : List Bs} {i : Nat} (hi : i < all.length) {b : Bs} (hb : IsBest (PassR few all i) b) :
    IsBest (PassR few all (i + 1)) (if (all[i] ≠ [] ∧ few ≤ all.count all[i]) ∧ (b = [] ∨ less all[i] b = true) then all[i] else b) := by
  have hsucc : all.take (i + 1) = all.take i ++ [all[i]] := List.take_succ_eq_append_getElem hi
  by_cases h : all[i] ≠ [] ∧ few ≤ all.count all[i]
  · have hm := hb.more (Q := PassR few all (i + 1)) (fun t ht => ht.2.1) h.1 (fun t => ?_)
    · by_cases hl : b = [] ∨ less all[i] b = true
      · rw [if_pos hl] at hm
        rw [if_pos ⟨h, hl⟩]
        exact hm
      · rw [if_neg hl] at hm
        rw [if_neg (fun hh => hl hh.2)]
        exact hm
    · unfold PassR
      rw [hsucc, List.mem_append]
      constructor
      · rintro ⟨h1 | h1, h2⟩
        · exact .inl ⟨h1, h2⟩
        · exact .inr (by simpa using h1)
      · rintro (⟨h1, h2⟩ | rfl)
        · exact ⟨.inl h1, h2⟩
        · exact ⟨.inr (by simp), h⟩
  · rw [if_neg (fun hh => h hh.1)]
    refine hb.iff fun t => ?_
    unfold PassR
    rw [hsucc, List.mem_append]
    constructor
    · rintro ⟨h1, h2⟩; exact ⟨.inl h1, h2⟩
    · rintro ⟨h1 | h1, h2⟩
      · exact ⟨h1, h2⟩
      · simp at h1
        subst h1
        exact absurd h2 h
theorem bestR_end {few : Nat} (hf : 0 < few) {all : List Bs} {b : Bs} (hb : IsBest (PassR few all all.length) b) : IsBest (Pass few all) b := by
  refine hb.iff fun s => ?_
  unfold PassR Pass
  rw [List.take_length]
  constructor
  · rintro ⟨_, h⟩; exact h
  · rintro ⟨h1, h2⟩
    exact ⟨List.count_pos_iff.1 (by omega), h1, h2⟩
theorem count_step (l : List Bs) (j : Nat) (hj : j < l.length) (s : Bs) : (l.take (j + 1)).count s = (l.take j).count s + if l[j] = s then 1 else 0 := by
  rw [List.take_succ_eq_append_getElem hj, List.count_append]
  by_cases h : l[j] = s <;> simp [h, List.count_cons]

set_option maxRecDepth 100000 in
theorem ref_agreed {w : World} {D : Nat → Prop} {v : Value} {l : List Bs} (h : Texts D w v l) (hl : l.length ≤ 9223372036854775807) (n : Int) :
    Calls Try.prog 42 #[.int .i64 n, v] w fun e w' => ∃ b, e = .returned (.tuple #[str b, .bool (!(b == []))]) ∧ Ext (fun _ => False) w w' ∧ AgreedIs n l b := by
  obtain ⟨A, c, rfl, hcap, _⟩ := id h
  have hfew := ref_few n
  have hq : ∃ q : Nat, fewQ n = q ∧ (okN n → 0 < q) ∧ (¬ okN n → q = 0) ∧ q ≤ 6 := by
    unfold fewQ
    split
    · rename_i hh
      exact ⟨(n / 3 + 1).toNat, by have := hh.1; omega, fun _ => by have := hh.1; omega, fun h' => absurd hh h', by have := hh.2.1; omega⟩
    · rename_i hh
      exact ⟨0, rfl, fun h' => absurd h' hh, fun _ => rfl, by omega⟩
  obtain ⟨q, hq, hq1, hq2, hq6⟩ := hq
  rw [hq] at hfew
  obtain ⟨N, hN⟩ : ∃ N : Nat, N = min n.toNat l.length := ⟨_, rfl⟩
  have hNl : N ≤ l.length := by omega
  have hNn : 0 < N → (N : Int) ≤ n := by omega
  have hend : ∀ i, ¬ i < N → (l.length ≤ i ∨ n ≤ i) := by omega
  have hin : ∀ i, i < N → (i : Int) < n := by omega
  obtain ⟨all, hal, hget, hall⟩ : ∃ all : List Bs, all.length = N ∧ (∀ i (h1 : i < all.length) (h2 : i < l.length), all[i] = l[i]) ∧ all = l.take n.toNat :=
    ⟨l.take N, by simp; omega, fun i h1 h2 => by simp, by rw [hN, List.take_eq_take_iff]; omega⟩
  have Hh := Lib.hid (And.intro (And.intro hfew hq) (And.intro hq1 (And.intro hq2 hall)))
  have Hend := Lib.hid hend
  have Hin := Lib.hid hin
  clear hfew hq hq1 hq2 hall hend hN hNn hin
  go_enter Try.func42, Try.ntmps42
  go_wp2_with fail
  refine (Hh.out.1.1 _).mono ?_
  rintro e _ ⟨rfl, rfl⟩
  go_wp2_with fail
  go_loopw [7, 8] (fun best i W => ∃ (k : Nat) (b : Bs), k ≤ N ∧ i = .int .i64 k ∧ best = str b ∧ Ext (fun _ => False) w W ∧ (0 < q → IsBest (PassR q all k) b) ∧ (q = 0 → b = []))
    (fun _ i _ => N - (intOf i).toNat)
  case atStart => exact ⟨0, [], by omega, rfl, rfl, Ext.refl _ _, fun _ => .inl ⟨rfl, fun s hs => by have := hs.1; simp at this⟩, fun _ => rfl⟩
  case round =>
    obtain ⟨k, b, hk, rfl, rfl, hx, hbest, hb0⟩ := hrel
    by_cases hkN : k < N
    · have hkl : (k : Int) < (l.length : Int) := by omega
      have hkl' : k < l.length := by omega
      have hkn : (k : Int) < n := Hin.out k hkN
      have hkn' : decide ((k : Int) < n) = true := by simpa using hkn
      obtain ⟨g, o, c', hav, _, hcell⟩ := h.at hkl'
      obtain ⟨rfl, rfl⟩ : A = some ⟨g, o, none⟩ ∧ c = c' := by simpa using hav
      clear hav
      rw [Nat.mul_one] at hcell
      have hcell0 := hcell
      replace hcell := cell_same hcell hx
      have hbs := fun hp => bestR_step (few := q) (i := k) (by rw [hal]; exact hkN) (hbest hp)
      rw [hget k (by omega) hkl'] at hbs
      have hgl : g < w.heap.size := World.block_lt_of_cell? _ _ hcell0
      generalize hs : l[k] = s at *
      have hfin : ∀ b', (q = 0 → b' = b) → (0 < q → b' = if (s ≠ [] ∧ q ≤ all.count s) ∧ (b = [] ∨ less s b = true) then s else b) → (0 < q → IsBest (PassR q all (k + 1)) b') ∧ (q = 0 → b' = []) :=
        fun b' h1 h2 => ⟨fun hp => by rw [h2 hp]; exact hbs hp, fun h0 => (h1 h0).trans (hb0 h0)⟩
      have Hfin := Lib.hid hfin
      have Hcell := Lib.hid hcell0
      clear hbest hbs hb0 hfin
      go_wp2_with fail
      go_loopw [9, 10] (fun cn j W => ∃ m : Nat, m ≤ N ∧ j = .int .i64 m ∧ cn = .int .i64 ((all.take m).count s : Nat) ∧ Ext (fun _ => False) w W) (fun _ j _ => N - (intOf j).toNat)
      case atStart => exact ⟨0, by omega, rfl, by simp, hx⟩
      case round =>
        clear hx
        obtain ⟨m, hm, rfl, rfl, hx2⟩ := hrel
        have hcr := cell_same Hcell.out hx2
        have hgr : g < wr.heap.size := Nat.lt_of_lt_of_le hgl hx2.size
        have hcle : (all.take m).count s ≤ m := by
          have := List.count_le_length (l := all.take m) (a := s)
          simp at this
          omega
        by_cases hmN : m < N
        · have hml : (m : Int) < (l.length : Int) := by omega
          have hml' : m < l.length := by omega
          have hmn : (m : Int) < n := Hin.out m hmN
          have hmn' : decide ((m : Int) < n) = true := by simpa using hmn
          obtain ⟨g2, o2, c2, hav, _, hcell2⟩ := h.at hml'
          obtain ⟨⟨rfl, rfl⟩, rfl⟩ : (g = g2 ∧ o = o2) ∧ c = c2 := by simpa using hav
          clear hav
          rw [Nat.mul_one] at hcell2
          replace hcell2 := cell_same hcell2 hx2
          have hst := count_step all m (by omega) s
          rw [hget m (by omega) hml'] at hst
          generalize (all.take m).count s = cn at *
          generalize l[m] = t at *
          by_cases hts : t = s
          · have hts' : (t == s) = true := by simpa using hts
            rw [if_pos hts] at hst
            have Hst := Lib.hid (And.intro hst hx2)
            clear hst hts hx2
            go_wp2_with fail
            refine wp_region_mix (Cls [g] _) [] [0, 1, 2, 3, 4, 5, 6, 7, 8] (by kernel_rfl) (by kernel_rfl) (Cls.refl _ _) ?_
            try dsimp only [wpMix, wpSegs, pick, List.getElem?_cons_zero, List.getElem?_cons_succ]
            generalize hz : Act.mk _ _ = z
            repeat (first | (refine wpQuiet_step (fun K hK => ?_); replace hK := Lib.hid hK; subst hz; go_simp; generalize hz : Act.mk _ _ = z; refine hK.out z ?_; clear hK K) | (refine wpQuiet_step (fun K hK => ?_); replace hK := Lib.hid hK; subst hz; refine iteSkip (by kernel_rfl) ?_; go_simp; generalize hz : Act.mk _ _ = z; refine hK.out z ?_; clear hK K))
            refine wpQuiet_nil ?_
            subst hz
            try dsimp only [NoPan]
            go_wp2_with fail
            exact ⟨⟨m + 1, by omega, by go_num, by rw [Hst.out.1]; go_num, Hst.out.2.drew⟩, by simp [intOf]; omega⟩
          · have hts' : (t == s) = false := by simpa using hts
            rw [if_neg hts] at hst
            have Hst := Lib.hid (And.intro hst hx2)
            clear hst hts hx2
            go_wp2_with fail
            refine wp_region_mix (Cls [g] _) [] [0, 1, 2, 3, 4, 5, 6, 7, 8] (by kernel_rfl) (by kernel_rfl) (Cls.refl _ _) ?_
            try dsimp only [wpMix, wpSegs, pick, List.getElem?_cons_zero, List.getElem?_cons_succ]
            generalize hz : Act.mk _ _ = z
            repeat (first | (refine wpQuiet_step (fun K hK => ?_); replace hK := Lib.hid hK; subst hz; go_simp; generalize hz : Act.mk _ _ = z; refine hK.out z ?_; clear hK K) | (refine wpQuiet_step (fun K hK => ?_); replace hK := Lib.hid hK; subst hz; refine iteSkip (by kernel_rfl) ?_; go_simp; generalize hz : Act.mk _ _ = z; refine hK.out z ?_; clear hK K))
            refine wpQuiet_nil ?_
            subst hz
            try dsimp only [NoPan]
            go_wp2_with fail
            exact ⟨⟨m + 1, by omega, by go_num, by rw [Hst.out.1]; rfl, Hst.out.2.drew⟩, by simp [intOf]; omega⟩
        · have : m = N := by omega
          subst this
          have hta : all.take m = all := by rw [← hal, List.take_length]
          rw [hta] at hcle ⊢
          have Hx := Lib.hid (And.intro hx2 hta)
          clear hx2 hta
          generalize hcn : all.count s = cn at *
          have Hcn := Lib.hid hcn
          clear hcn
          rcases Hend.out m (by omega) with he | he
          · have he1 : decide ((m : Int) < (l.length : Int)) = false := by simp; omega
            have he3 : decide (m < l.length) = false := by simp; omega
            clear he
            by_cases hq0 : q = 0
            · have hq0' : decide (0 < q) = false := by simp; omega
              go_wp2_with fail
              exact ⟨⟨k + 1, b, by omega, by go_num, rfl, Hx.out.1, Hfin.out b (by intro; rfl) (by intro; omega)⟩, by simp [intOf]; omega⟩
            have hq0' : decide (0 < q) = true := by simp; omega
            by_cases hqc : q ≤ cn
            · have hqc' : decide (q ≤ cn) = true := by simpa using hqc
              by_cases hse : s = []
              · have hse' : s.isEmpty = true := by simpa using hse
                have Hse := Lib.hid hse
                clear hse
                go_wp2_with fail
                exact ⟨⟨k + 1, b, by omega, by go_num, rfl, Hx.out.1, Hfin.out b (by intro; omega) (by intro; rw [if_neg (fun hh => hh.1.1 Hse.out)])⟩, by simp [intOf]; omega⟩
              have hse' : s.isEmpty = false := by simpa using hse
              have Hse := Lib.hid hse
              clear hse
              by_cases hb0 : b = []
              · have hb0' : b.isEmpty = true := by simpa using hb0
                have Hb0 := Lib.hid hb0
                clear hb0
                go_wp2_with fail
                exact ⟨⟨k + 1, s, by omega, by go_num, rfl, Hx.out.1, Hfin.out s (by intro; omega) (by intro; rw [if_pos ⟨⟨Hse.out, hqc⟩, .inl Hb0.out⟩])⟩, by simp [intOf]; omega⟩
              have hb0' : b.isEmpty = false := by simpa using hb0
              have Hb0 := Lib.hid hb0
              clear hb0
              by_cases hl2 : less s b = true
              · have hl2' : Op.bytesLess s b = true := hl2
                have Hl2 := Lib.hid hl2
                clear hl2
                go_wp2_with fail
                exact ⟨⟨k + 1, s, by omega, by go_num, rfl, Hx.out.1, Hfin.out s (by intro; omega) (by intro; rw [if_pos ⟨⟨Hse.out, hqc⟩, .inr Hl2.out⟩])⟩, by simp [intOf]; omega⟩
              · have hl2' : Op.bytesLess s b = false := Bool.eq_false_iff.2 hl2
                have Hl2 := Lib.hid hl2
                clear hl2
                go_wp2_with fail
                exact ⟨⟨k + 1, b, by omega, by go_num, rfl, Hx.out.1, Hfin.out b (by intro; omega) (by intro; rw [if_neg (fun hh => hh.2.elim Hb0.out Hl2.out)])⟩, by simp [intOf]; omega⟩
            · have hqc' : decide (q ≤ cn) = false := by simpa using hqc
              go_wp2_with fail
              exact ⟨⟨k + 1, b, by omega, by go_num, rfl, Hx.out.1, Hfin.out b (by intro; omega) (by intro; rw [if_neg (fun hh => hqc hh.1.2)])⟩, by simp [intOf]; omega⟩
          · by_cases hel : m < l.length
            · have he1 : decide ((m : Int) < (l.length : Int)) = true := by simp; omega
              have he3 : decide (m < l.length) = true := by simp; omega
              have he2 : decide ((m : Int) < n) = false := by simp; omega
              clear he hel
              by_cases hq0 : q = 0
              · have hq0' : decide (0 < q) = false := by simp; omega
                go_wp2_with fail
                exact ⟨⟨k + 1, b, by omega, by go_num, rfl, Hx.out.1, Hfin.out b (by intro; rfl) (by intro; omega)⟩, by simp [intOf]; omega⟩
              have hq0' : decide (0 < q) = true := by simp; omega
              by_cases hqc : q ≤ cn
              · have hqc' : decide (q ≤ cn) = true := by simpa using hqc
                by_cases hse : s = []
                · have hse' : s.isEmpty = true := by simpa using hse
                  have Hse := Lib.hid hse
                  clear hse
                  go_wp2_with fail
                  exact ⟨⟨k + 1, b, by omega, by go_num, rfl, Hx.out.1, Hfin.out b (by intro; omega) (by intro; rw [if_neg (fun hh => hh.1.1 Hse.out)])⟩, by simp [intOf]; omega⟩
                have hse' : s.isEmpty = false := by simpa using hse
                have Hse := Lib.hid hse
                clear hse
                by_cases hb0 : b = []
                · have hb0' : b.isEmpty = true := by simpa using hb0
                  have Hb0 := Lib.hid hb0
                  clear hb0
                  go_wp2_with fail
                  exact ⟨⟨k + 1, s, by omega, by go_num, rfl, Hx.out.1, Hfin.out s (by intro; omega) (by intro; rw [if_pos ⟨⟨Hse.out, hqc⟩, .inl Hb0.out⟩])⟩, by simp [intOf]; omega⟩
                have hb0' : b.isEmpty = false := by simpa using hb0
                have Hb0 := Lib.hid hb0
                clear hb0
                by_cases hl2 : less s b = true
                · have hl2' : Op.bytesLess s b = true := hl2
                  have Hl2 := Lib.hid hl2
                  clear hl2
                  go_wp2_with fail
                  exact ⟨⟨k + 1, s, by omega, by go_num, rfl, Hx.out.1, Hfin.out s (by intro; omega) (by intro; rw [if_pos ⟨⟨Hse.out, hqc⟩, .inr Hl2.out⟩])⟩, by simp [intOf]; omega⟩
                · have hl2' : Op.bytesLess s b = false := Bool.eq_false_iff.2 hl2
                  have Hl2 := Lib.hid hl2
                  clear hl2
                  go_wp2_with fail
                  exact ⟨⟨k + 1, b, by omega, by go_num, rfl, Hx.out.1, Hfin.out b (by intro; omega) (by intro; rw [if_neg (fun hh => hh.2.elim Hb0.out Hl2.out)])⟩, by simp [intOf]; omega⟩
              · have hqc' : decide (q ≤ cn) = false := by simpa using hqc
                go_wp2_with fail
                exact ⟨⟨k + 1, b, by omega, by go_num, rfl, Hx.out.1, Hfin.out b (by intro; omega) (by intro; rw [if_neg (fun hh => hqc hh.1.2)])⟩, by simp [intOf]; omega⟩
            · have he1 : decide ((m : Int) < (l.length : Int)) = false := by simp; omega
              have he3 : decide (m < l.length) = false := by simp; omega
              clear he hel
              by_cases hq0 : q = 0
              · have hq0' : decide (0 < q) = false := by simp; omega
                go_wp2_with fail
                exact ⟨⟨k + 1, b, by omega, by go_num, rfl, Hx.out.1, Hfin.out b (by intro; rfl) (by intro; omega)⟩, by simp [intOf]; omega⟩
              have hq0' : decide (0 < q) = true := by simp; omega
              by_cases hqc : q ≤ cn
              · have hqc' : decide (q ≤ cn) = true := by simpa using hqc
                by_cases hse : s = []
                · have hse' : s.isEmpty = true := by simpa using hse
                  have Hse := Lib.hid hse
                  clear hse
                  go_wp2_with fail
                  exact ⟨⟨k + 1, b, by omega, by go_num, rfl, Hx.out.1, Hfin.out b (by intro; omega) (by intro; rw [if_neg (fun hh => hh.1.1 Hse.out)])⟩, by simp [intOf]; omega⟩
                have hse' : s.isEmpty = false := by simpa using hse
                have Hse := Lib.hid hse
                clear hse
                by_cases hb0 : b = []
                · have hb0' : b.isEmpty = true := by simpa using hb0
                  have Hb0 := Lib.hid hb0
                  clear hb0
                  go_wp2_with fail
                  exact ⟨⟨k + 1, s, by omega, by go_num, rfl, Hx.out.1, Hfin.out s (by intro; omega) (by intro; rw [if_pos ⟨⟨Hse.out, hqc⟩, .inl Hb0.out⟩])⟩, by simp [intOf]; omega⟩
                have hb0' : b.isEmpty = false := by simpa using hb0
                have Hb0 := Lib.hid hb0
                clear hb0
                by_cases hl2 : less s b = true
                · have hl2' : Op.bytesLess s b = true := hl2
                  have Hl2 := Lib.hid hl2
                  clear hl2
                  go_wp2_with fail
                  exact ⟨⟨k + 1, s, by omega, by go_num, rfl, Hx.out.1, Hfin.out s (by intro; omega) (by intro; rw [if_pos ⟨⟨Hse.out, hqc⟩, .inr Hl2.out⟩])⟩, by simp [intOf]; omega⟩
                · have hl2' : Op.bytesLess s b = false := Bool.eq_false_iff.2 hl2
                  have Hl2 := Lib.hid hl2
                  clear hl2
                  go_wp2_with fail
                  exact ⟨⟨k + 1, b, by omega, by go_num, rfl, Hx.out.1, Hfin.out b (by intro; omega) (by intro; rw [if_neg (fun hh => hh.2.elim Hb0.out Hl2.out)])⟩, by simp [intOf]; omega⟩
              · have hqc' : decide (q ≤ cn) = false := by simpa using hqc
                go_wp2_with fail
                exact ⟨⟨k + 1, b, by omega, by go_num, rfl, Hx.out.1, Hfin.out b (by intro; omega) (by intro; rw [if_neg (fun hh => hqc hh.1.2)])⟩, by simp [intOf]; omega⟩
    · have : k = N := by omega
      subst this
      have hfinal : AgreedIs n l b := by
        by_cases hok : okN n
        · refine .inr ⟨hok, ?_⟩
          have hp := Hh.out.2.1 hok
          have hb := hbest hp
          rw [← hal] at hb
          have := bestR_end hp hb
          rw [Hh.out.2.2.2] at this
          rw [Hh.out.1.2]
          exact this
        · exact .inl ⟨hok, hb0 (Hh.out.2.2.1 hok)⟩
      have Hx := Lib.hid (And.intro hx hfinal)
      clear hx hfinal hbest hb0
      have hret : ∀ b : Bs, (!b.isEmpty) = !(b == []) := fun b => by cases b <;> rfl
      rcases Hend.out k (by omega) with he | he
      · have he1 : decide ((k : Int) < (l.length : Int)) = false := by simp; omega
        have he3 : decide (k < l.length) = false := by simp; omega
        clear he
        go_wp2_with fail
        go_ret2
        exact ⟨b, by rw [← hret]; rfl, Hx.out.1, Hx.out.2⟩
      · by_cases hel : k < l.length
        · have he1 : decide ((k : Int) < (l.length : Int)) = true := by simp; omega
          have he3 : decide (k < l.length) = true := by simp; omega
          have he2 : decide ((k : Int) < n) = false := by simp; omega
          clear he hel
          go_wp2_with fail
          go_ret2
          exact ⟨b, by rw [← hret]; rfl, Hx.out.1, Hx.out.2⟩
        · have he1 : decide ((k : Int) < (l.length : Int)) = false := by simp; omega
          have he3 : decide (k < l.length) = false := by simp; omega
          clear he hel
          go_wp2_with fail
          go_ret2
          exact ⟨b, by rw [← hret]; rfl, Hx.out.1, Hx.out.2⟩
end Go.Proofs.Ytcedpdjjjfdbiaa
