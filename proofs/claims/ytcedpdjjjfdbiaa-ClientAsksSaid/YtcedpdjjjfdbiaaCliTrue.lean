/- ClientTrue: what the statement's function computes; no condition. -/
import Derived.Test.YtcedpdjjjfdbiaaCliNone
import Derived.Test.YtcedpdjjjfdbiaaMemRef
namespace Go.Proofs.Ytcedpdjjjfdbiaa
set_option linter.unusedVariables false
set_option linter.unusedSimpArgs false
open Go.RowKit

structure Act25 where
  Do : Int
  N : Int
  M : Int
  K : Int
  S : Bs
  B : Bs
def Act25.Is (D : Nat → Prop) (w : World) (g n : Nat) (x : Act25) : Prop :=
  ∃ lv, w.cell? ⟨g, n, none⟩ = some (.int .i64 x.Do) ∧ w.cell? ⟨g, n + 1, none⟩ = some (.int .i64 x.N) ∧ w.cell? ⟨g, n + 2, none⟩ = some (.int .i64 x.M) ∧ w.cell? ⟨g, n + 3, none⟩ = some (.int .i64 x.K) ∧ w.cell? ⟨g, n + 4, none⟩ = some (str x.S) ∧ w.cell? ⟨g, n + 5, none⟩ = some lv ∧ Byt D w lv x.B
abbrev Acts25 (D : Nat → Prop) (w : World) (v : Value) (l : List Act25) : Prop := Row (Act25.Is D) 6 D w v l
def signB (x : Act25) : Bs := if x.Do = 1 then replyB x.M x.K x.B else x.B
abbrev actV (x : Act25) (lv : Value) : Value := .agg #[.int .i64 x.Do, .int .i64 x.N, .int .i64 x.M, .int .i64 x.K, str x.S, lv]
set_option maxRecDepth 100000 in
theorem sign_walk {w : World} {D : Nat → Prop} {lv : Value} (x : Act25) (hb : Byt D w lv x.B) : Calls Try.prog 13 #[actV x lv] w fun e w' => ∃ v', e = .returned v' ∧ Byt (fun _ => True) w' v' (signB x) ∧ Ext (fun _ => False) w w' := by
  obtain ⟨A, c, rfl, _, _⟩ := _root_.id hb
  obtain ⟨Do, N, M, K, S, B⟩ := x
  have hx0 := (Ext.refl (fun _ => False) w).alloc (.cells #[.int .i64 Do, .int .i64 N, .int .i64 M, .int .i64 K, str S, .slice A B.length c] 35)
  by_cases h1 : Do = 1
  · subst h1
    have hs : signB ⟨1, N, M, K, S, B⟩ = replyB M K B := rfl
    rw [hs]
    have HR := fun w (h : Byt D w (.slice A B.length c) B) => Lib.hid (dreply_walk h M K)
    have Hb := Lib.hid (hb.same hx0)
    clear hb hs
    go_enter Try.func13, Try.ntmps13
    go_wp2_with fail
    refine (HR _ Hb.out).out.mono ?_
    rintro e w2 ⟨v2, rfl, h2⟩
    have H2 := Lib.hid (And.intro (byt_any h2.own.byt (Ext.refl _ _)) (hx0.trans h2.ext))
    clear h2
    go_wp2_with fail
    go_ret
    exact ⟨_, rfl, H2.out.1, H2.out.2⟩
  · have h1' : (Do == 1) = false := by simpa using h1
    have hs : signB ⟨Do, N, M, K, S, B⟩ = B := if_neg h1
    rw [hs]
    have Hb := Lib.hid (And.intro (byt_any hb hx0) hx0)
    clear hb h1 hx0 hs
    go_enter Try.func13, Try.ntmps13
    go_wp2_with fail
    go_ret
    exact ⟨_, rfl, Hb.out.1, Hb.out.2⟩
theorem readR_is {id st : Int} {t : Bs} (h : readR id st t ≠ []) : t = replyB id st (readR id st t) := by
  unfold readR at *
  split
  · rename_i hc
    exact hc.2.2
  · rename_i hc
    rw [if_neg hc] at h
    exact absurd rfl h
theorem firstR_mem {id st : Int} : ∀ {ts : List Bs}, firstR id st ts ≠ [] → ∃ t ∈ ts, t = replyB id st (firstR id st ts)
  | [], h => absurd rfl h
  | t :: ts, h => by
    rw [firstR] at h ⊢
    by_cases h0 : readR id st t = []
    · rw [if_pos h0] at h ⊢
      obtain ⟨t', h1, h2⟩ := firstR_mem h
      exact ⟨t', by simp [h1], h2⟩
    · rw [if_neg h0]
      exact ⟨t, by simp, readR_is h0⟩
theorem said_count2 {id st : Int} {m : Nat} {L : List (Int × Bs)} {ks : List Int} {b : Bs} (hk : ∀ i : Nat, i < m → firstR id st (byL ((i : Int) + 1) L) = b → ((i : Int) + 1) ∈ ks) : (saidR id st m L).count b ≤ ks.length := by
  have h1 : (saidR id st m L).count b = ((List.range m).filter fun i : Nat => firstR id st (byL ((i : Int) + 1) L) == b).length := by
    rw [saidR, List.count_eq_countP, List.countP_map, ← List.countP_eq_length_filter]
    rfl
  rw [h1]
  have h2 := nodup_le (((List.range m).filter fun i : Nat => firstR id st (byL ((i : Int) + 1) L) == b).map fun i : Nat => (i : Int) + 1) ks ?_ ?_
  · simpa using h2
  · rw [List.Nodup, List.pairwise_map]
    exact List.Pairwise.imp (S := fun a b : Nat => ((a : Int) + 1) ≠ ((b : Int) + 1)) (fun {a b} (h : a ≠ b) e => h (by omega)) (List.Pairwise.filter _ List.nodup_range)
  · intro x hx
    obtain ⟨i, hi, rfl⟩ := List.mem_map.1 hx
    obtain ⟨h3, h4⟩ := List.mem_filter.1 hi
    exact hk i (List.mem_range.1 h3) (by simpa using h4)
def hasQ (liars who : Int) : Bool := decide (1 ≤ who ∧ who ≤ 16 ∧ (setN liars).testBit (who - 1).toNat = true)
theorem true_law {f n : Nat} (hn : 3 * f + 1 = n) {id st liars : Int} {L : List (Int × Bs)} (hl : pc (setN liars) ≤ f) {b : Bs} (hb : b ≠ []) (hag : AgreedIs (n : Int) (saidR id st n L) b) :
    ∃ w : Nat, 1 ≤ w ∧ w ≤ n ∧ hasQ liars w = false ∧ ((w : Int), replyB id st b) ∈ L := by
  apply Classical.byContradiction
  intro hno
  rcases agreed_mem hag with hb' | ⟨hok, _, hc, _⟩
  · exact hb hb'
  · have h16 : (n : Int) ≤ 16 := hok.2.1
    have h2 := said_count2 (id := id) (st := st) (m := n) (L := L) (ks := mem (setN liars)) (b := b) fun i hi he => by
      rw [mem_iff _ (setN_lt liars)]
      refine ⟨by omega, by omega, ?_⟩
      apply Classical.byContradiction
      intro ht
      refine hno ⟨i + 1, by omega, by omega, ?_, ?_⟩
      · rw [hasQ, decide_eq_false_iff_not]
        rintro ⟨_, _, h3⟩
        exact ht (by simpa using h3)
      · have hne : firstR id st (byL ((i : Int) + 1) L) ≠ [] := by rw [he]; exact hb
        obtain ⟨t, h3, h4⟩ := firstR_mem hne
        rw [he] at h4
        subst h4
        simp only [byL, List.mem_map, List.mem_filter, beq_iff_eq] at h3
        obtain ⟨p, ⟨hp, hpe⟩, hpt⟩ := h3
        have : p = (((i + 1 : Nat) : Int), replyB id st b) := Prod.ext (by rw [hpe]; simp) hpt
        rw [← this]
        exact hp
    rw [mem_pc] at h2
    have h3 : ((saidR id st n L).take (n : Int).toNat).count b ≤ (saidR id st n L).count b := (List.take_sublist _ _).count_le b
    have hq : (fewQ (n : Int)).toNat = f + 1 := by
      rw [fewQ, if_pos hok]
      omega
    rw [hq] at hc
    omega

set_option maxRecDepth 100000 in
set_option maxHeartbeats 4000000 in
theorem true_walk {w : World} (f id stamp liars : Int) {av : Value} {acts : List Act25} (hA : Acts25 (· < w.heap.size) w av acts) (hl : acts.length ≤ 9223372036854775807) :
    Calls Try.prog 3 #[.int .i64 f, .int .i64 id, .int .i64 stamp, av, .int .i64 liars] w fun e w' => e = .returned (.bool true) ∧ Ext (fun _ => False) w w' := by
  obtain ⟨A, c, rfl, hcap, _⟩ := _root_.id hA
  have HS := Lib.hid (client_small w)
  have HA := Lib.hid hA
  clear hA
  by_cases hf : 1 ≤ f ∧ f ≤ 5
  case neg =>
    have hsz : sizeQ f = (0, 1) := if_neg hf
    go_enter Try.func3, Try.ntmps3
    go_wp2_with fail
    refine HS.out.mono ?_
    rintro e w1 ⟨rfl, hx1⟩
    have HR := Lib.hid (ri_new hx1)
    clear hx1
    go_wp2_with fail
    refine (ref_size f w1).mono ?_
    rintro e _ ⟨rfl, rfl⟩
    rw [hsz]
    go_wp2_with fail
    refine HR.out.mono ?_
    rintro e w2 ⟨r, rfl, h2⟩
    have H2 := Lib.hid h2.old
    clear h2
    go_wp2_with fail
    go_ret
    exact ⟨rfl, H2.out⟩
  obtain ⟨q, rfl⟩ : ∃ q : Nat, f = q := ⟨f.toNat, by omega⟩
  have hok : okN ((3 * q + 1 : Nat) : Int) := ⟨by omega, by omega, by omega⟩
  have hsz : sizeQ (q : Int) = (((3 * q + 1 : Nat) : Int), 0) := by rw [sizeQ, if_pos hf]; simp
  generalize hnq : 3 * q + 1 = n at *
  by_cases hid : 1 ≤ id ∧ id ≤ 8
  case neg =>
    have hno : ¬ newOk (n : Int) id := fun h => hid ⟨h.2.1, h.2.2⟩
    go_enter Try.func3, Try.ntmps3
    go_wp2_with fail
    refine HS.out.mono ?_
    rintro e w1 ⟨rfl, hx1⟩
    have HR := Lib.hid (ri_new hx1)
    clear hx1
    go_wp2_with fail
    refine (ref_size _ w1).mono ?_
    rintro e _ ⟨rfl, rfl⟩
    rw [hsz]
    go_wp2_with fail
    refine HR.out.mono ?_
    rintro e w2 ⟨r, rfl, h2⟩
    have HN := Lib.hid (ci_new h2 (n : Int) id)
    clear h2
    go_wp2_with fail
    refine HN.out.mono ?_
    rintro e w5 (⟨hyes, _⟩ | ⟨_, rfl, h5⟩)
    · exact absurd hyes hno
    · have H5 := Lib.hid h5.old
      clear h5
      by_cases h1 : 1 ≤ id
      · have h1' : decide (id < 1) = false := by simp; omega
        have h8' : decide (8 < id) = true := by simp; omega
        go_wp2_with fail
        go_ret
        exact ⟨rfl, H5.out⟩
      · have h1' : decide (id < 1) = true := by simp; omega
        go_wp2_with fail
        go_ret
        exact ⟨rfl, H5.out⟩
  have hnew : newOk (n : Int) id := ⟨hok, hid.1, hid.2⟩
  have Hok := Lib.hid (And.intro hnew (And.intro hf hsz))
  have hn16 : n ≤ 16 := by omega
  go_enter Try.func3, Try.ntmps3
  go_wp2_with fail
  refine HS.out.mono ?_
  rintro e w1 ⟨rfl, hx1⟩
  have HR := Lib.hid (ri_new hx1)
  clear hx1
  go_wp2_with fail
  refine (ref_size _ w1).mono ?_
  rintro e _ ⟨rfl, rfl⟩
  rw [hsz]
  go_wp2_with fail
  refine HR.out.mono ?_
  rintro e w2 ⟨r, rfl, h2⟩
  have HN := Lib.hid (ci_new h2 (n : Int) id)
  clear h2
  go_wp2_with fail
  refine HN.out.mono ?_
  intro e w5 h5
  rcases h5 with ⟨_, a, rfl, h5⟩ | ⟨hno, _⟩
  case inr => exact absurd Hok.out.1 hno
  have H5 := Lib.hid h5
  clear h5 HN HR
  go_wp2_with fail
  refine (ref_count liars w5).mono ?_
  rintro e w6 ⟨rfl, hx6⟩
  have H6 := Lib.hid (H5.out.ext hx6)
  clear hx6
  have hpc : pc (setN liars) ≤ 16 := by
    rw [← mem_pc]
    exact mem_len _ _ _
  by_cases hlie : pc (setN liars) ≤ q
  case neg =>
    have hlie' : decide ((q : Int) < (pc (setN liars) : Int)) = true := by simp; omega
    generalize pc (setN liars) = pl at *
    go_wp2_with fail
    go_ret
    exact ⟨rfl, H6.out.old⟩
  have hlie' : decide ((q : Int) < (pc (setN liars) : Int)) = false := by simp; omega
  have hlie2 : decide (q < pc (setN liars)) = false := by simp; omega
  generalize hpl : pc (setN liars) = pl at *
  have HL := Lib.hid (show pc (setN liars) ≤ q by rw [hpl]; exact hlie)
  clear hlie hpl
  go_wp2_with fail
  go_loopw [17] (fun i W => ∃ (k : Nat) (L : List (Int × Bs)), k ≤ 40 ∧ i = .int .i64 k ∧ CI w (fun _ => False) W a r n id 0 L ∧ L.length ≤ k ∧ ∀ p ∈ L, p.2.length ≤ 65536) (fun i _ => 40 - (intOf i).toNat)
  case atStart => exact ⟨0, [], by omega, rfl, H6.out, by simp, by simp⟩
  case round =>
    obtain ⟨k, L, hk, rfl, hCI, hLk, hLl⟩ := hrel
    by_cases hmore : k < acts.length ∧ k < 40
    case neg =>
      have HR := Lib.hid (ci_result hCI stamp Hok.out.1 hLl (by omega))
      have HC := Lib.hid hCI
      clear hCI hLl
      rcases (show ¬ k < acts.length ∨ (k < acts.length ∧ ¬ k < 40) by omega) with hk1 | ⟨hk1, hk2⟩
      · have hk1' : decide ((k : Int) < (acts.length : Int)) = false := by simp; omega
        have hk1n : decide (k < acts.length) = false := by simpa using hk1
        clear hmore hk1
        go_wp2_with fail
        refine HR.out.mono ?_
        rintro e w7 ⟨b, v7, hag, rfl, hf7⟩
        obtain ⟨A7, c7, e7, _, _⟩ := hf7.own.formP
        subst e7
        rw [Int.toNat_natCast] at hag
        have hC7 := HC.out.ext hf7.ext
        have H7 := Lib.hid (And.intro hC7 (And.intro hf7 hag))
        clear hf7 hag hC7
        by_cases hb : b = []
        · subst hb
          go_wp2_with fail
          go_ret
          exact ⟨rfl, H7.out.1.old⟩
        have hbe : b.isEmpty = false := by simpa using hb
        have hb0 : decide (0 < (b.length : Int)) = true := by
          have := List.length_pos_iff.2 hb
          simp
          omega
        have hb0n : decide (0 < b.length) = true := by simpa using hb0
        have HT := Lib.hid (true_law hnq HL.out hb H7.out.2.2)
        clear hb
        go_wp2_with fail
        go_loopw [20] (fun i W => ∃ j : Nat, 1 ≤ j ∧ j ≤ n + 1 ∧ i = .int .i64 j ∧ Ext (fun _ => False) w7 W ∧ ∀ u : Nat, 1 ≤ u → u < j → ¬ (hasQ liars u = false ∧ ((u : Int), replyB id stamp b) ∈ L)) (fun i _ => n + 2 - (intOf i).toNat)
        case atStart => exact ⟨1, by omega, by omega, rfl, Ext.refl _ _, fun u h1 h2 => by omega⟩
        case round =>
          obtain ⟨j, hj1, hjn, rfl, hx, hno⟩ := hrel
          by_cases hjle : j ≤ n
          · have hjle' : decide ((j : Int) ≤ (n : Int)) = true := by simp; omega
            have HH := Lib.hid (ref_has liars (j : Int) wr)
            have HX := Lib.hid (And.intro hx hno)
            clear hx hno
            go_wp2_with fail
            refine HH.out.mono ?_
            rintro e w8 ⟨rfl, hx8⟩
            have hx78 := HX.out.1.trans hx8
            have H8 := Lib.hid hx78
            have hqv : decide (1 ≤ (j : Int) ∧ (j : Int) ≤ 16 ∧ (setN liars).testBit ((j : Int) - 1).toNat = true) = hasQ liars j := rfl
            rw [hqv]
            clear hqv hx8 hx78
            cases hq : hasQ liars j with
            | true =>
              have Hq := Lib.hid hq
              clear hq
              go_wp2_with fail
              refine ⟨⟨j + 1, by omega, by omega, by go_num, H8.out, fun u h1 h2 => ?_⟩, by simp [intOf]; omega⟩
              by_cases hu : u < j
              · exact HX.out.2 u h1 hu
              · have : u = j := by omega
                subst this
                rintro ⟨h3, _⟩
                rw [Hq.out] at h3
                cases h3
            | false =>
              have Hq := Lib.hid hq
              clear hq
              go_wp2_with fail
              refine (dreply_walk (H7.out.2.1.own.ext H8.out fun _ _ => _root_.id).byt id stamp).mono ?_
              rintro e w9 ⟨v9, rfl, h9⟩
              obtain ⟨A9, c9, e9, _, _⟩ := h9.own.formP
              subst e9
              have H9 := Lib.hid (And.intro (ci_knows ((H7.out.1.ext H8.out).ext h9.ext) (j : Int) h9.own.byt) (H8.out.trans h9.ext))
              clear h9
              go_wp2_with fail
              refine H9.out.1.mono ?_
              rintro e w10 ⟨rfl, hx10⟩
              have H10 := Lib.hid (H9.out.2.trans hx10)
              clear hx10
              cases hk : decide (((j : Int), replyB id stamp b) ∈ L) with
              | true =>
                clear hk
                go_wp2_with fail
                go_ret
                exact ⟨rfl, H7.out.1.old.trans H10.out⟩
              | false =>
                have Hk := Lib.hid (of_decide_eq_false hk)
                clear hk
                go_wp2_with fail
                refine ⟨⟨j + 1, by omega, by omega, by go_num, H10.out, fun u h1 h2 => ?_⟩, by simp [intOf]; omega⟩
                by_cases hu : u < j
                · exact HX.out.2 u h1 hu
                · have : u = j := by omega
                  subst this
                  exact fun h3 => Hk.out h3.2
          · exfalso
            obtain ⟨u, h1, h2, h3⟩ := HT.out
            exact hno u h1 (by omega) h3
      · have hk1' : (k : Int) < (acts.length : Int) := by omega
        have hk1'' : decide ((k : Int) < (acts.length : Int)) = true := by simpa using hk1
        have hk2' : decide ((k : Int) < 40) = false := by simp; omega
        have hk1n : decide (k < acts.length) = true := by simpa using hk1
        clear hmore hk1 hk2
        go_wp2_with fail
        refine HR.out.mono ?_
        rintro e w7 ⟨b, v7, hag, rfl, hf7⟩
        obtain ⟨A7, c7, e7, _, _⟩ := hf7.own.formP
        subst e7
        rw [Int.toNat_natCast] at hag
        have hC7 := HC.out.ext hf7.ext
        have H7 := Lib.hid (And.intro hC7 (And.intro hf7 hag))
        clear hf7 hag hC7
        by_cases hb : b = []
        · subst hb
          go_wp2_with fail
          go_ret
          exact ⟨rfl, H7.out.1.old⟩
        have hbe : b.isEmpty = false := by simpa using hb
        have hb0 : decide (0 < (b.length : Int)) = true := by
          have := List.length_pos_iff.2 hb
          simp
          omega
        have hb0n : decide (0 < b.length) = true := by simpa using hb0
        have HT := Lib.hid (true_law hnq HL.out hb H7.out.2.2)
        clear hb
        go_wp2_with fail
        go_loopw [20] (fun i W => ∃ j : Nat, 1 ≤ j ∧ j ≤ n + 1 ∧ i = .int .i64 j ∧ Ext (fun _ => False) w7 W ∧ ∀ u : Nat, 1 ≤ u → u < j → ¬ (hasQ liars u = false ∧ ((u : Int), replyB id stamp b) ∈ L)) (fun i _ => n + 2 - (intOf i).toNat)
        case atStart => exact ⟨1, by omega, by omega, rfl, Ext.refl _ _, fun u h1 h2 => by omega⟩
        case round =>
          obtain ⟨j, hj1, hjn, rfl, hx, hno⟩ := hrel
          by_cases hjle : j ≤ n
          · have hjle' : decide ((j : Int) ≤ (n : Int)) = true := by simp; omega
            have HH := Lib.hid (ref_has liars (j : Int) wr)
            have HX := Lib.hid (And.intro hx hno)
            clear hx hno
            go_wp2_with fail
            refine HH.out.mono ?_
            rintro e w8 ⟨rfl, hx8⟩
            have hx78 := HX.out.1.trans hx8
            have H8 := Lib.hid hx78
            have hqv : decide (1 ≤ (j : Int) ∧ (j : Int) ≤ 16 ∧ (setN liars).testBit ((j : Int) - 1).toNat = true) = hasQ liars j := rfl
            rw [hqv]
            clear hqv hx8 hx78
            cases hq : hasQ liars j with
            | true =>
              have Hq := Lib.hid hq
              clear hq
              go_wp2_with fail
              refine ⟨⟨j + 1, by omega, by omega, by go_num, H8.out, fun u h1 h2 => ?_⟩, by simp [intOf]; omega⟩
              by_cases hu : u < j
              · exact HX.out.2 u h1 hu
              · have : u = j := by omega
                subst this
                rintro ⟨h3, _⟩
                rw [Hq.out] at h3
                cases h3
            | false =>
              have Hq := Lib.hid hq
              clear hq
              go_wp2_with fail
              refine (dreply_walk (H7.out.2.1.own.ext H8.out fun _ _ => _root_.id).byt id stamp).mono ?_
              rintro e w9 ⟨v9, rfl, h9⟩
              obtain ⟨A9, c9, e9, _, _⟩ := h9.own.formP
              subst e9
              have H9 := Lib.hid (And.intro (ci_knows ((H7.out.1.ext H8.out).ext h9.ext) (j : Int) h9.own.byt) (H8.out.trans h9.ext))
              clear h9
              go_wp2_with fail
              refine H9.out.1.mono ?_
              rintro e w10 ⟨rfl, hx10⟩
              have H10 := Lib.hid (H9.out.2.trans hx10)
              clear hx10
              cases hk : decide (((j : Int), replyB id stamp b) ∈ L) with
              | true =>
                clear hk
                go_wp2_with fail
                go_ret
                exact ⟨rfl, H7.out.1.old.trans H10.out⟩
              | false =>
                have Hk := Lib.hid (of_decide_eq_false hk)
                clear hk
                go_wp2_with fail
                refine ⟨⟨j + 1, by omega, by omega, by go_num, H10.out, fun u h1 h2 => ?_⟩, by simp [intOf]; omega⟩
                by_cases hu : u < j
                · exact HX.out.2 u h1 hu
                · have : u = j := by omega
                  subst this
                  exact fun h3 => Hk.out h3.2
          · exfalso
            obtain ⟨u, h1, h2, h3⟩ := HT.out
            exact hno u h1 (by omega) h3
    obtain ⟨hk1, hk2⟩ := hmore
    have hk1' : (k : Int) < (acts.length : Int) := by omega
    have hk1'' : decide ((k : Int) < (acts.length : Int)) = true := by simpa using hk1
    have hk2' : decide ((k : Int) < 40) = true := by simp; omega
    have hx := hCI.old
    obtain ⟨g, off, c', hav, hg, lv, c0, c1, c2, c3, c4, c5, hb⟩ := HA.out.at hk1
    obtain ⟨rfl, rfl⟩ : A = some ⟨g, off, none⟩ ∧ c = c' := by simpa using hav
    clear hav
    replace c0 := cell_same c0 hx
    replace c1 := cell_same c1 hx
    replace c2 := cell_same c2 hx
    replace c3 := cell_same c3 hx
    replace c4 := cell_same c4 hx
    replace c5 := cell_same c5 hx
    replace hb := hb.ext hx fun _ _ => _root_.id
    generalize acts[k] = act at *
    obtain ⟨lA, lc, rfl, _, _⟩ := _root_.id hb
    have hgw : g < wr.heap.size := by have := hx.size; omega
    by_cases hlong : act.B.length ≤ 16384
    case neg =>
      have hlong' : decide (16384 < (act.B.length : Int)) = true := by simp; omega
      have Hx := Lib.hid hx
      clear hCI hx hb
      go_wp2_with fail
      go_ret
      exact ⟨rfl, Hx.out⟩
    have hlong' : decide (16384 < (act.B.length : Int)) = false := by simp; omega
    by_cases hdo : 0 < act.Do
    case neg =>
      have hdo' : decide (0 < act.Do) = false := by simp; omega
      have HC := Lib.hid (And.intro hCI hLl)
      clear hCI hx hb hLl
      go_wp2_with fail
      exact ⟨⟨k + 1, L, by omega, by go_num, HC.out.1, by omega, HC.out.2⟩, by simp [intOf]; omega⟩
    have hdo' : decide (0 < act.Do) = true := by simpa using hdo
    have HSg := Lib.hid (sign_walk act (hb.same ((Ext.refl (fun _ => False) wr).drew)))
    have HC := Lib.hid (And.intro hCI hLl)
    clear hCI hx hb hLl
    go_wp2_with fail
    refine wp_region_bar (Cls [g] _) [([0, 1, 2, 3, 4, 5, 6, 7, 8, 9], 10)] [] 11 [] [] (by kernel_rfl) (by kernel_rfl) (Cls.refl _ _) ?_
    try dsimp only [wpMix, wpSegs, pick, List.getElem?_cons_zero, List.getElem?_cons_succ]
    generalize hz : Act.mk _ _ = z
    repeat (first | (refine wpQuiet_step (fun K hK => ?_); replace hK := Lib.hid hK; subst hz; go_simp; generalize hz : Act.mk _ _ = z; refine hK.out z ?_; clear hK K) | (refine wpQuiet_step (fun K hK => ?_); replace hK := Lib.hid hK; subst hz; refine iteSkip (by kernel_rfl) ?_; go_simp; generalize hz : Act.mk _ _ = z; refine hK.out z ?_; clear hK K))
    refine wpQuiet_nil ?_
    subst hz
    try dsimp only [NoPan]
    go_wp2_with fail
    refine HSg.out.mono ?_
    rintro e w7 ⟨v7, rfl, hb7, hx7⟩
    have HS7 := Lib.hid (ci_sign ((HC.out.1.ext ((Ext.refl _ _).drew)).ext hx7) act.N hb7 (by omega))
    have HX7 := Lib.hid hx7
    clear hb7 hx7
    go_wp2_with fail
    refine ⟨Cls.of_ext HX7.out fun b hb => ⟨by simp at hb; subst hb; exact hgw, _root_.id⟩, ?_⟩
    try dsimp only [wpMix, wpSegs, pick, List.getElem?_cons_zero, List.getElem?_cons_succ]
    generalize hz : Act.mk _ _ = z
    repeat (first | (refine wpQuiet_step (fun K hK => ?_); replace hK := Lib.hid hK; subst hz; go_simp; generalize hz : Act.mk _ _ = z; refine hK.out z ?_; clear hK K) | (refine wpQuiet_step (fun K hK => ?_); replace hK := Lib.hid hK; subst hz; refine iteSkip (by kernel_rfl) ?_; go_simp; generalize hz : Act.mk _ _ = z; refine hK.out z ?_; clear hK K))
    refine wpQuiet_nil ?_
    subst hz
    try dsimp only [NoPan]
    go_wp2_with fail
    refine HS7.out.mono ?_
    rintro e w8 ⟨rfl, hci8, _⟩
    have H8 := Lib.hid hci8
    clear hci8
    go_wp2_with fail
    try dsimp only [wpMix, wpSegs, pick, List.getElem?_cons_zero, List.getElem?_cons_succ]
    generalize hz : Act.mk _ _ = z
    repeat (first | (refine wpQuiet_step (fun K hK => ?_); replace hK := Lib.hid hK; subst hz; go_simp; generalize hz : Act.mk _ _ = z; refine hK.out z ?_; clear hK K) | (refine wpQuiet_step (fun K hK => ?_); replace hK := Lib.hid hK; subst hz; refine iteSkip (by kernel_rfl) ?_; go_simp; generalize hz : Act.mk _ _ = z; refine hK.out z ?_; clear hK K))
    refine wpQuiet_nil ?_
    subst hz
    try dsimp only [NoPan]
    go_wp2_with fail
    refine ⟨⟨k + 1, _, by omega, by go_num, H8.out, Nat.le_trans (signL_len _ _ _) (by omega), fun p hp => ?_⟩, by simp [intOf]; omega⟩
    rcases signL_sub p hp with hp | ⟨rfl, hl⟩
    · exact HC.out.2 p hp
    · exact hl
end Go.Proofs.Ytcedpdjjjfdbiaa
