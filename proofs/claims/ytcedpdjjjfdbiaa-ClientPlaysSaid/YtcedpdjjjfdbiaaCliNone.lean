/- ClientNone: what the statement's function computes; no condition. -/
import Derived.Test.YtcedpdjjjfdbiaaCliSmall
import Derived.Test.YtcedpdjjjfdbiaaIntsDef
import Derived.Deep.DeepCutAuto
import Derived.Deep.CutBlock
namespace Go.Proofs.Ytcedpdjjjfdbiaa
set_option linter.unusedVariables false
set_option linter.unusedSimpArgs false
open Go.RowKit

theorem nodup_le {α : Type} [DecidableEq α] : ∀ (l l' : List α), l.Nodup → (∀ x ∈ l, x ∈ l') → l.length ≤ l'.length
  | [], _, _, _ => by simp
  | x :: l, l', hn, h => by
    rw [List.nodup_cons] at hn
    have hx := h x (by simp)
    have h1 := nodup_le l (l'.erase x) hn.2 fun y hy => by
      have hne : y ≠ x := fun e => hn.1 (e ▸ hy)
      exact (List.mem_erase_of_ne hne).2 (h y (by simp [hy]))
    rw [List.length_erase_of_mem hx] at h1
    have := List.length_pos_of_mem hx
    simp only [List.length_cons]
    omega
theorem firstR_some {id st : Int} {ts : List Bs} (h : firstR id st ts ≠ []) : ts ≠ [] := by
  rintro rfl
  exact h rfl
/-- A text that is said is said by those alone who signed. -/
theorem said_count {id st : Int} {m : Nat} {L : List (Int × Bs)} {ks : List Int} (hk : ∀ p ∈ L, 1 ≤ p.1 → p.1 ≤ m → p.1 ∈ ks) {b : Bs} (hb : b ≠ []) : (saidR id st m L).count b ≤ ks.length := by
  have h1 : (saidR id st m L).count b ≤ ((List.range m).filter fun i : Nat => !(firstR id st (byL ((i : Int) + 1) L)).isEmpty).length := by
    rw [saidR, List.count_eq_countP, List.countP_map, ← List.countP_eq_length_filter]
    refine List.countP_mono_left fun i _ hi => ?_
    simp only [Function.comp, beq_iff_eq] at hi
    rw [hi]
    cases b with
    | nil => exact absurd rfl hb
    | cons x r => rfl
  refine Nat.le_trans h1 ?_
  have h2 := nodup_le (((List.range m).filter fun i : Nat => !(firstR id st (byL ((i : Int) + 1) L)).isEmpty).map fun i : Nat => (i : Int) + 1) ks ?_ ?_
  · simpa using h2
  · rw [List.Nodup, List.pairwise_map]
    exact List.Pairwise.imp (S := fun a b : Nat => ((a : Int) + 1) ≠ ((b : Int) + 1)) (fun {a b} (h : a ≠ b) e => h (by omega)) (List.Pairwise.filter _ List.nodup_range)
  · intro x hx
    obtain ⟨i, hi, rfl⟩ := List.mem_map.1 hx
    obtain ⟨h3, h4⟩ := List.mem_filter.1 hi
    have him : i < m := List.mem_range.1 h3
    have hne : byL ((i : Int) + 1) L ≠ [] := firstR_some (id := id) (st := st) fun e => by simp [e] at h4
    obtain ⟨t, ht⟩ := List.exists_mem_of_ne_nil _ hne
    simp only [byL, List.mem_map, List.mem_filter, beq_iff_eq] at ht
    obtain ⟨p, ⟨hp, hpe⟩, _⟩ := ht
    have := hk p hp (by omega) (by omega)
    rw [hpe] at this
    exact this
/-- What the set holds. -/
structure SetIs (f n : Nat) (E : List (Int × Value)) (L : List (Int × Bs)) (k : Nat) : Prop where
  vals : ∀ q, assoc q E = none ∨ assoc q E = some (.bool true)
  len : E.length ≤ f
  has : ∀ p ∈ L, 1 ≤ p.1 → p.1 ≤ (n : Int) → p.1 ∈ E.map (·.1)
  long : ∀ p ∈ L, p.2.length ≤ 65536
  few : L.length ≤ k
theorem assoc_mem {q : Int} {v : Value} : ∀ {E : List (Int × Value)}, assoc q E = some v → q ∈ E.map (·.1)
  | [], h => by cases h
  | (x, u) :: r, h => by
    simp only [assoc] at h
    by_cases hq : q = x
    · simp [hq]
    · rw [if_neg hq] at h
      simp [assoc_mem h]
theorem assocSet_keys (q : Int) (v : Value) : ∀ (E : List (Int × Value)), (∀ x ∈ E.map (·.1), x ∈ (assocSet q v E).map (·.1)) ∧ q ∈ (assocSet q v E).map (·.1) ∧ (assoc q E = none → (assocSet q v E).length = E.length + 1) ∧ (assoc q E ≠ none → (assocSet q v E).length = E.length)
  | [] => by simp [assocSet, assoc]
  | (x, u) :: r => by
    obtain ⟨h1, h2, h3, h4⟩ := assocSet_keys q v r
    by_cases hq : q = x
    · have e1 : assocSet q v ((x, u) :: r) = (x, v) :: r := by simp [assocSet, hq]
      have e2 : assoc q ((x, u) :: r) = some u := by simp [assoc, hq]
      rw [e1, e2]
      simp [hq]
    · have e1 : assocSet q v ((x, u) :: r) = (x, u) :: assocSet q v r := by simp [assocSet, hq]
      have e2 : assoc q ((x, u) :: r) = assoc q r := by simp [assoc, hq]
      rw [e1, e2]
      refine ⟨fun y hy => ?_, by simp [h2], fun h => by simp only [List.length_cons, h3 h], fun h => by simp only [List.length_cons, h4 h]⟩
      simp only [List.map_cons, List.mem_cons] at hy ⊢
      exact hy.imp _root_.id (h1 y)
theorem signL_sub {who : Int} {t : Bs} {L : List (Int × Bs)} : ∀ p ∈ signL who t L, p ∈ L ∨ (p = (who, t) ∧ t.length ≤ 65536) := by
  intro p hp
  unfold signL at hp
  split at hp
  · rename_i h
    unfold addL at hp
    split at hp
    · exact .inl hp
    · rcases List.mem_append.1 hp with hp | hp
      · exact .inl hp
      · refine .inr ⟨by simpa using hp, ?_⟩
        unfold signE at h
        split at h
        · exact absurd h (by decide)
        · split at h
          · exact absurd h (by decide)
          · omega
  · exact .inl hp
theorem signL_len (who : Int) (t : Bs) (L : List (Int × Bs)) : (signL who t L).length ≤ L.length + 1 := by
  unfold signL
  split
  · unfold addL
    split
    · omega
    · simp
  · omega
/-- One signs who is not counted, or is in the set. -/
theorem SetIs.sign {f n k : Nat} {E : List (Int × Value)} {L : List (Int × Bs)} (h : SetIs f n E L k) (who : Int) (t : Bs) (hw : 1 ≤ who → who ≤ (n : Int) → who ∈ E.map (·.1)) : SetIs f n E (signL who t L) (k + 1) := by
  refine ⟨h.vals, h.len, fun p hp h1 h2 => ?_, fun p hp => ?_, Nat.le_trans (signL_len _ _ _) (by have := h.few; omega)⟩
  · rcases signL_sub p hp with hp | ⟨rfl, _⟩
    · exact h.has p hp h1 h2
    · exact hw h1 h2
  · rcases signL_sub p hp with hp | ⟨rfl, hl⟩
    · exact h.long p hp
    · exact hl
theorem SetIs.put {f n k : Nat} {E : List (Int × Value)} {L : List (Int × Bs)} (h : SetIs f n E L k) (who : Int) (hf : assoc who E = none → E.length < f) : SetIs f n (assocSet who (.bool true) E) L k := by
  obtain ⟨h1, h2, h3, h4⟩ := assocSet_keys who (.bool true) E
  refine ⟨fun q => ?_, ?_, fun p hp a b => h1 _ (h.has p hp a b), h.long, h.few⟩
  · rw [assoc_set]
    by_cases hq : q = who
    · exact .inr (if_pos hq)
    · rw [if_neg hq]; exact h.vals q
  · have := h.len
    by_cases hn : assoc who E = none
    · rw [h3 hn]
      have := hf hn
      omega
    · rw [h4 hn]
      exact this
theorem SetIs.next {f n k : Nat} {E : List (Int × Value)} {L : List (Int × Bs)} (h : SetIs f n E L k) : SetIs f n E L (k + 1) := ⟨h.vals, h.len, h.has, h.long, by have := h.few; omega⟩
theorem none_law {f n : Nat} (hn : 3 * f + 1 = n) {id st : Int} {E : List (Int × Value)} {L : List (Int × Bs)} {k : Nat} (h : SetIs f n E L k) {b : Bs} (hag : AgreedIs (n : Int) (saidR id st n L) b) : b = [] := by
  subst hn
  rcases agreed_mem hag with hb | ⟨hok, hb, hc, _⟩
  · exact hb
  · exfalso
    have h2 := said_count (id := id) (st := st) (m := 3 * f + 1) (L := L) (ks := E.map (·.1)) (fun p hp a b => h.has p hp a (by omega)) hb
    have h3 : ((saidR id st (3 * f + 1) L).take ((3 * f + 1 : Nat) : Int).toNat).count b ≤ (saidR id st (3 * f + 1) L).count b := (List.take_sublist _ _).count_le b
    have hq : (fewQ ((3 * f + 1 : Nat) : Int)).toNat = f + 1 := by
      rw [fewQ, if_pos hok]
      omega
    rw [hq] at hc
    have := h.len
    simp at h2
    omega

set_option maxRecDepth 100000 in
set_option maxHeartbeats 4000000 in
theorem none_walk {w : World} (f id stamp : Int) {v3 v4 : Value} {who : List Int} {texts : List Bs} (h3 : Ints (· < w.heap.size) w v3 who) (hl3 : who.length ≤ 9223372036854775807) (h4 : Byts (· < w.heap.size) w v4 texts) (hl4 : texts.length ≤ 9223372036854775807) :
    Calls Try.prog 4 #[.int .i64 f, .int .i64 id, .int .i64 stamp, v3, v4] w fun e w' => e = .returned (.bool true) ∧ Ext (fun _ => False) w w' := by
  have hmm := @run_makeMap_new Try.prog
  obtain ⟨A3, c3, rfl, hc3, _⟩ := _root_.id h3
  obtain ⟨A4, c4, rfl, hc4, _⟩ := _root_.id h4
  have HS := Lib.hid (client_small w)
  have HA := Lib.hid (And.intro h3 h4)
  clear h3 h4
  by_cases hf1 : 1 ≤ f
  case neg =>
    have hf1' : decide (f < 1) = true := by simp; omega
    go_enter Try.func4, Try.ntmps4
    go_wp2_with fail
    refine HS.out.mono ?_
    rintro e w1 ⟨rfl, hx1⟩
    have HR := Lib.hid (ri_new hx1)
    clear hx1
    go_wp2_with fail
    refine HR.out.mono ?_
    rintro e w2 ⟨r, rfl, h2⟩
    have H2 := Lib.hid h2.old
    clear h2
    go_wp2_with fail
    go_ret
    exact ⟨rfl, H2.out⟩
  have hf1' : decide (f < 1) = false := by simp; omega
  by_cases hf5 : f ≤ 5
  case neg =>
    have hf5' : decide (5 < f) = true := by simp; omega
    go_enter Try.func4, Try.ntmps4
    go_wp2_with fail
    refine HS.out.mono ?_
    rintro e w1 ⟨rfl, hx1⟩
    have HR := Lib.hid (ri_new hx1)
    clear hx1
    go_wp2_with fail
    refine HR.out.mono ?_
    rintro e w2 ⟨r, rfl, h2⟩
    have H2 := Lib.hid h2.old
    clear h2
    go_wp2_with fail
    go_ret
    exact ⟨rfl, H2.out⟩
  have hf5' : decide (5 < f) = false := by simp; omega
  obtain ⟨q, rfl⟩ : ∃ q : Nat, f = q := ⟨f.toNat, by omega⟩
  have hn : (3 * (q : Int) + 1) = ((3 * q + 1 : Nat) : Int) := by simp
  have hok : okN ((3 * q + 1 : Nat) : Int) := ⟨by omega, by omega, by omega⟩
  have hw1 : IntKind.i64.wrap (3 * (q : Int)) = 3 * (q : Int) := IntWalk.i64_in _ (by omega)
  have hw2 : IntKind.i64.wrap (3 * (q : Int) + 1) = ((3 * q + 1 : Nat) : Int) := by rw [IntWalk.i64_in _ (by omega)]; simp
  by_cases hid : 1 ≤ id ∧ id ≤ 8
  case neg =>
    have hno : ¬ newOk ((3 * q + 1 : Nat) : Int) id := fun h => hid ⟨h.2.1, h.2.2⟩
    go_enter Try.func4, Try.ntmps4
    go_wp2_with fail
    refine HS.out.mono ?_
    rintro e w1 ⟨rfl, hx1⟩
    have HR := Lib.hid (ri_new hx1)
    clear hx1
    go_wp2_with fail
    refine HR.out.mono ?_
    rintro e w2 ⟨r, rfl, h2⟩
    have HN := Lib.hid (ci_new h2 ((3 * q + 1 : Nat) : Int) id)
    clear h2
    generalize hnq : 3 * q + 1 = n at *
    go_wp2_with fail
    refine HN.out.mono ?_
    rintro e w5 (⟨hyes, _⟩ | ⟨_, rfl, h5⟩)
    · exact absurd hyes hno
    · have H5 := Lib.hid h5.old
      clear h5
      by_cases h1 : 1 ≤ id
      · have h1' : decide (id < 1) = false := by simp; omega
        have h8' : decide (8 < id) = true := by simp; omega
        go_wp2_with fail
        go_ret
        exact ⟨rfl, H5.out⟩
      · have h1' : decide (id < 1) = true := by simp; omega
        go_wp2_with fail
        go_ret
        exact ⟨rfl, H5.out⟩
  have hnew : newOk ((3 * q + 1 : Nat) : Int) id := ⟨hok, hid.1, hid.2⟩
  have Hok := Lib.hid (And.intro hnew (And.intro hf1 hf5))
  go_enter Try.func4, Try.ntmps4
  go_wp2_with fail
  refine HS.out.mono ?_
  rintro e w1 ⟨rfl, hx1⟩
  have HR := Lib.hid (ri_new hx1)
  clear hx1
  go_wp2_with fail
  refine HR.out.mono ?_
  rintro e w2 ⟨r, rfl, h2⟩
  have HN := Lib.hid (ci_new h2 ((3 * q + 1 : Nat) : Int) id)
  clear h2
  generalize hnq : 3 * q + 1 = n at *
  go_wp2_with fail
  refine HN.out.mono ?_
  intro e w5 h5
  rcases h5 with ⟨_, a, rfl, h5⟩ | ⟨hno, _⟩
  case inr => exact absurd Hok.out.1 hno
  have H5 := Lib.hid h5
  clear h5 HN HR
  go_wp2_with fail
  have hmb : w.heap.size ≤ w5.heap.size := H5.out.old.size
  go_loopw [16] (fun i W => ∃ (k : Nat) (E : List (Int × Value)) (L : List (Int × Bs)), k ≤ 20 ∧ i = .int .i64 k ∧ MapIs inE W w5.heap.size E ∧ SetIs q n E L k ∧ CI w (fun b => b = w5.heap.size) W a r n id 0 L) (fun i _ => 20 - (intOf i).toNat)
  case atStart => exact ⟨0, [], [], by omega, rfl, MapIs.new _ (heap_alloc_self _ _), ⟨fun _ => .inl rfl, by simp, by simp, by simp, by simp⟩, H5.out.more ((Ext.refl (fun _ => False) w5).alloc _) (fun _ => False.elim) fun b hb => .inr (by simp; omega)⟩
  case round =>
    obtain ⟨k, E, L, hk, rfl, hM, hSt, hCI⟩ := hrel
    by_cases hkw : k < who.length
    case neg =>
      have hkw' : decide ((k : Int) < (who.length : Int)) = false := by simp; omega
      have HR := Lib.hid (ci_result hCI stamp Hok.out.1 hSt.long (by have := hSt.few; omega))
      have Hx := Lib.hid (And.intro hCI.old hSt)
      clear hCI hSt hM
      go_wp2_with fail
      refine HR.out.mono ?_
      rintro e w7 ⟨b, v7, hag, rfl, hf7⟩
      rw [Int.toNat_natCast] at hag
      have hb : b = [] := none_law hnq Hx.out.2 hag
      subst hb
      obtain ⟨A7, c7, e7, _, _⟩ := hf7.own.formP
      subst e7
      have H7 := Lib.hid (Hx.out.1.trans hf7.ext)
      clear hf7 hag
      go_wp2_with fail
      go_ret
      exact ⟨rfl, H7.out⟩
    have hkw' : (k : Int) < (who.length : Int) := by omega
    have hkw2 : decide ((k : Int) < (who.length : Int)) = true := by simpa using hkw'
    by_cases hkt : k < texts.length
    case neg =>
      have hkt' : decide ((k : Int) < (texts.length : Int)) = false := by simp; omega
      have HR := Lib.hid (ci_result hCI stamp Hok.out.1 hSt.long (by have := hSt.few; omega))
      have Hx := Lib.hid (And.intro hCI.old hSt)
      clear hCI hSt hM
      go_wp2_with fail
      refine HR.out.mono ?_
      rintro e w7 ⟨b, v7, hag, rfl, hf7⟩
      rw [Int.toNat_natCast] at hag
      have hb : b = [] := none_law hnq Hx.out.2 hag
      subst hb
      obtain ⟨A7, c7, e7, _, _⟩ := hf7.own.formP
      subst e7
      have H7 := Lib.hid (Hx.out.1.trans hf7.ext)
      clear hf7 hag
      go_wp2_with fail
      go_ret
      exact ⟨rfl, H7.out⟩
    have hkt' : (k : Int) < (texts.length : Int) := by omega
    have hkt2 : decide ((k : Int) < (texts.length : Int)) = true := by simpa using hkt'
    by_cases hk20 : k < 20
    case neg =>
      have hk20' : decide ((k : Int) < 20) = false := by simp; omega
      have HR := Lib.hid (ci_result hCI stamp Hok.out.1 hSt.long (by have := hSt.few; omega))
      have Hx := Lib.hid (And.intro hCI.old hSt)
      clear hCI hSt hM
      go_wp2_with fail
      refine HR.out.mono ?_
      rintro e w7 ⟨b, v7, hag, rfl, hf7⟩
      rw [Int.toNat_natCast] at hag
      have hb : b = [] := none_law hnq Hx.out.2 hag
      subst hb
      obtain ⟨A7, c7, e7, _, _⟩ := hf7.own.formP
      subst e7
      have H7 := Lib.hid (Hx.out.1.trans hf7.ext)
      clear hf7 hag
      go_wp2_with fail
      go_ret
      exact ⟨rfl, H7.out⟩
    have hk20' : decide ((k : Int) < 20) = true := by simp; omega
    have hIw := HA.out.1.same fun g n x hc => cell_same hc hCI.old
    have hTw := HA.out.2.ext hCI.old fun _ _ => _root_.id
    obtain ⟨g3, o3, cc3, hA3, hg3, hcell3⟩ := hIw.at hkw
    obtain ⟨rfl, rfl⟩ : A3 = some ⟨g3, o3, none⟩ ∧ c3 = cc3 := by simpa using hA3
    obtain ⟨g4, o4, cc4, hA4, hg4, u4, hcell4, hu4⟩ := hTw.at hkt
    obtain ⟨rfl, rfl⟩ : A4 = some ⟨g4, o4, none⟩ ∧ c4 = cc4 := by simpa using hA4
    rw [Nat.mul_one] at hcell3 hcell4
    generalize who[k] = wv at *
    generalize texts[k] = l at *
    obtain ⟨B4, d4, rfl, _, _⟩ := _root_.id hu4
    have hwr := hCI.old.size
    have k3 : g3 < wr.heap.size := by omega
    have k4 : g4 < wr.heap.size := by omega
    clear hIw hTw hA3 hA4
    by_cases hlong : l.length ≤ 16384
    case neg =>
      have hlong' : decide (16384 < (l.length : Int)) = true := by simp; omega
      have Hx := Lib.hid hCI.old
      clear hCI hSt hM
      go_wp2_with fail
      go_ret
      exact ⟨rfl, Hx.out⟩
    have hlong' : decide (16384 < (l.length : Int)) = false := by simp; omega
    have hlk := hM.lookup key_int Try.underlying46 _ zero_bool wv
    obtain ⟨es, ck, hes, hmm2⟩ := _root_.id hM
    have hesz : es.size = E.length := by simpa using congrArg List.length hmm2
    by_cases hr1 : 1 ≤ wv
    case neg =>
      have hr1' : decide (1 ≤ wv) = false := by simp; omega
      have hrange : ¬ (1 ≤ wv ∧ wv ≤ (n : Int)) := fun h => hr1 h.1
      clear hlk
      have hfew := hSt.few
      have HC := Lib.hid hCI
      have HW := Lib.hid (Ext.refl (fun _ => False) wr)
      have HMap := Lib.hid hM
      have HSet := Lib.hid (hSt.sign wv l (fun a b => absurd (And.intro a b) hrange))
      clear hCI hSt hM hes hmm2
      go_wp2_with fail
      have hS := ci_sign (HC.out.ext ((Ext.refl _ _).drew)) wv (hu4.same ((HW.out.drew))) (by have := hfew; omega)
      have HSg := Lib.hid hS
      clear hS
      refine wp_region_bar (Cls [g3, g4] _) [] [0, 1, 2, 3, 4, 5, 6, 7, 8] 9 [] [] (by kernel_rfl) (by kernel_rfl) (Cls.refl _ _) ?_
      try dsimp only [wpMix, wpSegs, pick, List.getElem?_cons_zero, List.getElem?_cons_succ]
      generalize hz : Act.mk _ _ = z
      repeat (first | (refine wpQuiet_step (fun K hK => ?_); replace hK := Lib.hid hK; subst hz; go_simp; generalize hz : Act.mk _ _ = z; refine hK.out z ?_; clear hK K) | (refine wpQuiet_step (fun K hK => ?_); replace hK := Lib.hid hK; subst hz; refine iteSkip (by kernel_rfl) ?_; go_simp; generalize hz : Act.mk _ _ = z; refine hK.out z ?_; clear hK K))
      refine wpQuiet_nil ?_
      subst hz
      try dsimp only [NoPan]
      go_wp2_with fail
      refine HSg.out.mono ?_
      rintro e w8 ⟨rfl, hci8, hk8⟩
      have H8 := Lib.hid (And.intro hci8 (HMap.out.keep (hk8.2 _ rfl)))
      clear hci8 hk8
      go_wp2_with fail
      try dsimp only [wpMix, wpSegs, pick, List.getElem?_cons_zero, List.getElem?_cons_succ]
      generalize hz : Act.mk _ _ = z
      repeat (first | (refine wpQuiet_step (fun K hK => ?_); replace hK := Lib.hid hK; subst hz; go_simp; generalize hz : Act.mk _ _ = z; refine hK.out z ?_; clear hK K) | (refine wpQuiet_step (fun K hK => ?_); replace hK := Lib.hid hK; subst hz; refine iteSkip (by kernel_rfl) ?_; go_simp; generalize hz : Act.mk _ _ = z; refine hK.out z ?_; clear hK K))
      refine wpQuiet_nil ?_
      subst hz
      try dsimp only [NoPan]
      go_wp2_with fail
      exact ⟨⟨k + 1, _, _, by omega, by go_num, H8.out.2, HSet.out, H8.out.1⟩, by simp [intOf]; omega⟩
    have hr1' : decide (1 ≤ wv) = true := by simpa using hr1
    by_cases hr2 : wv ≤ (n : Int)
    case neg =>
      have hr2' : decide (wv ≤ (n : Int)) = false := by simp; omega
      have hrange : ¬ (1 ≤ wv ∧ wv ≤ (n : Int)) := fun h => hr2 h.2
      clear hlk
      have hfew := hSt.few
      have HC := Lib.hid hCI
      have HW := Lib.hid (Ext.refl (fun _ => False) wr)
      have HMap := Lib.hid hM
      have HSet := Lib.hid (hSt.sign wv l (fun a b => absurd (And.intro a b) hrange))
      clear hCI hSt hM hes hmm2
      go_wp2_with fail
      have hS := ci_sign (HC.out.ext ((Ext.refl _ _).drew)) wv (hu4.same ((HW.out.drew))) (by have := hfew; omega)
      have HSg := Lib.hid hS
      clear hS
      refine wp_region_bar (Cls [g3, g4] _) [] [0, 1, 2, 3, 4, 5, 6, 7, 8] 9 [] [] (by kernel_rfl) (by kernel_rfl) (Cls.refl _ _) ?_
      try dsimp only [wpMix, wpSegs, pick, List.getElem?_cons_zero, List.getElem?_cons_succ]
      generalize hz : Act.mk _ _ = z
      repeat (first | (refine wpQuiet_step (fun K hK => ?_); replace hK := Lib.hid hK; subst hz; go_simp; generalize hz : Act.mk _ _ = z; refine hK.out z ?_; clear hK K) | (refine wpQuiet_step (fun K hK => ?_); replace hK := Lib.hid hK; subst hz; refine iteSkip (by kernel_rfl) ?_; go_simp; generalize hz : Act.mk _ _ = z; refine hK.out z ?_; clear hK K))
      refine wpQuiet_nil ?_
      subst hz
      try dsimp only [NoPan]
      go_wp2_with fail
      refine HSg.out.mono ?_
      rintro e w8 ⟨rfl, hci8, hk8⟩
      have H8 := Lib.hid (And.intro hci8 (HMap.out.keep (hk8.2 _ rfl)))
      clear hci8 hk8
      go_wp2_with fail
      try dsimp only [wpMix, wpSegs, pick, List.getElem?_cons_zero, List.getElem?_cons_succ]
      generalize hz : Act.mk _ _ = z
      repeat (first | (refine wpQuiet_step (fun K hK => ?_); replace hK := Lib.hid hK; subst hz; go_simp; generalize hz : Act.mk _ _ = z; refine hK.out z ?_; clear hK K) | (refine wpQuiet_step (fun K hK => ?_); replace hK := Lib.hid hK; subst hz; refine iteSkip (by kernel_rfl) ?_; go_simp; generalize hz : Act.mk _ _ = z; refine hK.out z ?_; clear hK K))
      refine wpQuiet_nil ?_
      subst hz
      try dsimp only [NoPan]
      go_wp2_with fail
      exact ⟨⟨k + 1, _, _, by omega, by go_num, H8.out.2, HSet.out, H8.out.1⟩, by simp [intOf]; omega⟩
    have hr2' : decide (wv ≤ (n : Int)) = true := by simpa using hr2
    have hlk' := hlk wr rfl
    have hlen := run_len_map (P := Try.prog) wr 46 3 w5.heap.size es ck (by kernel_rfl) hes
    clear hlk
    rcases hSt.vals wv with hv | hv
    · rw [hv] at hlk'
      simp only [Option.getD_none] at hlk'
      by_cases hfull : q ≤ E.length
      · have hfull' : decide ((q : Int) ≤ (es.size : Int)) = true := by simp; omega
        have hfull2 : decide (q ≤ es.size) = true := by simp; omega
        have HN := Lib.hid (And.intro hM (And.intro hSt.next hCI))
        clear hM hSt hCI hmm2
        go_wp2_with fail
        exact ⟨⟨k + 1, _, _, by omega, by go_num, HN.out.1, HN.out.2.1, HN.out.2.2⟩, by simp [intOf]; omega⟩
      · have hfull' : decide ((q : Int) ≤ (es.size : Int)) = false := by simp; omega
        have hfull2 : decide (q ≤ es.size) = false := by simp; omega
        have hput : assoc wv E = none → E.length < q := fun _ => by omega
        have hfew := hSt.few
        have HC0 := Lib.hid hCI
        have HSet := Lib.hid ((hSt.put wv hput).sign wv l (fun _ _ => (assocSet_keys wv (.bool true) E).2.1))
        have hg3m : g3 ≠ w5.heap.size := by have := hmb; omega
        have hg4m : g4 ≠ w5.heap.size := by have := hmb; omega
        clear hCI hSt hmm2
        go_wp2_with (first | (refine wpList_mapUpdate key_int Try.underlying46 rfl _ _ _ rfl (k := wv) rfl rfl (v := .bool true) rfl hM ?_; intro w6 hM6 hx6 hs6; have HMap := Lib.hid hM6; have HX6 := Lib.hid hx6; clear hM6 hs6 hx6) | fail)
        have HC := Lib.hid (HC0.out.more HX6.out (fun b hb => ⟨hb, by rw [hb]; exact hmb⟩) fun b hb => .inl hb)
        have q3 : w6.cell? ⟨g3, o3 + k, none⟩ = some (.int .i64 wv) := cell_ext hcell3 HX6.out (fun e => hg3m e)
        have q4 : w6.cell? ⟨g4, o4 + k, none⟩ = some (.slice B4 l.length d4) := cell_ext hcell4 HX6.out (fun e => hg4m e)
        have hu4 := hu4.ext HX6.out (fun b hb e => by have : b = w5.heap.size := e; have := hmb; omega)
        have HW := Lib.hid (Ext.refl (fun _ => False) w6)
        have k3 : g3 < w6.heap.size := by have := HX6.out.size; omega
        have k4 : g4 < w6.heap.size := by have := HX6.out.size; omega
        have hw6 := HX6.out.size
        go_wp2_with fail
        have hS := ci_sign (HC.out.ext ((Ext.refl _ _).drew)) wv (hu4.same ((HW.out.drew))) (by have := hfew; omega)
        have HSg := Lib.hid hS
        clear hS
        refine wp_region_bar (Cls [g3, g4] _) [] [0, 1, 2, 3, 4, 5, 6, 7, 8] 9 [] [] (by kernel_rfl) (by kernel_rfl) (Cls.refl _ _) ?_
        try dsimp only [wpMix, wpSegs, pick, List.getElem?_cons_zero, List.getElem?_cons_succ]
        generalize hz : Act.mk _ _ = z
        repeat (first | (refine wpQuiet_step (fun K hK => ?_); replace hK := Lib.hid hK; subst hz; go_simp; generalize hz : Act.mk _ _ = z; refine hK.out z ?_; clear hK K) | (refine wpQuiet_step (fun K hK => ?_); replace hK := Lib.hid hK; subst hz; refine iteSkip (by kernel_rfl) ?_; go_simp; generalize hz : Act.mk _ _ = z; refine hK.out z ?_; clear hK K))
        refine wpQuiet_nil ?_
        subst hz
        try dsimp only [NoPan]
        go_wp2_with fail
        refine HSg.out.mono ?_
        rintro e w8 ⟨rfl, hci8, hk8⟩
        have H8 := Lib.hid (And.intro hci8 (HMap.out.keep (hk8.2 _ rfl)))
        clear hci8 hk8
        go_wp2_with fail
        try dsimp only [wpMix, wpSegs, pick, List.getElem?_cons_zero, List.getElem?_cons_succ]
        generalize hz : Act.mk _ _ = z
        repeat (first | (refine wpQuiet_step (fun K hK => ?_); replace hK := Lib.hid hK; subst hz; go_simp; generalize hz : Act.mk _ _ = z; refine hK.out z ?_; clear hK K) | (refine wpQuiet_step (fun K hK => ?_); replace hK := Lib.hid hK; subst hz; refine iteSkip (by kernel_rfl) ?_; go_simp; generalize hz : Act.mk _ _ = z; refine hK.out z ?_; clear hK K))
        refine wpQuiet_nil ?_
        subst hz
        try dsimp only [NoPan]
        go_wp2_with fail
        exact ⟨⟨k + 1, _, _, by omega, by go_num, H8.out.2, HSet.out, H8.out.1⟩, by simp [intOf]; omega⟩
    · rw [hv] at hlk'
      simp only [Option.getD_some] at hlk'
      have hput : assoc wv E = none → E.length < q := fun h => by rw [hv] at h; cases h
      have hfew := hSt.few
      have HC0 := Lib.hid hCI
      have HSet := Lib.hid ((hSt.put wv hput).sign wv l (fun _ _ => (assocSet_keys wv (.bool true) E).2.1))
      have hg3m : g3 ≠ w5.heap.size := by have := hmb; omega
      have hg4m : g4 ≠ w5.heap.size := by have := hmb; omega
      clear hCI hSt hmm2
      go_wp2_with (first | (refine wpList_mapUpdate key_int Try.underlying46 rfl _ _ _ rfl (k := wv) rfl rfl (v := .bool true) rfl hM ?_; intro w6 hM6 hx6 hs6; have HMap := Lib.hid hM6; have HX6 := Lib.hid hx6; clear hM6 hs6 hx6) | fail)
      have HC := Lib.hid (HC0.out.more HX6.out (fun b hb => ⟨hb, by rw [hb]; exact hmb⟩) fun b hb => .inl hb)
      have q3 : w6.cell? ⟨g3, o3 + k, none⟩ = some (.int .i64 wv) := cell_ext hcell3 HX6.out (fun e => hg3m e)
      have q4 : w6.cell? ⟨g4, o4 + k, none⟩ = some (.slice B4 l.length d4) := cell_ext hcell4 HX6.out (fun e => hg4m e)
      have hu4 := hu4.ext HX6.out (fun b hb e => by have : b = w5.heap.size := e; have := hmb; omega)
      have HW := Lib.hid (Ext.refl (fun _ => False) w6)
      have k3 : g3 < w6.heap.size := by have := HX6.out.size; omega
      have k4 : g4 < w6.heap.size := by have := HX6.out.size; omega
      have hw6 := HX6.out.size
      go_wp2_with fail
      have hS := ci_sign (HC.out.ext ((Ext.refl _ _).drew)) wv (hu4.same ((HW.out.drew))) (by have := hfew; omega)
      have HSg := Lib.hid hS
      clear hS
      refine wp_region_bar (Cls [g3, g4] _) [] [0, 1, 2, 3, 4, 5, 6, 7, 8] 9 [] [] (by kernel_rfl) (by kernel_rfl) (Cls.refl _ _) ?_
      try dsimp only [wpMix, wpSegs, pick, List.getElem?_cons_zero, List.getElem?_cons_succ]
      generalize hz : Act.mk _ _ = z
      repeat (first | (refine wpQuiet_step (fun K hK => ?_); replace hK := Lib.hid hK; subst hz; go_simp; generalize hz : Act.mk _ _ = z; refine hK.out z ?_; clear hK K) | (refine wpQuiet_step (fun K hK => ?_); replace hK := Lib.hid hK; subst hz; refine iteSkip (by kernel_rfl) ?_; go_simp; generalize hz : Act.mk _ _ = z; refine hK.out z ?_; clear hK K))
      refine wpQuiet_nil ?_
      subst hz
      try dsimp only [NoPan]
      go_wp2_with fail
      refine HSg.out.mono ?_
      rintro e w8 ⟨rfl, hci8, hk8⟩
      have H8 := Lib.hid (And.intro hci8 (HMap.out.keep (hk8.2 _ rfl)))
      clear hci8 hk8
      go_wp2_with fail
      try dsimp only [wpMix, wpSegs, pick, List.getElem?_cons_zero, List.getElem?_cons_succ]
      generalize hz : Act.mk _ _ = z
      repeat (first | (refine wpQuiet_step (fun K hK => ?_); replace hK := Lib.hid hK; subst hz; go_simp; generalize hz : Act.mk _ _ = z; refine hK.out z ?_; clear hK K) | (refine wpQuiet_step (fun K hK => ?_); replace hK := Lib.hid hK; subst hz; refine iteSkip (by kernel_rfl) ?_; go_simp; generalize hz : Act.mk _ _ = z; refine hK.out z ?_; clear hK K))
      refine wpQuiet_nil ?_
      subst hz
      try dsimp only [NoPan]
      go_wp2_with fail
      exact ⟨⟨k + 1, _, _, by omega, by go_num, H8.out.2, HSet.out, H8.out.1⟩, by simp [intOf]; omega⟩
end Go.Proofs.Ytcedpdjjjfdbiaa
