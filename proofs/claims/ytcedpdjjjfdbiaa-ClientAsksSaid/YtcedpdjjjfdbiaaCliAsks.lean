/- ClientAsks: what the statement's function computes; no condition. -/
import Derived.Test.YtcedpdjjjfdbiaaCliAsk2
namespace Go.Proofs.Ytcedpdjjjfdbiaa
set_option linter.unusedVariables false
set_option linter.unusedSimpArgs false
open Go.RowKit
theorem askB_stamp {id : Int} {j j' : Nat} {t t' : Bs} (h : rightQ id j t = true) (h' : rightQ id j' t' = true) (he : askB id j t = askB id j' t') : j = j' := by
  have h1 := askB_take h
  have h2 := askB_take h'
  rw [he, h2] at h1
  have h3 : askI id j' t' = askI id j t := by
    have := congrArg (fun q => q.1[1]?) h1
    simpa using this
  have h4 := askI_take h
  have h5 := askI_take h'
  rw [← h3, h5] at h4
  have h6 : beB (j' : Int) 8 = beB (j : Int) 8 := by
    have := congrArg (fun q => q.1[1]?) h4
    simpa using this
  have e1 : (j : Int) ≤ 1099511627776 := by simp [rightQ] at h; omega
  have e2 : (j' : Int) ≤ 1099511627776 := by simp [rightQ] at h'; omega
  have h7 := congrArg (fun l => beP l 8) h6
  simp only [beP_beB _ 8 (Nat.le_refl _)] at h7
  omega
/-- What was asked. -/
def AskL (id : Int) (m : Nat) (L : List (Int × Bs)) : Prop := L.length = m ∧ ∀ p ∈ L, ∃ (j : Nat) (t : Bs), j ≤ m ∧ rightQ id j t = true ∧ p.2 = askB id j t
theorem AskL.more {id : Int} {m : Nat} {L : List (Int × Bs)} {t : Bs} (h : AskL id m L) (hid : 1 ≤ id ∧ id ≤ 8) (hq : rightQ id ((m + 1 : Nat) : Int) t = true) :
    signL (16 + id) (askB id ((m + 1 : Nat) : Int) t) L = L ++ [(16 + id, askB id ((m + 1 : Nat) : Int) t)] ∧ AskL id (m + 1) (L ++ [(16 + id, askB id ((m + 1 : Nat) : Int) t)]) := by
  have hl := (askB_len hq).1
  have he : signE (16 + id) (askB id ((m + 1 : Nat) : Int) t) = 0 := by
    unfold signE
    rw [if_neg (by omega), if_neg (by omega)]
  have hn : (16 + id, askB id ((m + 1 : Nat) : Int) t) ∉ L := fun hm => by
    obtain ⟨j, t', h1, h2, h3⟩ := h.2 _ hm
    have := askB_stamp hq h2 h3
    omega
  refine ⟨by rw [signL, if_pos he, addL, if_neg hn], by rw [List.length_append, h.1]; rfl, fun p hp => ?_⟩
  rcases List.mem_append.1 hp with hp | hp
  · obtain ⟨j, t', h1, h2, h3⟩ := h.2 p hp
    exact ⟨j, t', by omega, h2, h3⟩
  · simp at hp
    subst hp
    exact ⟨m + 1, t, Nat.le_refl _, hq, by simp⟩

set_option maxRecDepth 100000 in
set_option maxHeartbeats 4000000 in
theorem asks_walk {w : World} (id : Int) {av : Value} {texts : List Bs} (hA : Texts (· < w.heap.size) w av texts) (hl : texts.length ≤ 9223372036854775807) :
    Calls Try.prog 6 #[.int .i64 id, av] w fun e w' => e = .returned (.bool true) ∧ Ext (fun _ => False) w w' := by
  obtain ⟨A, c, rfl, hcap, _⟩ := _root_.id hA
  have HS := Lib.hid (client_small w)
  have HA := Lib.hid hA
  clear hA
  by_cases hid : 1 ≤ id ∧ id ≤ 8
  case neg =>
    have hno : ¬ newOk 4 id := fun h => hid ⟨h.2.1, h.2.2⟩
    go_enter Try.func6, Try.ntmps6
    go_wp2_with fail
    refine HS.out.mono ?_
    rintro e w1 ⟨rfl, hx1⟩
    have HR := Lib.hid (ri_new hx1)
    clear hx1
    go_wp2_with fail
    refine HR.out.mono ?_
    rintro e w2 ⟨r, rfl, h2⟩
    have HN := Lib.hid (ci_new h2 4 id)
    clear h2
    go_wp2_with fail
    refine HN.out.mono ?_
    rintro e w5 (⟨hyes, _⟩ | ⟨_, rfl, h5⟩)
    · exact absurd hyes hno
    · have H5 := Lib.hid h5.old
      clear h5
      by_cases h1 : 1 ≤ id
      · have h1' : decide (id < 1) = false := by simp; omega
        have h8' : decide (8 < id) = true := by simp; omega
        go_wp2_with fail
        go_ret
        exact ⟨rfl, H5.out⟩
      · have h1' : decide (id < 1) = true := by simp; omega
        go_wp2_with fail
        go_ret
        exact ⟨rfl, H5.out⟩
  have hnew : newOk 4 id := ⟨by decide, hid.1, hid.2⟩
  have Hok := Lib.hid hnew
  obtain ⟨q, rfl⟩ : ∃ q : Nat, id = q := ⟨id.toNat, by omega⟩
  go_enter Try.func6, Try.ntmps6
  go_wp2_with fail
  refine HS.out.mono ?_
  rintro e w1 ⟨rfl, hx1⟩
  have HR := Lib.hid (ri_new hx1)
  clear hx1
  go_wp2_with fail
  refine HR.out.mono ?_
  rintro e w2 ⟨r, rfl, h2⟩
  have HN := Lib.hid (ci_new h2 4 (q : Int))
  clear h2
  go_wp2_with fail
  refine HN.out.mono ?_
  intro e w5 h5
  rcases h5 with ⟨_, a, rfl, h5⟩ | ⟨hno, _⟩
  case inr => exact absurd Hok.out hno
  have H5 := Lib.hid h5
  clear h5 HN HR hnew
  go_wp2_with fail
  go_loopw [9, 10] (fun nv i W => ∃ (k m : Nat) (L : List (Int × Bs)), k ≤ 30 ∧ m ≤ k ∧ i = .int .i64 k ∧ nv = .int .i64 m ∧ CI w (fun _ => False) W a r 4 q m L ∧ AskL q m L) (fun _ i _ => 30 - (intOf i).toNat)
  case atStart => exact ⟨0, 0, [], by omega, by omega, rfl, rfl, H5.out, rfl, by simp⟩
  case round =>
    obtain ⟨k, m, L, hk, hmk, rfl, rfl, hCI, hAL⟩ := hrel
    by_cases hk1 : k < texts.length
    case neg =>
      have hk1' : decide ((k : Int) < (texts.length : Int)) = false := by simp; omega
      have hk1n : decide (k < texts.length) = false := by simpa using hk1
      have Hx := Lib.hid hCI.old
      clear hCI hAL
      go_wp2_with fail
      go_ret
      exact ⟨rfl, Hx.out⟩
    have hk1' : (k : Int) < (texts.length : Int) := by omega
    have hk1n : decide (k < texts.length) = true := by simpa using hk1
    by_cases hk2 : k < 30
    case neg =>
      have hk2' : decide ((k : Int) < 30) = false := by simp; omega
      have Hx := Lib.hid hCI.old
      clear hCI hAL
      go_wp2_with fail
      go_ret
      exact ⟨rfl, Hx.out⟩
    have hk2' : decide ((k : Int) < 30) = true := by simp; omega
    obtain ⟨g, o, cc, hav, hg, hcell⟩ := HA.out.at hk1
    obtain ⟨rfl, rfl⟩ : A = some ⟨g, o, none⟩ ∧ c = cc := by simpa using hav
    clear hav
    rw [Nat.mul_one] at hcell
    have hx := hCI.old
    have hcell0 := hcell
    replace hcell := cell_same hcell hx
    have hgw : g < wr.heap.size := by have := hx.size; omega
    generalize texts[k] = s at *
    by_cases hlong : s.length ≤ 16384
    case neg =>
      have hlong' : decide (16384 < (s.length : Int)) = true := by simp; omega
      have hlongn : decide (16384 < s.length) = true := by simp; omega
      have Hx := Lib.hid hx
      clear hCI hAL hx
      go_wp2_with fail
      go_ret
      exact ⟨rfl, Hx.out⟩
    have hlong' : decide (16384 < (s.length : Int)) = false := by simp; omega
    have hlongn : decide (16384 < s.length) = false := by simp; omega
    have hcast : ((m : Int) + 1) = ((m + 1 : Nat) : Int) := by simp
    have HAk := Lib.hid (ci_ask hCI s (by omega) hid (by have := hAL.1; omega))
    by_cases h240 : s.length ≤ 240
    case neg =>
      have h240' : decide ((s.length : Int) ≤ 240) = false := by simp; omega
      have h240n : decide (s.length ≤ 240) = false := by simp; omega
      have hqf : rightQ (q : Int) ((m : Int) + 1) s = false := by simp [rightQ]; omega
      have HL := Lib.hid hAL
      clear hCI hx hAL
      go_wp2_with fail
      refine HAk.out.mono ?_
      rintro e w6 ⟨_, h6⟩
      rw [if_neg (by rw [hqf]; decide)] at h6
      obtain ⟨rfl, h6⟩ := h6
      have H6 := Lib.hid h6
      clear h6 hqf HAk
      have hcell6 := cell_same hcell0 H6.out.old
      have HC6 := Lib.hid (ci_count H6.out)
      rw [HL.out.1] at HC6
      go_wp2_with fail
      refine (ci_stamp H6.out).mono ?_
      rintro e _ ⟨rfl, rfl⟩
      go_wp2_with fail
      refine HC6.out.mono ?_
      rintro e _ ⟨rfl, rfl⟩
      go_wp2_with fail
      exact ⟨⟨k + 1, m, L, by omega, by omega, by go_num, rfl, H6.out, HL.out⟩, by simp [intOf]; omega⟩
    have h240' : decide ((s.length : Int) ≤ 240) = true := by simp; omega
    have h240n : decide (s.length ≤ 240) = true := by simpa using h240
    have hqt : rightQ (q : Int) ((m + 1 : Nat) : Int) s = true := by simp [rightQ]; omega
    have hmore := hAL.more hid hqt
    have HL := Lib.hid (And.intro hAL (And.intro hmore hqt))
    clear hCI hx hAL hmore
    rw [hcast] at HAk
    clear hcast
    go_wp2_with fail
    refine HAk.out.mono ?_
    rintro e w6 ⟨_, h6⟩
    rw [if_pos hqt] at h6
    obtain ⟨v6, rfl, h6, ho6, hn6⟩ := h6
    obtain ⟨A6, c6, hf6, _, _⟩ := ho6.formP
    subst hf6
    rw [HL.out.2.1.1] at h6
    have hold6 := h6.old
    have hcell6 := cell_same hcell0 hold6
    have HRq := Lib.hid (dreq_walk hqt ho6)
    have H6 := Lib.hid (And.intro h6 ho6)
    clear h6 ho6 hn6 hqt HAk
    generalize hT : askB (q : Int) ((m + 1 : Nat) : Int) s = T at *
    go_wp2_with fail
    refine HRq.out.mono ?_
    rintro e w7 ⟨rfl, hx7⟩
    have hcell7 := cell_same hcell6 hx7
    have h7 := H6.out.1.ext hx7
    have ho7 := H6.out.2.ext hx7 fun _ _ => _root_.id
    have hx8 := (Ext.refl (fun _ => False) w7).alloc (Obj.cells #[.int .i64 q, .int .i64 ((m : Int) + 1), str s] 65)
    have ho8 := heap_alloc_self w7 (Obj.cells #[.int .i64 q, .int .i64 ((m : Int) + 1), str s] 65)
    have H7 := Lib.hid (And.intro (h7.ext hx8) (And.intro (ho7.ext hx8 fun _ _ => _root_.id) ho8))
    have hcell8 := cell_same hcell7 hx8
    have hg8 : g < w7.heap.size := by have := hold6.size; have := hx7.size; omega
    clear hx8 ho8 h7 ho7 hx7 HRq hold6 hcell7 hcell6
    go_wp2_with fail
    generalize w7.alloc (Obj.cells #[.int .i64 q, .int .i64 ((m : Int) + 1), str s] 65) = w8 at *
    have p0 : w8.cell? ⟨w7.heap.size, 0, none⟩ = some (.int .i64 q) := cells_at H7.out.2.2 0
    have p1 : w8.cell? ⟨w7.heap.size, 1, none⟩ = some (.int .i64 ((m : Int) + 1)) := cells_at H7.out.2.2 1
    have p2 : w8.cell? ⟨w7.heap.size, 2, none⟩ = some (str s) := cells_at H7.out.2.2 2
    have hs8 := lt_of_heap H7.out.2.2
    have hg9 : g < w8.heap.size := by omega
    have HK := Lib.hid (ci_knows (H7.out.1.ext ((Ext.refl _ _).drew)) (16 + (q : Int)) (H7.out.2.1.ext ((Ext.refl (fun _ => False) w8).drew) fun _ _ => _root_.id).byt)
    refine wp_region_bar (Cls [w7.heap.size, g] _) [] [0, 1, 2, 3, 4, 5, 6, 7, 8, 9, 10, 11, 12, 13, 14, 15, 16, 17, 18, 19, 20, 21, 22, 23, 24, 25, 26, 27] 28 [] [29, 30] (by kernel_rfl) (by kernel_rfl) (Cls.refl _ _) ?_
    try dsimp only [wpMix, wpSegs, pick, List.getElem?_cons_zero, List.getElem?_cons_succ]
    generalize hz : Act.mk _ _ = z
    repeat (first | (refine wpQuiet_step (fun K hK => ?_); replace hK := Lib.hid hK; subst hz; go_simp; generalize hz : Act.mk _ _ = z; refine hK.out z ?_; clear hK K) | (refine wpQuiet_step (fun K hK => ?_); replace hK := Lib.hid hK; subst hz; refine iteSkip (by kernel_rfl) ?_; go_simp; generalize hz : Act.mk _ _ = z; refine hK.out z ?_; clear hK K))
    refine wpQuiet_nil ?_
    subst hz
    try dsimp only [NoPan]
    go_wp2_with fail
    refine HK.out.mono ?_
    rintro e w9 ⟨rfl, hx9⟩
    have hd : decide ((16 + (q : Int), T) ∈ L ++ [(16 + (q : Int), T)]) = true := by simp
    rw [hd]
    have H9 := Lib.hid ((H7.out.1.ext ((Ext.refl _ _).drew)).ext hx9)
    clear hd hx9 HK
    have HC9 := Lib.hid (ci_count H9.out)
    rw [HL.out.2.1.2.1] at HC9
    go_wp2_with fail
    try dsimp only [wpMix, wpSegs, pick, List.getElem?_cons_zero, List.getElem?_cons_succ]
    generalize hz : Act.mk _ _ = z
    repeat (first | (refine wpQuiet_step (fun K hK => ?_); replace hK := Lib.hid hK; subst hz; go_simp; generalize hz : Act.mk _ _ = z; refine hK.out z ?_; clear hK K) | (refine wpQuiet_step (fun K hK => ?_); replace hK := Lib.hid hK; subst hz; refine iteSkip (by kernel_rfl) ?_; go_simp; generalize hz : Act.mk _ _ = z; refine hK.out z ?_; clear hK K))
    refine wpQuiet_nil ?_
    subst hz
    try dsimp only [NoPan]
    go_wp2_with fail
    refine (ci_stamp H9.out).mono ?_
    rintro e _ ⟨rfl, rfl⟩
    go_wp2_with fail
    refine HC9.out.mono ?_
    rintro e _ ⟨rfl, rfl⟩
    go_wp2_with fail
    exact ⟨⟨k + 1, m + 1, _, by omega, by omega, by go_num, by go_num, H9.out.more (Ext.refl _ _) (fun _ => False.elim) (fun _ => False.elim), HL.out.2.1.2⟩, by simp [intOf]; omega⟩
end Go.Proofs.Ytcedpdjjjfdbiaa
