/- What stands behind a fall of the power: plain lists; no condition. -/
import Derived.Test.YtebcpacenoedfaaVoteCounts
namespace Go.Proofs.Ytebcpacenoedfaa
set_option linter.unusedVariables false
set_option linter.unusedSimpArgs false
open Go.RowKit

def joinB (ls : List Bs) : Bs := ls.flatMap blobB
theorem joinB_app (a b : List Bs) : joinB (a ++ b) = joinB a ++ joinB b := by simp [joinB]
theorem joinB_len (ls : List Bs) : ls.length ≤ (joinB ls).length := by
  induction ls with
  | nil => simp
  | cons a r ih => simp only [joinB, List.flatMap_cons, List.length_append, List.length_cons, blobB_len] at *; omega
/-- The beginning of a blob is none. -/
theorem blob_short {a : Bs} {q : Nat} (ha : a.length ≤ 65536) (hq : q < 4 + a.length) : (takeR ((blobB a).take q)).2.2 ≠ 0 := by
  intro h
  obtain ⟨h1, h2, h3, h4, h5, _⟩ := takeR_ok h
  have hl : ((blobB a).take q).length = q := by rw [List.length_take, blobB_len]; omega
  rw [hl] at h3 h4
  have hb : (blobB a).take q = beB (a.length : Int) 4 ++ a.take (q - 4) := by
    rw [blobB, List.take_append, beB_len, List.take_of_length_le (by rw [beB_len]; omega)]
  rw [hb, be4_beB _ (by omega)] at h5
  rw [hb] at h2 h3
  omega
/-- The records of a beginning are the first ones. -/
theorem recs_first : ∀ (ls : List Bs), (∀ l ∈ ls, l.length ≤ 65536) → ∀ q, ∃ j, j ≤ ls.length ∧ (recs ((joinB ls).take q)).1 = ls.take j
  | [], _, q => ⟨0, Nat.le_refl _, by simp [joinB, recs_no takeR_nil]⟩
  | a :: r, h, q => by
    have ha := h a (by simp)
    by_cases hq : q < 4 + a.length
    · refine ⟨0, Nat.zero_le _, ?_⟩
      have : (joinB (a :: r)).take q = (blobB a).take q := by
        rw [joinB, List.flatMap_cons, List.take_append_of_le_length (by rw [blobB_len]; omega)]
      rw [this, recs_no (blob_short ha hq), List.take_zero]
    · obtain ⟨j, hj, he⟩ := recs_first r (fun x hx => h x (by simp [hx])) (q - (4 + a.length))
      refine ⟨j + 1, by simpa using hj, ?_⟩
      have : (joinB (a :: r)).take q = blobB a ++ (joinB r).take (q - (4 + a.length)) := by
        rw [joinB, List.flatMap_cons, List.take_append, blobB_len, List.take_of_length_le (by rw [blobB_len]; omega)]
        rfl
      rw [this, recs_blob a _ ha, he, List.take_succ_cons]

/-- S are safe; M were put when the power went. -/
structure LastS (x : Dk) (n sz : Nat) (bad : Bool) (S M : List Bs) : Prop where
  okS : ∀ l ∈ S, l.length ≤ 65536
  okM : ∀ l ∈ M, l.length ≤ 65536
  base : ∃ q, x.l = joinB S ++ (joinB M).take q
  safe : (joinB S).length ≤ x.s
  top : x.s ≤ x.l.length
  len : x.l.length ≤ 4194304
  nb : n ≤ 4194304
  sb : sz ≤ 4194304
  good : bad = false → x.off = false ∧ x.l = joinB S ∧ sz = x.l.length ∧ M = [] ∧ n = S.length
  gone : bad = true → x.off = true ∧ M ≠ []
theorem LastS.arm {x : Dk} {n sz : Nat} {bad : Bool} {S M : List Bs} (h : LastS x n sz bad S M) (p q : Int) : LastS (armD p q x) n sz bad S M :=
  ⟨h.okS, h.okM, h.base, h.safe, h.top, h.len, h.nb, h.sb, h.good, h.gone⟩
theorem LastS.init : LastS ⟨false, false, 0, 0, [], 0⟩ 0 0 false [] [] :=
  ⟨by simp, by simp, ⟨0, rfl⟩, Nat.le_refl _, Nat.le_refl _, by simp, by omega, by omega, fun _ => ⟨rfl, rfl, rfl, rfl, rfl⟩, fun h => by cases h⟩
theorem LastS.count {x : Dk} {n sz : Nat} {bad : Bool} {S M : List Bs} (h : LastS x n sz bad S M) : S.length ≤ 4194304 := by
  have h1 := joinB_len S
  have h2 := h.safe
  have h3 := h.top
  have h4 := h.len
  omega
theorem goesD_l (x : Dk) : (goesD x).2.l = x.l ∧ (goesD x).2.s = x.s ∧ (goesD x).2.part = x.part := by
  unfold goesD
  split
  · exact ⟨rfl, rfl, rfl⟩
  · split <;> exact ⟨rfl, rfl, rfl⟩
theorem goesD_off {x : Dk} (h : x.off = false) : (goesD x).2.off = !(goesD x).1 := by
  unfold goesD
  split
  · simp [h]
  · split
    · simp [h]
    · rfl
theorem mod_le (p : Int) (k : Nat) : (p % ((k + 1 : Nat) : Int)).toNat ≤ k := by
  have := emod_nat p (k + 1) (by omega)
  obtain ⟨q, h1, h2⟩ := this
  rw [h1]
  simp
  omega
/-- What a Put that begins to write leaves. -/
theorem last_ap {x : Dk} {S m : Bs} (ho : x.off = false) (hl : x.l = S) (hs : S.length ≤ x.s) (hx : x.s ≤ x.l.length) (hf : x.l.length + m.length ≤ 4194304) :
    (((apS m x).1 = 0 ∧ (apS m x).2.off = false ∧ (apS m x).2.l = S ++ m ∧ (apS m x).2.s = (S ++ m).length) ∨
      ((apS m x).1 = 18 ∧ (apS m x).2.off = true ∧ (∃ q, (apS m x).2.l = S ++ m.take q) ∧ S.length ≤ (apS m x).2.s ∧ (apS m x).2.s ≤ (apS m x).2.l.length)) := by
  obtain ⟨g1, g2, g3⟩ := goesD_l x
  have g4 := goesD_off ho
  have ha : appendD m x = if (goesD x).1 then (0, { (goesD x).2 with l := x.l ++ m }) else (18, { (goesD x).2 with l := x.l ++ m.take (x.part % (m.length + 1 : Nat)).toNat }) := by
    rw [appendD, if_neg (by simp [ho]), if_neg (by omega)]
  by_cases hg : (goesD x).1 = true
  · rw [if_pos hg] at ha
    generalize hy : ({ (goesD x).2 with l := x.l ++ m } : Dk) = y at ha
    have y1 : y.off = false := by rw [← hy]; simp [g4, hg]
    have y2 : y.l = S ++ m := by rw [← hy]; simp [hl]
    have y3 : y.s = x.s := by rw [← hy]; exact g2
    obtain ⟨k1, k2, k3⟩ := goesD_l y
    have k4 := goesD_off y1
    have hs2 : syncD y = if (goesD y).1 then (0, { (goesD y).2 with s := y.l.length }) else (18, { (goesD y).2 with s := y.s + (y.part % (y.l.length - y.s + 1 : Nat)).toNat }) := by
      rw [syncD, if_neg (by simp [y1])]
    have hap : apS m x = syncD y := by rw [apS, ha]; rfl
    rw [hap, hs2]
    by_cases hg2 : (goesD y).1 = true
    · rw [if_pos hg2]
      exact .inl ⟨rfl, by simp [k4, hg2], by simp only [k1, y2], by simp only [y2]⟩
    · rw [if_neg hg2]
      have := mod_le y.part (y.l.length - y.s)
      have hyl : x.s ≤ y.l.length := by rw [y2, List.length_append, ← hl]; omega
      refine .inr ⟨rfl, by simp [k4, hg2], ⟨m.length, by simp only [k1, y2, List.take_length]⟩, by simp only; omega, ?_⟩
      simp only [k1]
      omega
  · rw [if_neg hg] at ha
    have hap : apS m x = (18, { (goesD x).2 with l := x.l ++ m.take (x.part % (m.length + 1 : Nat)).toNat }) := by rw [apS, ha]; rfl
    rw [hap]
    refine .inr ⟨rfl, by simp [g4, hg], ⟨_, by simp only [hl]; rfl⟩, by simp only [g2]; omega, ?_⟩
    simp only [g2, List.length_append]
    omega
theorem last_put {x : Dk} {n sz : Nat} {bad : Bool} {S M : List Bs} (h : LastS x n sz bad S M) (ls : List Bs) :
    ((putR x n sz bad ls).e = 0 ∧ LastS (putR x n sz bad ls).x (putR x n sz bad ls).n (putR x n sz bad ls).sz (putR x n sz bad ls).bad (S ++ ls) M) ∨
    ((putR x n sz bad ls).e = 18 ∧ M = [] ∧ (putR x n sz bad ls).x.off = true ∧ LastS (putR x n sz bad ls).x (putR x n sz bad ls).n (putR x n sz bad ls).sz (putR x n sz bad ls).bad S ls) ∨
    ((putR x n sz bad ls).e = 18 ∧ M ≠ [] ∧ LastS (putR x n sz bad ls).x (putR x n sz bad ls).n (putR x n sz bad ls).sz (putR x n sz bad ls).bad S M) ∨
    (((putR x n sz bad ls).e = 2 ∨ (putR x n sz bad ls).e = 16) ∧ LastS (putR x n sz bad ls).x (putR x n sz bad ls).n (putR x n sz bad ls).sz (putR x n sz bad ls).bad S M) := by
  have h0 := h
  unfold putR
  cases bad with
  | true =>
    rw [if_pos rfl]
    exact .inr (.inr (.inl ⟨rfl, (h.gone rfl).2, h0⟩))
  | false =>
    rw [if_neg (by decide)]
    obtain ⟨g1, g2, g3, g4, g5⟩ := h.good rfl
    subst g4
    by_cases ha : anyLong ls = true
    · rw [if_pos ha]
      exact .inr (.inr (.inr ⟨.inl rfl, h0⟩))
    · rw [if_neg ha]
      by_cases hz : ls.length = 0
      · rw [if_pos hz]
        obtain rfl := List.eq_nil_of_length_eq_zero hz
        exact .inl ⟨rfl, by rw [List.append_nil]; exact h0⟩
      · rw [if_neg hz]
        by_cases hf : 4194304 - sz < (joinS ls).length
        · rw [if_pos hf]
          exact .inr (.inr (.inr ⟨.inr rfl, h0⟩))
        · rw [if_neg hf]
          have hok : ∀ l ∈ ls, l.length ≤ 65536 := fun l hl => by
            by_cases hc : l.length ≤ 65536
            · exact hc
            · exact absurd (anyLong_at hl (by omega)) ha
          have hj : joinS ls = joinB ls := joinS_ok hok
          rw [hj] at hf ⊢
          have hsb := h.sb
          have hsafe := h.safe
          have htop := h.top
          have hln := h.len
          have hnl := joinB_len ls
          have hcnt := joinB_len S
          have hg2l := congrArg List.length g2
          rcases last_ap (m := joinB ls) g1 g2 hsafe htop (by omega) with ⟨a1, a2, a3, a4⟩ | ⟨a1, a2, ⟨q, a3⟩, a4, a5⟩
          · rw [if_pos a1]
            refine .inl ⟨rfl, fun l hl => ?_, h.okM, ⟨0, ?_⟩, ?_, ?_, ?_, ?_, ?_, fun _ => ⟨a2, ?_, ?_, rfl, ?_⟩, fun h => by cases h⟩
            · rcases List.mem_append.1 hl with hl | hl
              · exact h.okS l hl
              · exact hok l hl
            · rw [a3, joinB_app]; simp
            · rw [a4, joinB_app]; exact Nat.le_refl _
            · rw [a4, a3]; exact Nat.le_refl _
            · rw [a3, List.length_append]; omega
            · simp only; omega
            · simp only; omega
            · rw [a3, joinB_app]
            · rw [a3, List.length_append]; simp only; omega
            · rw [List.length_append]; simp only; omega
          · rw [if_neg (by rw [a1]; decide), a1]
            have hlq : (apS (joinB ls) x).2.l.length ≤ 4194304 := by
              rw [a3, List.length_append, List.length_take]
              omega
            exact .inr (.inl ⟨rfl, rfl, a2, h.okS, hok, ⟨q, a3⟩, a4, a5, hlq, h.nb, h.sb, (fun h => by cases h), fun _ => ⟨a2, fun e => hz (by rw [e]; rfl)⟩⟩)
/-- Behind a Boot it is opened: the safe ones, and the first of those that were put last. -/
theorem last_boot {x : Dk} {n sz : Nat} {bad : Bool} {S M : List Bs} (h : LastS x n sz bad S M) (k : Int) : ∃ j, j ≤ M.length ∧ (recs (bootD k x).l).1 = S ++ M.take j ∧ (openD (bootD k x)).1 = 0 ∧
    LastS (openD (bootD k x)).2 (recs (bootD k x).l).1.length (recs (bootD k x).l).2 false (S ++ M.take j) [] := by
  obtain ⟨q, hq⟩ := h.base
  have hm := mod_le k (x.l.length - x.s)
  have hsafe := h.safe
  have htop := h.top
  have hlen := h.len
  generalize hp : x.s + (k % ((x.l.length - x.s + 1 : Nat) : Int)).toNat = p
  have hbl : (bootD k x).l = joinB S ++ (joinB M).take (min (p - (joinB S).length) q) := by
    show x.l.take _ = _
    rw [hp, hq, List.take_append, List.take_of_length_le (by omega), List.take_take]
  have hbs : (bootD k x).s = p := hp
  have hbo : (bootD k x).off = false := rfl
  have hba : (bootD k x).armed = false := rfl
  have hbll : (bootD k x).l.length = p := by
    show (x.l.take _).length = _
    rw [hp, List.length_take]
    omega
  obtain ⟨j, hj, hr⟩ := recs_first M h.okM (min (p - (joinB S).length) q)
  have hrr : recs (bootD k x).l = (S ++ M.take j, (joinB S).length + (recs ((joinB M).take (min (p - (joinB S).length) q))).2) := by
    rw [hbl, joinB, recs_app S _ h.okS, ← joinB, hr]
  obtain ⟨s1, s2, s3, s4⟩ := recs_spec (bootD k x).l
  generalize bootD k x = y at *
  have hjb : joinB (S ++ M.take j) = y.l.take (recs y.l).2 := by rw [← s2, hrr]; rfl
  have hok : ∀ l ∈ S ++ M.take j, l.length ≤ 65536 := by rw [hrr] at s3; exact s3
  have hrl : (recs y.l).1 = S ++ M.take j := by rw [hrr]
  refine ⟨j, hj, hrl, ?_⟩
  have key : ∀ z : Dk, z.off = false → z.l = y.l.take (recs y.l).2 → z.s = (recs y.l).2 → LastS z (recs y.l).1.length (recs y.l).2 false (S ++ M.take j) [] := fun z z1 z2 z3 => by
    have hz : z.l.length = (recs y.l).2 := by rw [z2, List.length_take]; omega
    exact ⟨hok, by simp, ⟨0, by rw [z2, ← hjb]; simp⟩, by rw [hjb, ← z2, hz, z3]; exact Nat.le_refl _, by rw [hz, z3]; exact Nat.le_refl _, by omega, by omega, by omega, fun _ => ⟨z1, by rw [z2, hjb], hz.symm, rfl, by rw [hrl]⟩, fun h => by cases h⟩
  by_cases hc : (recs y.l).2 < y.l.length
  · have hg : goesD y = (true, y) := by rw [goesD, if_pos hba]
    have hcut : cutD ((recs y.l).2 : Nat) y = (0, keepD (recs y.l).2 y) := by
      rw [cutD, if_neg (by simp [hbo]), if_neg (by omega), hg]
      simp
    have ho : openD y = (0, keepD (recs y.l).2 y) := by
      rw [openD, if_neg (by simp [hbo]), openC, if_pos hc, hcut, if_neg (by simp), if_neg (by simp [keepD])]
    rw [ho]
    exact ⟨rfl, key _ hbo rfl rfl⟩
  · have hoc : openC y = (0, y) := by rw [openC, if_neg hc]
    have ho : openD y = (0, y) := by
      rw [openD, if_neg (by simp [hbo]), hoc, if_neg (by simp), if_neg (by simp only; omega)]
    rw [ho]
    exact ⟨rfl, key _ hbo (by rw [List.take_of_length_le (by omega)]) (by simp only; omega)⟩
/-- It is opened again: nothing changes. -/
theorem last_again {x : Dk} {n sz : Nat} {S : List Bs} (h : LastS x n sz false S []) : (recs x.l).1 = S ∧ openD x = (0, x) := by
  obtain ⟨g1, g2, g3, g4, g5⟩ := h.good rfl
  have hr : recs x.l = (S, x.l.length) := by rw [g2]; exact recs_flat S h.okS
  have hsafe := h.safe
  rw [← g2] at hsafe
  refine ⟨by rw [hr], ?_⟩
  rw [openD, if_neg (by simp [g1]), openC, hr, if_neg (Nat.lt_irrefl _), if_neg (by simp), if_neg (by simp only; omega)]
end Go.Proofs.Ytebcpacenoedfaa
