/- Votes are opened; no condition. -/
import Derived.Test.YtebcpacenoedfaaRecs
import Derived.Test.YtebcpacenoedfaaDisk4
namespace Go.Proofs.Ytebcpacenoedfaa
set_option linter.unusedVariables false
set_option linter.unusedSimpArgs false
open Go.RowKit

/-- What Open does to the disk, and its answer's number. -/
def openC (x : Dk) : Int × Dk := if (recs x.l).2 < x.l.length then cutD ((recs x.l).2 : Nat) x else (0, x)
def openD (x : Dk) : Int × Dk := if x.off = true then (18, x) else if (openC x).1 ≠ 0 then openC x else if (openC x).2.s < (recs x.l).2 then syncD (openC x).2 else (0, (openC x).2)
def voteO (a n sz : Nat) (bad : Bool) : Obj := .cells #[.pointer (some ⟨a, 0, none⟩), .int .i64 (n : Nat), .int .i64 (sz : Nat), .bool bad] 71 (0, 0)
def OpenPost (F : Nat → Prop) (w : World) (a : Nat) (x : Dk) (e : Ending) (w' : World) : Prop :=
  ∃ F', DRep F' w' a (openD x).2 ∧ Ext F w w' ∧ (∀ k, F' k → F k ∨ w.heap.size ≤ k) ∧
    (((openD x).1 = 0 ∧ ∃ va v' vs, e = .returned (.tuple #[.pointer (some ⟨va, 0, none⟩), v', .int .i64 0]) ∧ w'.heap[va]? = some (voteO a (recs x.l).1.length (recs x.l).2 false) ∧ w.heap.size ≤ va ∧ ¬ F' va ∧
      OwnRows w.heap.size w' v' vs (recs x.l).1 ∧ (∀ k, v'.ownBlock = some k → ¬ F' k ∧ k ≠ va) ∧ (∀ u ∈ vs, ∀ k, u.ownBlock = some k → ¬ F' k ∧ k ≠ va)) ∨
    ((openD x).1 ≠ 0 ∧ e = .returned (.tuple #[.pointer none, .slice none 0 0, .int .i64 (openD x).1])))

theorem OwnRows.low {N N' : Nat} {w : World} {v : Value} {vs : List Value} {ls : List Bs} (h : OwnRows N w v vs ls) (hN : N' ≤ N) : OwnRows N' w v vs ls := by
  refine ⟨⟨h.row.1, ?_⟩, h.len, h.each, fun i u k hi hk => Nat.le_trans hN (h.from_ i u k hi hk), h.apart⟩
  rcases h.row.2 with h1 | ⟨g, cap, cur, h1, h2, r⟩
  · exact .inl h1
  · exact .inr ⟨g, cap, cur, h1, Nat.le_trans hN h2, r⟩
theorem open_done {F F4 : Nat → Prop} {w w1 w2 w4 : World} {a : Nat} {x y : Dk} {v2 : Value} {vs : List Value} (hF : ∀ k, F k → k < w.heap.size) (hR2 : OwnRows w1.heap.size w2 v2 vs (recs x.l).1) (sz1 : w.heap.size ≤ w1.heap.size)
    (hx02 : Ext (fun _ => False) w w2) (hx24 : Ext F w2 w4) (hn : ∀ k, F4 k → F k ∨ w2.heap.size ≤ k) (hD : DRep F4 w4 a y) (ho : openD x = (0, y)) :
    OpenPost F w a x (.returned (.tuple #[.pointer (some ⟨w4.heap.size, 0, none⟩), v2, .int .i64 0])) (w4.alloc (voteO a (recs x.l).1.length (recs x.l).2 false)) := by
  have hxa := (Ext.refl (fun _ => False) w4).alloc (voteO a (recs x.l).1.length (recs x.l).2 false)
  have hx2a : Ext F w2 (w4.alloc (voteO a (recs x.l).1.length (recs x.l).2 false)) := hx24.trans' hxa fun _ => False.elim
  have hsz := hx02.size
  have hsz4 := hx24.size
  have hlt : ∀ k, v2.ownBlock = some k → w1.heap.size ≤ k ∧ k < w2.heap.size := fun k hk => ⟨own_from hR2.row k hk, own_below hR2.row k hk⟩
  have hlt2 : ∀ u ∈ vs, ∀ k, u.ownBlock = some k → w1.heap.size ≤ k ∧ k < w2.heap.size := fun u hu k hk => by
    obtain ⟨i, hi, he⟩ := List.mem_iff_getElem.1 hu
    have hi2 : vs[i]? = some u := by rw [List.getElem?_eq_getElem hi, he]
    exact ⟨hR2.from_ i u k hi2 hk, (hR2.each i u _ hi2 (List.getElem?_eq_getElem (by rw [← hR2.len]; exact hi))).lt k hk⟩
  have key : ∀ k, w1.heap.size ≤ k ∧ k < w2.heap.size → ¬ F4 k ∧ k ≠ w4.heap.size := fun k ⟨h1, h2⟩ => ⟨fun h4 => by
    rcases hn k h4 with h | h
    · have := hF k h; omega
    · omega, by omega⟩
  refine ⟨F4, by rw [ho]; exact hD.same hxa, (hx02.mono fun _ _ => False.elim).trans hx2a, fun k hk => ?_, .inl ⟨by rw [ho], w4.heap.size, v2, vs, rfl, heap_alloc_self _ _, by omega, fun h4 => by have := hD.lt _ h4; omega, ?_, fun k hk => key k (hlt k hk), fun u hu k hk => key k (hlt2 u hu k hk)⟩⟩
  · rcases hn k hk with h | h
    · exact .inl h
    · exact .inr (by omega)
  · exact ((hR2.ext (hx2a.mono (F1 := fun b => b < w.heap.size) fun b _ hb => hF b hb) (fun k hk => by omega) (fun k hk => own_from hR2.row k hk)).low sz1)
theorem open_fail {F F4 : Nat → Prop} {w w2 w4 : World} {a : Nat} {x y : Dk} {k : Int} (hx02 : Ext (fun _ => False) w w2) (hx24 : Ext F w2 w4) (hn : ∀ k, F4 k → F k ∨ w2.heap.size ≤ k) (hD : DRep F4 w4 a y) (ho : openD x = (k, y)) (hk : k ≠ 0) :
    OpenPost F w a x (.returned (.tuple #[.pointer none, .slice none 0 0, .int .i64 k])) w4 := by
  have hsz := hx02.size
  refine ⟨F4, by rw [ho]; exact hD, (hx02.mono fun _ _ => False.elim).trans hx24, fun k hk => ?_, .inr ⟨by rw [ho]; exact hk, by rw [ho]⟩⟩
  rcases hn k hk with h | h
  · exact .inl h
  · exact .inr (by omega)
theorem join_ext {F F3 : Nat → Prop} {w2 w3 w4 : World} (hx : Ext F w2 w3) (hn : ∀ k, F3 k → F k ∨ w2.heap.size ≤ k) (hx4 : Ext F3 w3 w4) : Ext F w2 w4 := hx.trans' hx4 hn
theorem join_new {F F3 F4 : Nat → Prop} {w2 w3 : World} (hsz : w2.heap.size ≤ w3.heap.size) (hn : ∀ k, F3 k → F k ∨ w2.heap.size ≤ k) (hn4 : ∀ k, F4 k → F3 k ∨ w3.heap.size ≤ k) : ∀ k, F4 k → F k ∨ w2.heap.size ≤ k := fun k hk => by
  rcases hn4 k hk with h | h
  · exact hn k h
  · exact .inr (by omega)

set_option maxRecDepth 100000 in
set_option maxHeartbeats 1000000 in
theorem open_walk {F : Nat → Prop} {w : World} {a : Nat} {x : Dk} (h : DRep F w a x) : Calls Try.prog 12 #[.pointer (some ⟨a, 0, none⟩)] w (OpenPost F w a x) := by
  have HU := Lib.hid (power_up h)
  by_cases ho : x.off = true
  · have hd : openD x = (18, x) := if_pos ho
    have Hd := Lib.hid (And.intro hd h)
    rw [ho] at HU
    clear hd h ho
    go_enter Try.func12, Try.ntmps12
    go_wp2_with fail
    refine HU.out.mono ?_
    rintro e _ ⟨rfl, rfl⟩
    go_wp2_with fail
    refine bodyPost_ret (results_tmp3 rfl _ _ _) rfl ?_
    exact ⟨F, by rw [Hd.out.1]; exact Hd.out.2, Ext.refl _ _, fun k hk => .inl hk, .inr ⟨by rw [Hd.out.1]; show (18 : Int) ≠ 0; decide, by rw [Hd.out.1]; rfl⟩⟩
  · have hof : x.off = false := by simpa using ho
    rw [hof] at HU
    have HB := Lib.hid (disk_bytes h)
    have hlen := (by obtain ⟨v, hv⟩ := h; exact hv.len : x.l.length ≤ 4194304)
    have hd : openD x = if (openC x).1 ≠ 0 then openC x else if (openC x).2.s < (recs x.l).2 then syncD (openC x).2 else (0, (openC x).2) := if_neg ho
    have hc : openC x = if (recs x.l).2 < x.l.length then cutD ((recs x.l).2 : Nat) x else (0, x) := rfl
    obtain ⟨hr1, hr2, hr3, hr4⟩ := recs_spec x.l
    have Hd := Lib.hid (And.intro hd (And.intro hc h))
    have Hod := Lib.hid hd
    clear hd hc h ho hof hr2 hr3
    go_enter Try.func12, Try.ntmps12
    go_wp2_with fail
    refine HU.out.mono ?_
    rintro e _ ⟨rfl, rfl⟩
    go_wp2_with fail
    refine HB.out.mono ?_
    rintro e w1 ⟨v1, rfl, hown1, hx1, hn1⟩
    obtain ⟨A1, c1, hf1, _, _⟩ := hown1.form
    subst hf1
    have HR := Lib.hid (records_walk hown1 hlen)
    have H1 := Lib.hid (And.intro hx1 (Hd.out.2.2.same hx1))
    clear hown1 hx1 hn1 HU HB
    go_wp2_with fail
    refine HR.out.mono ?_
    rintro e w2 ⟨v2, vs, rfl, hR2, hx2⟩
    obtain ⟨RA, Rc, hf2⟩ := own_slice_form hR2.row
    subst hf2
    have H2 := Lib.hid (And.intro hR2 (And.intro (H1.out.1.trans hx2) (H1.out.2.same hx2)))
    have hsz1 := H1.out.1.size
    have hsz2 := hx2.size
    clear hR2 hx2 HR
    have HF := Lib.hid Hd.out.2.2.lt
    clear Hd H1
    by_cases hcut : (recs x.l).2 < x.l.length
    · have hc1 : ((recs x.l).2 : Int) < (x.l.length : Int) := by omega
      have hc1' : decide ((recs x.l).2 < x.l.length) = true := by simpa using hcut
      have HCu := Lib.hid (disk_cut H2.out.2.2 ((recs x.l).2 : Nat))
      have hoc : openC x = cutD ((recs x.l).2 : Nat) x := if_pos hcut
      have hod : openD x = if (openC x).1 ≠ 0 then openC x else if (openC x).2.s < (recs x.l).2 then syncD (openC x).2 else (0, (openC x).2) := Hod.out
      rw [hoc] at hod
      generalize cutD ((recs x.l).2 : Nat) x = r at *
      obtain ⟨k, y⟩ := r
      have Ho1 := Lib.hid hod
      clear hod hoc
      go_wp2_with fail
      refine HCu.out.mono ?_
      rintro e w3 ⟨rfl, F3, hD3, hx3, hn3⟩
      have H3 := Lib.hid (And.intro hx3 (And.intro hn3 hD3))
      clear hD3 hx3 hn3
      by_cases hk : k = 0
      · subst hk
        have Ho := Lib.hid (show openD x = if y.s < (recs x.l).2 then syncD y else (0, y) by rw [Ho1.out, if_neg (by simp)])
        have HSf := Lib.hid (disk_safe H3.out.2.2)
        by_cases hsn : y.s < (recs x.l).2
        · have hs1 : (y.s : Int) < ((recs x.l).2 : Int) := by omega
          have hs1' : decide (y.s < (recs x.l).2) = true := by simpa using hsn
          have HSy := Lib.hid (disk_sync H3.out.2.2)
          have ho2 : openD x = syncD y := by rw [Ho.out, if_pos hsn]
          generalize syncD y = r at *
          obtain ⟨k2, z⟩ := r
          have Ho2 := Lib.hid ho2
          clear ho2
          go_wp2_with fail
          refine HSf.out.mono ?_
          rintro e _ ⟨rfl, rfl⟩
          go_wp2_with fail
          refine HSy.out.mono ?_
          rintro e w4 ⟨rfl, F4, hD4, hx4, hn4⟩
          have H4 := Lib.hid (And.intro (join_ext H3.out.1 H3.out.2.1 hx4) (And.intro (join_new H3.out.1.size H3.out.2.1 hn4) hD4))
          clear hD4 hx4 hn4
          by_cases hk : k2 = 0
          · subst hk
            go_wp2_with fail
            refine bodyPost_ret (results_tmp3 rfl _ _ _) rfl ?_
            exact open_done HF.out H2.out.1 hsz1 H2.out.2.1 H4.out.1 H4.out.2.1 H4.out.2.2 Ho2.out
          · have hk1 : (k2 != 0) = true := by simpa using hk
            have hk2 : (k2 == 0) = false := by simpa using hk
            have Hk := Lib.hid hk
            clear hk
            go_wp2_with fail
            refine bodyPost_ret (results_tmp3 rfl _ _ _) rfl ?_
            exact open_fail H2.out.2.1 H4.out.1 H4.out.2.1 H4.out.2.2 Ho2.out Hk.out
        · have hs1 : ¬ (y.s : Int) < ((recs x.l).2 : Int) := by omega
          have hs1' : decide (y.s < (recs x.l).2) = false := by simpa using hsn
          have ho2 : openD x = (0, y) := by rw [Ho.out, if_neg hsn]
          have Ho2 := Lib.hid ho2
          clear ho2
          go_wp2_with fail
          refine HSf.out.mono ?_
          rintro e _ ⟨rfl, rfl⟩
          go_wp2_with fail
          refine bodyPost_ret (results_tmp3 rfl _ _ _) rfl ?_
          exact open_done HF.out H2.out.1 hsz1 H2.out.2.1 H3.out.1 H3.out.2.1 H3.out.2.2 Ho2.out
      · have hk1 : (k != 0) = true := by simpa using hk
        have hk2 : (k == 0) = false := by simpa using hk
        have ho2 : openD x = (k, y) := by rw [Ho1.out, if_pos hk]
        have Ho2 := Lib.hid (And.intro ho2 hk)
        clear ho2 hk
        go_wp2_with fail
        refine bodyPost_ret (results_tmp3 rfl _ _ _) rfl ?_
        exact open_fail H2.out.2.1 H3.out.1 H3.out.2.1 H3.out.2.2 Ho2.out.1 Ho2.out.2
    · have hc1 : ¬ ((recs x.l).2 : Int) < (x.l.length : Int) := by omega
      have hc1' : decide ((recs x.l).2 < x.l.length) = false := by simpa using hcut
      have hoc : openC x = (0, x) := if_neg hcut
      have hod : openD x = if x.s < (recs x.l).2 then syncD x else (0, x) := by
        have h := Hod.out
        rw [hoc, if_neg (by simp)] at h
        exact h
      have H3 := Lib.hid (And.intro (Ext.refl F w2) (And.intro (fun (k : Nat) (hk : F k) => Or.inl (b := w2.heap.size ≤ k) hk) H2.out.2.2))
      have Ho := Lib.hid hod
      clear hod hoc
      have HSf := Lib.hid (disk_safe H3.out.2.2)
      by_cases hsn : x.s < (recs x.l).2
      · have hs1 : (x.s : Int) < ((recs x.l).2 : Int) := by omega
        have hs1' : decide (x.s < (recs x.l).2) = true := by simpa using hsn
        have HSy := Lib.hid (disk_sync H3.out.2.2)
        have ho2 : openD x = syncD x := by rw [Ho.out, if_pos hsn]
        generalize syncD x = r at *
        obtain ⟨k2, z⟩ := r
        have Ho2 := Lib.hid ho2
        clear ho2
        go_wp2_with fail
        refine HSf.out.mono ?_
        rintro e _ ⟨rfl, rfl⟩
        go_wp2_with fail
        refine HSy.out.mono ?_
        rintro e w4 ⟨rfl, F4, hD4, hx4, hn4⟩
        have H4 := Lib.hid (And.intro (join_ext H3.out.1 H3.out.2.1 hx4) (And.intro (join_new H3.out.1.size H3.out.2.1 hn4) hD4))
        clear hD4 hx4 hn4
        by_cases hk : k2 = 0
        · subst hk
          go_wp2_with fail
          refine bodyPost_ret (results_tmp3 rfl _ _ _) rfl ?_
          exact open_done HF.out H2.out.1 hsz1 H2.out.2.1 H4.out.1 H4.out.2.1 H4.out.2.2 Ho2.out
        · have hk1 : (k2 != 0) = true := by simpa using hk
          have hk2 : (k2 == 0) = false := by simpa using hk
          have Hk := Lib.hid hk
          clear hk
          go_wp2_with fail
          refine bodyPost_ret (results_tmp3 rfl _ _ _) rfl ?_
          exact open_fail H2.out.2.1 H4.out.1 H4.out.2.1 H4.out.2.2 Ho2.out Hk.out
      · have hs1 : ¬ (x.s : Int) < ((recs x.l).2 : Int) := by omega
        have hs1' : decide (x.s < (recs x.l).2) = false := by simpa using hsn
        have ho2 : openD x = (0, x) := by rw [Ho.out, if_neg hsn]
        have Ho2 := Lib.hid ho2
        clear ho2
        go_wp2_with fail
        refine HSf.out.mono ?_
        rintro e _ ⟨rfl, rfl⟩
        go_wp2_with fail
        refine bodyPost_ret (results_tmp3 rfl _ _ _) rfl ?_
        exact open_done HF.out H2.out.1 hsz1 H2.out.2.1 H3.out.1 H3.out.2.1 H3.out.2.2 Ho2.out
end Go.Proofs.Ytebcpacenoedfaa
