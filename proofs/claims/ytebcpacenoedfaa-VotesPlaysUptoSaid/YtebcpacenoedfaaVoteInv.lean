/- Votes of the call's own: put, count, open; no condition. -/
import Derived.Test.YtebcpacenoedfaaVotePut
import Derived.Test.YtebcpacenoedfaaDiskTwo
namespace Go.Proofs.Ytebcpacenoedfaa
set_option linter.unusedVariables false
set_option linter.unusedSimpArgs false
open Go.RowKit

theorem vote_count {w : World} {a va n sz : Nat} {bad : Bool} (h : w.heap[va]? = some (voteO a n sz bad)) : Calls Try.prog 18 #[.pointer (some ⟨va, 0, none⟩)] w fun e w' => e = .returned (.int .i64 (n : Nat)) ∧ w = w' := by
  have c1 : w.cell? ⟨va, 1, none⟩ = some (.int .i64 (n : Nat)) := cells_at h 1
  clear h
  go_enter Try.func18, Try.ntmps18
  go_wp2_with fail
  go_ret
  exact ⟨rfl, rfl⟩

/-- Votes and their disk, made since w0; nothing else changed since. -/
def VInv (w0 w : World) (a va : Nat) (x : Dk) (n sz : Nat) (bad : Bool) : Prop :=
  ∃ F, DRep F w a x ∧ Ext (fun _ => False) w0 w ∧ (∀ k, F k → w0.heap.size ≤ k) ∧ w.heap[va]? = some (voteO a n sz bad) ∧ ¬ F va ∧ w0.heap.size ≤ va
section
variable {w0 w w' : World} {a va : Nat} {x : Dk} {n sz : Nat} {bad : Bool}
theorem VInv.ext (h : VInv w0 w a va x n sz bad) (hx : Ext (fun _ => False) w w') : VInv w0 w' a va x n sz bad := by
  obtain ⟨F, h1, h2, h3, h4, h5, h6⟩ := h
  exact ⟨F, h1.same hx, h2.trans hx, h3, hx.heap h4 id, h5, h6⟩
theorem VInv.disk (h : VInv w0 w a va x n sz bad) : DInv w0 w a x := by
  obtain ⟨F, h1, h2, h3, _⟩ := h
  exact ⟨F, h1, h2, h3⟩
theorem VInv.old (h : VInv w0 w a va x n sz bad) : Ext (fun _ => False) w0 w := h.disk.old
theorem VInv.at (h : VInv w0 w a va x n sz bad) : w.heap[va]? = some (voteO a n sz bad) := by
  obtain ⟨F, _, _, _, h4, _⟩ := h
  exact h4
theorem VInv.dpost {F : Nat → Prop} {y : Dk} (h1 : DRep F w a x) (h2 : Ext (fun _ => False) w0 w) (h3 : ∀ k, F k → w0.heap.size ≤ k) (h4 : w.heap[va]? = some (voteO a n sz bad)) (h5 : ¬ F va) (h6 : w0.heap.size ≤ va) (hp : DPost F w a y w') : VInv w0 w' a va y n sz bad := by
  obtain ⟨F', g1, g2, g3⟩ := hp
  have hl := lt_of_heap h4
  refine ⟨F', g1, h2.trans' g2 fun b hb => .inr (h3 b hb), fun k hk => (g3 k hk).elim (h3 k) fun h => Nat.le_trans h2.size h, g2.heap h4 h5, fun h => ?_, h6⟩
  rcases g3 va h with h | h
  · exact h5 h
  · omega
theorem v_count (h : VInv w0 w a va x n sz bad) : Calls Try.prog 18 #[.pointer (some ⟨va, 0, none⟩)] w fun e w' => e = .returned (.int .i64 (n : Nat)) ∧ w = w' := vote_count h.at
theorem v_arm (h : VInv w0 w a va x n sz bad) (m l : Int) (hm : m ≤ 9223372036854775807) : Calls Try.prog 15 #[.pointer (some ⟨a, 0, none⟩), .int .i64 m, .int .i64 l] w fun e w' => e = .returned (.tuple #[]) ∧ VInv w0 w' a va (armD m l x) n sz bad := by
  obtain ⟨F, h1, h2, h3, h4, h5, h6⟩ := h
  exact (power_arm h1 m l hm).mono fun e w' ⟨he, hp⟩ => ⟨he, VInv.dpost h1 h2 h3 h4 h5 h6 hp⟩
theorem v_boot (h : VInv w0 w a va x n sz bad) (m : Int) : Calls Try.prog 16 #[.pointer (some ⟨a, 0, none⟩), .int .i64 m] w fun e w' => e = .returned (.tuple #[]) ∧ VInv w0 w' a va (bootD m x) n sz bad := by
  obtain ⟨F, h1, h2, h3, h4, h5, h6⟩ := h
  exact (disk_boot h1 m).mono fun e w' ⟨he, hp⟩ => ⟨he, VInv.dpost h1 h2 h3 h4 h5 h6 hp⟩
theorem v_put (h : VInv w0 w a va x n sz bad) {D : Nat → Prop} {v : Value} {ls : List Bs} (hb : Byts D w v ls) (hl : ls.length ≤ 1048576) (hsz : sz ≤ 4194304) (hn : n ≤ 4611686018427387904) :
    Calls Try.prog 13 #[.pointer (some ⟨va, 0, none⟩), v] w fun e w' => e = .returned (.int .i64 (putR x n sz bad ls).e) ∧ VInv w0 w' a va (putR x n sz bad ls).x (putR x n sz bad ls).n (putR x n sz bad ls).sz (putR x n sz bad ls).bad := by
  obtain ⟨F, h1, h2, h3, h4, h5, h6⟩ := h
  refine (put_rec h1 h4 h5 hb hl hsz hn).mono ?_
  rintro e w' ⟨F', g1, g2, g3, g4, g5, rfl⟩
  exact ⟨rfl, F', g1, h2.trans' g2 fun b hb => .inr (hb.elim (h3 b) fun e => e ▸ h6), fun k hk => (g3 k hk).elim (h3 k) fun h => Nat.le_trans h2.size h, g5, g4, h6⟩
/-- It is opened: new votes stand beside the disk; or the disk's error is told. -/
theorem d_open (h : DInv w0 w a x) (ho : (openD x).1 = 0) : Calls Try.prog 12 #[.pointer (some ⟨a, 0, none⟩)] w fun e w' => ∃ vb A c vs, e = .returned (.tuple #[.pointer (some ⟨vb, 0, none⟩), .slice A (recs x.l).1.length c, .int .i64 0]) ∧
    VInv w0 w' a vb (openD x).2 (recs x.l).1.length (recs x.l).2 false ∧ OwnRows w.heap.size w' (.slice A (recs x.l).1.length c) vs (recs x.l).1 := by
  obtain ⟨F, h1, h2, h3⟩ := h
  refine (open_walk h1).mono ?_
  rintro e w' ⟨F', g1, g2, g3, g4⟩
  rcases g4 with ⟨_, vb, v', vs, rfl, k1, k2, k3, k4, _⟩ | ⟨k, _⟩
  · obtain ⟨A, c, rfl⟩ := own_slice_form k4.row
    have := h2.size
    exact ⟨vb, A, c, vs, rfl, ⟨F', g1, h2.trans' g2 fun b hb => .inr (h3 b hb), fun k hk => (g3 k hk).elim (h3 k) fun h => Nat.le_trans h2.size h, k1, k3, by omega⟩, k4⟩
  · exact absurd ho k
/-- The same, with votes that stood before. -/
theorem v_open (h : VInv w0 w a va x n sz bad) (ho : (openD x).1 = 0) : Calls Try.prog 12 #[.pointer (some ⟨a, 0, none⟩)] w fun e w' => ∃ vb A c vs, e = .returned (.tuple #[.pointer (some ⟨vb, 0, none⟩), .slice A (recs x.l).1.length c, .int .i64 0]) ∧
    VInv w0 w' a vb (openD x).2 (recs x.l).1.length (recs x.l).2 false ∧ VInv w0 w' a va (openD x).2 n sz bad ∧ OwnRows w.heap.size w' (.slice A (recs x.l).1.length c) vs (recs x.l).1 := by
  obtain ⟨F, h1, h2, h3, h4, h5, h6⟩ := h
  refine (open_walk h1).mono ?_
  rintro e w' ⟨F', g1, g2, g3, g4⟩
  rcases g4 with ⟨_, vb, v', vs, rfl, k1, k2, k3, k4, _⟩ | ⟨k, _⟩
  · obtain ⟨A, c, rfl⟩ := own_slice_form k4.row
    have := h2.size
    exact ⟨vb, A, c, vs, rfl, ⟨F', g1, h2.trans' g2 fun b hb => .inr (h3 b hb), fun k hk => (g3 k hk).elim (h3 k) fun h => Nat.le_trans h2.size h, k1, k3, by omega⟩, VInv.dpost h1 h2 h3 h4 h5 h6 ⟨F', g1, g2, g3⟩, k4⟩
  · exact absurd ho k
end

theorem rows_at {N : Nat} {w : World} {v : Value} {vs : List Value} {ls : List Bs} (h : OwnRows N w v vs ls) {i : Nat} (hi : i < ls.length) :
    ∃ g c u, v = .slice (some ⟨g, 0, none⟩) ls.length c ∧ N ≤ g ∧ w.cell? ⟨g, i, none⟩ = some u ∧ OwnB w u ls[i] ∧ vs[i]? = some u := by
  have hv : i < vs.length := by rw [h.len]; exact hi
  rcases h.row.2 with ⟨_, h2⟩ | ⟨g, cap, cur, h1, hg, h3, h4, _, _, h6⟩
  · omega
  · refine ⟨g, cap, vs[i], h1, hg, ?_, h.each i _ _ (List.getElem?_eq_getElem hv) (List.getElem?_eq_getElem hi), List.getElem?_eq_getElem hv⟩
    rw [cells_at h3]
    have h7 := congrArg (fun l => l[i]?) h6
    simp only [List.getElem?_eq_getElem hv] at h7
    rw [List.getElem?_take_of_lt (by omega)] at h7
    simpa using h7
/-- Rows of the call's own read as rows of bytes. -/
theorem OwnRows.byts {N : Nat} {w : World} {v : Value} {vs : List Value} {ls : List Bs} (h : OwnRows N w v vs ls) : Byts (fun _ => True) w v ls := by
  obtain ⟨A, c, rfl⟩ := own_slice_form h.row
  refine ⟨A, c, rfl, ?_, fun hn => ?_⟩
  · rcases h.row.2 with ⟨h1, h2⟩ | ⟨g, cap, cur, h1, hg, h3, h4, h5, h6, h7⟩
    · omega
    · simp only [Value.slice.injEq] at h1
      have := h.len
      have h8 := congrArg List.length h7
      simp at h8
      omega
  · have hp : 0 < ls.length := List.length_pos_iff.2 hn
    obtain ⟨g, c', u, e, _⟩ := rows_at h hp
    simp only [Value.slice.injEq] at e
    refine ⟨g, 0, e.1, trivial, fun i l hl => ?_⟩
    have hi := (List.getElem?_eq_some_iff.1 hl).1
    obtain ⟨g2, c2, u2, e2, _, hc, hb, _⟩ := rows_at h hi
    simp only [Value.slice.injEq] at e2
    have : g2 = g := by have := e.1.symm.trans e2.1; simp at this; omega
    subst this
    have hli : ls[i] = l := by simpa [List.getElem?_eq_getElem hi] using hl
    refine ⟨u2, by simpa using hc, ?_⟩
    rw [← hli]
    exact hb.byt.mono fun _ _ => trivial
end Go.Proofs.Ytebcpacenoedfaa
