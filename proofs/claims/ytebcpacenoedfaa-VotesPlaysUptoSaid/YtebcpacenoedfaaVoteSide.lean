/- Both sides' disks beside blocks that are kept; the votes of both sides; no condition. -/
import Derived.Test.YtebcpacenoedfaaVoteInv
import Derived.Test.YtebcpacenoedfaaVoteLast1
import Derived.Test.YtebcpacenoedfaaDocPut
import Derived.Test.YtebcpacenoedfaaSameRow
import Derived.Test.YtebcpacenoedfaaLent
namespace Go.Proofs.Ytebcpacenoedfaa
set_option linter.unusedVariables false
set_option linter.unusedSimpArgs false
open Go.RowKit

/-- Rows of one's own may be written all over. -/
theorem OwnRows.rows8 {N : Nat} {w : World} {v : Value} {vs : List Value} {ls : List Bs} (h : OwnRows N w v vs ls) : Rows8 w v vs := by
  have hb : ∀ k, v.ownBlock = some k → ∀ u ∈ vs, u.ownBlock ≠ some k := by
    intro k hk u hu e
    obtain ⟨i, hi, he⟩ := List.mem_iff_getElem.1 hu
    obtain ⟨cs, hcs⟩ := own_ty h.row k hk
    obtain ⟨cs', fr, hcs'⟩ := (h.each i u _ (by rw [List.getElem?_eq_getElem hi, he]) (List.getElem?_eq_getElem (by rw [← h.len]; exact hi))).ty k e
    rw [hcs] at hcs'
    simp at hcs'
  refine ⟨?_, fun u hu => ?_, h.apart⟩
  · rcases h.row.2 with ⟨h1, h2⟩ | ⟨g, cap, cur, h1, _, h3, h4, _, h5, h6⟩
    · refine ⟨none, 0, by rw [h1, h.len, h2], by rw [h.len, h2]; exact Nat.le_refl _, fun hne => ?_⟩
      exact absurd (List.eq_nil_of_length_eq_zero (by rw [h.len, h2])) hne
    · refine ⟨_, cap, by rw [h1, h.len], by rw [h.len]; exact h4, fun _ => ⟨g, 0, rfl, hb g (by rw [h1]; rfl), fun i x hx => ?_⟩⟩
      have h7 := congrArg (fun l => l[i]?) h6
      have hlt : i < vs.length := (List.getElem?_eq_some_iff.1 hx).1
      have hl := h.len
      simp only [hx] at h7
      rw [List.getElem?_take_of_lt (by omega)] at h7
      show w.cell? ⟨g, 0 + i * 1, none⟩ = some x
      rw [cells_at h3, show 0 + i * 1 = i by omega]
      simpa using h7
  · obtain ⟨i, hi, he⟩ := List.mem_iff_getElem.1 hu
    exact (h.each i u _ (by rw [List.getElem?_eq_getElem hi, he]) (List.getElem?_eq_getElem (by rw [← h.len]; exact hi))).capA
theorem OwnB.keptK {K : Nat → Prop} {w w' : World} {v : Value} {l : Bs} (h : OwnB w v l) (hk : Keep K w w') (hv : ∀ k, v.ownBlock = some k → K k) : OwnB w' v l := by
  rcases h with h | ⟨g, c, cells, fr, rfl, hg, r⟩
  · exact .inl h
  · exact .inr ⟨g, c, cells, fr, rfl, (hk.2 g (hv g rfl)).trans hg, r⟩
theorem OwnRows.keptK {K : Nat → Prop} {N : Nat} {w w' : World} {v : Value} {vs : List Value} {ls : List Bs} (h : OwnRows N w v vs ls) (hk : Keep K w w') (hv : ∀ k, v.ownBlock = some k → K k) (hu : ∀ u ∈ vs, ∀ k, u.ownBlock = some k → K k) : OwnRows N w' v vs ls := by
  refine ⟨⟨h.row.1, ?_⟩, h.len, fun i u l hi hl => (h.each i u l hi hl).keptK hk (hu u (List.mem_of_getElem? hi)), h.from_, h.apart⟩
  rcases h.row.2 with h1 | ⟨g, cap, cur, rfl, hg, hh, r⟩
  · exact .inl h1
  · exact .inr ⟨g, cap, cur, rfl, hg, (hk.2 g (hv g rfl)).trans hh, r⟩

/-- The one at a holds x, the document's at a' holds y; both were made since w0; blocks K are neither's. -/
def SD (w0 : World) (K : Nat → Prop) (w : World) (a a' : Nat) (x y : Dk) : Prop :=
  ∃ F F', DRep F w a x ∧ RRep F' w a' y ∧ (∀ k, F k → ¬ F' k) ∧ Ext (fun _ => False) w0 w ∧ (∀ k, F k → w0.heap.size ≤ k) ∧ (∀ k, F' k → w0.heap.size ≤ k) ∧ ∀ k, K k → k < w.heap.size ∧ ¬ F k ∧ ¬ F' k
section
variable {w0 w w' : World} {K : Nat → Prop} {a a' : Nat} {x y z : Dk}
theorem SD.old (h : SD w0 K w a a' x y) : Ext (fun _ => False) w0 w := by
  obtain ⟨F, F', _, _, _, h4, _⟩ := h
  exact h4
theorem SD.lt (h : SD w0 K w a a' x y) : ∀ k, K k → k < w.heap.size := by
  obtain ⟨F, F', _, _, _, _, _, _, h7⟩ := h
  exact fun k hk => (h7 k hk).1
theorem SD.mono {K' : Nat → Prop} (h : SD w0 K w a a' x y) (hK : ∀ k, K' k → K k) : SD w0 K' w a a' x y := by
  obtain ⟨F, F', h1, h2, h3, h4, h5, h6, h7⟩ := h
  exact ⟨F, F', h1, h2, h3, h4, h5, h6, fun k hk => h7 k (hK k hk)⟩
theorem SD.more {J K' : Nat → Prop} (h : SD w0 K w a a' x y) (hx : Ext J w w') (hJ : ∀ k, J k → K k ∧ w0.heap.size ≤ k) (hK : ∀ k, K' k → K k ∨ w.heap.size ≤ k ∧ k < w'.heap.size) : SD w0 K' w' a a' x y := by
  obtain ⟨F, F', h1, h2, h3, h4, h5, h6, h7⟩ := h
  refine ⟨F, F', h1.keep hx fun k hk hj => (h7 k (hJ k hj).1).2.1 hk, h2.keep hx fun k hk hj => (h7 k (hJ k hj).1).2.2 hk, h3, h4.trans' hx fun b hb => .inr (hJ b hb).2, h5, h6, fun k hk => ?_⟩
  rcases hK k hk with hk | ⟨k1, k2⟩
  · exact ⟨Nat.lt_of_lt_of_le (h7 k hk).1 hx.size, (h7 k hk).2⟩
  · exact ⟨k2, fun hf => by have := h1.lt k hf; omega, fun hf => by have := h2.lt k hf; omega⟩
theorem SD.ext (h : SD w0 K w a a' x y) (hx : Ext (fun _ => False) w w') : SD w0 K w' a a' x y := h.more hx (fun _ => False.elim) fun _ hk => .inl hk
theorem SD.keep (h : SD w0 K w a a' x y) (hx : Ext (fun _ => False) w w') : Keep K w w' := hx.kept fun k hk => ⟨h.lt k hk, id⟩
/-- What the disk alone does. -/
theorem SD.byD {F F' F1 G : Nat → Prop} (h1 : DRep F w a x) (h2 : RRep F' w a' y) (h3 : ∀ k, F k → ¬ F' k) (h4 : Ext (fun _ => False) w0 w) (h5 : ∀ k, F k → w0.heap.size ≤ k) (h6 : ∀ k, F' k → w0.heap.size ≤ k) (h7 : ∀ k, K k → k < w.heap.size ∧ ¬ F k ∧ ¬ F' k)
    (g1 : DRep F1 w' a z) (g2 : Ext (fun k => F k ∨ G k) w w') (g3 : ∀ k, F1 k → F k ∨ w.heap.size ≤ k) (hG : ∀ k, G k → K k ∧ w0.heap.size ≤ k) {N : Nat → Prop} (hN : ∀ k, N k → w.heap.size ≤ k ∧ k < w'.heap.size ∧ ¬ F1 k) :
    SD w0 (fun k => K k ∨ N k) w' a a' z y ∧ Keep (fun k => K k ∧ ¬ G k) w w' := by
  refine ⟨⟨F1, F', g1, h2.keep g2 fun k hk hf => ?_, fun k hk hf => ?_, h4.trans' g2 fun b hb => .inr (hb.elim (h5 b) fun h => (hG b h).2), fun k hk => (g3 k hk).elim (h5 k) fun h => Nat.le_trans h4.size h, h6, fun k hk => ?_⟩, g2.kept fun k hk => ⟨(h7 k hk.1).1, fun h => h.elim (h7 k hk.1).2.1 hk.2⟩⟩
  · rcases hf with hf | hf
    · exact h3 k hf hk
    · exact (h7 k (hG k hf).1).2.2 hk
  · rcases g3 k hk with h | h
    · exact h3 k h hf
    · have := h2.lt k hf; omega
  · rcases hk with hk | hk
    · refine ⟨Nat.lt_of_lt_of_le (h7 k hk).1 g2.size, fun h => ?_, (h7 k hk).2.2⟩
      rcases g3 k h with h | h
      · exact (h7 k hk).2.1 h
      · have := (h7 k hk).1; omega
    · obtain ⟨n1, n2, n3⟩ := hN k hk
      exact ⟨n2, n3, fun hf => by have := h2.lt k hf; omega⟩
/-- What the document's disk alone does. -/
theorem SD.byR {F F' F1 G : Nat → Prop} (h1 : DRep F w a x) (h2 : RRep F' w a' y) (h3 : ∀ k, F k → ¬ F' k) (h4 : Ext (fun _ => False) w0 w) (h5 : ∀ k, F k → w0.heap.size ≤ k) (h6 : ∀ k, F' k → w0.heap.size ≤ k) (h7 : ∀ k, K k → k < w.heap.size ∧ ¬ F k ∧ ¬ F' k)
    (g1 : RRep F1 w' a' z) (g2 : Ext (fun k => F' k ∨ G k) w w') (g3 : ∀ k, F1 k → F' k ∨ w.heap.size ≤ k) (hG : ∀ k, G k → K k ∧ w0.heap.size ≤ k) {N : Nat → Prop} (hN : ∀ k, N k → w.heap.size ≤ k ∧ k < w'.heap.size ∧ ¬ F1 k) :
    SD w0 (fun k => K k ∨ N k) w' a a' x z ∧ Keep (fun k => K k ∧ ¬ G k) w w' := by
  refine ⟨⟨F, F1, h1.keep g2 fun k hk hf => ?_, g1, fun k hk hf => ?_, h4.trans' g2 fun b hb => .inr (hb.elim (h6 b) fun h => (hG b h).2), h5, fun k hk => (g3 k hk).elim (h6 k) fun h => Nat.le_trans h4.size h, fun k hk => ?_⟩, g2.kept fun k hk => ⟨(h7 k hk.1).1, fun h => h.elim (h7 k hk.1).2.2 hk.2⟩⟩
  · rcases hf with hf | hf
    · exact h3 k hk hf
    · exact (h7 k (hG k hf).1).2.1 hk
  · rcases g3 k hf with h | h
    · exact h3 k hk h
    · have := h1.lt k hk; omega
  · rcases hk with hk | hk
    · refine ⟨Nat.lt_of_lt_of_le (h7 k hk).1 g2.size, (h7 k hk).2.1, fun h => ?_⟩
      rcases g3 k h with h | h
      · exact (h7 k hk).2.2 h
      · have := (h7 k hk).1; omega
    · obtain ⟨n1, n2, n3⟩ := hN k hk
      exact ⟨n2, fun hf => by have := h1.lt k hf; omega, n3⟩
theorem keep_all {w w' : World} {K : Nat → Prop} (h : Keep (fun k => K k ∧ ¬ False) w w') : Keep K w w' := h.mono fun k hk => ⟨hk, id⟩
variable (h : SD w0 K w a a' x y)
include h
theorem sd_append {D : Nat → Prop} {mv : Value} {m : Bs} (hm : Byt D w mv m) (hD : ∀ k, D k → k < w0.heap.size ∨ K k) :
    Calls Try.prog 28 #[.pointer (some ⟨a, 0, none⟩), mv] w fun e w' => e = .returned (.int .i64 (appendD m x).1) ∧ SD w0 K w' a a' (appendD m x).2 y ∧ Keep K w w' := by
  obtain ⟨F, F', h1, h2, h3, h4, h5, h6, h7⟩ := h
  refine (disk_append h1 hm (fun k hk hf => ?_)).mono ?_
  · rcases hD k hk with h | h
    · have := h5 k hf; omega
    · exact (h7 k h).2.1 hf
  · rintro e w' ⟨he, F1, g1, g2, g3⟩
    have h := SD.byD (G := fun _ => False) (N := fun _ => False) h1 h2 h3 h4 h5 h6 h7 g1 (g2.mono fun _ _ => .inl) g3 (fun _ => False.elim) fun _ => False.elim
    exact ⟨he, h.1.mono fun _ => .inl, keep_all h.2⟩
theorem sd_boot (n : Int) : Calls Try.prog 16 #[.pointer (some ⟨a, 0, none⟩), .int .i64 n] w fun e w' => e = .returned (.tuple #[]) ∧ SD w0 K w' a a' (bootD n x) y ∧ Keep K w w' := by
  obtain ⟨F, F', h1, h2, h3, h4, h5, h6, h7⟩ := h
  refine (disk_boot h1 n).mono ?_
  rintro e w' ⟨he, F1, g1, g2, g3⟩
  have h := SD.byD (G := fun _ => False) (N := fun _ => False) h1 h2 h3 h4 h5 h6 h7 g1 (g2.mono fun _ _ => .inl) g3 (fun _ => False.elim) fun _ => False.elim
  exact ⟨he, h.1.mono fun _ => .inl, keep_all h.2⟩
theorem sd_arm (n m : Int) (hn : n ≤ 9223372036854775807) : Calls Try.prog 15 #[.pointer (some ⟨a, 0, none⟩), .int .i64 n, .int .i64 m] w fun e w' => e = .returned (.tuple #[]) ∧ SD w0 K w' a a' (armD n m x) y ∧ Keep K w w' := by
  obtain ⟨F, F', h1, h2, h3, h4, h5, h6, h7⟩ := h
  refine (power_arm h1 n m hn).mono ?_
  rintro e w' ⟨he, F1, g1, g2, g3⟩
  have h := SD.byD (G := fun _ => False) (N := fun _ => False) h1 h2 h3 h4 h5 h6 h7 g1 (g2.mono fun _ _ => .inl) g3 (fun _ => False.elim) fun _ => False.elim
  exact ⟨he, h.1.mono fun _ => .inl, keep_all h.2⟩
theorem sd_xappend {D : Nat → Prop} {mv : Value} {m : Bs} (hm : Byt D w mv m) (hD : ∀ k, D k → k < w0.heap.size ∨ K k) :
    Calls Try.prog 29 #[.pointer (some ⟨a', 0, none⟩), mv] w fun e w' => e = .returned (.int .i64 (appendD m y).1) ∧ SD w0 K w' a a' x (appendD m y).2 ∧ Keep K w w' := by
  obtain ⟨F, F', h1, h2, h3, h4, h5, h6, h7⟩ := h
  refine (rd_append h2 hm (fun k hk hf => ?_)).mono ?_
  · rcases hD k hk with h | h
    · have := h6 k hf; omega
    · exact (h7 k h).2.2 hf
  · rintro e w' ⟨he, F1, g1, g2, g3⟩
    have h := SD.byR (G := fun _ => False) (N := fun _ => False) h1 h2 h3 h4 h5 h6 h7 g1 (g2.mono fun _ _ => .inl) g3 (fun _ => False.elim) fun _ => False.elim
    exact ⟨he, h.1.mono fun _ => .inl, keep_all h.2⟩
theorem sd_xboot (n : Int) : Calls Try.prog 27 #[.pointer (some ⟨a', 0, none⟩), .int .i64 n] w fun e w' => e = .returned (.tuple #[]) ∧ SD w0 K w' a a' x (bootD n y) ∧ Keep K w w' := by
  obtain ⟨F, F', h1, h2, h3, h4, h5, h6, h7⟩ := h
  refine (rd_boot h2 n).mono ?_
  rintro e w' ⟨he, F1, g1, g2, g3⟩
  have h := SD.byR (G := fun _ => False) (N := fun _ => False) h1 h2 h3 h4 h5 h6 h7 g1 (g2.mono fun _ _ => .inl) g3 (fun _ => False.elim) fun _ => False.elim
  exact ⟨he, h.1.mono fun _ => .inl, keep_all h.2⟩
theorem sd_xarm (n m : Int) (hn : n ≤ 9223372036854775807) : Calls Try.prog 26 #[.pointer (some ⟨a', 0, none⟩), .int .i64 n, .int .i64 m] w fun e w' => e = .returned (.tuple #[]) ∧ SD w0 K w' a a' x (armD n m y) ∧ Keep K w w' := by
  obtain ⟨F, F', h1, h2, h3, h4, h5, h6, h7⟩ := h
  refine (rd_arm h2 n m hn).mono ?_
  rintro e w' ⟨he, F1, g1, g2, g3⟩
  have h := SD.byR (G := fun _ => False) (N := fun _ => False) h1 h2 h3 h4 h5 h6 h7 g1 (g2.mono fun _ _ => .inl) g3 (fun _ => False.elim) fun _ => False.elim
  exact ⟨he, h.1.mono fun _ => .inl, keep_all h.2⟩
theorem sd_put {va n sz : Nat} {bad : Bool} {D : Nat → Prop} {v : Value} {ls : List Bs} (hv : w.heap[va]? = some (voteO a n sz bad)) (hva : K va ∧ w0.heap.size ≤ va) (hb : Byts D w v ls) (hl : ls.length ≤ 1048576) (hsz : sz ≤ 4194304) (hn : n ≤ 4611686018427387904) :
    Calls Try.prog 13 #[.pointer (some ⟨va, 0, none⟩), v] w fun e w' => e = .returned (.int .i64 (putR x n sz bad ls).e) ∧ SD w0 K w' a a' (putR x n sz bad ls).x y ∧ Keep (fun k => K k ∧ k ≠ va) w w' ∧ w'.heap[va]? = some (voteO a (putR x n sz bad ls).n (putR x n sz bad ls).sz (putR x n sz bad ls).bad) := by
  obtain ⟨F, F', h1, h2, h3, h4, h5, h6, h7⟩ := h
  refine (put_rec h1 hv (h7 va hva.1).2.1 hb hl hsz hn).mono ?_
  rintro e w' ⟨F1, g1, g2, g3, g4, g5, rfl⟩
  have h := SD.byD (G := fun k => k = va) (N := fun _ => False) h1 h2 h3 h4 h5 h6 h7 g1 g2 g3 (fun k hk => by subst hk; exact hva) fun _ => False.elim
  exact ⟨rfl, h.1.mono fun _ => .inl, h.2, g5⟩
theorem sd_xput {va n : Nat} {bad : Bool} {D : Nat → Prop} {v : Value} {ls : List Bs} (hv : w.heap[va]? = some (docO a' n bad)) (hva : K va ∧ w0.heap.size ≤ va) (hb : Byts D w v ls) (hl : ls.length ≤ 1048576) (hn : n ≤ 4611686018427387904) :
    Calls Try.prog 25 #[.pointer (some ⟨va, 0, none⟩), v] w fun e w' => e = .returned (.int .i64 (putR y n y.l.length bad ls).e) ∧ SD w0 K w' a a' x (putR y n y.l.length bad ls).x ∧ Keep (fun k => K k ∧ k ≠ va) w w' ∧ w'.heap[va]? = some (docO a' (putR y n y.l.length bad ls).n (putR y n y.l.length bad ls).bad) := by
  obtain ⟨F, F', h1, h2, h3, h4, h5, h6, h7⟩ := h
  refine (dput_walk h2 hv (h7 va hva.1).2.2 hb hl hn).mono ?_
  rintro e w' ⟨F1, g1, g2, g3, g4, g5, rfl⟩
  have h := SD.byR (G := fun k => k = va) (N := fun _ => False) h1 h2 h3 h4 h5 h6 h7 g1 g2 g3 (fun k hk => by subst hk; exact hva) fun _ => False.elim
  exact ⟨rfl, h.1.mono fun _ => .inl, h.2, g5⟩
/-- Blocks of what an opening makes. -/
def newB (vb : Nat) (v : Value) (vs : List Value) (k : Nat) : Prop := k = vb ∨ v.ownBlock = some k ∨ ∃ u ∈ vs, u.ownBlock = some k
omit h in
theorem new_lt {w w' : World} {vb : Nat} {v : Value} {vs : List Value} {ls : List Bs} (hr : OwnRows w.heap.size w' v vs ls) (h1 : w.heap.size ≤ vb) (h2 : vb < w'.heap.size) : ∀ k, newB vb v vs k → w.heap.size ≤ k ∧ k < w'.heap.size := by
  rintro k (rfl | hk | ⟨u, hu, hk⟩)
  · exact ⟨h1, h2⟩
  · exact ⟨own_from hr.row k hk, own_below hr.row k hk⟩
  · obtain ⟨i, hi, he⟩ := List.mem_iff_getElem.1 hu
    have hi2 : vs[i]? = some u := by rw [List.getElem?_eq_getElem hi, he]
    exact ⟨hr.from_ i u k hi2 hk, (hr.each i u _ hi2 (List.getElem?_eq_getElem (by rw [← hr.len]; exact hi))).lt k hk⟩
/-- It is opened. -/
theorem sd_open : Calls Try.prog 12 #[.pointer (some ⟨a, 0, none⟩)] w fun e w' => Keep K w w' ∧
    (((openD x).1 = 0 ∧ ∃ vb v' vs, e = .returned (.tuple #[.pointer (some ⟨vb, 0, none⟩), v', .int .i64 0]) ∧ SD w0 (fun k => K k ∨ newB vb v' vs k) w' a a' (openD x).2 y ∧ w'.heap[vb]? = some (voteO a (recs x.l).1.length (recs x.l).2 false) ∧ OwnRows w.heap.size w' v' vs (recs x.l).1 ∧ (∀ k, newB vb v' vs k → w.heap.size ≤ k) ∧ (∀ u ∈ vs, u.ownBlock ≠ some vb)) ∨
    ((openD x).1 ≠ 0 ∧ e = .returned (.tuple #[.pointer none, .slice none 0 0, .int .i64 (openD x).1]) ∧ SD w0 K w' a a' (openD x).2 y)) := by
  obtain ⟨F, F', h1, h2, h3, h4, h5, h6, h7⟩ := h
  refine (open_walk h1).mono ?_
  rintro e w' ⟨F1, g1, g2, g3, g4⟩
  rcases g4 with ⟨ho, vb, v', vs, rfl, k1, k2, k3, k4, k5, k6⟩ | ⟨ho, rfl⟩
  · have hnl := new_lt k4 k2 (lt_of_heap k1)
    have h := SD.byD (G := fun _ => False) (N := newB vb v' vs) h1 h2 h3 h4 h5 h6 h7 g1 (g2.mono fun _ _ => .inl) g3 (fun _ => False.elim) fun k hk => ⟨(hnl k hk).1, (hnl k hk).2, by
      rcases hk with rfl | hk | ⟨u, hu, hk⟩
      · exact k3
      · exact (k5 k hk).1
      · exact (k6 u hu k hk).1⟩
    exact ⟨keep_all h.2, .inl ⟨ho, vb, v', vs, rfl, h.1, k1, k4, fun k hk => (hnl k hk).1, fun u hu e => (k6 u hu vb e).2 rfl⟩⟩
  · have h := SD.byD (G := fun _ => False) (N := fun _ => False) h1 h2 h3 h4 h5 h6 h7 g1 (g2.mono fun _ _ => .inl) g3 (fun _ => False.elim) fun _ => False.elim
    exact ⟨keep_all h.2, .inr ⟨ho, rfl, h.1.mono fun _ => .inl⟩⟩
theorem sd_xopen : Calls Try.prog 21 #[.pointer (some ⟨a', 0, none⟩)] w fun e w' => Keep K w w' ∧
    (((openD y).1 = 0 ∧ ∃ vb v' vs, e = .returned (.tuple #[.pointer (some ⟨vb, 0, none⟩), v', .int .i64 0]) ∧ SD w0 (fun k => K k ∨ newB vb v' vs k) w' a a' x (openD y).2 ∧ w'.heap[vb]? = some (docO a' (recs y.l).1.length false) ∧ OwnRows w.heap.size w' v' vs (recs y.l).1 ∧ (∀ k, newB vb v' vs k → w.heap.size ≤ k) ∧ (∀ u ∈ vs, u.ownBlock ≠ some vb)) ∨
    ((openD y).1 ≠ 0 ∧ e = .returned (.tuple #[.pointer none, .slice none 0 0, .int .i64 (openD y).1]) ∧ SD w0 K w' a a' x (openD y).2)) := by
  obtain ⟨F, F', h1, h2, h3, h4, h5, h6, h7⟩ := h
  refine (dopen_walk h2).mono ?_
  rintro e w' ⟨F1, g1, g2, g3, g4⟩
  rcases g4 with ⟨ho, vb, v', vs, rfl, k1, k2, k3, k4, k5, k6⟩ | ⟨ho, rfl⟩
  · have hnl := new_lt k4 k2 (lt_of_heap k1)
    have h := SD.byR (G := fun _ => False) (N := newB vb v' vs) h1 h2 h3 h4 h5 h6 h7 g1 (g2.mono fun _ _ => .inl) g3 (fun _ => False.elim) fun k hk => ⟨(hnl k hk).1, (hnl k hk).2, by
      rcases hk with rfl | hk | ⟨u, hu, hk⟩
      · exact k3
      · exact (k5 k hk).1
      · exact (k6 u hu k hk).1⟩
    exact ⟨keep_all h.2, .inl ⟨ho, vb, v', vs, rfl, h.1, k1, k4, fun k hk => (hnl k hk).1, fun u hu e => (k6 u hu vb e).2 rfl⟩⟩
  · have h := SD.byR (G := fun _ => False) (N := fun _ => False) h1 h2 h3 h4 h5 h6 h7 g1 (g2.mono fun _ _ => .inl) g3 (fun _ => False.elim) fun _ => False.elim
    exact ⟨keep_all h.2, .inr ⟨ho, rfl, h.1.mono fun _ => .inl⟩⟩
theorem sd_tells : y = x → Calls Try.prog 11 #[.pointer (some ⟨a, 0, none⟩), .pointer (some ⟨a', 0, none⟩)] w fun e w' => e = .returned (.bool true) ∧ Ext (fun _ => False) w w' := by
  rintro rfl
  obtain ⟨F, F', h1, h2, _⟩ := h
  exact tells_walk h1 h2
end
end Go.Proofs.Ytebcpacenoedfaa
