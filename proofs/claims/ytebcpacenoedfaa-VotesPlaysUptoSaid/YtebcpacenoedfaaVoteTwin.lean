/- An act on both sides; no condition. -/
import Derived.Test.YtebcpacenoedfaaVoteOpens
import Derived.Test.YtebcpacenoedfaaVoteLast2
namespace Go.Proofs.Ytebcpacenoedfaa
set_option linter.unusedVariables false
set_option linter.unusedSimpArgs false
open Go.RowKit

theorem append_l {m : Bs} {x : Dk} (h : (appendD m x).1 = 0) : (appendD m x).2.l = x.l ++ m := by
  unfold appendD at *
  by_cases h1 : x.off = true
  · rw [if_pos h1] at h
    exact absurd (show (18 : Int) = 0 from h) (by decide)
  · rw [if_neg h1] at h ⊢
    by_cases h2 : 4194304 - x.l.length < m.length
    · rw [if_pos h2] at h
      exact absurd (show (16 : Int) = 0 from h) (by decide)
    · rw [if_neg h2] at h ⊢
      by_cases h3 : (goesD x).1 = true
      · rw [if_pos h3]
      · rw [if_neg h3] at h
        exact absurd (show (18 : Int) = 0 from h) (by decide)
theorem joinS_few {ls : List Bs} (h : anyLong ls = false) : ls.length ≤ (joinS ls).length := by
  have ha : ∀ l ∈ ls, l.length ≤ 65536 := by
    rw [anyLong, List.any_eq_false] at h
    intro l hl
    have := h l hl
    simp at this
    omega
  rw [joinS_ok ha]
  exact flat_few ls
/-- What both sides' Put do is alike. -/
theorem put_twin {x : Dk} {n sz : Nat} {bad : Bool} {ls : List Bs} (hn : n ≤ sz) (hs : sz ≤ 4194304) (hb : bad = false → sz = x.l.length) :
    (putR x n x.l.length bad ls).e = (putR x n sz bad ls).e ∧ (putR x n x.l.length bad ls).x = (putR x n sz bad ls).x ∧ (putR x n x.l.length bad ls).n = (putR x n sz bad ls).n ∧ (putR x n x.l.length bad ls).bad = (putR x n sz bad ls).bad ∧
    (putR x n sz bad ls).n ≤ (putR x n sz bad ls).sz ∧ (putR x n sz bad ls).sz ≤ 4194304 ∧ ((putR x n sz bad ls).bad = false → (putR x n sz bad ls).sz = (putR x n sz bad ls).x.l.length) := by
  cases bad with
  | true =>
    simp only [putR, if_pos]
    exact ⟨trivial, trivial, trivial, trivial, hn, hs, fun h => by cases h⟩
  | false =>
    have hsz := hb rfl
    rw [← hsz]
    refine ⟨rfl, rfl, rfl, rfl, ?_⟩
    unfold putR
    rw [if_neg (by decide)]
    by_cases h1 : anyLong ls = true
    · rw [if_pos h1]
      exact ⟨hn, hs, fun _ => hsz⟩
    · rw [if_neg h1]
      have hf := joinS_few (by simpa using h1)
      by_cases h2 : ls.length = 0
      · rw [if_pos h2]
        exact ⟨hn, hs, fun _ => hsz⟩
      · rw [if_neg h2]
        by_cases h3 : 4194304 - sz < (joinS ls).length
        · rw [if_pos h3]
          exact ⟨hn, hs, fun _ => hsz⟩
        · rw [if_neg h3]
          by_cases h4 : (apS (joinS ls) x).1 = 0
          · rw [if_pos h4]
            refine ⟨by show n + ls.length ≤ sz + (joinS ls).length; omega, by show sz + (joinS ls).length ≤ _; omega, fun _ => ?_⟩
            show sz + (joinS ls).length = (apS (joinS ls) x).2.l.length
            unfold apS at *
            by_cases h5 : (appendD (joinS ls) x).1 = 0
            · rw [if_pos h5, sync_l, append_l h5, List.length_append, hsz]
            · rw [if_neg h5] at h4
              exact absurd h4 h5
          · rw [if_neg h4]
            exact ⟨hn, hs, fun h => by cases h⟩

/-- Lent bytes, each in its own block. -/
def LR (N : Nat) (w : World) (vs : List Value) (ls : List Bs) : Prop := ∀ (i : Nat) (u : Value) (l : Bs), vs[i]? = some u → ls[i]? = some l → ∃ g, u = lentV g l ∧ LentB w g l ∧ N ≤ g
theorem LR.snoc {N : Nat} {w w' : World} {v u : Value} {vs : List Value} {ls : List Bs} {l : Bs} (h : LR N w vs ls) (hr : OwnRows N w v vs ls) (hx : Ext (fun k => v.ownBlock = some k) w w') {g : Nat} (hu : u = lentV g l) (hg : LentB w' g l) (hN : N ≤ g) : LR N w' (vs ++ [u]) (ls ++ [l]) := by
  intro i u' l' hi hl
  have hlen := hr.len
  by_cases hlt : i < vs.length
  · rw [List.getElem?_append_left hlt] at hi
    rw [List.getElem?_append_left (by omega)] at hl
    obtain ⟨g', e, h1, h2⟩ := h i u' l' hi hl
    refine ⟨g', e, h1.ext hx fun hk => ?_, h2⟩
    obtain ⟨cs, hcs⟩ := own_ty hr.row g' hk
    obtain ⟨cells, hc, _⟩ := h1
    rw [hcs] at hc
    simp at hc
  · have h1 := (List.getElem?_eq_some_iff.1 hi).1
    simp at h1
    have : i = vs.length := by omega
    subst this
    rw [List.getElem?_append_right (Nat.le_refl _)] at hi
    rw [List.getElem?_append_right (by omega), hlen] at hl
    simp at hi hl
    subst hi hl
    exact ⟨g, hu, hg, hN⟩
theorem LR.keptK {N : Nat} {K : Nat → Prop} {w w' : World} {vs : List Value} {ls : List Bs} (h : LR N w vs ls) (hk : Keep K w w') (hu : ∀ u ∈ vs, ∀ k, u.ownBlock = some k → K k) : LR N w' vs ls := by
  intro i u l hi hl
  obtain ⟨g, e, h1, h2⟩ := h i u l hi hl
  exact ⟨g, e, h1.same (hk.2 g (hu u (List.mem_of_getElem? hi) g (by rw [e]; rfl))), h2⟩
theorem side_cell {w : World} {bs a a' : Nat} {vp yp : Value} (h : w.heap[bs]? = some (sideO a a' vp yp)) :
    w.cell? ⟨bs, 0, none⟩ = some (.pointer (some ⟨a, 0, none⟩)) ∧ w.cell? ⟨bs, 1, none⟩ = some (.pointer (some ⟨a', 0, none⟩)) ∧ w.cell? ⟨bs, 2, none⟩ = some vp ∧ w.cell? ⟨bs, 3, none⟩ = some yp :=
  ⟨cells_at h 0, cells_at h 1, cells_at h 2, cells_at h 3⟩
theorem ne_heap {w : World} {p q : Nat} {o o' : Obj} (hp : w.heap[p]? = some o) (hq : w.heap[q]? = some o') (h : o ≠ o') : p ≠ q := by
  rintro rfl
  exact h (Option.some.inj (hp.symm.trans hq))
def rblk (v : Value) (vs : List Value) (k : Nat) : Prop := v.ownBlock = some k ∨ ∃ u ∈ vs, u.ownBlock = some k
theorem rblk_lt {N : Nat} {w : World} {v : Value} {vs : List Value} {ls : List Bs} (hr : OwnRows N w v vs ls) : ∀ k, rblk v vs k → N ≤ k ∧ k < w.heap.size := by
  rintro k (hk | ⟨u, hu, hk⟩)
  · exact ⟨own_from hr.row k hk, own_below hr.row k hk⟩
  · obtain ⟨i, hi, he⟩ := List.mem_iff_getElem.1 hu
    have hi2 : vs[i]? = some u := by rw [List.getElem?_eq_getElem hi, he]
    exact ⟨hr.from_ i u k hi2 hk, (hr.each i u _ hi2 (List.getElem?_eq_getElem (by rw [← hr.len]; exact hi))).lt k hk⟩
/-- What stands in an act of both sides: the disks, the votes, the side itself, the act's copy o. -/
structure PA (w0 : World) (K : Nat → Prop) (w : World) (a a' bs b va ya : Nat) (o : Obj) (x y : Dk) (n sz n' : Nat) (bad bad' : Bool) : Prop where
  sd : SD w0 K w a a' x y
  kb : K b
  ks : K bs ∧ w0.heap.size ≤ bs
  kv : K va ∧ w0.heap.size ≤ va
  ky : K ya ∧ w0.heap.size ≤ ya
  ob : w.heap[b]? = some o
  os : w.heap[bs]? = some (sideO a a' (.pointer (some ⟨va, 0, none⟩)) (.pointer (some ⟨ya, 0, none⟩)))
  ov : w.heap[va]? = some (voteO a n sz bad)
  oy : w.heap[ya]? = some (docO a' n' bad')
section
variable {w0 w w' : World} {K : Nat → Prop} {a a' bs b va ya : Nat} {o : Obj} {x y : Dk} {n sz n' : Nat} {bad bad' : Bool}
theorem PA.ext (h : PA w0 K w a a' bs b va ya o x y n sz n' bad bad') (hx : Ext (fun _ => False) w w') : PA w0 K w' a a' bs b va ya o x y n sz n' bad bad' :=
  ⟨h.sd.ext hx, h.kb, h.ks, h.kv, h.ky, hx.heap h.ob id, hx.heap h.os id, hx.heap h.ov id, hx.heap h.oy id⟩
/-- Put, beside lent bytes. -/
theorem pa_put (h : PA w0 K w a a' bs b va ya o x y n sz n' bad bad') (ho : o ≠ voteO a n sz bad) {v : Value} {vs : List Value} {ls : List Bs} {N : Nat} (hD0 : SD w0 (fun k => K k ∨ rblk v vs k) w a a' x y) (hR : OwnRows N w v vs ls) (hLR : LR N w vs ls) (hN : ∀ k, K k → k < N) (hl : ls.length ≤ 1048576) (hsz : sz ≤ 4194304) (hn : n ≤ 4611686018427387904) :
    Calls Try.prog 13 #[.pointer (some ⟨va, 0, none⟩), v] w fun e w' => e = .returned (.int .i64 (putR x n sz bad ls).e) ∧ PA w0 K w' a a' bs b va ya o (putR x n sz bad ls).x y (putR x n sz bad ls).n (putR x n sz bad ls).sz n' (putR x n sz bad ls).bad bad' ∧
      SD w0 (fun k => K k ∨ rblk v vs k) w' a a' (putR x n sz bad ls).x y ∧ OwnRows N w' v vs ls ∧ LR N w' vs ls := by
  have hlt := rblk_lt hR
  have hne : ∀ k, rblk v vs k → k ≠ va := fun k hk e => by
    have := (hlt k hk).1
    have := hN va h.kv.1
    omega
  refine (sd_put (K := fun k => K k ∨ rblk v vs k) hD0 h.ov ⟨.inl h.kv.1, h.kv.2⟩ hR.byts hl hsz hn).mono ?_
  · rintro e w' ⟨he, hD, hk, hv⟩
    refine ⟨he, ⟨hD.mono fun _ => .inl, h.kb, h.ks, h.kv, h.ky, (hk.2 b ⟨.inl h.kb, ne_heap h.ob h.ov ho⟩).trans h.ob, (hk.2 bs ⟨.inl h.ks.1, ne_heap h.os h.ov (by simp [sideO, voteO])⟩).trans h.os, hv, (hk.2 ya ⟨.inl h.ky.1, ne_heap h.oy h.ov (by simp [docO, voteO])⟩).trans h.oy⟩, hD,
      hR.keptK hk (fun k hk => ⟨.inr (.inl hk), hne k (.inl hk)⟩) fun u hu k hk => ⟨.inr (.inr ⟨u, hu, hk⟩), hne k (.inr ⟨u, hu, hk⟩)⟩, hLR.keptK hk fun u hu k hk => ⟨.inr (.inr ⟨u, hu, hk⟩), hne k (.inr ⟨u, hu, hk⟩)⟩⟩
/-- The lent bytes are written all over. -/
theorem pa_owned (h : PA w0 K w a a' bs b va ya o x y n sz n' bad bad') {v : Value} {vs : List Value} {ls : List Bs} {N : Nat} (hD : SD w0 (fun k => K k ∨ rblk v vs k) w a a' x y) (hR : OwnRows N w v vs ls) (hN : ∀ k, K k → k < N) (hN2 : w0.heap.size ≤ N) (hl : ls.length ≤ 1048576) :
    Calls Try.prog 22 #[v] w fun e w' => e = .returned (.bool true) ∧ PA w0 K w' a a' bs b va ya o x y n sz n' bad bad' := by
  have hlt := rblk_lt hR
  refine (owned_walk hR.rows8 (by rw [hR.len]; omega)).mono ?_
  rintro e w' ⟨he, hx⟩
  have hno : ∀ k, K k → ¬ ∃ u ∈ vs, u.ownBlock = some k := fun k hk hu => by
    have := (hlt k (.inr hu)).1
    have := hN k hk
    omega
  exact ⟨he, hD.more hx (fun k hu => ⟨.inr (.inr hu), Nat.le_trans hN2 (hlt k (.inr hu)).1⟩) fun k hk => .inl (.inl hk), h.kb, h.ks, h.kv, h.ky, hx.heap h.ob (hno b h.kb), hx.heap h.os (hno bs h.ks.1), hx.heap h.ov (hno va h.kv.1), hx.heap h.oy (hno ya h.ky.1)⟩
/-- The document's Put. -/
theorem pa_xput (h : PA w0 K w a a' bs b va ya o x y n sz n' bad bad') (ho : o ≠ docO a' n' bad') {D : Nat → Prop} {v : Value} {ls : List Bs} (hb : Byts D w v ls) (hl : ls.length ≤ 1048576) (hn : n' ≤ 4611686018427387904) :
    Calls Try.prog 25 #[.pointer (some ⟨ya, 0, none⟩), v] w fun e w' => e = .returned (.int .i64 (putR y n' y.l.length bad' ls).e) ∧ PA w0 K w' a a' bs b va ya o x (putR y n' y.l.length bad' ls).x n sz (putR y n' y.l.length bad' ls).n bad (putR y n' y.l.length bad' ls).bad := by
  refine (sd_xput h.sd h.oy h.ky hb hl hn).mono ?_
  rintro e w' ⟨he, hD, hk, hv⟩
  exact ⟨he, hD, h.kb, h.ks, h.kv, h.ky, (hk.2 b ⟨h.kb, ne_heap h.ob h.oy ho⟩).trans h.ob, (hk.2 bs ⟨h.ks.1, ne_heap h.os h.oy (by simp [sideO, docO])⟩).trans h.os, (hk.2 va ⟨h.kv.1, ne_heap h.ov h.oy (by simp [docO, voteO])⟩).trans h.ov, hv⟩
end
end Go.Proofs.Ytebcpacenoedfaa
