/- Rows that are kept while the disk changes; votes whose disk leaves blocks alone; no condition. -/
import Derived.Test.YtebcpacenoedfaaVoteLast0
import Derived.Test.YtebcpacenoedfaaSameRow
import Derived.Maps.AppendAt
namespace Go.Proofs.Ytebcpacenoedfaa
set_option linter.unusedVariables false
set_option linter.unusedSimpArgs false
open Go.RowKit

/-- The blocks K hold what they held. -/
def Keep (K : Nat → Prop) (w w' : World) : Prop := w.heap.size ≤ w'.heap.size ∧ ∀ k, K k → w'.heap[k]? = w.heap[k]?
theorem Keep.refl (K : Nat → Prop) (w : World) : Keep K w w := ⟨Nat.le_refl _, fun _ _ => rfl⟩
theorem Keep.trans {K : Nat → Prop} {w w1 w2 : World} (h : Keep K w w1) (k : Keep K w1 w2) : Keep K w w2 := ⟨Nat.le_trans h.1 k.1, fun b hb => (k.2 b hb).trans (h.2 b hb)⟩
theorem Keep.mono {K K' : Nat → Prop} {w w' : World} (h : Keep K w w') (hK : ∀ k, K' k → K k) : Keep K' w w' := ⟨h.1, fun k hk => h.2 k (hK k hk)⟩
theorem Ext.kept {F K : Nat → Prop} {w w' : World} (h : Ext F w w') (hK : ∀ k, K k → k < w.heap.size ∧ ¬ F k) : Keep K w w' := ⟨h.size, fun k hk => h.block k (hK k hk).1 (hK k hk).2⟩
theorem Byt.kept {D : Nat → Prop} {w w' : World} {v : Value} {l : Bs} (h : Byt D w v l) (hk : Keep D w w') : Byt D w' v l := by
  obtain ⟨A, c, rfl, hc, h⟩ := h
  refine ⟨A, c, rfl, hc, fun hl => ?_⟩
  obtain ⟨ad, rfl, hd, hcell⟩ := h hl
  refine ⟨ad, rfl, hd, fun j u hu => ?_⟩
  rw [← hcell j u hu]
  exact World.cell?_of_block (by rw [block_add]; exact hk.2 _ hd)

/-- A row of byte slices in a block of the call's own; the bytes lie in the blocks G. -/
def SRow (N : Nat) (G : Nat → Prop) (w : World) (v : Value) (ls : List Bs) : Prop :=
  ∃ vs, w.ownsRow N 36 1 v ls.length vs ∧ vs.length = ls.length ∧ ∀ (i : Nat) (u : Value) (l : Bs), vs[i]? = some u → ls[i]? = some l → Byt G w u l
theorem SRow.nil (N : Nat) (G : Nat → Prop) (w : World) : SRow N G w (.slice none 0 0) [] := ⟨[], ⟨by simp, .inl ⟨rfl, rfl⟩⟩, rfl, by simp⟩
theorem SRow.mono {N : Nat} {G G' : Nat → Prop} {w : World} {v : Value} {ls : List Bs} (h : SRow N G w v ls) (hG : ∀ k, G k → G' k) : SRow N G' w v ls := by
  obtain ⟨vs, h1, h2, h3⟩ := h
  exact ⟨vs, h1, h2, fun i u l hu hl => (h3 i u l hu hl).mono hG⟩
theorem SRow.kept {N : Nat} {G K : Nat → Prop} {w w' : World} {v : Value} {ls : List Bs} (h : SRow N G w v ls) (hk : Keep K w w') (hG : ∀ k, G k → K k) (hv : ∀ k, v.ownBlock = some k → K k) : SRow N G w' v ls := by
  obtain ⟨vs, h1, h2, h3⟩ := h
  refine ⟨vs, ⟨h1.1, ?_⟩, h2, fun i u l hu hl => (h3 i u l hu hl).kept (hk.mono hG)⟩
  rcases h1.2 with h | ⟨g, cap, cur, rfl, hg, hh, r⟩
  · exact .inl h
  · exact .inr ⟨g, cap, cur, rfl, hg, (hk.2 g (hv g rfl)).trans hh, r⟩
theorem SRow.form {N : Nat} {G : Nat → Prop} {w : World} {v : Value} {ls : List Bs} (h : SRow N G w v ls) : ∃ A c, v = .slice A ls.length c := by
  obtain ⟨vs, h1, _⟩ := h
  exact own_slice_form h1
theorem SRow.lt {N : Nat} {G : Nat → Prop} {w : World} {v : Value} {ls : List Bs} (h : SRow N G w v ls) : ∀ k, v.ownBlock = some k → N ≤ k ∧ k < w.heap.size := by
  obtain ⟨vs, h1, _⟩ := h
  exact fun k hk => ⟨own_from h1 k hk, own_below h1 k hk⟩
theorem SRow.byts {N : Nat} {G : Nat → Prop} {w : World} {v : Value} {ls : List Bs} (h : SRow N G w v ls) : Byts (fun _ => True) w v ls := by
  obtain ⟨vs, h1, h2, h3⟩ := h
  rcases h1.2 with ⟨rfl, h4⟩ | ⟨g, cap, cur, rfl, hg, hh, hn, hc, hs, ht⟩
  · obtain rfl := List.eq_nil_of_length_eq_zero h4
    exact ⟨none, 0, rfl, Nat.le_refl _, fun h => absurd rfl h⟩
  · refine ⟨_, cap, rfl, hn, fun _ => ⟨g, 0, rfl, trivial, fun i l hl => ?_⟩⟩
    have hi := (List.getElem?_eq_some_iff.1 hl).1
    have hu : vs[i]? = some vs[i] := List.getElem?_eq_getElem (by omega)
    refine ⟨vs[i], ?_, (h3 i _ l hu hl).mono fun _ _ => trivial⟩
    rw [cells_at hh, ← hu, ← ht, List.getElem?_take_of_lt (by omega)]
    simp
/-- Rows are put behind a row of the call's own. -/
theorem run_append_rows {P : Program} (w : World) (t ty : TypeId) (ht : P.underlying t = some (.slice 36)) (hi : (P.info? 36).map (fun i => (i.zero, i.size, i.bytes)) = some (some (.slice none 0 0), 1, 24))
    {N : Nat} {G D : Nat → Prop} {v x : Value} {S ls : List Bs} (hs : SRow N G w v S) (hx : Byts D w x ls) (hlen : S.length + ls.length ≤ 8388608) (hN : N ≤ w.heap.size) (hG : ∀ k, G k → k < w.heap.size ∧ v.ownBlock ≠ some k) (hD : ∀ k, D k → G k) :
    ∃ v' w', (Builtin.append_ #[t, t] ty #[v, x]).run P w = .ok v' w' ∧ SRow N G w' v' (S ++ ls) ∧ Ext (fun k => v.ownBlock = some k) w w' ∧ (v'.ownBlock = v.ownBlock ∨ v'.ownBlock = some w.heap.size) := by
  obtain ⟨i, hi1, hi2⟩ := Option.map_eq_some_iff.1 hi
  simp only [Prod.mk.injEq] at hi2
  obtain ⟨z1, z2, z3⟩ := hi2
  obtain ⟨A, c, rfl, hc, hat⟩ := hx
  obtain ⟨vs, h1, h2, h3⟩ := id hs
  by_cases hm : ls = []
  · subst hm
    obtain ⟨sA, sc, rfl⟩ := own_slice_form h1
    refine ⟨_, _, run_append_nothing w t ty _ i ht hi1 sA S.length sc ?_ ?_ A c, by rw [List.append_nil]; exact hs, Ext.refl _ _, .inl rfl⟩
    · rcases h1.2 with ⟨h4, h5⟩ | ⟨g, cap, cur, h4, _, _, hn, _⟩
      · omega
      · simp only [Value.slice.injEq] at h4
        omega
    · intro a ha
      subst ha
      rcases h1.2 with ⟨h4, h5⟩ | ⟨g, cap, cur, h4, _, _, hn, _⟩
      · simp at h4
      · simp only [Value.slice.injEq, Option.some.injEq] at h4
        rw [h4.1]
  · have hpos := List.length_pos_iff.2 hm
    obtain ⟨gx, ox, rfl, hDx, hcell⟩ := hat hm
    obtain ⟨us, hul, hus⟩ := exists_list (p := fun i u => w.cell? ⟨gx, ox + i, none⟩ = some u ∧ ∀ y, ls[i]? = some y → Byt D w u y) ls.length (fun i hi => by
      obtain ⟨u, h1, h2⟩ := hcell i _ (List.getElem?_eq_getElem hi)
      rw [Nat.mul_one] at h1
      exact ⟨u, h1, fun y hy => by rw [List.getElem?_eq_getElem hi] at hy; obtain rfl := Option.some.inj hy; exact h2⟩)
    have hone : ∀ u ∈ us, u.oneCell' = true := fun u hu => by
      obtain ⟨j, hj, rfl⟩ := List.mem_iff_getElem.1 hu
      obtain ⟨_, h5⟩ := hus j _ (List.getElem?_eq_getElem hj)
      obtain ⟨A', c', e, _⟩ := h5 _ (List.getElem?_eq_getElem (by rw [← hul]; exact hj))
      rw [e]
      simp [Value.oneCell']
    obtain ⟨v', w', hr, k1, k2, _, k4⟩ := run_append_own_at (P := P) w N t ty _ i _ 1 24 ht hi1 z1 z2 z3 rfl (by decide) v S.length vs h1 ⟨gx, ox, none⟩ ls.length c us (by simp [hul])
      (fun j u hu => by
        have ha : (⟨gx, ox, none⟩ : Addr).add j = ⟨gx, ox + j, none⟩ := by unfold Addr.add; split <;> simp_all
        rw [ha]
        exact (hus j u hu).1) hone (by unfold maxLen; omega) (by omega) hN
    have hx : Ext (fun k => v.ownBlock = some k) w w' := ⟨k2.os, k2.tape, k2.output, k2.size, fun k hk hn => k2.block k hk fun e => hn e.symm⟩
    have hkp : Keep G w w' := hx.kept fun k hk => hG k hk
    refine ⟨v', w', hr, ⟨vs ++ us, by simpa using k1, by simp [h2, hul], fun j u l hu hl => ?_⟩, hx, k4⟩
    by_cases hj : j < vs.length
    · rw [List.getElem?_append_left hj] at hu
      rw [List.getElem?_append_left (by omega)] at hl
      exact (h3 j u l hu hl).kept hkp
    · rw [List.getElem?_append_right (by omega)] at hu
      rw [List.getElem?_append_right (by omega), ← h2] at hl
      exact (((hus _ u hu).2 l hl).mono hD).kept hkp
section
variable {P : Program} {w : World} {ops : Array Oper} {rest : List Oper} {o : Oper} {a : Act} {Q : Exit → Act → World → Prop}
theorem wpList_append_rows (hgd : o.guard = none) (s x : Operand) (t : TypeId)
    (ho : o.op = .call { callee := .builtin .append, args := #[s, x], argTypes := #[t, t] })
    (ht : P.underlying t = some (.slice 36)) (hi : (P.info? 36).map (fun i => (i.zero, i.size, i.bytes)) = some (some (.slice none 0 0), 1, 24))
    {N : Nat} {G D : Nat → Prop} {sv xv : Value} {S ls : List Bs} (hs : a.eval s = sv) (hxv : a.eval x = xv) (hS : SRow N G w sv S) (hx : Byts D w xv ls) (hlen : S.length + ls.length ≤ 8388608) (hN : N ≤ w.heap.size) (hG : ∀ k, G k → k < w.heap.size ∧ sv.ownBlock ≠ some k) (hD : ∀ k, D k → G k)
    (next : ∀ v' w', SRow N G w' v' (S ++ ls) → Ext (fun k => sv.ownBlock = some k) w w' → (v'.ownBlock = sv.ownBlock ∨ v'.ownBlock = some w.heap.size) → wpList P ops Q rest (a.put o.dst v') w') : wpList P ops Q (o :: rest) a w := by
  obtain ⟨v', w', hr, h1, h2, h3⟩ := run_append_rows (P := P) w t o.type ht hi hS hx hlen hN hG hD
  refine wpList_val hgd (w' := w') (v := v') ?_ (next v' w' h1 h2 h3)
  unfold execOp
  simp only [ho, resolve, invoke, builtin, Sem.run_bind, Sem.run_pure, Result.andThen_ok, List.map_toArray, List.map_cons, List.map_nil, hs, hxv, hr]
end

/-- Votes and their disk, made since w0, apart from the blocks K. -/
def VH (w0 : World) (K : Nat → Prop) (w : World) (a va : Nat) (x : Dk) (n sz : Nat) (bad : Bool) : Prop :=
  ∃ F, DRep F w a x ∧ Ext (fun _ => False) w0 w ∧ (∀ k, F k → w0.heap.size ≤ k) ∧ w.heap[va]? = some (voteO a n sz bad) ∧ ¬ F va ∧ w0.heap.size ≤ va ∧ ∀ k, K k → k < w.heap.size ∧ ¬ F k ∧ k ≠ va
section
variable {w0 w w' : World} {K : Nat → Prop} {a va : Nat} {x y : Dk} {n sz : Nat} {bad : Bool}
theorem VH.old (h : VH w0 K w a va x n sz bad) : Ext (fun _ => False) w0 w := by
  obtain ⟨F, _, h2, _⟩ := h
  exact h2
theorem VH.lt (h : VH w0 K w a va x n sz bad) : ∀ k, K k → k < w.heap.size := by
  obtain ⟨F, _, _, _, _, _, _, h7⟩ := h
  exact fun k hk => (h7 k hk).1
theorem VH.mono {K' : Nat → Prop} (h : VH w0 K w a va x n sz bad) (hK : ∀ k, K' k → K k) : VH w0 K' w a va x n sz bad := by
  obtain ⟨F, h1, h2, h3, h4, h5, h6, h7⟩ := h
  exact ⟨F, h1, h2, h3, h4, h5, h6, fun k hk => h7 k (hK k hk)⟩
/-- What is new, or was kept, may be written or kept more. -/
theorem VH.more {J K' : Nat → Prop} (h : VH w0 K w a va x n sz bad) (hx : Ext J w w') (hJ : ∀ k, J k → K k ∧ w0.heap.size ≤ k) (hK : ∀ k, K' k → K k ∨ w.heap.size ≤ k ∧ k < w'.heap.size) : VH w0 K' w' a va x n sz bad := by
  obtain ⟨F, h1, h2, h3, h4, h5, h6, h7⟩ := h
  have hl := lt_of_heap h4
  refine ⟨F, h1.keep hx fun k hk hj => (h7 k (hJ k hj).1).2.1 hk, h2.trans' hx fun b hb => .inr (hJ b hb).2, h3, hx.heap h4 fun hj => (h7 va (hJ va hj).1).2.2 rfl, h5, h6, fun k hk => ?_⟩
  rcases hK k hk with hk | ⟨k1, k2⟩
  · exact ⟨Nat.lt_of_lt_of_le (h7 k hk).1 hx.size, (h7 k hk).2⟩
  · exact ⟨k2, fun hf => by have := h1.lt k hf; omega, by omega⟩
theorem VH.ext (h : VH w0 K w a va x n sz bad) (hx : Ext (fun _ => False) w w') : VH w0 K w' a va x n sz bad := h.more hx (fun _ => False.elim) fun _ hk => .inl hk
theorem VH.keep (h : VH w0 K w a va x n sz bad) (hx : Ext (fun _ => False) w w') : Keep K w w' := hx.kept fun k hk => ⟨h.lt k hk, id⟩
theorem VH.disk (h : VH w0 K w a va x n sz bad) : DInv w0 w a x := by
  obtain ⟨F, h1, h2, h3, _⟩ := h
  exact ⟨F, h1, h2, h3⟩
theorem VH.dpost {F : Nat → Prop} (h1 : DRep F w a x) (h2 : Ext (fun _ => False) w0 w) (h3 : ∀ k, F k → w0.heap.size ≤ k) (h4 : w.heap[va]? = some (voteO a n sz bad)) (h5 : ¬ F va) (h6 : w0.heap.size ≤ va) (h7 : ∀ k, K k → k < w.heap.size ∧ ¬ F k ∧ k ≠ va) (hp : DPost F w a y w') :
    VH w0 K w' a va y n sz bad ∧ Keep K w w' := by
  obtain ⟨F', g1, g2, g3⟩ := hp
  have hl := lt_of_heap h4
  refine ⟨⟨F', g1, h2.trans' g2 fun b hb => .inr (h3 b hb), fun k hk => (g3 k hk).elim (h3 k) fun h => Nat.le_trans h2.size h, g2.heap h4 h5, fun h => ?_, h6, fun k hk => ⟨Nat.lt_of_lt_of_le (h7 k hk).1 g2.size, fun h => ?_, (h7 k hk).2.2⟩⟩, g2.kept fun k hk => ⟨(h7 k hk).1, (h7 k hk).2.1⟩⟩
  · rcases g3 va h with h | h
    · exact h5 h
    · omega
  · have := (h7 k hk).1
    rcases g3 k h with h | h
    · exact (h7 k hk).2.1 h
    · omega
theorem vh_arm (h : VH w0 K w a va x n sz bad) (m l : Int) (hm : m ≤ 9223372036854775807) : Calls Try.prog 15 #[.pointer (some ⟨a, 0, none⟩), .int .i64 m, .int .i64 l] w fun e w' => e = .returned (.tuple #[]) ∧ VH w0 K w' a va (armD m l x) n sz bad ∧ Keep K w w' := by
  obtain ⟨F, h1, h2, h3, h4, h5, h6, h7⟩ := h
  exact (power_arm h1 m l hm).mono fun e w' ⟨he, hp⟩ => ⟨he, VH.dpost h1 h2 h3 h4 h5 h6 h7 hp⟩
theorem vh_boot (h : VH w0 K w a va x n sz bad) (m : Int) : Calls Try.prog 16 #[.pointer (some ⟨a, 0, none⟩), .int .i64 m] w fun e w' => e = .returned (.tuple #[]) ∧ VH w0 K w' a va (bootD m x) n sz bad ∧ Keep K w w' := by
  obtain ⟨F, h1, h2, h3, h4, h5, h6, h7⟩ := h
  exact (disk_boot h1 m).mono fun e w' ⟨he, hp⟩ => ⟨he, VH.dpost h1 h2 h3 h4 h5 h6 h7 hp⟩
theorem vh_put (h : VH w0 K w a va x n sz bad) {D : Nat → Prop} {v : Value} {ls : List Bs} (hb : Byts D w v ls) (hl : ls.length ≤ 1048576) (hsz : sz ≤ 4194304) (hn : n ≤ 4611686018427387904) :
    Calls Try.prog 13 #[.pointer (some ⟨va, 0, none⟩), v] w fun e w' => e = .returned (.int .i64 (putR x n sz bad ls).e) ∧ VH w0 K w' a va (putR x n sz bad ls).x (putR x n sz bad ls).n (putR x n sz bad ls).sz (putR x n sz bad ls).bad ∧ Keep K w w' := by
  obtain ⟨F, h1, h2, h3, h4, h5, h6, h7⟩ := h
  refine (put_rec h1 h4 h5 hb hl hsz hn).mono ?_
  rintro e w' ⟨F', g1, g2, g3, g4, g5, rfl⟩
  refine ⟨rfl, ⟨F', g1, h2.trans' g2 fun b hb => .inr (hb.elim (h3 b) fun e => e ▸ h6), fun k hk => (g3 k hk).elim (h3 k) fun h => Nat.le_trans h2.size h, g5, g4, h6, fun k hk => ⟨Nat.lt_of_lt_of_le (h7 k hk).1 g2.size, fun h => ?_, (h7 k hk).2.2⟩⟩, g2.kept fun k hk => ⟨(h7 k hk).1, fun h => h.elim (h7 k hk).2.1 (h7 k hk).2.2⟩⟩
  have := (h7 k hk).1
  rcases g3 k h with h | h
  · exact (h7 k hk).2.1 h
  · omega
/-- It is opened: new votes; the rows that are found lie in new blocks G, behind a block of their own. -/
theorem vh_open (h : VH w0 K w a va x n sz bad) (ho : (openD x).1 = 0) : Calls Try.prog 12 #[.pointer (some ⟨a, 0, none⟩)] w fun e w' => ∃ vb A c G, e = .returned (.tuple #[.pointer (some ⟨vb, 0, none⟩), .slice A (recs x.l).1.length c, .int .i64 0]) ∧
    VH w0 (fun k => K k ∨ G k ∨ (Value.slice A (recs x.l).1.length c).ownBlock = some k) w' a vb (openD x).2 (recs x.l).1.length (recs x.l).2 false ∧ Keep K w w' ∧ SRow w0.heap.size G w' (.slice A (recs x.l).1.length c) (recs x.l).1 ∧
    (∀ k, G k → w.heap.size ≤ k ∧ (Value.slice A (recs x.l).1.length c).ownBlock ≠ some k) ∧ ∀ k, (Value.slice A (recs x.l).1.length c).ownBlock = some k → w.heap.size ≤ k := by
  obtain ⟨F, h1, h2, h3, h4, h5, h6, h7⟩ := h
  refine (open_walk h1).mono ?_
  rintro e w' ⟨F', g1, g2, g3, g4⟩
  rcases g4 with ⟨_, vb, v', vs, rfl, k1, k2, k3, k4, k5, k6⟩ | ⟨k, _⟩
  · obtain ⟨A, c, rfl⟩ := own_slice_form k4.row
    have hsz := h2.size
    have hbl := lt_of_heap k1
    have hown := fun k hk => own_below k4.row k hk
    have hownf := fun k hk => own_from k4.row k hk
    have hvs : ∀ u ∈ vs, ∀ k, u.ownBlock = some k → w.heap.size ≤ k ∧ k < w'.heap.size ∧ (Value.slice A (recs x.l).1.length c).ownBlock ≠ some k := fun u hu k hk => by
      obtain ⟨i, hi, he⟩ := List.mem_iff_getElem.1 hu
      have hi2 : vs[i]? = some u := by rw [List.getElem?_eq_getElem hi, he]
      have hob := k4.each i u _ hi2 (List.getElem?_eq_getElem (by rw [← k4.len]; exact hi))
      refine ⟨k4.from_ i u k hi2 hk, hob.lt k hk, fun e => ?_⟩
      obtain ⟨cs, hcs⟩ := own_ty k4.row k e
      obtain ⟨cs', fr, hcs'⟩ := hob.ty k hk
      rw [hcs] at hcs'
      simp at hcs'
    refine ⟨vb, A, c, fun k => ∃ u ∈ vs, u.ownBlock = some k, rfl, ⟨F', g1, h2.trans' g2 fun b hb => .inr (h3 b hb), fun k hk => (g3 k hk).elim (h3 k) fun h => Nat.le_trans h2.size h, k1, k3, by omega, fun k hk => ?_⟩, g2.kept fun k hk => ⟨(h7 k hk).1, (h7 k hk).2.1⟩,
      ⟨vs, ⟨k4.row.1, ?_⟩, k4.len, fun i u l hu hl => (k4.each i u l hu hl).byt.mono fun k hk => ⟨u, List.mem_of_getElem? hu, hk⟩⟩, ?_, hownf⟩
    · rcases hk with hk | ⟨u, hu, hk⟩ | hk
      · have h8 := (h7 k hk).1
        exact ⟨Nat.lt_of_lt_of_le h8 g2.size, fun hf => (g3 k hf).elim (h7 k hk).2.1 fun h => by omega, by omega⟩
      · exact ⟨(hvs u hu k hk).2.1, k6 u hu k hk⟩
      · exact ⟨hown k hk, k5 k hk⟩
    · rcases k4.row.2 with h | ⟨g, cap, cur, h8, hg, r⟩
      · exact .inl h
      · exact .inr ⟨g, cap, cur, h8, by omega, r⟩
    · rintro k ⟨u, hu, hk⟩
      exact ⟨(hvs u hu k hk).1, (hvs u hu k hk).2.2⟩
  · exact absurd ho k
end
end Go.Proofs.Ytebcpacenoedfaa
