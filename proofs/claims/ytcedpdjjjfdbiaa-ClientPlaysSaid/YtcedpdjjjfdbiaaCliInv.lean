/- A client with its registry, beside blocks that are kept; the small case; no condition. -/
import Derived.Test.YtcedpdjjjfdbiaaCliRes2
namespace Go.Proofs.Ytcedpdjjjfdbiaa
set_option linter.unusedVariables false
set_option linter.unusedSimpArgs false
open Go.RowKit

def Keep (K : Nat → Prop) (w w' : World) : Prop := w.heap.size ≤ w'.heap.size ∧ ∀ k, K k → w'.heap[k]? = w.heap[k]?
theorem Keep.refl (K : Nat → Prop) (w : World) : Keep K w w := ⟨Nat.le_refl _, fun _ _ => rfl⟩
theorem Keep.trans {K : Nat → Prop} {w w1 w2 : World} (h : Keep K w w1) (k : Keep K w1 w2) : Keep K w w2 := ⟨Nat.le_trans h.1 k.1, fun b hb => (k.2 b hb).trans (h.2 b hb)⟩
theorem Keep.mono {K K' : Nat → Prop} {w w' : World} (h : Keep K w w') (hK : ∀ k, K' k → K k) : Keep K' w w' := ⟨h.1, fun k hk => h.2 k (hK k hk)⟩
theorem Ext.kept {F K : Nat → Prop} {w w' : World} (h : Ext F w w') (hK : ∀ k, K k → k < w.heap.size ∧ ¬ F k) : Keep K w w' := ⟨h.size, fun k hk => h.block k (hK k hk).1 (hK k hk).2⟩
theorem Byt.kept {D : Nat → Prop} {w w' : World} {v : Value} {l : Bs} (h : Byt D w v l) (hk : Keep D w w') : Byt D w' v l := by
  obtain ⟨A, c, rfl, hc, h⟩ := h
  refine ⟨A, c, rfl, hc, fun hl => ?_⟩
  obtain ⟨ad, rfl, hd, hcell⟩ := h hl
  refine ⟨ad, rfl, hd, fun j u hu => ?_⟩
  rw [← hcell j u hu]
  exact World.cell?_of_block (by rw [block_add]; exact hk.2 _ hd)

/-- A client and its registry, made since w0; blocks K are neither's. -/
def CI (w0 : World) (K : Nat → Prop) (w : World) (a r : Nat) (n id : Int) (st : Nat) (L : List (Int × Bs)) : Prop :=
  ∃ F, CAt F w a r n id st L ∧ Ext (fun _ => False) w0 w ∧ (∀ k, F k → w0.heap.size ≤ k) ∧ w0.heap.size ≤ a ∧ ∀ k, K k → k < w.heap.size ∧ ¬ F k ∧ k ≠ a
def RI (w0 w : World) (r : Nat) (L : List (Int × Bs)) : Prop := ∃ F, RegRep F w r L ∧ Ext (fun _ => False) w0 w ∧ ∀ k, F k → w0.heap.size ≤ k
theorem ri_new {w0 w : World} (hx : Ext (fun _ => False) w0 w) : Calls Try.prog 9 #[] w fun e w' => ∃ r, e = .returned (.pointer (some ⟨r, 0, none⟩)) ∧ RI w0 w' r [] :=
  (reg_new w).mono fun e w' ⟨r, F, h1, h2, h3, h4⟩ => ⟨r, h1, F, h2, hx.trans h3, fun k hk => Nat.le_trans hx.size (h4 k hk)⟩
theorem RI.ext {w0 w w' : World} {r : Nat} {L : List (Int × Bs)} (h : RI w0 w r L) (hx : Ext (fun _ => False) w w') : RI w0 w' r L := by
  obtain ⟨F, h1, h2, h3⟩ := h
  exact ⟨F, h1.keep hx fun _ _ => _root_.id, h2.trans hx, h3⟩
theorem RI.old {w0 w : World} {r : Nat} {L : List (Int × Bs)} (h : RI w0 w r L) : Ext (fun _ => False) w0 w := by
  obtain ⟨F, _, h2, _⟩ := h
  exact h2
/-- A client is made. -/
theorem ci_new {w0 w : World} {r : Nat} {L : List (Int × Bs)} (h : RI w0 w r L) (n id : Int) : Calls Try.prog 10 #[.pointer (some ⟨r, 0, none⟩), .int .i64 n, .int .i64 id] w fun e w' =>
    (newOk n id ∧ ∃ a, e = .returned (.tuple #[.pointer (some ⟨a, 0, none⟩), .int .i64 0]) ∧ CI w0 (fun _ => False) w' a r n id 0 L) ∨ (¬ newOk n id ∧ e = .returned (.tuple #[.pointer none, .int .i64 1]) ∧ RI w0 w' r L) := by
  refine (cli_new w r n id).mono ?_
  rintro e w' ⟨hx, ⟨h1, h2, h3⟩ | ⟨h1, h2⟩⟩
  · obtain ⟨F, g1, g2, g3⟩ := h.ext hx
    obtain ⟨F0, k1, k2, k3⟩ := h
    refine .inl ⟨h1, _, h2, F0, ⟨k1.keep hx fun _ _ => _root_.id, h3, fun hf => by have := k1.lt _ hf; omega⟩, k2.trans hx, k3, k2.size, fun k hk => hk.elim⟩
  · exact .inr ⟨h1, h2, h.ext hx⟩
section
variable {w0 w w' : World} {K : Nat → Prop} {a r : Nat} {n id : Int} {st : Nat} {L : List (Int × Bs)}
theorem CI.old (h : CI w0 K w a r n id st L) : Ext (fun _ => False) w0 w := by
  obtain ⟨F, _, h2, _⟩ := h
  exact h2
theorem CI.lt (h : CI w0 K w a r n id st L) : ∀ k, K k → k < w.heap.size := by
  obtain ⟨F, _, _, _, _, h5⟩ := h
  exact fun k hk => (h5 k hk).1
theorem CI.obj (h : CI w0 K w a r n id st L) : w.heap[a]? = some (cliO r n id st) := by
  obtain ⟨F, h1, _⟩ := h
  exact h1.obj
theorem CI.more {J K' : Nat → Prop} (h : CI w0 K w a r n id st L) (hx : Ext J w w') (hJ : ∀ k, J k → K k ∧ w0.heap.size ≤ k) (hK : ∀ k, K' k → K k ∨ w.heap.size ≤ k ∧ k < w'.heap.size) : CI w0 K' w' a r n id st L := by
  obtain ⟨F, h1, h2, h3, h4, h5⟩ := h
  have hal := lt_of_heap h1.obj
  refine ⟨F, ⟨h1.reg.keep hx fun k hk hj => (h5 k (hJ k hj).1).2.1 hk, hx.heap h1.obj fun hj => (h5 a (hJ a hj).1).2.2 rfl, h1.out⟩, h2.trans' hx fun b hb => .inr (hJ b hb).2, h3, h4, fun k hk => ?_⟩
  rcases hK k hk with hk | ⟨k1, k2⟩
  · exact ⟨Nat.lt_of_lt_of_le (h5 k hk).1 hx.size, (h5 k hk).2⟩
  · exact ⟨k2, fun hf => by have := h1.reg.lt k hf; omega, by omega⟩
theorem CI.ext (h : CI w0 K w a r n id st L) (hx : Ext (fun _ => False) w w') : CI w0 K w' a r n id st L := h.more hx (fun _ => False.elim) fun _ hk => .inl hk
theorem CI.keep (h : CI w0 K w a r n id st L) (hx : Ext (fun _ => False) w w') : Keep K w w' := hx.kept fun k hk => ⟨h.lt k hk, _root_.id⟩
variable (h : CI w0 K w a r n id st L)
include h
theorem ci_sign (who : Int) {D : Nat → Prop} {v : Value} {s : Bs} (hv : Byt D w v s) (hlen : L.length < 1073741824) :
    Calls Try.prog 12 #[.pointer (some ⟨r, 0, none⟩), .int .i64 who, v] w fun e w' => e = .returned (.int .i64 (signE who s)) ∧ CI w0 K w' a r n id st (signL who s L) ∧ Keep K w w' := by
  obtain ⟨F, h1, h2, h3, h4, h5⟩ := h
  have hal := lt_of_heap h1.obj
  refine (reg_sign h1.reg who hv hlen).mono ?_
  rintro e w' ⟨he, F', g1, g2, g3⟩
  refine ⟨he, ⟨F', ⟨g1, g2.heap h1.obj h1.out, fun hf => (g3 a hf).elim h1.out fun h => by omega⟩, h2.trans' g2 fun b hb => .inr (h3 b hb), fun k hk => (g3 k hk).elim (h3 k) fun h => Nat.le_trans h2.size h, h4, fun k hk => ⟨Nat.lt_of_lt_of_le (h5 k hk).1 g2.size, fun hf => ?_, (h5 k hk).2.2⟩⟩, g2.kept fun k hk => ⟨(h5 k hk).1, (h5 k hk).2.1⟩⟩
  have := (h5 k hk).1
  rcases g3 k hf with h | h
  · exact (h5 k hk).2.1 h
  · omega
theorem ci_count : Calls Try.prog 26 #[.pointer (some ⟨r, 0, none⟩)] w fun e w' => e = .returned (.int .i64 L.length) ∧ w = w' := by
  obtain ⟨F, h1, _⟩ := h
  exact reg_count h1.reg
theorem ci_knows (who : Int) {D : Nat → Prop} {v : Value} {s : Bs} (hv : Byt D w v s) :
    Calls Try.prog 16 #[.pointer (some ⟨r, 0, none⟩), .int .i64 who, v] w fun e w' => e = .returned (.bool (decide ((who, s) ∈ L))) ∧ Ext (fun _ => False) w w' := by
  obtain ⟨F, h1, _⟩ := h
  exact reg_knows h1.reg who hv
theorem ci_stamp : Calls Try.prog 25 #[.pointer (some ⟨a, 0, none⟩)] w fun e w' => e = .returned (.int .i64 st) ∧ w = w' := cli_stamp h.obj
theorem ci_result (stamp : Int) (hn : newOk n id) (hG : ∀ p ∈ L, p.2.length ≤ 65536) (hL : L.length < 1073741824) :
    Calls Try.prog 14 #[.pointer (some ⟨a, 0, none⟩), .int .i64 stamp] w (ResPost w n (saidR id stamp n.toNat L)) := by
  obtain ⟨F, h1, _⟩ := h
  have h4 : 4 ≤ n := hn.1.1
  have h16 : n ≤ 16 := hn.1.2.1
  have hnn : ((n.toNat : Nat) : Int) = n := by omega
  have := cli_result (m := n.toNat) h1.reg (by rw [hnn]; exact h1.obj) stamp (by omega) hG hL
  rwa [hnn] at this
/-- It asks: what it asked stands in a block of its own. -/
theorem ci_ask (txt : Bs) (hst : st ≤ 1099511627776) (hid : 1 ≤ id ∧ id ≤ 8) (hlen : L.length < 1073741823) :
    Calls Try.prog 20 #[.pointer (some ⟨a, 0, none⟩), str txt] w fun e w' => Keep K w w' ∧
      if rightQ id (st + 1) txt = true then ∃ v', e = .returned (.tuple #[v', .int .i64 0]) ∧ CI w0 (fun k => K k ∨ v'.ownBlock = some k) w' a r n id (st + 1) (signL (16 + id) (askB id (st + 1) txt) L) ∧ OwnB w' v' (askB id (st + 1) txt) ∧ ∀ k, v'.ownBlock = some k → w.heap.size ≤ k
      else e = .returned (.tuple #[.slice none 0 0, .int .i64 1]) ∧ CI w0 K w' a r n id st L := by
  have hk0 := h
  obtain ⟨F, h1, h2, h3, h4, h5⟩ := h
  have hal := lt_of_heap h1.obj
  refine (cli_ask h1 txt hst hid hlen).mono ?_
  intro e w' hp
  unfold AskedPost at hp
  split at hp
  · rename_i hq
    obtain ⟨F', v', he, g1, g2, g3, g4, g5⟩ := hp
    refine ⟨g2.kept fun k hk => ⟨(h5 k hk).1, fun h => h.elim (h5 k hk).2.1 (h5 k hk).2.2⟩, ?_⟩
    rw [if_pos hq]
    refine ⟨v', he, ⟨F', g1, h2.trans' g2 fun b hb => .inr (hb.elim (h3 b) fun e => e ▸ h4), fun k hk => (g3 k hk).elim (h3 k) fun h => Nat.le_trans h2.size h, h4, fun k hk => ?_⟩, g4, fun k hk => (g5 k hk).1⟩
    rcases hk with hk | hk
    · refine ⟨Nat.lt_of_lt_of_le (h5 k hk).1 g2.size, fun hf => ?_, (h5 k hk).2.2⟩
      have := (h5 k hk).1
      rcases g3 k hf with h | h
      · exact (h5 k hk).2.1 h
      · omega
    · have := (g5 k hk).1
      exact ⟨g4.lt k hk, (g5 k hk).2, by omega⟩
  · rename_i hq
    refine ⟨hp.2.kept fun k hk => ⟨(h5 k hk).1, _root_.id⟩, ?_⟩
    rw [if_neg hq]
    exact ⟨hp.1, hk0.ext hp.2⟩
end
end Go.Proofs.Ytcedpdjjjfdbiaa
