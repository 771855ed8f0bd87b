/- Both clients side by side, beside blocks that are kept; no condition. -/
import Derived.Test.YtcedpdjjjfdbiaaCliSmall
import Derived.Test.YtcedpdjjjfdbiaaCliDoc3
import Derived.Test.YtcedpdjjjfdbiaaOwned
namespace Go.Proofs.Ytcedpdjjjfdbiaa
set_option linter.unusedVariables false
set_option linter.unusedSimpArgs false
open Go.RowKit
/-- The client at a and the document's at b, made since w0; blocks K are neither's. -/
def JC (w0 : World) (K : Nat → Prop) (w : World) (a r b s : Nat) (n id : Int) (st : Nat) (L : List (Int × Bs)) (st' : Nat) (L' : List (Int × Bs)) : Prop :=
  ∃ F F', CAt F w a r n id st L ∧ DCt F' w b s n id st' L' ∧ (∀ k, F k → ¬ F' k) ∧ ¬ F b ∧ ¬ F' a ∧ Ext (fun _ => False) w0 w ∧ ((∀ k, F k → w0.heap.size ≤ k) ∧ (∀ k, F' k → w0.heap.size ≤ k) ∧ w0.heap.size ≤ a ∧ w0.heap.size ≤ b) ∧ ∀ k, K k → k < w.heap.size ∧ ¬ F k ∧ ¬ F' k ∧ k ≠ a ∧ k ≠ b
section
variable {w0 w w' : World} {K : Nat → Prop} {a r b s : Nat} {n id : Int} {st st' : Nat} {L L' : List (Int × Bs)}
theorem JC.ab (h : JC w0 K w a r b s n id st L st' L') : a ≠ b := by
  obtain ⟨F, F', h1, h2, _⟩ := h
  intro e
  have := h1.obj
  rw [e, h2.obj] at this
  simp [cliO, dcliO] at this
theorem JC.old (h : JC w0 K w a r b s n id st L st' L') : Ext (fun _ => False) w0 w := by
  obtain ⟨F, F', _, _, _, _, _, h6, _⟩ := h
  exact h6
theorem JC.lt (h : JC w0 K w a r b s n id st L st' L') : ∀ k, K k → k < w.heap.size := by
  obtain ⟨F, F', _, _, _, _, _, _, _, h8⟩ := h
  exact fun k hk => (h8 k hk).1
theorem JC.more {J K' : Nat → Prop} (h : JC w0 K w a r b s n id st L st' L') (hx : Ext J w w') (hJ : ∀ k, J k → K k ∧ w0.heap.size ≤ k) (hK : ∀ k, K' k → K k ∨ w.heap.size ≤ k ∧ k < w'.heap.size) : JC w0 K' w' a r b s n id st L st' L' := by
  obtain ⟨F, F', h1, h2, h3, h4, h5, h6, h7, h8⟩ := h
  have ha := lt_of_heap h1.obj
  have hb := lt_of_heap h2.obj
  refine ⟨F, F', ⟨h1.reg.keep hx fun k hk hj => (h8 k (hJ k hj).1).2.1 hk, hx.heap h1.obj fun hj => (h8 a (hJ a hj).1).2.2.2.1 rfl, h1.out⟩, ⟨h2.reg.keep hx fun k hk hj => (h8 k (hJ k hj).1).2.2.1 hk, hx.heap h2.obj fun hj => (h8 b (hJ b hj).1).2.2.2.2 rfl, h2.out⟩, h3, h4, h5, h6.trans' hx fun q hq => .inr (hJ q hq).2, h7, fun k hk => ?_⟩
  rcases hK k hk with hk | ⟨k1, k2⟩
  · exact ⟨Nat.lt_of_lt_of_le (h8 k hk).1 hx.size, (h8 k hk).2⟩
  · exact ⟨k2, fun hf => by have := h1.reg.lt k hf; omega, fun hf => by have := h2.reg.lt k hf; omega, by omega, by omega⟩
theorem JC.ext (h : JC w0 K w a r b s n id st L st' L') (hx : Ext (fun _ => False) w w') : JC w0 K w' a r b s n id st L st' L' := h.more hx (fun _ => False.elim) fun _ => .inl
theorem JC.keep (h : JC w0 K w a r b s n id st L st' L') (hx : Ext (fun _ => False) w w') : Keep K w w' := hx.kept fun k hk => ⟨h.lt k hk, _root_.id⟩
/-- What the client alone does. -/
theorem JC.byP {F F' F1 N : Nat → Prop} {st1 : Nat} {L1 : List (Int × Bs)} (h1 : CAt F w a r n id st L) (h2 : DCt F' w b s n id st' L') (h3 : ∀ k, F k → ¬ F' k) (h4 : ¬ F b) (h5 : ¬ F' a) (h6 : Ext (fun _ => False) w0 w) (h7 : (∀ k, F k → w0.heap.size ≤ k) ∧ (∀ k, F' k → w0.heap.size ≤ k) ∧ w0.heap.size ≤ a ∧ w0.heap.size ≤ b) (h8 : ∀ k, K k → k < w.heap.size ∧ ¬ F k ∧ ¬ F' k ∧ k ≠ a ∧ k ≠ b) (hab : a ≠ b)
    (g1 : CAt F1 w' a r n id st1 L1) (g2 : Ext (fun k => F k ∨ k = a) w w') (g3 : ∀ k, F1 k → F k ∨ w.heap.size ≤ k) (hN : ∀ k, N k → w.heap.size ≤ k ∧ k < w'.heap.size ∧ ¬ F1 k) : JC w0 (fun k => K k ∨ N k) w' a r b s n id st1 L1 st' L' ∧ Keep K w w' := by
  have ha := lt_of_heap h1.obj
  have hb := lt_of_heap h2.obj
  refine ⟨⟨F1, F', g1, ⟨h2.reg.keep g2 fun k hk hf => hf.elim (fun hf => h3 k hf hk) fun e => h5 (e ▸ hk), g2.heap h2.obj fun hf => hf.elim h4 fun e => hab e.symm, h2.out⟩, fun k hk hf => ?_, fun hf => ?_, h5, h6.trans' g2 fun q hq => .inr (hq.elim (h7.1 q) fun e => e ▸ h7.2.2.1), ⟨fun k hk => (g3 k hk).elim (h7.1 k) fun h => Nat.le_trans h6.size h, h7.2⟩, fun k hk => ?_⟩, g2.kept fun k hk => ⟨(h8 k hk).1, fun hf => hf.elim (h8 k hk).2.1 (h8 k hk).2.2.2.1⟩⟩
  · rcases g3 k hk with h | h
    · exact h3 k h hf
    · have := h2.reg.lt k hf; omega
  · rcases g3 b hf with h | h
    · exact h4 h
    · omega
  · rcases hk with hk | hk
    · refine ⟨Nat.lt_of_lt_of_le (h8 k hk).1 g2.size, fun hf => ?_, (h8 k hk).2.2⟩
      rcases g3 k hf with h | h
      · exact (h8 k hk).2.1 h
      · have := (h8 k hk).1; omega
    · obtain ⟨n1, n2, n3⟩ := hN k hk
      exact ⟨n2, n3, fun hf => by have := h2.reg.lt k hf; omega, by omega, by omega⟩
/-- What the document's client alone does. -/
theorem JC.byD {F F' F1 N : Nat → Prop} {st1 : Nat} {L1 : List (Int × Bs)} (h1 : CAt F w a r n id st L) (h2 : DCt F' w b s n id st' L') (h3 : ∀ k, F k → ¬ F' k) (h4 : ¬ F b) (h5 : ¬ F' a) (h6 : Ext (fun _ => False) w0 w) (h7 : (∀ k, F k → w0.heap.size ≤ k) ∧ (∀ k, F' k → w0.heap.size ≤ k) ∧ w0.heap.size ≤ a ∧ w0.heap.size ≤ b) (h8 : ∀ k, K k → k < w.heap.size ∧ ¬ F k ∧ ¬ F' k ∧ k ≠ a ∧ k ≠ b) (hab : a ≠ b)
    (g1 : DCt F1 w' b s n id st1 L1) (g2 : Ext (fun k => F' k ∨ k = b) w w') (g3 : ∀ k, F1 k → F' k ∨ w.heap.size ≤ k) (hN : ∀ k, N k → w.heap.size ≤ k ∧ k < w'.heap.size ∧ ¬ F1 k) : JC w0 (fun k => K k ∨ N k) w' a r b s n id st L st1 L1 ∧ Keep K w w' := by
  have ha := lt_of_heap h1.obj
  have hb := lt_of_heap h2.obj
  refine ⟨⟨F, F1, ⟨h1.reg.keep g2 fun k hk hf => hf.elim (fun hf => h3 k hk hf) fun e => h4 (e ▸ hk), g2.heap h1.obj fun hf => hf.elim h5 hab, h1.out⟩, g1, fun k hk hf => ?_, h4, fun hf => ?_, h6.trans' g2 fun q hq => .inr (hq.elim (h7.2.1 q) fun e => e ▸ h7.2.2.2), ⟨h7.1, fun k hk => (g3 k hk).elim (h7.2.1 k) fun h => Nat.le_trans h6.size h, h7.2.2⟩, fun k hk => ?_⟩, g2.kept fun k hk => ⟨(h8 k hk).1, fun hf => hf.elim (h8 k hk).2.2.1 (h8 k hk).2.2.2.2⟩⟩
  · rcases g3 k hf with h | h
    · exact h3 k hk h
    · have := h1.reg.lt k hk; omega
  · rcases g3 a hf with h | h
    · exact h5 h
    · omega
  · rcases hk with hk | hk
    · refine ⟨Nat.lt_of_lt_of_le (h8 k hk).1 g2.size, (h8 k hk).2.1, fun hf => ?_, (h8 k hk).2.2.2⟩
      rcases g3 k hf with h | h
      · exact (h8 k hk).2.2.1 h
      · have := (h8 k hk).1; omega
    · obtain ⟨n1, n2, n3⟩ := hN k hk
      exact ⟨n2, fun hf => by have := h1.reg.lt k hf; omega, n3, by omega, by omega⟩
variable (h : JC w0 K w a r b s n id st L st' L')
include h
theorem jc_ask (txt : Bs) (hst : st ≤ 1099511627776) (hid : 1 ≤ id ∧ id ≤ 8) (hlen : L.length < 1073741823) :
    Calls Try.prog 20 #[.pointer (some ⟨a, 0, none⟩), str txt] w fun e w' => Keep K w w' ∧
      if rightQ id (st + 1) txt = true then ∃ v', e = .returned (.tuple #[v', .int .i64 0]) ∧ JC w0 (fun k => K k ∨ v'.ownBlock = some k) w' a r b s n id (st + 1) (signL (16 + id) (askB id (st + 1) txt) L) st' L' ∧ OwnB w' v' (askB id (st + 1) txt) ∧ ∀ k, v'.ownBlock = some k → w.heap.size ≤ k
      else e = .returned (.tuple #[.slice none 0 0, .int .i64 1]) ∧ JC w0 K w' a r b s n id st L st' L' := by
  have hab := h.ab
  have h0 := h
  obtain ⟨F, F', h1, h2, h3, h4, h5, h6, h7, h8⟩ := h
  refine (cli_ask h1 txt hst hid hlen).mono ?_
  intro e w' hp
  unfold AskedPost at hp
  split at hp
  · rename_i hq
    obtain ⟨F1, v', he, g1, g2, g3, g4, g5⟩ := hp
    have hj := JC.byP (N := fun k => v'.ownBlock = some k) h1 h2 h3 h4 h5 h6 h7 h8 hab g1 g2 g3 fun k hk => ⟨(g5 k hk).1, g4.lt k hk, (g5 k hk).2⟩
    refine ⟨hj.2, ?_⟩
    rw [if_pos hq]
    exact ⟨v', he, hj.1, g4, fun k hk => (g5 k hk).1⟩
  · rename_i hq
    refine ⟨h0.keep hp.2, ?_⟩
    rw [if_neg hq]
    exact ⟨hp.1, h0.ext hp.2⟩
theorem jc_dask (txt : Bs) (hst : st' < 1099511627776) (hid : 1 ≤ id ∧ id ≤ 8) (hlen : L'.length < 1073741823) :
    Calls Try.prog 21 #[.pointer (some ⟨b, 0, none⟩), str txt] w fun e w' => Keep K w w' ∧
      if rightQ id (st' + 1) txt = true then ∃ v', e = .returned (.tuple #[v', .int .i64 0]) ∧ JC w0 K w' a r b s n id st L (st' + 1) (signL (16 + id) (askB id (st' + 1) txt) L') ∧ OwnB w' v' (askB id (st' + 1) txt)
      else e = .returned (.tuple #[.slice none 0 0, .int .i64 1]) ∧ JC w0 K w' a r b s n id st L st' L' := by
  have hab := h.ab
  have h0 := h
  obtain ⟨F, F', h1, h2, h3, h4, h5, h6, h7, h8⟩ := h
  refine (dcli_ask h2 txt hst hid hlen).mono ?_
  intro e w' hp
  unfold DAskedPost at hp
  split at hp
  · rename_i hq
    obtain ⟨F1, v', he, g1, g2, g3, g4, g5⟩ := hp
    have hj := JC.byD (N := fun _ => False) h1 h2 h3 h4 h5 h6 h7 h8 hab g1 g2 g3 fun _ => False.elim
    refine ⟨hj.2, ?_⟩
    rw [if_pos hq]
    exact ⟨v', he, hj.1.more (Ext.refl _ _) (fun _ => False.elim) fun k hk => .inl (.inl hk), g4⟩
  · rename_i hq
    refine ⟨h0.keep hp.2, ?_⟩
    rw [if_neg hq]
    exact ⟨hp.1, h0.ext hp.2⟩
theorem jc_sign (who : Int) {D : Nat → Prop} {v : Value} {t : Bs} (hv : Byt D w v t) (hlen : L.length < 1073741824) :
    Calls Try.prog 12 #[.pointer (some ⟨r, 0, none⟩), .int .i64 who, v] w fun e w' => e = .returned (.int .i64 (signE who t)) ∧ JC w0 K w' a r b s n id st (signL who t L) st' L' ∧ Keep K w w' := by
  have hab := h.ab
  obtain ⟨F, F', h1, h2, h3, h4, h5, h6, h7, h8⟩ := h
  have ha := lt_of_heap h1.obj
  refine (reg_sign h1.reg who hv hlen).mono ?_
  rintro e w' ⟨he, F1, g1, g2, g3⟩
  have hj := JC.byP (N := fun _ => False) h1 h2 h3 h4 h5 h6 h7 h8 hab (F1 := F1) (w' := w') (st1 := st) ⟨g1, g2.heap h1.obj h1.out, fun hf => (g3 a hf).elim h1.out fun h => by omega⟩ (g2.mono fun _ _ => .inl) g3 fun _ => False.elim
  exact ⟨he, hj.1.more (Ext.refl _ _) (fun _ => False.elim) (fun k hk => .inl (.inl hk)), hj.2⟩
theorem jc_dsign (who : Int) {D : Nat → Prop} {v : Value} {t : Bs} (hv : Byt D w v t) (hD : ∀ k, D k → k < w0.heap.size ∨ K k) (hlen : L'.length < 1073741824) :
    Calls Try.prog 23 #[.pointer (some ⟨s, 0, none⟩), .int .i64 who, v] w fun e w' => e = .returned (.int .i64 (signE who t)) ∧ JC w0 K w' a r b s n id st L st' (signL who t L') ∧ Keep K w w' := by
  have hab := h.ab
  obtain ⟨F, F', h1, h2, h3, h4, h5, h6, h7, h8⟩ := h
  have hb := lt_of_heap h2.obj
  refine (rg_sign h2.reg hlen who hv fun k hk hf => ?_).mono ?_
  · rcases hD k hk with h | h
    · have := h7.2.1 k hf; omega
    · exact (h8 k h).2.2.1 hf
  rintro e w' ⟨he, F1, g1, g2, g3⟩
  have hj := JC.byD (N := fun _ => False) h1 h2 h3 h4 h5 h6 h7 h8 hab (F1 := F1) (w' := w') (st1 := st') ⟨g1, g2.heap h2.obj h2.out, fun hf => (g3 b hf).elim h2.out fun h => by omega⟩ (g2.mono fun _ _ => .inl) g3 fun _ => False.elim
  exact ⟨he, hj.1.more (Ext.refl _ _) (fun _ => False.elim) (fun k hk => .inl (.inl hk)), hj.2⟩
theorem jc_result (stamp : Int) (hn : newOk n id) (hG : ∀ p ∈ L, p.2.length ≤ 65536) (hL : L.length < 1073741824) :
    Calls Try.prog 14 #[.pointer (some ⟨a, 0, none⟩), .int .i64 stamp] w (ResPost w n (saidR id stamp n.toNat L)) := by
  obtain ⟨F, F', h1, _⟩ := h
  have h4 : 4 ≤ n := hn.1.1
  have h16 : n ≤ 16 := hn.1.2.1
  have hnn : ((n.toNat : Nat) : Int) = n := by omega
  have := cli_result (m := n.toNat) h1.reg (by rw [hnn]; exact h1.obj) stamp (by omega) hG hL
  rwa [hnn] at this
theorem jc_dresult (stamp : Int) (hn : newOk n id) (hG : ∀ p ∈ L', p.2.length ≤ 65536) (hL : L'.length < 1073741824) :
    Calls Try.prog 24 #[.pointer (some ⟨b, 0, none⟩), .int .i64 stamp] w (ResPost w n (saidR id stamp n.toNat L')) := by
  obtain ⟨F, F', _, h2, _⟩ := h
  have h4 : 4 ≤ n := hn.1.1
  have h16 : n ≤ 16 := hn.1.2.1
  have hnn : ((n.toNat : Nat) : Int) = n := by omega
  have := dcli_result (m := n.toNat) (st0 := st') (by rw [hnn]; exact h2) stamp (by omega) hG hL
  rwa [hnn] at this
theorem jc_stamp : Calls Try.prog 25 #[.pointer (some ⟨a, 0, none⟩)] w fun e w' => e = .returned (.int .i64 st) ∧ w = w' := by
  obtain ⟨F, F', h1, _⟩ := h
  exact cli_stamp h1.obj
theorem jc_count : Calls Try.prog 26 #[.pointer (some ⟨r, 0, none⟩)] w fun e w' => e = .returned (.int .i64 L.length) ∧ w = w' := by
  obtain ⟨F, F', h1, _⟩ := h
  exact reg_count h1.reg
end
/-- Owned of one row that is the call's own. -/
theorem owned_one {w : World} {u : Value} {l : Bs} (h : OwnB w u l) : Calls Try.prog 22 #[.slice (some ⟨w.heap.size, 0, none⟩) 1 1] (w.alloc (.cells #[u] 33)) fun e w' => e = .returned (.bool true) ∧ Ext (fun b => u.ownBlock = some b) w w' := by
  have hx : Ext (fun _ => False) w (w.alloc (.cells #[u] 33)) := (Ext.refl _ _).alloc _
  have hr : Rows8 (w.alloc (.cells #[u] 33)) (.slice (some ⟨w.heap.size, 0, none⟩) 1 1) [u] := by
    refine ⟨⟨_, 1, rfl, Nat.le_refl _, fun _ => ⟨w.heap.size, 0, rfl, fun u' hu' e => ?_, fun i x hi => ?_⟩⟩, fun u' hu' => ?_, fun i j u1 u2 k h1 h2 _ _ => ?_⟩
    · simp at hu'
      subst hu'
      have := h.lt _ e
      omega
    · have : i = 0 := by have := (List.getElem?_eq_some_iff.1 hi).1; simp at this; exact this
      subst this
      simp at hi
      subst hi
      show (w.alloc (.cells #[u] 33)).cell? ⟨w.heap.size, 0 + 0 * 1, none⟩ = some u
      rw [cells_at (heap_alloc_self w _)]
      rfl
    · simp at hu'
      subst hu'
      exact h.capA.ext hx fun _ _ => id
    · have := (List.getElem?_eq_some_iff.1 h1).1
      have := (List.getElem?_eq_some_iff.1 h2).1
      simp at *
      omega
  refine (owned_walk hr (by simp)).mono fun e w' ⟨he, hx2⟩ => ⟨he, (hx.mono fun _ _ hf => hf.elim).trans' hx2 fun b ⟨u', hu', e⟩ => .inl (by simp at hu'; rw [← hu']; exact e)⟩

def askT (id : Int) (st : Nat) (txt : Bs) : Bs := if rightQ id (st + 1) txt = true then askB id (st + 1) txt else []
def askC (id : Int) (st : Nat) (txt : Bs) : Int := if rightQ id (st + 1) txt = true then 0 else 1
def askN (id : Int) (st : Nat) (txt : Bs) : Nat := if rightQ id (st + 1) txt = true then st + 1 else st
def askLs (id : Int) (st : Nat) (txt : Bs) (L : List (Int × Bs)) : List (Int × Bs) := if rightQ id (st + 1) txt = true then signL (16 + id) (askB id (st + 1) txt) L else L
theorem own_nil (w : World) : OwnB w (.slice none 0 0) [] := .inl ⟨rfl, rfl⟩
theorem jc_ask' {w0 w : World} {K : Nat → Prop} {a r b s : Nat} {n id : Int} {st st' : Nat} {L L' : List (Int × Bs)} (h : JC w0 K w a r b s n id st L st' L') (txt : Bs) (hst : st ≤ 1099511627776) (hid : 1 ≤ id ∧ id ≤ 8) (hlen : L.length < 1073741823) :
    Calls Try.prog 20 #[.pointer (some ⟨a, 0, none⟩), str txt] w fun e w' => Keep K w w' ∧ ∃ v', e = .returned (.tuple #[v', .int .i64 (askC id st txt)]) ∧ JC w0 (fun k => K k ∨ v'.ownBlock = some k) w' a r b s n id (askN id st txt) (askLs id st txt L) st' L' ∧ OwnB w' v' (askT id st txt) ∧ ∀ k, v'.ownBlock = some k → w.heap.size ≤ k := by
  refine (jc_ask h txt hst hid hlen).mono ?_
  rintro e w' ⟨hk, hp⟩
  refine ⟨hk, ?_⟩
  unfold askC askN askLs askT
  by_cases hq : rightQ id (st + 1) txt = true
  · simp only [if_pos hq] at hp ⊢
    exact hp
  · simp only [if_neg hq] at hp ⊢
    exact ⟨_, hp.1, hp.2.more (Ext.refl _ _) (fun _ => False.elim) fun k hk => hk.elim .inl fun e => by simp [Value.ownBlock] at e, own_nil _, fun k e => by simp [Value.ownBlock] at e⟩
theorem jc_dask' {w0 w : World} {K : Nat → Prop} {a r b s : Nat} {n id : Int} {st st' : Nat} {L L' : List (Int × Bs)} (h : JC w0 K w a r b s n id st L st' L') (txt : Bs) (hst : st' < 1099511627776) (hid : 1 ≤ id ∧ id ≤ 8) (hlen : L'.length < 1073741823) :
    Calls Try.prog 21 #[.pointer (some ⟨b, 0, none⟩), str txt] w fun e w' => Keep K w w' ∧ ∃ v', e = .returned (.tuple #[v', .int .i64 (askC id st' txt)]) ∧ JC w0 K w' a r b s n id st L (askN id st' txt) (askLs id st' txt L') ∧ OwnB w' v' (askT id st' txt) := by
  refine (jc_dask h txt hst hid hlen).mono ?_
  rintro e w' ⟨hk, hp⟩
  refine ⟨hk, ?_⟩
  unfold askC askN askLs askT
  by_cases hq : rightQ id (st' + 1) txt = true
  · simp only [if_pos hq] at hp ⊢
    exact hp
  · simp only [if_neg hq] at hp ⊢
    exact ⟨_, hp.1, hp.2, own_nil _⟩
end Go.Proofs.Ytcedpdjjjfdbiaa
