/- What stands at the beginning of each round of VotesLast; no condition. -/
import Derived.Test.YtebcpacenoedfaaVoteLast1
import Derived.Deep.DeepCutAuto
import Derived.Deep.CutBlock
namespace Go.Proofs.Ytebcpacenoedfaa
set_option linter.unusedVariables false
set_option linter.unusedSimpArgs false
open Go.RowKit

structure Act22 where
  Do : Int
  N : Int
  M : Int
  L : List Bs
def Act22.Is (D : Nat → Prop) (w : World) (g n : Nat) (x : Act22) : Prop :=
  ∃ lv, w.cell? ⟨g, n, none⟩ = some (.int .i64 x.Do) ∧ w.cell? ⟨g, n + 1, none⟩ = some (.int .i64 x.N) ∧ w.cell? ⟨g, n + 2, none⟩ = some (.int .i64 x.M) ∧ w.cell? ⟨g, n + 3, none⟩ = some lv ∧ Byts D w lv x.L ∧ x.N ≤ 9223372036854775807 ∧ x.L.length ≤ 1048576
abbrev Acts22 (D : Nat → Prop) (w : World) (v : Value) (l : List Act22) : Prop := Row (Act22.Is D) 4 D w v l

/-- What stands at the beginning of each round. -/
structure LI (w W : World) (a va : Nat) (x : Dk) (n sz : Nat) (bad : Bool) (sv mv : Value) (S M : List Bs) (G K : Nat → Prop) : Prop where
  vh : VH w K W a va x n sz bad
  ls : LastS x n sz bad S M
  rs : SRow w.heap.size G W sv S
  rm : SRow w.heap.size G W mv M
  ml : M.length ≤ 1048576
  low : ∀ k, k < w.heap.size → G k
  gk : ∀ k, G k → K k ∧ sv.ownBlock ≠ some k ∧ mv.ownBlock ≠ some k
  sk : ∀ k, sv.ownBlock = some k → K k ∧ mv.ownBlock ≠ some k
  hm : ∀ k, mv.ownBlock = some k → K k
/-- The act's copy stands beside. -/
theorem LI.act {w W : World} {a va : Nat} {x : Dk} {n sz : Nat} {bad : Bool} {sv mv : Value} {S M : List Bs} {G K : Nat → Prop} (h : LI w W a va x n sz bad sv mv S M G K) (o : Obj) :
    LI w (W.alloc o) a va x n sz bad sv mv S M G (fun k => K k ∨ k = W.heap.size) := by
  have hx := (Ext.refl (fun _ => False) W).alloc o
  have hk := h.vh.keep hx
  exact ⟨h.vh.more hx (fun _ => False.elim) (fun k hk => hk.elim .inl fun e => .inr (by simp; omega)), h.ls, h.rs.kept hk (fun k hg => (h.gk k hg).1) (fun k hv => (h.sk k hv).1), h.rm.kept hk (fun k hg => (h.gk k hg).1) h.hm, h.ml, h.low,
    fun k hg => ⟨.inl (h.gk k hg).1, (h.gk k hg).2⟩, fun k hv => ⟨.inl (h.sk k hv).1, (h.sk k hv).2⟩, fun k hv => .inl (h.hm k hv)⟩
/-- The disk and the votes change, and nothing that is kept. -/
theorem LI.step {w W W' : World} {a va : Nat} {x y : Dk} {n sz n' sz' : Nat} {bad bad' : Bool} {sv mv : Value} {S M : List Bs} {G K : Nat → Prop} (h : LI w W a va x n sz bad sv mv S M G K) (hv : VH w K W' a va y n' sz' bad') (hk : Keep K W W') (hL : LastS y n' sz' bad' S M) :
    LI w W' a va y n' sz' bad' sv mv S M G K :=
  ⟨hv, hL, h.rs.kept hk (fun k hg => (h.gk k hg).1) (fun k hv => (h.sk k hv).1), h.rm.kept hk (fun k hg => (h.gk k hg).1) h.hm, h.ml, h.low, h.gk, h.sk, h.hm⟩
/-- The sure ones are more. -/
theorem LI.sure {w W W' : World} {a va : Nat} {x : Dk} {n sz : Nat} {bad : Bool} {sv sv' mv : Value} {S S' M : List Bs} {G K : Nat → Prop} (hv : VH w K W a va x n sz bad) (hL : LastS x n sz bad S' M) (rs : SRow w.heap.size G W sv S) (rm : SRow w.heap.size G W mv M) (ml : M.length ≤ 1048576) (low : ∀ k, k < w.heap.size → G k)
    (gk : ∀ k, G k → K k ∧ sv.ownBlock ≠ some k ∧ mv.ownBlock ≠ some k) (sk : ∀ k, sv.ownBlock = some k → K k ∧ mv.ownBlock ≠ some k) (mk : ∀ k, mv.ownBlock = some k → K k)
    (hr : SRow w.heap.size G W' sv' S') (hx : Ext (fun k => sv.ownBlock = some k) W W') (ho : sv'.ownBlock = sv.ownBlock ∨ sv'.ownBlock = some W.heap.size) :
    LI w W' a va x n sz bad sv' mv S' M G (fun k => K k ∨ sv'.ownBlock = some k) := by
  have hlt := hv.lt
  refine ⟨hv.more hx (fun k hk => ⟨(sk k hk).1, (rs.lt k hk).1⟩) (fun k hk => hk.elim .inl fun e => ?_), hL, hr, ?_, ml, low, fun k hg => ⟨.inl (gk k hg).1, fun e => ?_, (gk k hg).2.2⟩, fun k hk => ⟨.inr hk, fun e => ?_⟩, fun k hk => .inl (mk k hk)⟩
  · rcases ho with ho | ho
    · exact .inl (sk k (by rw [← ho]; exact e)).1
    · have := (hr.lt k e).2
      rw [ho] at e
      simp at e
      exact .inr ⟨by omega, this⟩
  · have hk := hx.kept (K := fun k => G k ∨ mv.ownBlock = some k) fun k hk => hk.elim (fun hg => ⟨hlt k (gk k hg).1, (gk k hg).2.1⟩) fun hm => ⟨hlt k (mk k hm), fun e => (sk k e).2 hm⟩
    exact rm.kept hk (fun k hg => .inl hg) fun k hm => .inr hm
  · rcases ho with ho | ho
    · exact (gk k hg).2.1 (by rw [← ho]; exact e)
    · rw [ho] at e
      simp at e
      have := hlt k (gk k hg).1
      omega
  · rcases ho with ho | ho
    · exact (sk k (by rw [← ho]; exact hk)).2 e
    · rw [ho] at hk
      simp at hk
      have := hlt k (mk k e)
      omega
/-- Those that were put last are told. -/
theorem LI.maybe {w W W' : World} {a va : Nat} {x : Dk} {n sz : Nat} {bad : Bool} {sv mv mv' : Value} {S M M' : List Bs} {G K : Nat → Prop} (hv : VH w K W a va x n sz bad) (hL : LastS x n sz bad S M') (rs : SRow w.heap.size G W sv S) (rm : SRow w.heap.size G W mv M) (ml : M'.length ≤ 1048576) (low : ∀ k, k < w.heap.size → G k)
    (gk : ∀ k, G k → K k ∧ sv.ownBlock ≠ some k ∧ mv.ownBlock ≠ some k) (sk : ∀ k, sv.ownBlock = some k → K k ∧ mv.ownBlock ≠ some k) (mk : ∀ k, mv.ownBlock = some k → K k)
    (hr : SRow w.heap.size G W' mv' M') (hx : Ext (fun k => mv.ownBlock = some k) W W') (ho : mv'.ownBlock = mv.ownBlock ∨ mv'.ownBlock = some W.heap.size) :
    LI w W' a va x n sz bad sv mv' S M' G (fun k => K k ∨ mv'.ownBlock = some k) := by
  have hlt := hv.lt
  refine ⟨hv.more hx (fun k hk => ⟨mk k hk, (rm.lt k hk).1⟩) (fun k hk => hk.elim .inl fun e => ?_), hL, ?_, hr, ml, low, fun k hg => ⟨.inl (gk k hg).1, (gk k hg).2.1, fun e => ?_⟩, fun k hk => ⟨.inl (sk k hk).1, fun e => ?_⟩, fun k hk => .inr hk⟩
  · rcases ho with ho | ho
    · exact .inl (mk k (by rw [← ho]; exact e))
    · have := (hr.lt k e).2
      rw [ho] at e
      simp at e
      exact .inr ⟨by omega, this⟩
  · have hk := hx.kept (K := fun k => G k ∨ sv.ownBlock = some k) fun k hk => hk.elim (fun hg => ⟨hlt k (gk k hg).1, (gk k hg).2.2⟩) fun hm => ⟨hlt k (sk k hm).1, (sk k hm).2⟩
    exact rs.kept hk (fun k hg => .inl hg) fun k hm => .inr hm
  · rcases ho with ho | ho
    · exact (gk k hg).2.2 (by rw [← ho]; exact e)
    · rw [ho] at e
      simp at e
      have := hlt k (gk k hg).1
      omega
  · rcases ho with ho | ho
    · exact (sk k hk).2 (by rw [← ho]; exact e)
    · rw [ho] at e
      simp at e
      have := hlt k (sk k hk).1
      omega
end Go.Proofs.Ytebcpacenoedfaa
