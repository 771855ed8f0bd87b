/- Parts of rows; votes that stand while the disk is opened again; no condition. -/
import Derived.Test.YtebcpacenoedfaaVoteLast2
namespace Go.Proofs.Ytebcpacenoedfaa
set_option linter.unusedVariables false
set_option linter.unusedSimpArgs false
open Go.RowKit

theorem size_rows (w : World) : (sizeOf (Try.prog.elem 33)).run Try.prog w = .ok 1 w := by kernel_rfl
theorem slice_rows_h {D : Nat → Prop} {w : World} {A : Option Addr} {n c : Nat} {ls : List Bs} (hb : Byts D w (.slice A n c) ls) {q : Nat} (hq : q ≤ ls.length) :
    ∃ v, Byts D w v (ls.take q) ∧ ∀ W : World, (Instr.slice 33 (.slice A n c) none (some (.int .i64 (q : Nat))) none).run Try.prog W = .ok v W := by
  obtain ⟨A', c', e, hc, hat⟩ := hb
  simp only [Value.slice.injEq] at e
  obtain ⟨rfl, rfl, rfl⟩ := e
  refine ⟨sliced A 0 q c 1, ?_, fun W => ?_⟩
  · unfold sliced
    refine ⟨_, c - 0, by rw [List.length_take, Nat.min_eq_left hq, Nat.sub_zero], by rw [List.length_take]; omega, fun hne => ?_⟩
    obtain ⟨g, o, rfl, hd, hr⟩ := hat (by rintro rfl; simp at hne)
    refine ⟨g, o, ?_, hd, fun i x hx => hr i x ?_⟩
    · split
      · rfl
      · simp [Addr.add]
    · have := (List.getElem?_eq_some_iff.1 hx).1
      rw [List.length_take] at this
      rwa [List.getElem?_take_of_lt (by omega)] at hx
  · rw [run_slice_h W 33 A ls.length c Try.underlying33 .i64 (q : Nat) (by omega) (by omega), size_rows]
    simp [Result.andThen]
theorem slice_rows_l {D : Nat → Prop} {w : World} {A : Option Addr} {n c : Nat} {ls : List Bs} (hb : Byts D w (.slice A n c) ls) {q : Nat} (hq : q ≤ ls.length) :
    ∃ v, Byts D w v (ls.drop q) ∧ ∀ W : World, (Instr.slice 33 (.slice A n c) (some (.int .i64 (q : Nat))) none none).run Try.prog W = .ok v W := by
  obtain ⟨A', c', e, hc, hat⟩ := hb
  simp only [Value.slice.injEq] at e
  obtain ⟨rfl, rfl, rfl⟩ := e
  refine ⟨sliced A q ls.length c 1, ?_, fun W => ?_⟩
  · unfold sliced
    refine ⟨_, c - q, by rw [List.length_drop], by rw [List.length_drop]; omega, fun hne => ?_⟩
    have hlt : q < ls.length := by
      have := List.length_pos_iff.2 hne
      rw [List.length_drop] at this
      omega
    obtain ⟨g, o, rfl, hd, hr⟩ := hat (by rintro rfl; simp at hlt)
    refine ⟨g, o + q, ?_, hd, fun i x hx => ?_⟩
    · rw [if_neg (by omega)]
      have ha : (⟨g, o, none⟩ : Addr).add (q * 1) = ⟨g, o + q, none⟩ := by unfold Addr.add; split <;> simp_all
      simp only [Option.map_some, ha]
    · rw [List.getElem?_drop] at hx
      have := hr (q + i) x hx
      rwa [show o + (q + i) * 1 = o + q + i * 1 by omega] at this
  · rw [run_slice_l W 33 A ls.length c Try.underlying33 .i64 (q : Nat) (by omega) (by omega), size_rows]
    simp [Result.andThen]
theorem Byts.kept {D : Nat → Prop} {w w' : World} {v : Value} {ls : List Bs} (h : Byts D w v ls) (hx : Ext (fun _ => False) w w') : Byts D w' v ls := h.same hx

/-- It is opened once more: the votes that stood stand, and the rows are there too. -/
theorem vh_again {w0 w : World} {K : Nat → Prop} {a va : Nat} {x : Dk} {n sz : Nat} {bad : Bool} (h : VH w0 K w a va x n sz bad) (ho : openD x = (0, x)) : Calls Try.prog 12 #[.pointer (some ⟨a, 0, none⟩)] w fun e w' => ∃ vb A c, e = .returned (.tuple #[.pointer (some ⟨vb, 0, none⟩), .slice A (recs x.l).1.length c, .int .i64 0]) ∧
    VH w0 K w' a va x n sz bad ∧ Keep K w w' ∧ Byts (fun _ => True) w' (.slice A (recs x.l).1.length c) (recs x.l).1 := by
  obtain ⟨F, h1, h2, h3, h4, h5, h6, h7⟩ := h
  refine (open_walk h1).mono ?_
  rintro e w' ⟨F', g1, g2, g3, g4⟩
  rcases g4 with ⟨_, vb, v', vs, rfl, k1, k2, k3, k4, _⟩ | ⟨k, _⟩
  · obtain ⟨A, c, rfl⟩ := own_slice_form k4.row
    rw [ho] at g1
    have hv := VH.dpost h1 h2 h3 h4 h5 h6 h7 ⟨F', g1, g2, g3⟩
    exact ⟨vb, A, c, rfl, hv.1, hv.2, k4.byts⟩
  · rw [ho] at k
    exact absurd rfl k
/-- What stands behind a Boot and an Open. -/
theorem LI.fresh {w W0 W : World} {a vb vc : Nat} {x y : Dk} {n sz n' sz' N4 : Nat} {bad : Bool} {sv mv l : Value} {S M R : List Bs} {G G5 K : Nat → Prop} (h : LI w W0 a vb x n sz bad sv mv S M G K)
    (h5 : VH w (fun k => K k ∨ G5 k ∨ l.ownBlock = some k) W a vc y n' sz' false) (hL : LastS y n' sz' false R []) (hr : SRow w.heap.size G5 W l R) (hN : w.heap.size ≤ N4) (hg5 : ∀ k, G5 k → N4 ≤ k ∧ l.ownBlock ≠ some k) (ho5 : ∀ k, l.ownBlock = some k → N4 ≤ k) :
    LI w W a vc y n' sz' false l (.slice none 0 0) R [] (fun k => k < w.heap.size ∨ G5 k) (fun k => K k ∨ G5 k ∨ l.ownBlock = some k) :=
  ⟨h5, hL, hr.mono fun _ => .inr, SRow.nil _ _ _, by simp, fun _ => .inl, fun k hk => hk.elim (fun hk => ⟨.inl (h.gk k (h.low k hk)).1, fun e => by have := ho5 k e; omega, by simp [Value.ownBlock]⟩) fun hk => ⟨.inr (.inl hk), (hg5 k hk).2, by simp [Value.ownBlock]⟩,
    fun k hk => ⟨.inr (.inr hk), by simp [Value.ownBlock]⟩, fun k hk => by simp [Value.ownBlock] at hk⟩
end Go.Proofs.Ytebcpacenoedfaa
