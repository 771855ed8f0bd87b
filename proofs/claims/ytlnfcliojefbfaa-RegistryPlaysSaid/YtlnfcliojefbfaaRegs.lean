/- The registry and the document's, side by side; no condition. -/
import Derived.Test.YtlnfcliojefbfaaRefReg2
import Derived.Test.YtlnfcliojefbfaaRegSmall
import Derived.Test.YtlnfcliojefbfaaSized
namespace Go.Proofs.Ytlnfcliojefbfaa
set_option linter.unusedVariables false
set_option linter.unusedSimpArgs false
open Go.RowKit Go.ChangeShapes Go.WideShapes Go.ChangeAt

/-- The one at a holds L, the document's at a' holds L'; both were made since w0; blocks B stand as in W0. -/
structure RegsAt (F F' : Nat → Prop) (w0 : World) (B : Nat → Prop) (W0 w : World) (a a' : Nat) (L L' : List (Int × Bs)) : Prop where
  reg : RegRep F w a L
  doc : RgRep F' w a' L'
  apart : ∀ k, F k → ¬ F' k
  old : Ext (fun _ => False) w0 w
  newF : ∀ k, F k → w0.heap.size ≤ k
  newF' : ∀ k, F' k → w0.heap.size ≤ k
  held : ∀ b, B b → b < w.heap.size ∧ w.heap[b]? = W0.heap[b]? ∧ ¬ F b ∧ ¬ F' b
def Regs (w0 : World) (B : Nat → Prop) (W0 w : World) (a a' : Nat) (L L' : List (Int × Bs)) : Prop := ∃ F F', RegsAt F F' w0 B W0 w a a' L L'

section
variable {w0 W0 w w' : World} {B : Nat → Prop} {a a' : Nat} {L L' M : List (Int × Bs)}
theorem Regs.ext (h : Regs w0 B W0 w a a' L L') (hx : Ext (fun _ => False) w w') : Regs w0 B W0 w' a a' L L' := by
  obtain ⟨F, F', h⟩ := h
  exact ⟨F, F', ⟨h.reg.keep hx fun _ _ => id, h.doc.keep hx fun _ _ => id, h.apart, h.old.trans hx, h.newF, h.newF', fun b hb => ⟨Nat.lt_of_lt_of_le (h.held b hb).1 hx.size, (hx.block b (h.held b hb).1 id).trans (h.held b hb).2.1, (h.held b hb).2.2⟩⟩⟩
theorem Regs.old (h : Regs w0 B W0 w a a' L L') : Ext (fun _ => False) w0 w := by
  obtain ⟨F, F', h⟩ := h
  exact h.old
theorem Regs.at (h : Regs w0 B W0 w a a' L L') {b : Nat} (hb : B b) : w.heap[b]? = W0.heap[b]? := by
  obtain ⟨F, F', h⟩ := h
  exact (h.held b hb).2.1
theorem Regs.lt (h : Regs w0 B W0 w a a' L L') {b : Nat} (hb : B b) : b < w.heap.size := by
  obtain ⟨F, F', h⟩ := h
  exact (h.held b hb).1
/-- New blocks are held too. -/
theorem Regs.more (h : Regs w0 B W0 w a a' L L') {w1 : World} (hx : Ext (fun _ => False) w w1) : Regs w0 (fun b => B b ∨ w.heap.size ≤ b ∧ b < w1.heap.size) w1 w1 a a' L L' := by
  obtain ⟨F, F', h⟩ := h
  refine ⟨F, F', ⟨h.reg.keep hx fun _ _ => id, h.doc.keep hx fun _ _ => id, h.apart, h.old.trans hx, h.newF, h.newF', fun b hb => ?_⟩⟩
  rcases hb with hb | ⟨h1, h2⟩
  · exact ⟨Nat.lt_of_lt_of_le (h.held b hb).1 hx.size, rfl, (h.held b hb).2.2⟩
  · exact ⟨h2, rfl, fun hf => by have := h.reg.lt b hf; omega, fun hf => by have := h.doc.lt b hf; omega⟩
theorem Regs.scribble {g : Nat} {B' : Nat → Prop} {W1 : World} (h : Regs w0 B' W1 w a a' L L') (hx : Ext (· = g) w w') (hg : B' g) (hs : ∀ b, B b → B' b ∧ b ≠ g ∧ W1.heap[b]? = W0.heap[b]?) (hold : w0.heap.size ≤ g) : Regs w0 B W0 w' a a' L L' := by
  obtain ⟨F, F', h⟩ := h
  obtain ⟨_, _, g3, g4⟩ := h.held g hg
  refine ⟨F, F', ⟨h.reg.keep hx fun k hk e => g3 (e ▸ hk), h.doc.keep hx fun k hk e => g4 (e ▸ hk), h.apart, h.old.trans' hx fun b hb => .inr (by rw [hb]; exact hold), h.newF, h.newF', fun b hb => ?_⟩⟩
  obtain ⟨s1, s2, s3⟩ := hs b hb
  obtain ⟨k1, k2, k3, k4⟩ := h.held b s1
  exact ⟨Nat.lt_of_lt_of_le k1 hx.size, ((hx.block b k1 s2).trans k2).trans s3, k3, k4⟩
theorem Regs.drop {W1 : World} (h : Regs w0 B W0 w a a' L L') : Regs w0 (fun _ => False) W1 w a a' L L' := by
  obtain ⟨F, F', h⟩ := h
  exact ⟨F, F', ⟨h.reg, h.doc, h.apart, h.old, h.newF, h.newF', fun b hb => hb.elim⟩⟩
theorem RegsAt.rpost {F F' : Nat → Prop} (h : RegsAt F F' w0 B W0 w a a' L L') (hp : ∃ F1, RegRep F1 w' a M ∧ Ext F w w' ∧ ∀ k, F1 k → F k ∨ w.heap.size ≤ k) : Regs w0 B W0 w' a a' M L' := by
  obtain ⟨F1, h1, h2, h3⟩ := hp
  refine ⟨F1, F', ⟨h1, h.doc.keep h2 fun k hk hf => h.apart k hf hk, fun k hk hf => ?_, h.old.trans' h2 fun b hb => .inr (h.newF b hb), fun k hk => ?_, h.newF', fun b hb => ?_⟩⟩
  · rcases h3 k hk with h4 | h4
    · exact h.apart k h4 hf
    · have := h.doc.lt k hf; omega
  · rcases h3 k hk with h4 | h4
    · exact h.newF k h4
    · exact Nat.le_trans h.old.size h4
  · obtain ⟨k1, k2, k3, k4⟩ := h.held b hb
    exact ⟨Nat.lt_of_lt_of_le k1 h2.size, (h2.block b k1 k3).trans k2, fun hf => (h3 b hf).elim k3 fun h => by omega, k4⟩
theorem RegsAt.dpost {F F' : Nat → Prop} (h : RegsAt F F' w0 B W0 w a a' L L') (hp : RgPost F' w a' M w') : Regs w0 B W0 w' a a' L M := by
  obtain ⟨F1, h1, h2, h3⟩ := hp
  refine ⟨F, F1, ⟨h.reg.keep h2 fun k hk hf => h.apart k hk hf, h1, fun k hk hf => ?_, h.old.trans' h2 fun b hb => .inr (h.newF' b hb), h.newF, fun k hk => ?_, fun b hb => ?_⟩⟩
  · rcases h3 k hf with h4 | h4
    · exact h.apart k hk h4
    · have := h.reg.lt k hk; omega
  · rcases h3 k hk with h4 | h4
    · exact h.newF' k h4
    · exact Nat.le_trans h.old.size h4
  · obtain ⟨k1, k2, k3, k4⟩ := h.held b hb
    exact ⟨Nat.lt_of_lt_of_le k1 h2.size, (h2.block b k1 k4).trans k2, k3, fun hf => (h3 b hf).elim k4 fun h => by omega⟩

theorem regs_new {F : Nat → Prop} (w0 : World) {w : World} {a : Nat} (h1 : RegRep F w a L) (h2 : Ext (fun _ => False) w0 w) (h3 : ∀ k, F k → w0.heap.size ≤ k) :
    Calls Try.prog 17 #[] w fun e w' => ∃ a', e = .returned (.pointer (some ⟨a', 0, none⟩)) ∧ Regs w0 (fun _ => False) w' w' a a' L [] :=
  (rg_new w).mono fun e w' ⟨a', F', he, k1, k2, k3⟩ => ⟨a', he, F, F', ⟨h1.keep k2 fun _ _ => id, k1, fun k hk hf => by have := h1.lt k hk; have := k3 k hf; omega, h2.trans k2, h3, fun k hk => Nat.le_trans h2.size (k3 k hk), fun b hb => hb.elim⟩⟩

variable (h : Regs w0 B W0 w a a' L L')
include h
theorem regs_sign (who : Int) {D : Nat → Prop} {v : Value} {s : Bs} (hv : Byt D w v s) (hlen : L.length < 1073741824) :
    Calls Try.prog 12 #[.pointer (some ⟨a, 0, none⟩), .int .i64 who, v] w fun e w' => e = .returned (.int .i64 (signE who s)) ∧ Regs w0 B W0 w' a a' (signL who s L) L' := by
  obtain ⟨F, F', h⟩ := h
  exact (reg_sign h.reg who hv hlen).mono fun e w' ⟨he, hp⟩ => ⟨he, h.rpost hp⟩
theorem doc_sign (who : Int) {D : Nat → Prop} {v : Value} {s : Bs} (hv : Byt D w v s) (hD : ∀ k, D k → k < w0.heap.size) (hlen : L'.length < 1073741824) :
    Calls Try.prog 19 #[.pointer (some ⟨a', 0, none⟩), .int .i64 who, v] w fun e w' => e = .returned (.int .i64 (signE who s)) ∧ Regs w0 B W0 w' a a' L (signL who s L') := by
  obtain ⟨F, F', h⟩ := h
  exact (rg_sign h.doc hlen who hv (fun k hk hf => by have := h.newF' k hf; have := hD k hk; omega)).mono fun e w' ⟨he, hp⟩ => ⟨he, h.dpost hp⟩
theorem regs_knows (who : Int) {D : Nat → Prop} {v : Value} {s : Bs} (hv : Byt D w v s) :
    Calls Try.prog 13 #[.pointer (some ⟨a, 0, none⟩), .int .i64 who, v] w fun e w' => e = .returned (.bool (decide ((who, s) ∈ L))) ∧ Ext (fun _ => False) w w' := by
  obtain ⟨F, F', h⟩ := h
  exact reg_knows h.reg who hv
theorem doc_knows (who : Int) {D : Nat → Prop} {v : Value} {s : Bs} (hv : Byt D w v s) (hlen : L'.length < 1073741824) :
    Calls Try.prog 20 #[.pointer (some ⟨a', 0, none⟩), .int .i64 who, v] w fun e w' => e = .returned (.bool (decide ((who, s) ∈ L'))) ∧ Ext (fun _ => False) w w' := by
  obtain ⟨F, F', h⟩ := h
  exact rg_knows h.doc (by omega) who hv
theorem regs_by (who : Int) (hlen : ∀ s ∈ byL who L, s.length < 9223372036854775808) (hL : L.length < 1073741824) :
    Calls Try.prog 14 #[.pointer (some ⟨a, 0, none⟩), .int .i64 who] w fun e w' => ∃ v vs, e = .returned v ∧ OwnRows w.heap.size w' v vs (byL who L) ∧ Ext (fun _ => False) w w' := by
  obtain ⟨F, F', h⟩ := h
  exact reg_by h.reg who hlen hL
theorem doc_by (who : Int) (hlen : ∀ s ∈ byL who L', s.length < 9223372036854775808) (hL : L'.length < 1073741824) :
    Calls Try.prog 22 #[.pointer (some ⟨a', 0, none⟩), .int .i64 who] w fun e w' => ∃ v vs, e = .returned v ∧ OwnRows w.heap.size w' v vs (byL who L') ∧ Ext (fun _ => False) w w' := by
  obtain ⟨F, F', h⟩ := h
  exact rg_by h.doc who hlen hL
theorem regs_text (who n : Int) (hlen : ∀ s ∈ byL who L, s.length < 9223372036854775808) :
    Calls Try.prog 24 #[.pointer (some ⟨a, 0, none⟩), .int .i64 who, .int .i64 n] w (TextPost w (byL who L) n) := by
  obtain ⟨F, F', h⟩ := h
  exact reg_text h.reg who n hlen
theorem doc_text (who n : Int) (hlen : ∀ s ∈ byL who L', s.length < 9223372036854775808) (hL : L'.length < 1073741824) :
    Calls Try.prog 25 #[.pointer (some ⟨a', 0, none⟩), .int .i64 who, .int .i64 n] w (TextPost w (byL who L') n) := by
  obtain ⟨F, F', h⟩ := h
  exact rg_text h.doc who n hlen hL
theorem regs_many (who : Int) : Calls Try.prog 26 #[.pointer (some ⟨a, 0, none⟩), .int .i64 who] w fun e w' => e = .returned (.int .i64 (byL who L).length) ∧ w = w' := by
  obtain ⟨F, F', h⟩ := h
  exact reg_many h.reg who
theorem regs_count : Calls Try.prog 15 #[.pointer (some ⟨a, 0, none⟩)] w fun e w' => e = .returned (.int .i64 L.length) ∧ w = w' := by
  obtain ⟨F, F', h⟩ := h
  exact reg_count h.reg
/-- A copy at a2 beside them. -/
def Copied (w0 : World) (B : Nat → Prop) (W0 w : World) (a a' a2 : Nat) (L L' : List (Int × Bs)) : Prop :=
  ∃ F F' F2 N, RegsAt F F' w0 B W0 w a a' L L' ∧ RegRep F2 w a2 L ∧ w0.heap.size ≤ N ∧ (∀ k, F2 k → N ≤ k) ∧ (∀ k, F k → k < N) ∧ (∀ k, F' k → k < N) ∧ ∀ b, B b → b < N
theorem regs_copy (hL : L.length < 1073741824) : Calls Try.prog 16 #[.pointer (some ⟨a, 0, none⟩)] w fun e w' =>
    ∃ a2, e = .returned (.pointer (some ⟨a2, 0, none⟩)) ∧ Copied w0 B W0 w' a a' a2 L L' := by
  obtain ⟨F, F', h⟩ := h
  refine (reg_copy h.reg hL).mono fun e w' ⟨a2, F2, he, k1, k2, k3⟩ => ⟨a2, he, F, F', F2, w.heap.size, ?_, k1, h.old.size, k3, h.reg.lt, h.doc.lt, fun b hb => (h.held b hb).1⟩
  exact ⟨h.reg.keep k2 fun _ _ => id, h.doc.keep k2 fun _ _ => id, h.apart, h.old.trans k2, h.newF, h.newF', fun b hb => ⟨Nat.lt_of_lt_of_le (h.held b hb).1 k2.size, (k2.block b (h.held b hb).1 id).trans (h.held b hb).2.1, (h.held b hb).2.2⟩⟩
end
theorem Copied.at {w0 W0 w : World} {B : Nat → Prop} {a a' a2 : Nat} {L L' : List (Int × Bs)} (h : Copied w0 B W0 w a a' a2 L L') {b : Nat} (hb : B b) : w.heap[b]? = W0.heap[b]? := by
  obtain ⟨F, F', F2, N, h, _⟩ := h
  exact (h.held b hb).2.1
theorem copied_sign {w0 W0 w : World} {B : Nat → Prop} {a a' a2 : Nat} {L L' : List (Int × Bs)} (h : Copied w0 B W0 w a a' a2 L L') (who : Int) {D : Nat → Prop} {v : Value} {s : Bs} (hv : Byt D w v s) (hlen : L.length < 1073741824) :
    Calls Try.prog 12 #[.pointer (some ⟨a, 0, none⟩), .int .i64 who, v] w fun e w' => e = .returned (.int .i64 (signE who s)) ∧ Regs w0 B W0 w' a2 a' L L' := by
  obtain ⟨F, F', F2, N, h, k1, k2, k3, k4, k5, k6⟩ := h
  refine (reg_sign h.reg who hv hlen).mono fun e w' ⟨he, F1, m1, m2, m3⟩ => ⟨he, F2, F', ⟨k1.keep m2 fun k hk hf => ?_, h.doc.keep m2 fun k hk hf => h.apart k hf hk, fun k hk hf => ?_, h.old.trans' m2 fun b hb => .inr (h.newF b hb), fun k hk => Nat.le_trans k2 (k3 k hk), h.newF', fun b hb => ?_⟩⟩
  · have := k3 k hk; have := k4 k hf; omega
  · have := k3 k hk; have := k5 k hf; omega
  · obtain ⟨q1, q2, q3, q4⟩ := h.held b hb
    exact ⟨Nat.lt_of_lt_of_le q1 m2.size, (m2.block b q1 q3).trans q2, fun hf => by have := k3 b hf; have := k6 b hb; omega, q4⟩
end Go.Proofs.Ytlnfcliojefbfaa
