/- What an act of a client signs; no condition. -/
import Derived.Test.YtcedpdjjjfdbiaaCliText
namespace Go.Proofs.Ytcedpdjjjfdbiaa
set_option linter.unusedVariables false
set_option linter.unusedSimpArgs false
open Go.RowKit
structure Act25 where
  Do : Int
  N : Int
  M : Int
  K : Int
  S : Bs
  B : Bs
def Act25.Is (D : Nat → Prop) (w : World) (g n : Nat) (x : Act25) : Prop :=
  ∃ lv, w.cell? ⟨g, n, none⟩ = some (.int .i64 x.Do) ∧ w.cell? ⟨g, n + 1, none⟩ = some (.int .i64 x.N) ∧ w.cell? ⟨g, n + 2, none⟩ = some (.int .i64 x.M) ∧ w.cell? ⟨g, n + 3, none⟩ = some (.int .i64 x.K) ∧ w.cell? ⟨g, n + 4, none⟩ = some (str x.S) ∧ w.cell? ⟨g, n + 5, none⟩ = some lv ∧ Byt D w lv x.B
abbrev Acts25 (D : Nat → Prop) (w : World) (v : Value) (l : List Act25) : Prop := Row (Act25.Is D) 6 D w v l
def signB (x : Act25) : Bs := if x.Do = 1 then replyB x.M x.K x.B else x.B
abbrev actV (x : Act25) (lv : Value) : Value := .agg #[.int .i64 x.Do, .int .i64 x.N, .int .i64 x.M, .int .i64 x.K, str x.S, lv]
set_option maxRecDepth 100000 in
theorem sign_walk {w : World} {D : Nat → Prop} {lv : Value} (x : Act25) (hb : Byt D w lv x.B) : Calls Try.prog 13 #[actV x lv] w fun e w' => ∃ v', e = .returned v' ∧ Byt (fun _ => True) w' v' (signB x) ∧ Ext (fun _ => False) w w' := by
  obtain ⟨A, c, rfl, _, _⟩ := _root_.id hb
  obtain ⟨Do, N, M, K, S, B⟩ := x
  have hx0 := (Ext.refl (fun _ => False) w).alloc (.cells #[.int .i64 Do, .int .i64 N, .int .i64 M, .int .i64 K, str S, .slice A B.length c] 35)
  by_cases h1 : Do = 1
  · subst h1
    have hs : signB ⟨1, N, M, K, S, B⟩ = replyB M K B := rfl
    rw [hs]
    have HR := fun w (h : Byt D w (.slice A B.length c) B) => Lib.hid (dreply_walk h M K)
    have Hb := Lib.hid (hb.same hx0)
    clear hb hs
    go_enter Try.func13, Try.ntmps13
    go_wp2_with fail
    refine (HR _ Hb.out).out.mono ?_
    rintro e w2 ⟨v2, rfl, h2⟩
    have H2 := Lib.hid (And.intro (byt_any h2.own.byt (Ext.refl _ _)) (hx0.trans h2.ext))
    clear h2
    go_wp2_with fail
    go_ret
    exact ⟨_, rfl, H2.out.1, H2.out.2⟩
  · have h1' : (Do == 1) = false := by simpa using h1
    have hs : signB ⟨Do, N, M, K, S, B⟩ = B := if_neg h1
    rw [hs]
    have Hb := Lib.hid (And.intro (byt_any hb hx0) hx0)
    clear hb h1 hx0 hs
    go_enter Try.func13, Try.ntmps13
    go_wp2_with fail
    go_ret
    exact ⟨_, rfl, Hb.out.1, Hb.out.2⟩
set_option maxRecDepth 100000 in
theorem sign_walk2 {w : World} {D : Nat → Prop} {lv : Value} (x : Act25) (hb : Byt D w lv x.B) : Calls Try.prog 13 #[actV x lv] w fun e w' => ∃ v', e = .returned v' ∧ Byt (fun k => D k ∨ w.heap.size ≤ k ∧ k < w'.heap.size) w' v' (signB x) ∧ Ext (fun _ => False) w w' := by
  obtain ⟨A, c, rfl, _, _⟩ := _root_.id hb
  obtain ⟨Do, N, M, K, S, B⟩ := x
  have hx0 := (Ext.refl (fun _ => False) w).alloc (.cells #[.int .i64 Do, .int .i64 N, .int .i64 M, .int .i64 K, str S, .slice A B.length c] 35)
  by_cases h1 : Do = 1
  · subst h1
    have hs : signB ⟨1, N, M, K, S, B⟩ = replyB M K B := rfl
    rw [hs]
    have HR := fun w (h : Byt D w (.slice A B.length c) B) => Lib.hid (dreply_walk h M K)
    have Hb := Lib.hid (hb.same hx0)
    clear hb hs
    go_enter Try.func13, Try.ntmps13
    go_wp2_with fail
    refine (HR _ Hb.out).out.mono ?_
    rintro e w2 ⟨v2, rfl, h2⟩
    have hs0 := hx0.size
    have H2 := Lib.hid (And.intro (h2.own.byt.mono (D' := fun k => D k ∨ w.heap.size ≤ k ∧ k < w2.heap.size) fun k hk => .inr ⟨Nat.le_trans hs0 (h2.new k hk), h2.own.lt k hk⟩) (hx0.trans h2.ext))
    clear h2
    go_wp2_with fail
    go_ret
    exact ⟨_, rfl, H2.out.1, H2.out.2⟩
  · have h1' : (Do == 1) = false := by simpa using h1
    have hs : signB ⟨Do, N, M, K, S, B⟩ = B := if_neg h1
    rw [hs]
    have Hb := Lib.hid (And.intro ((hb.same hx0).mono (D' := fun k => D k ∨ w.heap.size ≤ k ∧ k < (w.alloc (.cells #[.int .i64 Do, .int .i64 N, .int .i64 M, .int .i64 K, str S, .slice A B.length c] 35)).heap.size) fun k hk => .inl hk) hx0)
    clear hb h1 hx0 hs
    go_enter Try.func13, Try.ntmps13
    go_wp2_with fail
    go_ret
    exact ⟨_, rfl, Hb.out.1, Hb.out.2⟩
end Go.Proofs.Ytcedpdjjjfdbiaa
