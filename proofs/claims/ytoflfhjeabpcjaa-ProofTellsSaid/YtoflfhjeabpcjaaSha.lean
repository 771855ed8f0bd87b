/- The window of sixteen words; no condition. -/
import Derived.Test.YtoflfhjeabpcjaaRot
namespace Go.Proofs.Ytoflfhjeabpcjaa
set_option linter.unusedVariables false
set_option linter.unusedSimpArgs false
open Go.RowKit

abbrev u32 (x : Nat) : Value := .int .u32 (x : Int)
def three1 (x : Nat) : Nat := rot x 6 ^^^ rot x 11 ^^^ rot x 25
def three0 (x : Nat) : Nat := rot x 2 ^^^ rot x 13 ^^^ rot x 22
def sig0 (y : Nat) : Nat := rot y 7 ^^^ rot y 18 ^^^ y / 8
def sig1 (x : Nat) : Nat := rot x 17 ^^^ rot x 19 ^^^ x / 1024
theorem three1_lt {x : Nat} (h : x < 4294967296) : three1 x < 4294967296 := xor_lt (xor_lt (rot_lt _ h) (rot_lt _ h)) (rot_lt _ h)
theorem three0_lt {x : Nat} (h : x < 4294967296) : three0 x < 4294967296 := xor_lt (xor_lt (rot_lt _ h) (rot_lt _ h)) (rot_lt _ h)
theorem sig0_lt {x : Nat} (h : x < 4294967296) : sig0 x < 4294967296 := xor_lt (xor_lt (rot_lt _ h) (rot_lt _ h)) (Nat.lt_of_le_of_lt (Nat.div_le_self _ _) h)
theorem sig1_lt {x : Nat} (h : x < 4294967296) : sig1 x < 4294967296 := xor_lt (xor_lt (rot_lt _ h) (rot_lt _ h)) (Nat.lt_of_le_of_lt (Nat.div_le_self _ _) h)
/-- Three words joined by xor. -/
theorem xor3 {a b c : Nat} (ha : a < 4294967296) (hb : b < 4294967296) (hc : c < 4294967296) : ∃ d : Nat, bits .xor .u32 (a : Int) (b : Int) = (d : Int) ∧ bits .xor .u32 (d : Int) (c : Int) = ((a ^^^ b ^^^ c : Nat) : Int) :=
  ⟨a ^^^ b, u32_xor a b ha hb, u32_xor _ c (xor_lt ha hb) hc⟩

theorem three1_walk (x : Nat) (hx : x < 4294967296) (w : World) : Calls Try.prog 114 #[u32 x, .int .i64 6, .int .i64 11, .int .i64 25] w fun e w' => e = .returned (u32 (three1 x)) ∧ w = w' := by
  have h1 := turn_walk6 x hx
  have h2 := turn_walk11 x hx
  have h3 := turn_walk25 x hx
  obtain ⟨d, e1, e2⟩ := xor3 (rot_lt 6 hx) (rot_lt 11 hx) (rot_lt 25 hx)
  rw [show (rot x 6 ^^^ rot x 11 ^^^ rot x 25) = three1 x from rfl] at e2
  generalize three1 x = r at *
  generalize rot x 6 = a at *
  generalize rot x 11 = b at *
  generalize rot x 25 = c at *
  have H := Lib.hid (And.intro h1 (And.intro h2 h3))
  clear h1 h2 h3
  go_enter Try.func114, Try.ntmps114
  go_wp2_with fail
  refine (H.out.1 _).mono ?_
  rintro e _ ⟨rfl, rfl⟩
  go_wp2_with fail
  refine (H.out.2.1 _).mono ?_
  rintro e _ ⟨rfl, rfl⟩
  go_wp2_with fail
  refine (H.out.2.2 _).mono ?_
  rintro e _ ⟨rfl, rfl⟩
  go_wp2_with fail
  go_ret
  exact ⟨rfl, rfl⟩
theorem three0_walk (x : Nat) (hx : x < 4294967296) (w : World) : Calls Try.prog 114 #[u32 x, .int .i64 2, .int .i64 13, .int .i64 22] w fun e w' => e = .returned (u32 (three0 x)) ∧ w = w' := by
  have h1 := turn_walk2 x hx
  have h2 := turn_walk13 x hx
  have h3 := turn_walk22 x hx
  obtain ⟨d, e1, e2⟩ := xor3 (rot_lt 2 hx) (rot_lt 13 hx) (rot_lt 22 hx)
  rw [show (rot x 2 ^^^ rot x 13 ^^^ rot x 22) = three0 x from rfl] at e2
  generalize three0 x = r at *
  generalize rot x 2 = a at *
  generalize rot x 13 = b at *
  generalize rot x 22 = c at *
  have H := Lib.hid (And.intro h1 (And.intro h2 h3))
  clear h1 h2 h3
  go_enter Try.func114, Try.ntmps114
  go_wp2_with fail
  refine (H.out.1 _).mono ?_
  rintro e _ ⟨rfl, rfl⟩
  go_wp2_with fail
  refine (H.out.2.1 _).mono ?_
  rintro e _ ⟨rfl, rfl⟩
  go_wp2_with fail
  refine (H.out.2.2 _).mono ?_
  rintro e _ ⟨rfl, rfl⟩
  go_wp2_with fail
  go_ret
  exact ⟨rfl, rfl⟩

/-- Block b holds words of type t. -/
structure Words (w : World) (b : Nat) (t : TypeId) (ws : List Nat) : Prop where
  obj : w.heap[b]? = some (.cells (ws.map u32).toArray t (0, 0))
  lt : ∀ x ∈ ws, x < 4294967296
theorem Words.cell {w : World} {b : Nat} {t : TypeId} {ws : List Nat} (h : Words w b t ws) {i : Nat} (hi : i < ws.length) : w.cell? ⟨b, i, none⟩ = some (u32 ws[i]) := by
  rw [cells_at h.obj]
  simp [hi]
theorem Words.melt {w : World} {b : Nat} {t : TypeId} {ws : List Nat} (h : Words w b t ws) (i : Nat) : w.frozen? ⟨b, i, none⟩ = false := by simp [World.frozen?, h.obj]
theorem Words.put {w : World} {b : Nat} {t : TypeId} {ws : List Nat} (h : Words w b t ws) (i x : Nat) (hx : x < 4294967296) : Words (w.setCell ⟨b, i, none⟩ (u32 x)) b t (ws.set i x) := by
  refine ⟨?_, fun y hy => ?_⟩
  · rw [heap_setCell_self h.obj]
    simp
  · rcases List.mem_or_eq_of_mem_set hy with hy | rfl
    · exact h.lt y hy
    · exact hx
theorem Words.ext {F : Nat → Prop} {w w' : World} {b : Nat} {t : TypeId} {ws : List Nat} (h : Words w b t ws) (hx : Ext F w w') (hF : ¬ F b) : Words w' b t ws := ⟨hx.heap h.obj hF, h.lt⟩

def winNext (ws : List Nat) (t : Nat) : List Nat :=
  ws.set (t % 16) (((ws.getD (t % 16) 0 + sig1 (ws.getD ((t - 2) % 16) 0)) % 4294967296 + (ws.getD ((t - 7) % 16) 0 + sig0 (ws.getD ((t - 15) % 16) 0)) % 4294967296) % 4294967296)
def winAt (ws : List Nat) (t : Nat) : List Nat := if t < 16 then ws else winNext ws t
theorem and15 (t : Nat) (ht : t < 100) : bits .and .i64 (t : Int) 15 = ((t % 16 : Nat) : Int) := by
  have := (bits_nat .i64 63 (by decide) (fun n h0 h1 => by rw [IntKind.wrap_i64]; omega) t 15 (by omega) (by decide)).1
  rw [show (t &&& 15) = t % 16 from Nat.and_two_pow_sub_one_eq_mod t 4] at this
  exact this
end Go.Proofs.Ytoflfhjeabpcjaa
