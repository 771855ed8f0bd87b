/- The document's numbers, blobs and rows in bytes; no condition. -/
import Derived.Test.YtebcpacenoedfaaPlain2
import Derived.Test.YtebcpacenoedfaaLent
namespace Go.Proofs.Ytebcpacenoedfaa
set_option linter.unusedVariables false
set_option linter.unusedSimpArgs false
open Go.RowKit

theorem div_256 (n : Int) (s : Nat) : n / 2 ^ s / 256 = n / 2 ^ (s + 8) := by
  rw [Int.ediv_ediv_of_nonneg (by exact Int.pow_nonneg (by decide)), Int.pow_add]
  rfl
/-- The last j bytes of a number of 8, ahead of them none yet. -/
def numPart (n : Int) (j : Nat) : Bs := List.replicate (8 - j) 0 ++ (beB n 8).drop (8 - j)
theorem numPart_len (n : Int) (j : Nat) (h : j ≤ 8) : (numPart n j).length = 8 := by simp [numPart, beB_len] <;> omega
theorem numPart_set (n : Int) (j : Nat) (h : j < 8) : (numPart n j).set (7 - j) (byteAt n (8 * j)) = numPart n (j + 1) := by
  unfold numPart
  have hb : beB n 8 = [byteAt n 56, byteAt n 48, byteAt n 40, byteAt n 32, byteAt n 24, byteAt n 16, byteAt n 8, byteAt n 0] := rfl
  rw [hb]
  have hj : j = 0 ∨ j = 1 ∨ j = 2 ∨ j = 3 ∨ j = 4 ∨ j = 5 ∨ j = 6 ∨ j = 7 := by omega
  rcases hj with rfl | rfl | rfl | rfl | rfl | rfl | rfl | rfl <;> rfl
theorem fresh_at {w W : World} {g : Nat} {l : Bs} (n : Nat) (hn : n = l.length) (hm : n ≤ 9223372036854775807) (h : W.heap[g]? = some (.cells (l.map byteV).toArray 5 (0, 0))) (hx : Ext (fun _ => False) w W) (hg : w.heap.size ≤ g) :
    FreshB w l (.slice (some ⟨g, 0, none⟩) n n) W := by
  subst hn
  refine ⟨.inr ⟨g, l.length, _, (0, 0), rfl, h, Nat.le_refl _, by simp, hm, fun i _ h => by simp at h, fun k u hu => ?_⟩, hx, fun k hk => ?_⟩
  · simp [hu, byteV]
  · simp only [Value.ownBlock, Option.some.injEq] at hk
    omega

theorem four_eq (n : Nat) : beB (n : Int) 4 = [byteAt n 24, byteAt n 16, byteAt n 8, byteAt n 0] := rfl
set_option maxRecDepth 100000 in
theorem four_walk (w : World) (n : Nat) (hn : n ≤ 9223372036854775807) : Calls Try.prog 48 #[.int .i64 (n : Int)] w fun e w' => ∃ v', e = .returned v' ∧ FreshB w (beB (n : Int) 4) v' w' := by
  have h0 : (n : Int) % 256 = ((byteAt n 0).toNat : Int) := by have := byteAt_wrap n 0; simpa using this
  have h8 : (n : Int) / 256 % 256 = ((byteAt n 8).toNat : Int) := byteAt_wrap n 8
  have h16 : (n : Int) / 65536 % 256 = ((byteAt n 16).toNat : Int) := byteAt_wrap n 16
  have h24 : (n : Int) / 16777216 % 256 = ((byteAt n 24).toNat : Int) := byteAt_wrap n 24
  have hle : (n : Int) ≤ 9223372036854775807 := by omega
  rw [four_eq]
  generalize byteAt n 0 = c0 at *
  generalize byteAt n 8 = c1 at *
  generalize byteAt n 16 = c2 at *
  generalize byteAt n 24 = c3 at *
  have HH := Lib.hid (And.intro h0 (And.intro h8 (And.intro h16 h24)))
  clear h0 h8 h16 h24
  go_enter Try.func48, Try.ntmps48
  go_wp2_with fail
  go_ret
  refine ⟨_, rfl, fresh_at 4 rfl (by decide) ?_ ((Ext.refl _ _).alloc _) (Nat.le_refl _)⟩
  rw [heap_alloc_self, HH.out.1, HH.out.2.1, HH.out.2.2.1, HH.out.2.2.2]
  rfl
set_option maxRecDepth 100000 in
theorem dblob_walk {w : World} {D : Nat → Prop} {v : Value} {l : Bs} (hv : Byt D w v l) (hl : l.length ≤ 65536) :
    Calls Try.prog 40 #[v] w fun e w' => ∃ v', e = .returned (.tuple #[v', .int .i64 0]) ∧ FreshB w (blobB l) v' w' := by
  have H := Lib.hid (four_walk w l.length (by omega))
  obtain ⟨A, c, rfl, hle, _⟩ := id hv
  have Hv := Lib.hid hv
  have hcm : decide ((65536 : Int) < (l.length : Int)) = false := by simp; omega
  have hcm' : ¬ (65536 : Int) < (l.length : Int) := by omega
  clear hv hle
  go_enter Try.func40, Try.ntmps40
  go_wp2_with fail
  refine H.out.mono ?_
  rintro e w1 ⟨v1, rfl, h1⟩
  obtain ⟨A1, c1, hf1, _, _⟩ := h1.own.formP
  subst hf1
  have H1 := Lib.hid h1
  clear h1
  go_wp2_with (at_builtin; refine Hid.out ?_)
  refine Lib.hid ?_
  refine wpList_append_bytes rfl _ _ 36 rfl Try.underlying36 info8p (sv := .slice A1 _ c1) rfl rfl H1.out.own (Hv.out.same H1.out.ext) (by simp [beB_len]; omega) ?_
  intro v2 w2 hown2 hx2 hb2
  have hfr := H1.out.appended hown2 hx2 hb2
  have HF := Lib.hid hfr
  clear hown2 hx2 hb2 hfr
  go_wp2_with fail
  refine bodyPost_ret (results_tmp2 rfl _ _ _) rfl ?_
  exact ⟨_, rfl, HF.out⟩
set_option maxRecDepth 100000 in
theorem dblob_long {w : World} {D : Nat → Prop} {v : Value} {l : Bs} (hv : Byt D w v l) (hl : 65536 < l.length) :
    Calls Try.prog 40 #[v] w fun e w' => e = .returned (.tuple #[.slice none 0 0, .int .i64 2]) ∧ Ext (fun _ => False) w w' := by
  obtain ⟨A, c, rfl, hle, _⟩ := id hv
  have hcm : decide ((65536 : Int) < (l.length : Int)) = true := by simp; omega
  have hcm' : (65536 : Int) < (l.length : Int) := by omega
  clear hv hle
  go_enter Try.func40, Try.ntmps40
  go_wp2_with fail
  refine bodyPost_ret (results_tmp2 rfl _ _ _) rfl ?_
  exact ⟨rfl, Ext.refl _ _⟩
end Go.Proofs.Ytebcpacenoedfaa
