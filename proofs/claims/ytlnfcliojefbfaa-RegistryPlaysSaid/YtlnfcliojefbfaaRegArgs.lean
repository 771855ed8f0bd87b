/- The acts of a registry's statement, as they come in; no condition. -/
import Derived.Test.YtlnfcliojefbfaaRegSmall
import Derived.Test.YtlnfcliojefbfaaOpens
namespace Go.Proofs.Ytlnfcliojefbfaa
set_option linter.unusedVariables false
set_option linter.unusedSimpArgs false
open Go.RowKit

structure Act3 where
  Do : Int
  Who : Int
  B : Bs
  N : Int
def Act3.Is (D : Nat → Prop) (w : World) (g n : Nat) (x : Act3) : Prop :=
  ∃ bv, w.cell? ⟨g, n, none⟩ = some (.int .i64 x.Do) ∧ w.cell? ⟨g, n + 1, none⟩ = some (.int .i64 x.Who) ∧ w.cell? ⟨g, n + 2, none⟩ = some bv ∧ w.cell? ⟨g, n + 3, none⟩ = some (.int .i64 x.N) ∧ Byt D w bv x.B
abbrev Acts3 (D : Nat → Prop) (w : World) (v : Value) (l : List Act3) : Prop := Row (Act3.Is D) 4 D w v l

theorem Act3.Is.same {D : Nat → Prop} {w w' : World} {g n : Nat} {x : Act3} (h : Act3.Is D w g n x) (hx : Ext (fun _ => False) w w') : Act3.Is D w' g n x := by
  obtain ⟨bv, h1, h2, h3, h4, h5⟩ := h
  exact ⟨bv, cell_same h1 hx, cell_same h2 hx, cell_same h3 hx, cell_same h4 hx, h5.same hx⟩
theorem mem_addL (p q : Int × Bs) (L : List (Int × Bs)) : p ∈ addL q L ↔ p ∈ L ∨ p = q := by
  unfold addL
  split
  · rename_i h
    exact ⟨.inl, fun h' => h'.elim id fun e => e ▸ h⟩
  · simp
theorem mem_signL (p : Int × Bs) (who : Int) (t : Bs) (L : List (Int × Bs)) : p ∈ signL who t L ↔ p ∈ L ∨ (signE who t = 0 ∧ p = (who, t)) := by
  unfold signL
  split
  · rename_i h
    rw [mem_addL]
    simp [h]
  · rename_i h
    simp [h]
theorem signL_le (who : Int) (t : Bs) (L : List (Int × Bs)) : (signL who t L).length ≤ L.length + 1 := by
  unfold signL addL
  split
  · split <;> simp
  · omega

set_option maxRecDepth 100000 in
theorem stays_walk (w : World) (av tv : Value) (acts : List Act3) (who : Int) (text : Bs) (hA : Acts3 (· < w.heap.size) w av acts) (hT : Byt (· < w.heap.size) w tv text) (hl : acts.length ≤ 9223372036854775807) :
    Calls Try.prog 3 #[av, .int .i64 who, tv] w fun e w' => e = .returned (.bool true) ∧ Ext (fun _ => False) w w' := by
  obtain ⟨A, c, hav, hcap, hrow⟩ := id hA
  subst hav
  go_enter Try.func3, Try.ntmps3
  go_wp2_with fail
  refine (reg_small _).mono ?_
  rintro e w1 ⟨rfl, hx1⟩
  go_wp2_with fail
  refine (reg_new _).mono ?_
  rintro e w2 ⟨a, F2, rfl, hR2, hx2, hf2⟩
  go_wp2_with fail
  have g1 := hx1.size
  go_loopw [9, 10] (fun sg i W => ∃ (k : Nat) (L : List (Int × Bs)) (F : Nat → Prop), k ≤ acts.length ∧ k ≤ 150 ∧ i = .int .i64 k ∧ sg = .bool (decide ((who, text) ∈ L)) ∧ RegRep F W a L ∧ L.length ≤ k ∧ (∀ b, F b → w.heap.size ≤ b) ∧ Ext (fun _ => False) w W)
    (fun _ i _ => 150 - (intOf i).toNat)
  case atStart => exact ⟨0, [], F2, by omega, by omega, rfl, by simp, hR2, by simp, fun b hb => Nat.le_trans g1 (hf2 b hb), hx1.trans hx2⟩
  case round =>
    obtain ⟨k, L, F, hk, hk1, rfl, rfl, hR, hL, hF, hx⟩ := hrel
    have done : Calls Try.prog 13 #[.pointer (some ⟨a, 0, none⟩), .int .i64 who, tv] wr fun e w' => e = .returned (.bool (decide ((who, text) ∈ L))) ∧ Ext (fun _ => False) wr w' := reg_knows hR who (hT.same hx)
    by_cases hlt : k < acts.length
    · by_cases h150 : k < 150
      · obtain ⟨g, off, c', hav, hdb, bv, c0, c1, c2, c3, hb⟩ := (hA.same fun ad i x h => h.same hx).at hlt
        obtain ⟨rfl, rfl⟩ : A = some ⟨g, off, none⟩ ∧ c = c' := by simpa using hav
        clear hav
        have hgl := hx.size
        have hgl' : g < wr.heap.size := by omega
        obtain ⟨bA, bc, rfl, _, _⟩ := id hb
        have hlt' : (k : Int) < (acts.length : Int) := by omega
        have h150' : decide ((k : Int) < 150) = true := by simp; omega
        by_cases hdo : acts[k].Do = 0
        · have hdo' : (acts[k].Do == 0) = true := by simpa using hdo
          go_wp2_with fail
          refine (reg_sign (hR.keep ((Ext.refl (fun _ => False) _).alloc _) fun _ _ => id) acts[k].Who (hb.same ((Ext.refl (fun _ => False) _).alloc _)) (by omega)).mono ?_
          rintro e w3 ⟨rfl, F3, hR3, hx3, hf3⟩
          have hxa := fun o => (Ext.refl (fun _ => False) wr).alloc o
          have hgr : wr.heap.size < w3.heap.size := by have := hx3.size; simp at this; omega
          have hFn : ¬ F wr.heap.size := fun hf => Nat.lt_irrefl _ (hR.lt _ hf)
          have hbo := hx3.heap (heap_alloc_self _ _) hFn
          have k1 : w3.cell? ⟨wr.heap.size, 1, none⟩ = some (.int .i64 acts[k].Who) := cells_at hbo 1
          have k2 : w3.cell? ⟨wr.heap.size, 2, none⟩ = some (.slice bA acts[k].B.length bc) := cells_at hbo 2
          have hxw3 : Ext (fun _ => False) w w3 := (hx.trans (hxa _)).trans' hx3 fun b hb => .inr (hF b hb)
          have hb3 := (hb.same (hxa _)).ext hx3 fun b hb hf => by have := hF b hf; omega
          have hT3 := hT.same hxw3
          have hcv := (hb3.conv 23 5 9 Try.underlying23 Try.underlying5 Try.underlying9) w3 rfl
          have hcw := (hT3.conv 23 5 9 Try.underlying23 Try.underlying5 Try.underlying9) w3 rfl
          have hmem := mem_signL (who, text) acts[k].Who acts[k].B L
          have hlen3 := signL_le acts[k].Who acts[k].B L
          have hF3 : ∀ b, F3 b → w.heap.size ≤ b := fun b hb => (hf3 b hb).elim (hF b) (fun h => by simp at h; omega)
          have Hmem := Lib.hid hmem
          have Hk := Lib.hid (And.intro hk hk1)
          clear hmem
          go_wp2_with fail
          · have hd : decide ((who, text) ∈ signL acts[k].Who acts[k].B L) = true := by
              rw [decide_eq_true_iff, Hmem.out]
              have e2 : (acts[k].B == text) = true := by assumption
              exact .inr ⟨by assumption, by rw [show acts[k].Who = who by assumption, eq_of_beq e2]⟩
            refine (reg_knows hR3 who hT3).mono ?_
            rintro e w5 ⟨he, hx5⟩
            rw [hd] at he
            subst he
            have Hd := Lib.hid hd
            clear hd
            go_wp2_with fail
            have hk := Hk.out
            go_roundw
            case rel => exact ⟨k + 1, _, F3, by omega, by omega, by go_num, by rw [Hd.out], hR3.keep hx5 fun _ _ => id, by omega, hF3, hxw3.trans hx5⟩
            case measure => simp [intOf]; omega
          all_goals
            have hd : decide ((who, text) ∈ signL acts[k].Who acts[k].B L) = decide ((who, text) ∈ L) := by
              rw [decide_eq_decide, Hmem.out]
              refine ⟨fun h => h.elim id fun h => ?_, .inl⟩
              obtain ⟨h1, h2⟩ := h
              simp only [Prod.mk.injEq] at h2
              obtain ⟨h2, h3⟩ := h2
              exfalso
              first
                | exact absurd h1 (by assumption)
                | exact absurd h2.symm (by assumption)
                | (have h4 : (acts[k].B == text) = false := by assumption
                   rw [h3] at h4
                   simp at h4)
            refine (reg_knows hR3 who hT3).mono ?_
            rintro e w5 ⟨he, hx5⟩
            rw [hd] at he
            subst he
            have Hd := Lib.hid hd
            clear hd
            go_wp2_with fail
            have hk := Hk.out
            go_roundw
            case rel => exact ⟨k + 1, _, F3, by omega, by omega, by go_num, by rw [Hd.out], hR3.keep hx5 fun _ _ => id, by omega, hF3, hxw3.trans hx5⟩
            case measure => simp [intOf]; omega
        · have hdo' : (acts[k].Do == 0) = false := by simpa using hdo
          go_wp2_with fail
          refine (reg_knows (hR.keep ((Ext.refl (fun _ => False) _).alloc _) fun _ _ => id) who (hT.same (hx.alloc _))).mono ?_
          rintro e w5 ⟨rfl, hx5⟩
          go_wp2_with fail
          go_roundw
          case rel => exact ⟨k + 1, _, F, by omega, by omega, by go_num, rfl, (hR.keep ((Ext.refl (fun _ => False) _).alloc _) fun _ _ => id).keep hx5 fun _ _ => id, by omega, hF, (hx.alloc _).trans hx5⟩
          case measure => simp [intOf]; omega
      · have hlt' : (k : Int) < (acts.length : Int) := by omega
        have h150' : decide ((k : Int) < 150) = false := by simp; omega
        go_wp2_with fail
        refine done.mono ?_
        rintro e w5 ⟨rfl, hx5⟩
        go_wp2_with fail
        go_ret
        exact ⟨rfl, hx.trans hx5⟩
    · have hlt' : decide ((k : Int) < (acts.length : Int)) = false := by simp; omega
      go_wp2_with fail
      refine done.mono ?_
      rintro e w5 ⟨rfl, hx5⟩
      go_wp2_with fail
      go_ret
      exact ⟨rfl, hx.trans hx5⟩
end Go.Proofs.Ytlnfcliojefbfaa
