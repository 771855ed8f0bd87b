/- What the registry's functions do; no condition. -/
import Derived.Test.YtcedpdjjjfdbiaaReg
namespace Go.Proofs.Ytcedpdjjjfdbiaa
set_option linter.unusedVariables false
set_option linter.unusedSimpArgs false
open Go.RowKit

theorem RegRep.new {w W : World} {ww : World} (m t a : Nat) (hm : MapIs prE W m []) (ht : MapIs inE W t []) (ha : W.heap[a]? = some (.cells #[.map (some m), .slice none 0 0, .map (some t)] 73 (0, 0))) (hne : m ≠ t) :
    RegRep (fun k => k = a ∨ k = m ∨ k = t) W a [] :=
  ⟨m, t, .slice none 0 0, [], [],
   { obj := ha, known := hm, has := fun p => by simp [assoc], order := ⟨by simp, .inl ⟨rfl, rfl⟩⟩, texts := ht
     rows := fun who => by simp [assoc, byL]; exact ⟨by simp, .inl ⟨rfl, rfl⟩⟩
     apart := fun _ _ _ _ _ h => by simp [assoc] at h
     ne := hne, fa := .inl rfl, fm := .inr (.inl rfl), ft := .inr (.inr rfl)
     fo := fun k hk => by simp [Value.ownBlock] at hk
     fr := fun _ _ _ h => by simp [assoc] at h
     lt := fun k hk => by
       rcases hk with rfl | rfl | rfl
       · exact lt_of_heap ha
       · exact hm.lt
       · exact ht.lt
     nodup := List.nodup_nil }⟩

theorem reg_new (w : World) : Calls Try.prog 9 #[] w fun e w' => ∃ a F, e = .returned (.pointer (some ⟨a, 0, none⟩)) ∧ RegRep F w' a [] ∧ Ext (fun _ => False) w w' ∧ ∀ k, F k → w.heap.size ≤ k := by
  have hmm := @run_makeMap_new Try.prog
  go_enter Try.func9, Try.ntmps9
  go_wp2_with fail
  go_ret
  refine ⟨_, _, rfl, RegRep.new (w := w) (ww := w) w.heap.size (w.heap.size + 1) _ (MapIs.new _ (c := 0) ?_) (MapIs.new _ (c := 0) ?_) (heap_alloc_at (by simp)) (by omega), (((Ext.refl _ _).alloc _).alloc _).alloc _, ?_⟩
  · rw [heap_alloc_lt _ _ _ (by simp; omega), heap_alloc_lt _ _ _ (by simp)]; exact heap_alloc_self _ _
  · rw [heap_alloc_lt _ _ _ (by simp)]; exact heap_alloc_at (by simp)
  · rintro k (rfl | rfl | rfl) <;> omega

theorem reg_count {F : Nat → Prop} {w : World} {a : Nat} {L : List (Int × Bs)} (h : RegRep F w a L) :
    Calls Try.prog 26 #[.pointer (some ⟨a, 0, none⟩)] w fun e w' => e = .returned (.int .i64 L.length) ∧ w = w' := by
  obtain ⟨m, t, ov, ES, ET, h⟩ := h
  have c1 : w.cell? ⟨a, 1, none⟩ = some ov := cells_at h.obj 1
  obtain ⟨A, c, hov⟩ : ∃ A c, ov = .slice A L.length c := by
    rcases h.order.2 with ⟨h1, h2⟩ | ⟨g, cap, cur, h1, _⟩
    · exact ⟨none, 0, by rw [h1, h2]⟩
    · exact ⟨_, _, h1⟩
  subst hov
  clear h
  go_enter Try.func26, Try.ntmps26
  go_wp2_with fail
  go_ret
  exact ⟨rfl, rfl⟩

theorem reg_knows {F : Nat → Prop} {w : World} {a : Nat} {L : List (Int × Bs)} (h : RegRep F w a L) (who : Int) {D : Nat → Prop} {v : Value} {s : Bs} (hv : Byt D w v s) :
    Calls Try.prog 16 #[.pointer (some ⟨a, 0, none⟩), .int .i64 who, v] w fun e w' => e = .returned (.bool (decide ((who, s) ∈ L))) ∧ Ext (fun _ => False) w w' := by
  obtain ⟨m, t, ov, ES, ET, h⟩ := h
  have c0 : w.cell? ⟨a, 0, none⟩ = some (.map (some m)) := cells_at h.obj 0
  have hal := lt_of_heap h.obj
  have hml := h.known.lt
  have hcv := hv.conv 33 5 9 Try.underlying33 Try.underlying5 Try.underlying9
  have hlk := h.known.lookup key_pair Try.underlying69 _ zero_bool (who, s)
  have hb : (assoc (who, s) ES).getD (.bool false) = .bool (decide ((who, s) ∈ L)) := by
    rw [h.has]
    by_cases hin : (who, s) ∈ L <;> simp [hin]
  rw [hb] at hlk
  clear h hv hb
  go_enter Try.func16, Try.ntmps16
  go_wp2_with fail
  refine wp_region_mix (Cls [a, m, blk v] _) [] [0, 1, 2, 3, 4, 5, 6, 7, 8, 9] (by kernel_rfl) (by kernel_rfl) (Cls.refl _ _) ?_
  try dsimp only [wpMix, wpSegs, pick, List.getElem?_cons_zero, List.getElem?_cons_succ]
  generalize hz : Act.mk _ _ = z
  repeat (first | (refine wpQuiet_step (fun K hK => ?_); replace hK := Lib.hid hK; subst hz; go_simp; generalize hz : Act.mk _ _ = z; refine hK.out z ?_; clear hK K) | (refine wpQuiet_step (fun K hK => ?_); replace hK := Lib.hid hK; subst hz; refine iteSkip (by kernel_rfl) ?_; go_simp; generalize hz : Act.mk _ _ = z; refine hK.out z ?_; clear hK K))
  refine wpQuiet_nil ?_
  subst hz
  try dsimp only [NoPan]
  go_wp2_with fail
  go_ret
  exact ⟨rfl, (Ext.refl _ _).drew⟩

def signE (who : Int) (t : Bs) : Int := if who < 1 ∨ who > 64 then 1 else if t.length > 65536 then 2 else 0
def addL (p : Int × Bs) (L : List (Int × Bs)) : List (Int × Bs) := if p ∈ L then L else L ++ [p]
def signL (who : Int) (t : Bs) (L : List (Int × Bs)) : List (Int × Bs) := if signE who t = 0 then addL (who, t) L else L

theorem reg_add {F : Nat → Prop} {w : World} {a : Nat} {L : List (Int × Bs)} (h : RegRep F w a L) (who : Int) (s : Bs) (hlen : L.length < 1073741824) :
    Calls Try.prog 30 #[.pointer (some ⟨a, 0, none⟩), .agg #[.int .i64 who, str s]] w fun e w' => e = .returned (.tuple #[]) ∧
      ∃ F', RegRep F' w' a (addL (who, s) L) ∧ Ext F w w' ∧ ∀ k, F' k → F k ∨ w.heap.size ≤ k := by
  by_cases hin : (who, s) ∈ L
  · refine (add_old h who s hin).mono fun e w' ⟨he, hx⟩ => ⟨he, F, ?_, hx.mono fun _ _ => False.elim, fun k hk => .inl hk⟩
    rw [addL, if_pos hin]
    exact h.keep hx fun _ _ => id
  · rw [addL, if_neg hin]
    exact add_new h who s hin hlen

theorem reg_sign {F : Nat → Prop} {w : World} {a : Nat} {L : List (Int × Bs)} (h : RegRep F w a L) (who : Int) {D : Nat → Prop} {v : Value} {s : Bs} (hv : Byt D w v s) (hlen : L.length < 1073741824) :
    Calls Try.prog 12 #[.pointer (some ⟨a, 0, none⟩), .int .i64 who, v] w fun e w' => e = .returned (.int .i64 (signE who s)) ∧
      ∃ F', RegRep F' w' a (signL who s L) ∧ Ext F w w' ∧ ∀ k, F' k → F k ∨ w.heap.size ≤ k := by
  have hadd := @reg_add F w a L h who s hlen
  have hcv := hv.conv 33 5 9 Try.underlying33 Try.underlying5 Try.underlying9
  have stay : signE who s ≠ 0 → ∃ F', RegRep F' w a (signL who s L) ∧ Ext F w w ∧ ∀ k, F' k → F k ∨ w.heap.size ≤ k := fun hne =>
    ⟨F, by rw [signL, if_neg hne]; exact h, Ext.refl _ _, fun k hk => .inl hk⟩
  have Hadd := Lib.hid hadd
  clear hadd h
  obtain ⟨A, c, rfl, hc, _⟩ := hv
  by_cases h1 : who < 1
  · have h1' : decide (who < 1) = true := by simpa using h1
    go_enter Try.func12, Try.ntmps12
    go_wp2_with fail
    go_ret
    have : signE who s = 1 := by simp [signE, h1]
    exact ⟨by rw [this]; rfl, stay (by rw [this]; decide)⟩
  · by_cases h2 : who > 64
    · have h1' : decide (who < 1) = false := by simpa using h1
      have h2' : decide (64 < who) = true := by simpa using h2
      go_enter Try.func12, Try.ntmps12
      go_wp2_with fail
      go_ret
      have : signE who s = 1 := by simp [signE, h2]
      exact ⟨by rw [this]; rfl, stay (by rw [this]; decide)⟩
    · have h1' : decide (who < 1) = false := by simpa using h1
      have h2' : decide (64 < who) = false := by simpa using h2
      by_cases h3 : s.length > 65536
      · have h3' : decide ((65536 : Int) < (s.length : Int)) = true := by simp; omega
        go_enter Try.func12, Try.ntmps12
        go_wp2_with fail
        go_ret
        have : signE who s = 2 := by simp [signE, h1, h2, h3]
        exact ⟨by rw [this]; rfl, stay (by rw [this]; decide)⟩
      · have h3' : decide ((65536 : Int) < (s.length : Int)) = false := by simp; omega
        have h0 : signE who s = 0 := by simp [signE, h1, h2, h3]
        have H0 := Lib.hid h0
        clear h0
        go_enter Try.func12, Try.ntmps12
        go_wp2_with fail
        refine (Hadd.out).mono ?_
        rintro e w' ⟨rfl, hr⟩
        go_wp2_with fail
        go_ret
        exact ⟨by rw [H0.out]; rfl, by rw [signL, if_pos H0.out]; exact hr⟩
end Go.Proofs.Ytcedpdjjjfdbiaa
