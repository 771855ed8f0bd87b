/- The small case of the client's statements; no condition. -/
import Derived.Test.YtcedpdjjjfdbiaaCliInv
namespace Go.Proofs.Ytcedpdjjjfdbiaa
set_option linter.unusedVariables false
set_option linter.unusedSimpArgs false
open Go.RowKit

theorem OwnB.keptK {K : Nat → Prop} {w w' : World} {v : Value} {l : Bs} (h : OwnB w v l) (hk : Keep K w w') (hv : ∀ k, v.ownBlock = some k → K k) : OwnB w' v l := by
  rcases h with h | ⟨g, c, cells, fr, rfl, hg, r⟩
  · exact .inl h
  · exact .inr ⟨g, c, cells, fr, rfl, (hk.2 g (hv g rfl)).trans hg, r⟩
theorem agreed_none {n : Int} {S : List Bs} {b : Bs} (h : AgreedIs n S b) (hS : ∀ s ∈ S, s = []) : b = [] := by
  rcases agreed_mem h with h | ⟨_, h1, _, h2⟩
  · exact h
  · exact absurd (hS b h2) h1
theorem agreed_small {b : Bs} (h : AgreedIs 4 [[], [120], [120], [121]] b) : b = [120] := by
  refine h.unique (.inr ⟨by decide, .inr ⟨⟨by decide, by decide⟩, fun s hs => ?_⟩⟩)
  obtain ⟨h1, h2⟩ := hs
  have hm : s ∈ ([[], [120], [120], [121]] : List Bs) := by
    refine List.count_pos_iff.1 (Nat.lt_of_lt_of_le (?_ : 0 < (fewQ 4).toNat) h2)
    decide
  simp only [List.mem_cons, List.not_mem_nil, or_false] at hm
  rcases hm with rfl | rfl | rfl | rfl
  · exact absurd rfl h1
  · exact less_irrefl _
  · exact less_irrefl _
  · exact absurd h2 (by decide)
def askS : Bs := [83, 69, 76, 69, 67, 84, 32, 42, 32, 70, 82, 79, 77, 32, 116]
theorem small_said (T : Bs) : saidR 1 1 4 [(17, T)] = [[], [], [], []] := by kernel_rfl
theorem small_L1 : signL (16 + 1) (askB 1 (((0 : Nat) : Int) + 1) askS) [] = [(17, askB 1 (((0 : Nat) : Int) + 1) askS)] := by kernel_rfl
theorem small_T : 0 < (askB 1 (((0 : Nat) : Int) + 1) askS).length ∧ (askB 1 (((0 : Nat) : Int) + 1) askS).length ≤ 65536 := by decide +kernel
theorem small_sign (who : Int) (X : Bs) (L : List (Int × Bs)) (h1 : signE who X = 0) (h2 : ∀ p ∈ L, p.1 ≠ who) : signL who X L = L ++ [(who, X)] := by
  rw [signL, if_pos h1, addL, if_neg fun h => h2 _ h rfl]
theorem small_X : signE 2 (replyB 1 1 [120]) = 0 ∧ signE 3 (replyB 1 1 [120]) = 0 ∧ signE 4 (replyB 1 1 [121]) = 0 ∧ (replyB 1 1 [120]).length ≤ 65536 ∧ (replyB 1 1 [121]).length ≤ 65536 := by decide +kernel
theorem small_L2 (T : Bs) : signL 2 (replyB 1 1 [120]) [(17, T)] = [(17, T), (2, replyB 1 1 [120])] := small_sign _ _ _ small_X.1 (by simp)
theorem small_L3 (T : Bs) : signL 4 (replyB 1 1 [121]) [(17, T), (2, replyB 1 1 [120])] = [(17, T), (2, replyB 1 1 [120]), (4, replyB 1 1 [121])] := small_sign _ _ _ small_X.2.2.1 (by simp)
theorem small_L4 (T : Bs) : signL 3 (replyB 1 1 [120]) [(17, T), (2, replyB 1 1 [120]), (4, replyB 1 1 [121])] = [(17, T), (2, replyB 1 1 [120]), (4, replyB 1 1 [121]), (3, replyB 1 1 [120])] := small_sign _ _ _ small_X.2.1 (by simp)
theorem small_said4 (T : Bs) : saidR 1 1 4 [(17, T), (2, replyB 1 1 [120]), (4, replyB 1 1 [121]), (3, replyB 1 1 [120])] = [[], [120], [120], [121]] := by kernel_rfl

set_option maxRecDepth 100000 in
set_option maxHeartbeats 1000000 in
theorem client_small (w : World) : Calls Try.prog 7 #[] w fun e w' => e = .returned (.bool true) ∧ Ext (fun _ => False) w w' := by
  have kc := fun (w : World) (C : Array Value) (n c : Nat) => Lib.run_convert_bytes_const (P := Try.prog) w 33 5 C n c Try.underlying33 Try.underlying5
  have hxa := fun (w : World) (o : Obj) => (Ext.refl (fun _ => False) w).alloc o
  have hok : newOk 4 1 := by decide
  go_enter Try.func7, Try.ntmps7
  go_wp2_with fail
  refine (ri_new (Ext.refl _ w)).mono ?_
  rintro e w1 ⟨r, rfl, h1⟩
  have HN := Lib.hid (ci_new h1 4 1)
  clear h1
  go_wp2_with fail
  refine HN.out.mono ?_
  intro e w2 h2
  rcases h2 with ⟨_, a, rfl, h2⟩ | ⟨hno, _⟩
  case inr => exact absurd hok hno
  have HA := Lib.hid (ci_ask h2 askS (by simp) (by omega) (by simp))
  clear h2 HN
  go_wp2_with fail
  refine HA.out.mono ?_
  rintro e w3 ⟨_, h3⟩
  rw [if_pos (by decide)] at h3
  obtain ⟨v3, rfl, h3, ho3, _⟩ := h3
  rw [small_L1] at h3
  obtain ⟨hT0, hT1⟩ := small_T
  generalize askB 1 (((0 : Nat) : Int) + 1) askS = T at *
  obtain ⟨A3, c3, hf3, _, _⟩ := ho3.formP
  subst hf3
  have hG1 : ∀ p ∈ [((17 : Int), T)], p.2.length ≤ 65536 := by
    intro p hp
    simp at hp
    subst hp
    exact hT1
  have HR := Lib.hid (ci_result h3 1 hok hG1 (by simp))
  have H3 := Lib.hid (And.intro h3 ho3)
  have hTd : decide (0 < (T.length : Int)) = true := by simp; omega
  clear h3 ho3 HA hG1
  go_wp2_with fail
  refine HR.out.mono ?_
  rintro e w4 ⟨b, v4, hag, rfl, hf4⟩
  have hb : b = [] := by
    rw [show (4 : Int).toNat = 4 from rfl, small_said T] at hag
    exact agreed_none hag (by simp)
  subst hb
  obtain ⟨A4, c4, hff4, _, _⟩ := hf4.own.formP
  subst hff4
  have H4 := Lib.hid (And.intro (H3.out.1.ext hf4.ext) (H3.out.1.keep hf4.ext))
  clear hf4 hag HR
  go_wp2_with fail
  have hb5 := byt_any (Byt.const (l := [120]) (heap_alloc_self w4 (.cells #[.int .u8 120] 5 (1, 2))) rfl 1 rfl) (Ext.refl _ _)
  have hc5 := hxa w4 (.cells #[.int .u8 120] 5 (1, 2))
  generalize w4.alloc (.cells #[.int .u8 120] 5 (1, 2)) = u5 at *
  have HB5 := Lib.hid (And.intro hb5 hc5)
  clear hb5 hc5
  refine (dreply_walk HB5.out.1 1 1).mono ?_
  rintro e t5 ⟨v5, rfl, hf5⟩
  obtain ⟨B5, d5, e5, _, _⟩ := hf5.own.formP
  subst e5
  have HF5 := Lib.hid (And.intro hf5 (HB5.out.2.trans hf5.ext))
  clear hf5
  go_wp2_with fail
  refine (ci_sign (H4.out.1.ext HF5.out.2) 2 HF5.out.1.own.byt (by simp)).mono ?_
  rintro e y5 ⟨rfl, hci, hkp⟩
  rw [small_L2] at hci
  have HC5 := Lib.hid (And.intro hci ((H4.out.2.trans (H4.out.1.keep HF5.out.2)).trans hkp))
  clear hci hkp
  go_wp2_with fail
  have hb6 := byt_any (Byt.const (l := [121]) (heap_alloc_self y5 (.cells #[.int .u8 121] 5 (1, 2))) rfl 1 rfl) (Ext.refl _ _)
  have hc6 := hxa y5 (.cells #[.int .u8 121] 5 (1, 2))
  generalize y5.alloc (.cells #[.int .u8 121] 5 (1, 2)) = u6 at *
  have HB6 := Lib.hid (And.intro hb6 hc6)
  clear hb6 hc6
  refine (dreply_walk HB6.out.1 1 1).mono ?_
  rintro e t6 ⟨v6, rfl, hf6⟩
  obtain ⟨B6, d6, e6, _, _⟩ := hf6.own.formP
  subst e6
  have HF6 := Lib.hid (And.intro hf6 (HB6.out.2.trans hf6.ext))
  clear hf6
  go_wp2_with fail
  refine (ci_sign (HC5.out.1.ext HF6.out.2) 4 HF6.out.1.own.byt (by simp)).mono ?_
  rintro e y6 ⟨rfl, hci, hkp⟩
  rw [small_L3] at hci
  have HC6 := Lib.hid (And.intro hci ((HC5.out.2.trans (HC5.out.1.keep HF6.out.2)).trans hkp))
  clear hci hkp
  go_wp2_with fail
  have hb7 := byt_any (Byt.const (l := [120]) (heap_alloc_self y6 (.cells #[.int .u8 120] 5 (1, 2))) rfl 1 rfl) (Ext.refl _ _)
  have hc7 := hxa y6 (.cells #[.int .u8 120] 5 (1, 2))
  generalize y6.alloc (.cells #[.int .u8 120] 5 (1, 2)) = u7 at *
  have HB7 := Lib.hid (And.intro hb7 hc7)
  clear hb7 hc7
  refine (dreply_walk HB7.out.1 1 1).mono ?_
  rintro e t7 ⟨v7, rfl, hf7⟩
  obtain ⟨B7, d7, e7, _, _⟩ := hf7.own.formP
  subst e7
  have HF7 := Lib.hid (And.intro hf7 (HB7.out.2.trans hf7.ext))
  clear hf7
  go_wp2_with fail
  refine (ci_sign (HC6.out.1.ext HF7.out.2) 3 HF7.out.1.own.byt (by simp)).mono ?_
  rintro e y7 ⟨rfl, hci, hkp⟩
  rw [small_L4] at hci
  have HC7 := Lib.hid (And.intro hci ((HC6.out.2.trans (HC6.out.1.keep HF7.out.2)).trans hkp))
  clear hci hkp
  have hG4 : ∀ p ∈ [((17 : Int), T), (2, replyB 1 1 [120]), (4, replyB 1 1 [121]), (3, replyB 1 1 [120])], p.2.length ≤ 65536 := by
    have hX := small_X
    intro p hp
    simp only [List.mem_cons, List.not_mem_nil, or_false] at hp
    rcases hp with rfl | rfl | rfl | rfl
    · exact hT1
    · exact hX.2.2.2.1
    · exact hX.2.2.2.2
    · exact hX.2.2.2.1
  have HR := Lib.hid (ci_result HC7.out.1 1 hok hG4 (by simp))
  clear hG4
  go_wp2_with fail
  refine HR.out.mono ?_
  rintro e w8 ⟨b, v8, hag, rfl, hf8⟩
  have hb : b = [120] := by
    rw [show (4 : Int).toNat = 4 from rfl, small_said4 T] at hag
    exact agreed_small hag
  subst hb
  obtain ⟨A8, c8, hff8, _, _⟩ := hf8.own.formP
  have hcv := hf8.own.byt.conv 33 5 9 Try.underlying33 Try.underlying5 Try.underlying9
  subst hff8
  have hc8 := HC7.out.1.ext hf8.ext
  have ho8 := H3.out.2.keptK (HC7.out.2.trans (HC7.out.1.keep hf8.ext)) fun k hk => .inr hk
  have HK := Lib.hid (ci_knows hc8 17 ho8.byt)
  have H8 := Lib.hid hc8
  have HV := Lib.hid hf8
  clear hf8 hag HR ho8 hc8
  go_wp2_with fail
  refine HK.out.mono ?_
  rintro e w9 ⟨rfl, hx9⟩
  have hd : decide (((17 : Int), T) ∈ [((17 : Int), T), (2, replyB 1 1 [120]), (4, replyB 1 1 [121]), (3, replyB 1 1 [120])]) = true := by simp
  rw [hd]
  have hc9 := H8.out.ext hx9
  have hcv9 := (HV.out.own.ext hx9 fun _ _ => _root_.id).byt.conv 33 5 9 Try.underlying33 Try.underlying5 Try.underlying9 w9 rfl
  have hcv9' : (convert 33 9 (.slice A8 1 c8)).run Try.prog w9 = .ok (str [120]) w9 := hcv9
  have H9 := Lib.hid hc9
  clear hc9 hx9 hd hcv9 hcv
  go_wp2_with fail
  refine (ci_stamp H9.out).mono ?_
  rintro e _ ⟨rfl, rfl⟩
  go_wp2_with fail
  go_ret
  exact ⟨rfl, H9.out.old⟩
end Go.Proofs.Ytcedpdjjjfdbiaa
