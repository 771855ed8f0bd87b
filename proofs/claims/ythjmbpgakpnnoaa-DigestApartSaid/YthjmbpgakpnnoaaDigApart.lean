/- DigestApart answers true; no condition. -/
import Derived.Test.YthjmbpgakpnnoaaRowsLaw
import Derived.Test.YthjmbpgakpnnoaaDigOf
namespace Go.Proofs.Ythjmbpgakpnnoaa
set_option linter.unusedVariables false
set_option linter.unusedSimpArgs false
open Go.RowKit

set_option maxRecDepth 100000 in
set_option maxHeartbeats 2000000 in
theorem apart_walk {w : World} {D : Nat → Prop} {v v2 : Value} {nm nm2 : Bs} {ls ls2 : List Bs} (hnm : nm.length ≤ 9223372036854775807) (hv : Byts D w v ls) (hl : ls.length ≤ 5864062014634) (hnm2 : nm2.length ≤ 9223372036854775807) (hv2 : Byts D w v2 ls2) (hl2 : ls2.length ≤ 5864062014634) :
    Calls Try.prog 4 #[str nm, v, str nm2, v2] w fun e w' => e = .returned (.bool true) ∧ Ext (fun _ => False) w w' := by
  obtain ⟨A, c, rfl, _⟩ := id hv
  obtain ⟨A2, c2, rfl, _⟩ := id hv2
  have Hv := Lib.hid (And.intro hv hv2)
  have hn1 := textR_num nm ls
  have hn2 := textR_num nm2 ls2
  have he1 := textR_err (nm := nm) (ls := ls)
  have he2 := textR_err (nm := nm2) (ls := ls2)
  have hif := textR_iff (nm := nm) (nm2 := nm2) (ls := ls) (ls2 := ls2)
  have hT1 := fun W (hx : Ext (fun _ => False) w W) => text_walk (nm := nm) (hv.same hx) hl hnm
  have hT2 := fun W (hx : Ext (fun _ => False) w W) => text_walk (nm := nm2) (hv2.same hx) hl2 hnm2
  unfold TextPost at hT1 hT2
  generalize textR nm ls = t1 at *
  generalize textR nm2 ls2 = t2 at *
  obtain ⟨x1, n1⟩ := t1
  obtain ⟨x2, n2⟩ := t2
  dsimp only at hn1 hn2 he1 he2 hif hT1 hT2
  have HT := Lib.hid (And.intro (And.intro hT1 hT2) (And.intro (And.intro he1 he2) hif))
  clear hT1 hT2 he1 he2 hif hv hv2
  go_enter Try.func4, Try.ntmps4
  go_wp2_with fail
  refine (small_walk _).mono ?_
  rintro e w1 ⟨rfl, hx1⟩
  have H1 := Lib.hid hx1
  clear hx1
  go_wp2_with fail
  refine (HT.out.1.1 _ H1.out).mono ?_
  rintro e w2 ⟨u1, rfl, h2⟩
  obtain ⟨B1, d1, hf1, _, _⟩ := h2.own.formP
  subst hf1
  have H2 := Lib.hid (And.intro h2 (H1.out.trans h2.ext))
  clear h2
  go_wp2_with fail
  refine (HT.out.1.2 _ H2.out.2).mono ?_
  rintro e w3 ⟨u2, rfl, h3⟩
  obtain ⟨B2, d2, hf2, _, _⟩ := h3.own.formP
  subst hf2
  have H3 := Lib.hid (And.intro (H2.out.1.step h3.ext) (And.intro h3 (H2.out.2.trans h3.ext)))
  clear h3
  rcases hn1 with rfl | rfl
  · rcases hn2 with rfl | rfl
    · have hif := HT.out.2.2 rfl rfl
      have hs := same_walk (Hv.out.1.same H3.out.2.2) (Hv.out.2.same H3.out.2.2) (by omega) (by omega)
      have Hs := Lib.hid (And.intro hs hif)
      clear hs hif
      by_cases hnn : nm = nm2
      · have hb : (nm == nm2) = true := by simpa using hnn
        have Hnn := Lib.hid hnn
        clear hnn
        go_wp2_with fail
        refine Hs.out.1.mono ?_
        rintro e w4 ⟨rfl, hx4⟩
        have hc1 := (H3.out.1.step hx4).own.byt.conv 22 5 9 Try.underlying22 Try.underlying5 Try.underlying9 w4 rfl
        have hc2 := (H3.out.2.1.step hx4).own.byt.conv 22 5 9 Try.underlying22 Try.underlying5 Try.underlying9 w4 rfl
        have H4 := Lib.hid (H3.out.2.2.trans hx4)
        clear hx4
        by_cases hll : ls = ls2
        · have hxx : (x1 == x2) = true := by simpa using Hs.out.2.2 ⟨Hnn.out, hll⟩
          rw [decide_eq_true hll]
          clear hll
          go_wp2_with fail
          go_ret
          exact ⟨rfl, H4.out⟩
        · have hxx : (x1 == x2) = false := by
            have : ¬ x1 = x2 := fun e => hll (Hs.out.2.1 e).2
            simpa using this
          rw [decide_eq_false hll]
          clear hll
          go_wp2_with fail
          go_ret
          exact ⟨rfl, H4.out⟩
      · have hb : (nm == nm2) = false := by simpa using hnn
        have hxx : (x1 == x2) = false := by
          have : ¬ x1 = x2 := fun e => hnn (Hs.out.2.1 e).1
          simpa using this
        have hc1 := H3.out.1.own.byt.conv 22 5 9 Try.underlying22 Try.underlying5 Try.underlying9 w3 rfl
        have hc2 := H3.out.2.1.own.byt.conv 22 5 9 Try.underlying22 Try.underlying5 Try.underlying9 w3 rfl
        clear hnn
        go_wp2_with fail
        go_ret
        exact ⟨rfl, H3.out.2.2⟩
    · have hz := (HT.out.2.1.2 (by decide)).1
      subst hz
      go_wp2_with fail
      go_ret
      exact ⟨rfl, H3.out.2.2⟩
  · have hz := (HT.out.2.1.1 (by decide)).1
    subst hz
    rcases hn2 with rfl | rfl
    · go_wp2_with fail
      go_ret
      exact ⟨rfl, H3.out.2.2⟩
    · have hz := (HT.out.2.1.2 (by decide)).1
      subst hz
      go_wp2_with fail
      go_ret
      exact ⟨rfl, H3.out.2.2⟩
end Go.Proofs.Ythjmbpgakpnnoaa
