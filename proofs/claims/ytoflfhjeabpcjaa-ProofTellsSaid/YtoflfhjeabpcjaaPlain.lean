/- Numbers in bytes, and rows of bytes, written behind others; no condition. -/
import Derived.Test.YtoflfhjeabpcjaaBufs2
import Derived.WalkArith
namespace Go.Proofs.Ytoflfhjeabpcjaa
set_option linter.unusedVariables false
set_option linter.unusedSimpArgs false
open Go.RowKit

theorem info8p : (Try.prog.info? 5).map (fun i => (i.zero, i.size, i.bytes)) = some (some (.int .u8 0), 1, 1) := by kernel_rfl
theorem OwnB.formP {w : World} {v : Value} {l : Bs} (h : OwnB w v l) : ∃ A c, v = .slice A l.length c ∧ l.length ≤ c ∧ (∀ ad, A = some ad → ∃ g, ad = ⟨g, 0, none⟩) := by
  rcases h with ⟨rfl, rfl⟩ | ⟨g, c, cells, fr, rfl, hg, h1, h2, h3, h4, h5⟩
  · exact ⟨none, 0, rfl, Nat.le_refl _, fun _ h => by cases h⟩
  · exact ⟨_, c, rfl, h1, fun _ h => by cases h; exact ⟨g, rfl⟩⟩
/-- Bytes that are new since w0. -/
structure FreshB (w0 : World) (l : Bs) (v : Value) (w : World) : Prop where
  own : OwnB w v l
  ext : Ext (fun _ => False) w0 w
  new : ∀ k, v.ownBlock = some k → w0.heap.size ≤ k
theorem FreshB.nil (w : World) : FreshB w [] (.slice none 0 0) w := ⟨.inl ⟨rfl, rfl⟩, Ext.refl _ _, fun k h => by simp [Value.ownBlock] at h⟩
theorem FreshB.step {w0 w w1 : World} {l : Bs} {v : Value} (h : FreshB w0 l v w) (hx : Ext (fun _ => False) w w1) : FreshB w0 l v w1 := ⟨h.own.ext hx fun _ _ => id, h.ext.trans hx, h.new⟩
theorem FreshB.base {w0 w w1 : World} {l : Bs} {v : Value} (h : FreshB w1 l v w) (hx : Ext (fun _ => False) w0 w1) : FreshB w0 l v w := ⟨h.own, hx.trans h.ext, fun k hk => Nat.le_trans hx.size (h.new k hk)⟩
theorem FreshB.appended {w0 w w2 : World} {l m : Bs} {v v2 : Value} (h : FreshB w0 l v w) (ho : OwnB w2 v2 m) (hx : Ext (fun k => v.ownBlock = some k) w w2) (hb : v2.ownBlock = v.ownBlock ∨ ∃ b, v2.ownBlock = some b ∧ w.heap.size ≤ b) : FreshB w0 m v2 w2 := by
  refine ⟨ho, h.ext.trans' hx fun b hb => .inr (h.new b hb), fun k hk => ?_⟩
  rcases hb with hb | ⟨b, hb, hle⟩
  · exact h.new k (hb ▸ hk)
  · rw [hb] at hk
    cases hk
    exact Nat.le_trans h.ext.size hle
theorem FreshB.byt {w0 w : World} {l : Bs} {v : Value} (h : FreshB w0 l v w) : Byt (fun k => w0.heap.size ≤ k) w v l := h.own.byt.mono h.new
theorem byt_lit (w : World) (m : Bs) (fr : Nat × Nat) : Byt (· = w.heap.size) (w.alloc (.cells (m.map byteV).toArray 5 fr)) (.slice (some ⟨w.heap.size, 0, none⟩) m.length m.length) m := by
  refine ⟨_, _, rfl, Nat.le_refl _, fun _ => ⟨_, rfl, rfl, fun j u hu => ?_⟩⟩
  have ha : (⟨w.heap.size, 0, none⟩ : Addr).add j = ⟨w.heap.size, j, none⟩ := by unfold Addr.add; split <;> simp_all
  rw [ha, cells_at (heap_alloc_self w _)]
  simp [hu, byteV]

/-- One byte of a number. -/
def byteAt (n : Int) (s : Nat) : UInt8 := UInt8.ofNat ((n / 2 ^ s) % 256).toNat
theorem byteAt_wrap (n : Int) (s : Nat) : n / 2 ^ s % 256 = ((byteAt n s).toNat : Int) := by
  have h : ((n / 2 ^ s) % 256).toNat < 256 := by omega
  rw [byteAt, UInt8.toNat_ofNat', Nat.mod_eq_of_lt h]
  omega
/-- A number in k bytes. -/
def beB (n : Int) (k : Nat) : Bs := (List.range k).map fun j => byteAt n (8 * (k - 1 - j))
theorem beB_len (n : Int) (k : Nat) : (beB n k).length = k := by simp [beB]
theorem beB_take (n : Int) (k i s : Nat) (h : i < k) (hs : s = 8 * (k - 1 - i)) : (beB n k).take (i + 1) = (beB n k).take i ++ [byteAt n s] := by
  rw [List.take_succ_eq_append_getElem (by rw [beB_len]; exact h)]
  simp [beB, hs]

set_option maxRecDepth 100000 in
set_option maxHeartbeats 1000000 in
theorem put_walk {w0 w : World} {v : Value} {l : Bs} {n : Int} {k : Nat} (hv : FreshB w0 l v w) (hk : k ≤ 8) (hk0 : 1 ≤ k) (hl : l.length ≤ 140737488350000) :
    Calls Try.prog 63 #[v, .int .i64 n, .int .i64 k] w fun e w' => ∃ v', e = .returned v' ∧ FreshB w0 (l ++ beB n k) v' w' := by
  have q1 : IntKind.i64.wrap ((k : Int) - 1) = (k : Int) - 1 := by rw [IntKind.wrap_i64]; omega
  have q2 : IntKind.i64.wrap (8 * ((k : Int) - 1)) = 8 * ((k : Int) - 1 - ((0 : Nat) : Int)) := by rw [IntKind.wrap_i64]; omega
  have Hv := Lib.hid hv
  clear hv
  go_enter Try.func63, Try.ntmps63
  go_wp2_with fail
  try rw [q1]
  try rw [q2]
  go_loopw [0, 7] (fun u s W => ∃ i : Nat, i ≤ k ∧ s = .int .i64 (8 * ((k : Int) - 1 - (i : Int))) ∧ FreshB w0 (l ++ (beB n k).take i) u W) (fun _ s _ => (intOf s + 8).toNat)
  case atStart => exact ⟨0, by omega, by first | rfl | simp | (rw [q2]), by simpa using Hv.out⟩
  case round =>
    obtain ⟨i, hi, rfl, hu⟩ := hrel
    by_cases hik : i < k
    · obtain ⟨s, hs⟩ : ∃ s : Nat, s = 8 * (k - 1 - i) := ⟨_, rfl⟩
      have hsi : 8 * ((k : Int) - 1 - (i : Int)) = (s : Int) := by omega
      rw [hsi]
      have hge : decide ((0 : Int) ≤ (s : Int)) = true := by simp
      have hge' : (0 : Int) ≤ (s : Int) := by omega
      have hs64 : (s : Int) ≤ 64 := by omega
      have hby := byteAt_wrap n s
      have htk := beB_take n k i s hik hs
      have hnext : IntKind.i64.wrap ((s : Int) - 8) = 8 * ((k : Int) - 1 - ((i + 1 : Nat) : Int)) := by rw [IntKind.wrap_i64]; omega
      generalize byteAt n s = c at *
      obtain ⟨A, cp, hform, hle, hA⟩ := hu.own.formP
      subst hform
      have Hu := Lib.hid (And.intro hu htk)
      have hlen : (l ++ List.take i (beB n k)).length + 1 ≤ 140737488355328 := by
        simp
        omega
      have Hlen := Lib.hid hlen
      clear hu htk hlen hle hA
      generalize hp : l ++ List.take i (beB n k) = p at *
      have Hp := Lib.hid hp
      clear hp
      have Hs := Lib.hid hsi
      clear hs hsi
      go_wp2_with (at_builtin; refine Hid.out ?_)
      rw [hby]
      refine Lib.hid ?_
      refine wpList_append_bytes rfl _ _ 22 rfl Try.underlying22 info8p (sv := .slice A p.length cp) rfl rfl (Hu.out.1.own.ext ((Ext.refl (fun _ => False) _).alloc _) fun _ _ => id) (byt_lit wr [c] (0, 0)) Hlen.out ?_
      intro v2 w2 hown2 hx2 hb2
      have hfr := ((Hu.out.1).step ((Ext.refl (fun _ => False) _).alloc _)).appended hown2 hx2 hb2
      have HF := Lib.hid hfr
      clear hown2 hx2 hb2 hfr
      go_wp2_with fail
      refine ⟨⟨i + 1, by omega, by go_num, ?_⟩, by have := Hs.out; simp [intOf]; omega⟩
      rw [Hu.out.2, ← List.append_assoc, Hp.out]
      exact HF.out
    · have : i = k := by omega
      subst this
      have hge : decide ((0 : Int) ≤ 8 * ((i : Int) - 1 - (i : Int))) = false := by simp; omega
      have hge' : ¬ (0 : Int) ≤ 8 * ((i : Int) - 1 - (i : Int)) := by omega
      have Hu := Lib.hid hu
      clear hu
      go_wp2_with fail
      go_ret
      have h1 := Hu.out
      rw [List.take_of_length_le (by rw [beB_len]; omega)] at h1
      exact ⟨_, rfl, h1⟩

set_option maxRecDepth 100000 in
theorem num_walk (w : World) (n : Int) : Calls Try.prog 19 #[.int .i64 n] w fun e w' => ∃ v', e = .returned v' ∧ FreshB w (beB n 8) v' w' := by
  have H := Lib.hid (put_walk (n := n) (k := 8) (FreshB.nil w) (by decide) (by decide) (by simp))
  go_enter Try.func19, Try.ntmps19
  go_wp2_with fail
  refine H.out.mono ?_
  rintro e w1 ⟨v1, rfl, h1⟩
  have H1 := Lib.hid h1
  clear h1
  go_wp2_with fail
  go_ret
  exact ⟨_, rfl, H1.out⟩

/-- Bytes with their count ahead. -/
def blobB (l : Bs) : Bs := beB l.length 4 ++ l
theorem blobB_len (l : Bs) : (blobB l).length = 4 + l.length := by simp [blobB, beB_len]
set_option maxRecDepth 100000 in
theorem blob_walk {w : World} {D : Nat → Prop} {v : Value} {l : Bs} (hv : Byt D w v l) (hl : l.length ≤ 65536) :
    Calls Try.prog 112 #[v] w fun e w' => ∃ v', e = .returned (.tuple #[v', .int .i64 0]) ∧ FreshB w (blobB l) v' w' := by
  have H := Lib.hid (put_walk (n := l.length) (k := 4) (FreshB.nil w) (by decide) (by decide) (by simp))
  obtain ⟨A, c, rfl, hle, _⟩ := id hv
  have Hv := Lib.hid hv
  have hcm : decide ((65536 : Int) < (l.length : Int)) = false := by simp; omega
  have hcm' : ¬ (65536 : Int) < (l.length : Int) := by omega
  clear hv hle
  go_enter Try.func112, Try.ntmps112
  go_wp2_with fail
  refine H.out.mono ?_
  rintro e w1 ⟨v1, rfl, h1⟩
  obtain ⟨A1, c1, hf1, _, _⟩ := h1.own.formP
  subst hf1
  have H1 := Lib.hid h1
  clear h1
  go_wp2_with (at_builtin; refine Hid.out ?_)
  refine Lib.hid ?_
  refine wpList_append_bytes rfl _ _ 22 rfl Try.underlying22 info8p (sv := .slice A1 _ c1) rfl rfl H1.out.own (Hv.out.same H1.out.ext) (by simp [beB_len]; omega) ?_
  intro v2 w2 hown2 hx2 hb2
  have hfr := H1.out.appended hown2 hx2 hb2
  have HF := Lib.hid hfr
  clear hown2 hx2 hb2 hfr
  go_wp2_with fail
  refine bodyPost_ret (results_tmp2 rfl _ _ _) rfl ?_
  exact ⟨_, rfl, HF.out⟩
set_option maxRecDepth 100000 in
theorem blob_long {w : World} {D : Nat → Prop} {v : Value} {l : Bs} (hv : Byt D w v l) (hl : 65536 < l.length) :
    Calls Try.prog 112 #[v] w fun e w' => e = .returned (.tuple #[.slice none 0 0, .int .i64 2]) ∧ Ext (fun _ => False) w w' := by
  obtain ⟨A, c, rfl, hle, _⟩ := id hv
  have hcm : decide ((65536 : Int) < (l.length : Int)) = true := by simp; omega
  have hcm' : (65536 : Int) < (l.length : Int) := by omega
  clear hv hle
  go_enter Try.func112, Try.ntmps112
  go_wp2_with fail
  refine bodyPost_ret (results_tmp2 rfl _ _ _) rfl ?_
  exact ⟨rfl, Ext.refl _ _⟩
end Go.Proofs.Ytoflfhjeabpcjaa
