/- What a client was answered: the program's; no condition. -/
import Derived.Test.YtcedpdjjjfdbiaaCli
import Derived.Laws.OwnMore
import Derived.Deep.DeepCutAuto
import Derived.Deep.CutBlock
namespace Go.Proofs.Ytcedpdjjjfdbiaa
set_option linter.unusedVariables false
set_option linter.unusedSimpArgs false
open Go.RowKit

theorem rows_at {N : Nat} {w : World} {v : Value} {vs : List Value} {ls : List Bs} (h : OwnRows N w v vs ls) {i : Nat} (hi : i < ls.length) :
    ∃ g c u, v = .slice (some ⟨g, 0, none⟩) ls.length c ∧ N ≤ g ∧ w.cell? ⟨g, i, none⟩ = some u ∧ OwnB w u ls[i] ∧ vs[i]? = some u := by
  have hv : i < vs.length := by rw [h.len]; exact hi
  rcases h.row.2 with ⟨_, h2⟩ | ⟨g, cap, cur, h1, hg, h3, h4, _, _, h6⟩
  · omega
  · refine ⟨g, cap, vs[i], h1, hg, ?_, h.each i _ _ (List.getElem?_eq_getElem hv) (List.getElem?_eq_getElem hi), List.getElem?_eq_getElem hv⟩
    rw [cells_at h3]
    have h7 := congrArg (fun l => l[i]?) h6
    simp only [List.getElem?_eq_getElem hv] at h7
    rw [List.getElem?_take_of_lt (by omega)] at h7
    simpa using h7
/-- Rows of the call's own read as rows of bytes. -/
theorem OwnRows.byts {N : Nat} {w : World} {v : Value} {vs : List Value} {ls : List Bs} (h : OwnRows N w v vs ls) : Byts (fun _ => True) w v ls := by
  obtain ⟨A, c, rfl⟩ := own_slice_form h.row
  refine ⟨A, c, rfl, ?_, fun hn => ?_⟩
  · rcases h.row.2 with ⟨h1, h2⟩ | ⟨g, cap, cur, h1, hg, h3, h4, h5, h6, h7⟩
    · omega
    · simp only [Value.slice.injEq] at h1
      have := h.len
      have h8 := congrArg List.length h7
      simp at h8
      omega
  · have hp : 0 < ls.length := List.length_pos_iff.2 hn
    obtain ⟨g, c', u, e, _⟩ := rows_at h hp
    simp only [Value.slice.injEq] at e
    refine ⟨g, 0, e.1, trivial, fun i l hl => ?_⟩
    have hi := (List.getElem?_eq_some_iff.1 hl).1
    obtain ⟨g2, c2, u2, e2, _, hc, hb, _⟩ := rows_at h hi
    simp only [Value.slice.injEq] at e2
    have : g2 = g := by have := e.1.symm.trans e2.1; simp at this; omega
    subst this
    have hli : ls[i] = l := by simpa [List.getElem?_eq_getElem hi] using hl
    refine ⟨u2, by simpa using hc, ?_⟩
    rw [← hli]
    exact hb.byt.mono fun _ _ => trivial
/-- What a text says as the answer to a stamp; none: it is none. -/
def readR (id st : Int) (t : Bs) : Bs := if (takeRow t).2.2 = 0 ∧ (takeRow t).1.length = 4 ∧ t = replyB id st ((takeRow t).1.getD 3 []) then (takeRow t).1.getD 3 [] else []
def firstR (id st : Int) : List Bs → Bs
  | [] => []
  | t :: ts => if readR id st t = [] then firstR id st ts else readR id st t
theorem firstR_none {id st : Int} {ts : List Bs} (h : ∀ t ∈ ts, readR id st t = []) : firstR id st ts = [] := by
  induction ts with
  | nil => rfl
  | cons t ts ih => rw [firstR, if_pos (h t (by simp)), ih fun x hx => h x (by simp [hx])]
theorem firstR_at {id st : Int} : ∀ {ts : List Bs} {j : Nat} (hj : j < ts.length), (∀ t ∈ ts.take j, readR id st t = []) → readR id st ts[j] ≠ [] → firstR id st ts = readR id st ts[j]
  | t :: ts, 0, _, _, h => by rw [firstR]; exact if_neg h
  | t :: ts, j + 1, hj, h, h' => by
    rw [firstR, if_pos (h t (by simp))]
    exact firstR_at (ts := ts) (j := j) (by simpa using hj) (fun x hx => h x (by simp [hx])) (by simpa using h')
def saidR (id st : Int) (m : Nat) (L : List (Int × Bs)) : List Bs := (List.range m).map fun (i : Nat) => firstR id st (byL ((i : Int) + 1) L)

set_option maxRecDepth 100000 in
set_option maxHeartbeats 1000000 in
theorem read_walk {w : World} {ca r b2 b3 : Nat} {n id st0 st : Int} {v : Value} {t : Bs} (hb : OwnB w v t) (ht : t.length ≤ 65536) (hc : w.heap[ca]? = some (cliO r n id st0)) (h2 : w.heap[b2]? = some (.cells #[.pointer (some ⟨ca, 0, none⟩)] 29)) (h3 : w.heap[b3]? = some (.cells #[.int .i64 st] 3)) :
    Calls Try.prog 46 #[v, .pointer (some ⟨b2, 0, none⟩), .pointer (some ⟨b3, 0, none⟩)] w fun e w' => e = .returned (str (readR id st t)) ∧ Ext (fun _ => False) w w' := by
  have HT := Lib.hid (takerow_walk hb (by omega))
  have Hb := Lib.hid (And.intro hb (And.intro hc (And.intro h2 h3)))
  have hrd : readR id st t = if (takeRow t).2.2 = 0 ∧ (takeRow t).1.length = 4 ∧ t = replyB id st ((takeRow t).1.getD 3 []) then (takeRow t).1.getD 3 [] else [] := rfl
  obtain ⟨A0, c0, rfl, _, _⟩ := hb.form
  unfold TRPost at HT
  generalize takeRow t = q at *
  obtain ⟨l, used, k⟩ := q
  have Hrd := Lib.hid hrd
  clear hb hc h2 h3 hrd
  by_cases hk : k = 0
  case neg =>
    have hk1 : (k != 0) = true := by simpa using hk
    have hk2 : (k == 0) = false := by simpa using hk
    have hr : readR id st t = [] := by rw [Hrd.out, if_neg fun h => hk h.1]
    have Hr := Lib.hid hr
    clear hr hk
    go_enter Try.func46, Try.ntmps46
    go_wp2_with fail
    refine HT.out.mono ?_
    rintro e w2 ⟨v2, vs, rfl, hR, hx⟩
    have Hx := Lib.hid hx
    clear hR hx
    go_wp2_with fail
    refine wp_region_bar (Cls [ca] _) [([0, 1, 2, 3, 4, 5, 6, 7, 8, 9, 10, 11, 12, 13, 14, 15, 16], 17)] [] 18 [] [19, 20] (by kernel_rfl) (by kernel_rfl) (Cls.refl _ _) ?_
    try dsimp only [wpMix, wpSegs, pick, List.getElem?_cons_zero, List.getElem?_cons_succ]
    generalize hz : Act.mk _ _ = z
    repeat (first | (refine wpQuiet_step (fun K hK => ?_); replace hK := Lib.hid hK; subst hz; go_simp; generalize hz : Act.mk _ _ = z; refine hK.out z ?_; clear hK K) | (refine wpQuiet_step (fun K hK => ?_); replace hK := Lib.hid hK; subst hz; refine iteSkip (by kernel_rfl) ?_; go_simp; generalize hz : Act.mk _ _ = z; refine hK.out z ?_; clear hK K))
    refine wpQuiet_nil ?_
    subst hz
    try dsimp only [NoPan]
    go_wp2_with fail
    refine ⟨Cls.refl _ _, ?_⟩
    try dsimp only [wpMix, wpSegs, pick, List.getElem?_cons_zero, List.getElem?_cons_succ]
    generalize hz : Act.mk _ _ = z
    repeat (first | (refine wpQuiet_step (fun K hK => ?_); replace hK := Lib.hid hK; subst hz; go_simp; generalize hz : Act.mk _ _ = z; refine hK.out z ?_; clear hK K) | (refine wpQuiet_step (fun K hK => ?_); replace hK := Lib.hid hK; subst hz; refine iteSkip (by kernel_rfl) ?_; go_simp; generalize hz : Act.mk _ _ = z; refine hK.out z ?_; clear hK K))
    refine wpQuiet_nil ?_
    subst hz
    try dsimp only [NoPan]
    go_wp2_with fail
    try dsimp only [wpMix, wpSegs, pick, List.getElem?_cons_zero, List.getElem?_cons_succ]
    generalize hz : Act.mk _ _ = z
    repeat (first | (refine wpQuiet_step (fun K hK => ?_); replace hK := Lib.hid hK; subst hz; go_simp; generalize hz : Act.mk _ _ = z; refine hK.out z ?_; clear hK K) | (refine wpQuiet_step (fun K hK => ?_); replace hK := Lib.hid hK; subst hz; refine iteSkip (by kernel_rfl) ?_; go_simp; generalize hz : Act.mk _ _ = z; refine hK.out z ?_; clear hK K))
    refine wpQuiet_nil ?_
    subst hz
    try dsimp only [NoPan]
    go_wp2_with fail
    go_ret
    exact ⟨by rw [Hr.out]; rfl, Hx.out.drew⟩
  subst hk
  by_cases h4 : l.length = 4
  case neg =>
    have h4' : ((l.length : Int) != 4) = true := by
      rw [bne_iff_ne]
      omega
    have h4'' : (l.length != 4) = true := by simpa using h4
    have hr : readR id st t = [] := by rw [Hrd.out, if_neg fun h => h4 h.2.1]
    have Hr := Lib.hid hr
    clear hr h4
    go_enter Try.func46, Try.ntmps46
    go_wp2_with fail
    refine HT.out.mono ?_
    rintro e w2 ⟨v2, vs, rfl, hR, hx⟩
    obtain ⟨RA, Rc, rfl⟩ := own_slice_form hR.row
    have Hx := Lib.hid hx
    clear hR hx
    go_wp2_with fail
    refine wp_region_bar (Cls [ca] _) [([0, 1, 2, 3, 4, 5, 6, 7, 8, 9, 10, 11, 12, 13, 14, 15, 16], 17)] [] 18 [] [19, 20] (by kernel_rfl) (by kernel_rfl) (Cls.refl _ _) ?_
    try dsimp only [wpMix, wpSegs, pick, List.getElem?_cons_zero, List.getElem?_cons_succ]
    generalize hz : Act.mk _ _ = z
    repeat (first | (refine wpQuiet_step (fun K hK => ?_); replace hK := Lib.hid hK; subst hz; go_simp; generalize hz : Act.mk _ _ = z; refine hK.out z ?_; clear hK K) | (refine wpQuiet_step (fun K hK => ?_); replace hK := Lib.hid hK; subst hz; refine iteSkip (by kernel_rfl) ?_; go_simp; generalize hz : Act.mk _ _ = z; refine hK.out z ?_; clear hK K))
    refine wpQuiet_nil ?_
    subst hz
    try dsimp only [NoPan]
    go_wp2_with fail
    refine ⟨Cls.refl _ _, ?_⟩
    try dsimp only [wpMix, wpSegs, pick, List.getElem?_cons_zero, List.getElem?_cons_succ]
    generalize hz : Act.mk _ _ = z
    repeat (first | (refine wpQuiet_step (fun K hK => ?_); replace hK := Lib.hid hK; subst hz; go_simp; generalize hz : Act.mk _ _ = z; refine hK.out z ?_; clear hK K) | (refine wpQuiet_step (fun K hK => ?_); replace hK := Lib.hid hK; subst hz; refine iteSkip (by kernel_rfl) ?_; go_simp; generalize hz : Act.mk _ _ = z; refine hK.out z ?_; clear hK K))
    refine wpQuiet_nil ?_
    subst hz
    try dsimp only [NoPan]
    go_wp2_with fail
    try dsimp only [wpMix, wpSegs, pick, List.getElem?_cons_zero, List.getElem?_cons_succ]
    generalize hz : Act.mk _ _ = z
    repeat (first | (refine wpQuiet_step (fun K hK => ?_); replace hK := Lib.hid hK; subst hz; go_simp; generalize hz : Act.mk _ _ = z; refine hK.out z ?_; clear hK K) | (refine wpQuiet_step (fun K hK => ?_); replace hK := Lib.hid hK; subst hz; refine iteSkip (by kernel_rfl) ?_; go_simp; generalize hz : Act.mk _ _ = z; refine hK.out z ?_; clear hK K))
    refine wpQuiet_nil ?_
    subst hz
    try dsimp only [NoPan]
    go_wp2_with fail
    go_ret
    exact ⟨by rw [Hr.out]; rfl, Hx.out.drew⟩
  go_enter Try.func46, Try.ntmps46
  go_wp2_with fail
  refine HT.out.mono ?_
  rintro e w2 ⟨v2, vs, rfl, hR, hx⟩
  obtain ⟨g, gc, u3, rfl, _, hcell, hu3, _⟩ := rows_at hR (i := 3) (by omega)
  have hgl := own_below hR.row g rfl
  obtain ⟨A3, c3, hf3, _, _⟩ := hu3.formP
  subst hf3
  have hl3 : l.getD 3 [] = l[3] := by rw [List.getD_eq_getElem?_getD, List.getElem?_eq_getElem (by omega)]; rfl
  have hrd := Hrd.out
  rw [hl3] at hrd
  generalize l[3] = l3 at *
  have q2 : w2.cell? ⟨b2, 0, none⟩ = some (.pointer (some ⟨ca, 0, none⟩)) := cells_at (hx.heap Hb.out.2.2.1 _root_.id) 0
  have q3 : w2.cell? ⟨b3, 0, none⟩ = some (.int .i64 st) := cells_at (hx.heap Hb.out.2.2.2 _root_.id) 0
  have qc : w2.cell? ⟨ca, 2, none⟩ = some (.int .i64 id) := cells_at (hx.heap Hb.out.2.1 _root_.id) 2
  have k2 := lt_of_heap (hx.heap Hb.out.2.2.1 _root_.id)
  have k3 := lt_of_heap (hx.heap Hb.out.2.2.2 _root_.id)
  have kc := lt_of_heap (hx.heap Hb.out.2.1 _root_.id)
  have hcv := hu3.byt.conv 33 5 9 Try.underlying33 Try.underlying5 Try.underlying9
  have HY := Lib.hid (And.intro (reply_walk (hu3.byt.same ((Ext.refl (fun _ => False) w2).drew)) id st) (And.intro (Hb.out.1.ext (hx.drew) fun _ _ => _root_.id) (And.intro hrd hx)))
  have HU := Lib.hid hu3
  have HD : ∀ b ∈ [ca, b2, b3, g], b < w2.drew.heap.size := by
    intro b hb
    simp only [List.mem_cons, List.not_mem_nil, or_false] at hb
    rcases hb with rfl | rfl | rfl | rfl
    · exact kc
    · exact k2
    · exact k3
    · exact hgl
  have HDh := Lib.hid HD
  clear hR hx hu3 hrd hl3 HD
  rw [h4]
  go_wp2_with fail
  refine wp_region_bar (Cls [ca, b2, b3, g] _) [([0, 1, 2, 3, 4, 5, 6, 7, 8, 9, 10, 11, 12, 13, 14, 15, 16], 17)] [] 18 [] [19, 20] (by kernel_rfl) (by kernel_rfl) (Cls.refl _ _) ?_
  try dsimp only [wpMix, wpSegs, pick, List.getElem?_cons_zero, List.getElem?_cons_succ]
  generalize hz : Act.mk _ _ = z
  repeat (first | (refine wpQuiet_step (fun K hK => ?_); replace hK := Lib.hid hK; subst hz; go_simp; generalize hz : Act.mk _ _ = z; refine hK.out z ?_; clear hK K) | (refine wpQuiet_step (fun K hK => ?_); replace hK := Lib.hid hK; subst hz; refine iteSkip (by kernel_rfl) ?_; go_simp; generalize hz : Act.mk _ _ = z; refine hK.out z ?_; clear hK K))
  refine wpQuiet_nil ?_
  subst hz
  try dsimp only [NoPan]
  go_wp2_with fail
  refine HY.out.1.mono ?_
  rintro e w3 ⟨v3, rfl, hf⟩
  obtain ⟨A5, c5, hf5, _, _⟩ := hf.own.formP
  subst hf5
  have H3 := Lib.hid (And.intro (equal_walk (HY.out.2.1.ext hf.ext fun _ _ => _root_.id).byt hf.own.byt) hf.ext)
  clear hf
  go_wp2_with fail
  refine ⟨Cls.of_ext H3.out.2 fun b hb => ⟨HDh.out b hb, _root_.id⟩, ?_⟩
  try dsimp only [wpMix, wpSegs, pick, List.getElem?_cons_zero, List.getElem?_cons_succ]
  generalize hz : Act.mk _ _ = z
  repeat (first | (refine wpQuiet_step (fun K hK => ?_); replace hK := Lib.hid hK; subst hz; go_simp; generalize hz : Act.mk _ _ = z; refine hK.out z ?_; clear hK K) | (refine wpQuiet_step (fun K hK => ?_); replace hK := Lib.hid hK; subst hz; refine iteSkip (by kernel_rfl) ?_; go_simp; generalize hz : Act.mk _ _ = z; refine hK.out z ?_; clear hK K))
  refine wpQuiet_nil ?_
  subst hz
  try dsimp only [NoPan]
  go_wp2_with fail
  refine H3.out.1.mono ?_
  rintro e _ ⟨rfl, rfl⟩
  by_cases heq : t = replyB id st l3
  · have hd : decide (t = replyB id st l3) = true := by simpa using heq
    have hr : readR id st t = l3 := by rw [HY.out.2.2.1, if_pos ⟨trivial, h4, heq⟩]
    have hcell3 : w3.cell? ⟨g, 3, none⟩ = some (.slice A3 l3.length c3) := cell_same hcell ((Ext.refl (fun _ => False) w2).drew.trans H3.out.2)
    have hcv3 := (HU.out.ext ((Ext.refl (fun _ => False) w2).drew.trans H3.out.2) fun _ _ => _root_.id).byt.conv 33 5 9 Try.underlying33 Try.underlying5 Try.underlying9 w3 rfl
    have Hr := Lib.hid hr
    rw [hd]
    clear hd hr heq hcell hcv
    go_wp2_with fail
    try dsimp only [wpMix, wpSegs, pick, List.getElem?_cons_zero, List.getElem?_cons_succ]
    generalize hz : Act.mk _ _ = z
    repeat (first | (refine wpQuiet_step (fun K hK => ?_); replace hK := Lib.hid hK; subst hz; go_simp; generalize hz : Act.mk _ _ = z; refine hK.out z ?_; clear hK K) | (refine wpQuiet_step (fun K hK => ?_); replace hK := Lib.hid hK; subst hz; refine iteSkip (by kernel_rfl) ?_; go_simp; generalize hz : Act.mk _ _ = z; refine hK.out z ?_; clear hK K))
    refine wpQuiet_nil ?_
    subst hz
    try dsimp only [NoPan]
    go_wp2_with fail
    go_ret
    exact ⟨by rw [Hr.out]; rfl, (HY.out.2.2.2.drew).trans H3.out.2⟩
  · have hd : decide (t = replyB id st l3) = false := by simpa using heq
    have hr : readR id st t = [] := by rw [HY.out.2.2.1, if_neg fun h => heq h.2.2]
    have Hr := Lib.hid hr
    rw [hd]
    clear hd hr heq hcell hcv
    go_wp2_with fail
    try dsimp only [wpMix, wpSegs, pick, List.getElem?_cons_zero, List.getElem?_cons_succ]
    generalize hz : Act.mk _ _ = z
    repeat (first | (refine wpQuiet_step (fun K hK => ?_); replace hK := Lib.hid hK; subst hz; go_simp; generalize hz : Act.mk _ _ = z; refine hK.out z ?_; clear hK K) | (refine wpQuiet_step (fun K hK => ?_); replace hK := Lib.hid hK; subst hz; refine iteSkip (by kernel_rfl) ?_; go_simp; generalize hz : Act.mk _ _ = z; refine hK.out z ?_; clear hK K))
    refine wpQuiet_nil ?_
    subst hz
    try dsimp only [NoPan]
    go_wp2_with fail
    go_ret
    exact ⟨by rw [Hr.out]; rfl, (HY.out.2.2.2.drew).trans H3.out.2⟩
end Go.Proofs.Ytcedpdjjjfdbiaa
