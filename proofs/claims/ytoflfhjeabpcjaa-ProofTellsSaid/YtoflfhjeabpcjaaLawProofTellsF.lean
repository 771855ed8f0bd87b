/- ProofTells: for every input the statement's function returns true, and each argument reads as it did. Conditions: none. -/
import Derived.Test.YtoflfhjeabpcjaaLawProofTellsE
import Derived.Test.YtoflfhjeabpcjaaSized
import Derived.Test.YtoflfhjeabpcjaaSha7
import Derived.Test.YtoflfhjeabpcjaaPlain2
import Derived.Test.YtoflfhjeabpcjaaLawProofTellsB
import Derived.Test.YtoflfhjeabpcjaaRows
import Derived.ProofKit
import Derived.OpenShut
import Derived.ShutString
import Derived.ChangeOld
import Derived.SizedLaws
/- ProofTells, walked; no condition. -/
namespace Go.Proofs.Ytoflfhjeabpcjaa
set_option linter.unusedVariables false
set_option linter.unusedSimpArgs false
open Go.RowKit

set_option maxRecDepth 100000 in
set_option maxHeartbeats 8000000 in
theorem tells_walk {w : World} {root : Bs} {nn : Bool} {keyv kv vv sv : Value} {key k v : Bs} {L : List PS} (hr : root.length = 32) (own : Bool) (hy : Byt (· < w.heap.size) w keyv key) (hyl : key.length ≤ 140737488351232)
    (hk : Byt (· < w.heap.size) w kv k) (hkl : k.length ≤ 140737488351232) (hv : Byt (· < w.heap.size) w vv v) (hvl : v.length ≤ 140737488351232) (hL : StepsR (· < w.heap.size) w sv L) (_ : L.length ≤ maxLen) :
    Calls Try.prog 8 #[.agg (sumA root), .bool own, keyv, .agg #[.bool nn, kv, vv, sv]] w fun e w' => e = .returned (.bool true) ∧ Ext (fun _ => False) w w' := by
  have H := Lib.hid (And.intro hk (And.intro hv (And.intro hL hy)))
  obtain ⟨Ak, ck, rfl, hkc, _⟩ := hk
  obtain ⟨Av, cv, rfl, hvc, _⟩ := hv
  obtain ⟨As, cs, rfl, hsc, _⟩ := hL
  obtain ⟨Ay, cy, rfl, hyc, _⟩ := hy
  obtain ⟨gS, gP, x0⟩ := alloc2 w (.cells (sumA root) 29 (0, 0)) (.cells #[.bool nn, .slice Ak k.length ck, .slice Av v.length cv, .slice As L.length cs] 43 (0, 0))
  generalize hW : ((w.alloc (.cells (sumA root) 29 (0, 0))).alloc (.cells #[.bool nn, .slice Ak k.length ck, .slice Av v.length cv, .slice As L.length cs] 43 (0, 0))) = W0 at *
  have H0 := Lib.hid (And.intro gS (And.intro gP x0))
  clear gS gP x0
  go_enter Try.func8, Try.ntmps8
  go_wp2_with fail
  clear hW
  refine (psmall_walk _).mono ?_
  rintro e w1 ⟨rfl, x1⟩
  have gS := x1.heap H0.out.1 id
  have gP := x1.heap H0.out.2.1 id
  have d0 : w1.cell? ⟨w.heap.size + 1, 0, none⟩ = some (.bool nn) := cells_at gP 0
  have d1 : w1.cell? ⟨w.heap.size + 1, 1, none⟩ = some (.slice Ak k.length ck) := cells_at gP 1
  have d2 : w1.cell? ⟨w.heap.size + 1, 2, none⟩ = some (.slice Av v.length cv) := cells_at gP 2
  have d3 : w1.cell? ⟨w.heap.size + 1, 3, none⟩ = some (.slice As L.length cs) := cells_at gP 3
  have H1 := Lib.hid (And.intro gS (And.intro gP (H0.out.2.2.trans x1)))
  clear gS gP x1
  have hb : ∀ (W : World) (x : Ext (fun _ => False) w W) (b : Nat), b < w.heap.size → W.heap[b]? = w.heap[b]? := fun _ x b hb => x.heap_eq hb id
  have HB := Lib.hid hb
  clear hb
  go_wp2_with fail
  refine (short_walk (nn := nn) (D := (· < w.heap.size)) (H.out.1.heaps (HB.out _ H1.out.2.2)) (H.out.2.1.heaps (HB.out _ H1.out.2.2)) (H.out.2.2.1.same (HB.out _ H1.out.2.2))).mono ?_
  rintro e w2 ⟨rfl, x2⟩
  have gS := x2.heap H1.out.1 id
  have gP := x2.heap H1.out.2.1 id
  have e0 : w2.cell? ⟨w.heap.size + 1, 0, none⟩ = some (.bool nn) := cells_at gP 0
  have e1 : w2.cell? ⟨w.heap.size + 1, 1, none⟩ = some (.slice Ak k.length ck) := cells_at gP 1
  have e2 : w2.cell? ⟨w.heap.size + 1, 2, none⟩ = some (.slice Av v.length cv) := cells_at gP 2
  have e3 : w2.cell? ⟨w.heap.size + 1, 3, none⟩ = some (.slice As L.length cs) := cells_at gP 3
  have H2 := Lib.hid (And.intro gS (And.intro gP (H1.out.2.2.trans x2)))
  clear gS gP x2 d0 d1 d2 d3
  obtain ⟨sh, hsh⟩ : ∃ sh, sh = shortP k v L := ⟨_, rfl⟩
  rw [← hsh]
  have HSH := Lib.hid hsh
  clear hsh
  cases sh with
  | false =>
    go_wp2_with fail
    go_ret
    exact ⟨rfl, H2.out.2.2⟩
  | true =>
    have hsl : L.length ≤ 2000 := by
      have := HSH.out
      unfold shortP at this
      simp at this
      exact this.2
    by_cases hyk : key.length ≤ 4096
    rotate_left
    · have hyk' : decide ((4096 : Int) < (key.length : Int)) = true := by simp; omega
      have hyk2 : (4096 : Int) < (key.length : Int) := by omega
      go_wp2_with fail
      go_ret
      exact ⟨rfl, H2.out.2.2⟩
    have hyk' : decide ((4096 : Int) < (key.length : Int)) = false := by simp; omega
    have hP : PIs (· < w.heap.size) w (.slice Ak k.length ck) (.slice Av v.length cv) (.slice As L.length cs) k v L := ⟨H.out.1, H.out.2.1, H.out.2.2.1, hkl, hvl, by omega⟩
    have HP := Lib.hid hP
    clear hP
    go_wp2_with fail
    refine (dtexts5_walk (nn := nn) (HP.out.same (HB.out _ H2.out.2.2)) (fun b hb => Nat.lt_of_lt_of_le hb H2.out.2.2.size)).mono ?_
    rintro e w3 ⟨ov, vs, rfl, o3, n3, x3⟩
    have gS := x3.heap H2.out.1 id
    have gP := x3.heap H2.out.2.1 id
    have y3 := H2.out.2.2.trans x3
    have hszS := lt_of_heap gS
    have hszP := lt_of_heap gP
    clear e0 e1 e2 e3
    have hsz2 : w.heap.size + 1 < w2.heap.size := lt_of_heap H2.out.2.1
    have hNw := x3.size
    have htl : (textsP nn k v L).length ≤ 2001 := by
      unfold textsP
      split
      · split
        · simp
        · rw [scanT_len, List.length_reverse]; omega
      · simp
    have hmem := textsP_le nn k v L
    generalize hTX : textsP nn k v L = TX at *
    obtain ⟨Ao, co, rfl⟩ := own_slice_form o3.row
    have HTX := Lib.hid (And.intro hTX hmem)
    clear hTX hmem
    rcases List.eq_nil_or_concat TX with ht | ⟨ls, T, ht⟩
    · have hov := n3 ht
      have hl0 : TX.length = 0 := by rw [ht]; rfl
      have hl0' : decide ((0 : Int) < (TX.length : Int)) = false := by rw [hl0]; rfl
      have hl1 : ¬ ((0 : Int) < (TX.length : Int)) := by omega
      clear hov ht hl0
      have H6 := Lib.hid (And.intro gS (And.intro gP (And.intro y3 (And.intro o3 hr))))
      clear gS gP o3 n3 x3 y3 hszS
      have e0 : w3.cell? ⟨w.heap.size + 1, 0, none⟩ = some (.bool nn) := cells_at H6.out.2.1 0
      have e1 : w3.cell? ⟨w.heap.size + 1, 1, none⟩ = some (.slice Ak k.length ck) := cells_at H6.out.2.1 1
      have e2 : w3.cell? ⟨w.heap.size + 1, 2, none⟩ = some (.slice Av v.length cv) := cells_at H6.out.2.1 2
      have e3 : w3.cell? ⟨w.heap.size + 1, 3, none⟩ = some (.slice As L.length cs) := cells_at H6.out.2.1 3
      cases own <;> go_wp2_with fail
      all_goals clear hl0' hl1 e0 e1 e2 e3
      all_goals
        refine (plent_walk (nn := nn) (HP.out.same (HB.out _ H6.out.2.2.1)) (fun b hb => Nat.lt_of_lt_of_le hb H6.out.2.2.1.size) (by omega)).mono ?_
        rintro e w7 ⟨gk, gv, sv7, rfl, lk7, lv7, hgk, hgv, hgne, hs7, x7⟩
        obtain ⟨As7, cs7, rfl⟩ := own_form hs7
        have H7 := Lib.hid (And.intro lk7 (And.intro lv7 (And.intro hs7 x7)))
        have HG7 := Lib.hid (And.intro hgk (And.intro hgv hgne))
        clear lk7 lv7 hs7 x7 hgk hgv hgne
        go_wp2_with (refine wpList_store_row rfl 43 (.tmp 12) _ rfl w7.heap.size #[.bool nn, lentV gk k, lentV gv v, .slice As7 L.length cs7] rfl rfl 43 _ (heap_alloc_self _ _) (by kernel_rfl) (by kernel_rfl) (by simp [Value.oneCell']) ?_; rename_i ax; have HAx := Lib.hid ax; clear ax)
        refine HAx.out _ _ ?_
        clear HAx
        generalize hw8 : World.setRow (World.alloc w7 _) _ _ = w8
        have s8 : w8.heap[w7.heap.size]? = some (.cells #[.bool nn, lentV gk k, lentV gv v, .slice As7 L.length cs7] 43 (0, 0)) := by rw [← hw8]; exact (row_new w7).1
        have x78 : Ext (fun _ => False) w7 w8 := by rw [← hw8]; exact (row_new w7).2
        clear hw8
        have hsz7 := x78.size
        have hb78 := lt_of_heap s8
        have x68 := H7.out.2.2.2.trans x78
        have hsz6 := x68.size
        have hsz67 := H7.out.2.2.2.size
        have gS8 := x68.heap H6.out.1 id
        have gP8 := x68.heap H6.out.2.1 id
        have hxk : gk < w7.heap.size := by obtain ⟨_, h, _⟩ := H7.out.1; exact lt_of_heap h
        have hxv : gv < w7.heap.size := by obtain ⟨_, h, _⟩ := H7.out.2.1; exact lt_of_heap h
        have hx7 := H7.out.2.2.1.lt
        generalize hB7 : w7.heap.size = B7 at *
        have hQ8 : PIs (fun b => b = gk ∨ b = gv ∨ (Value.slice As7 L.length cs7).ownBlock = some b) w8 (lentV gk k) (lentV gv v) (.slice As7 L.length cs7) k v L :=
          ⟨((H7.out.1.byt (by omega)).same x78).mono fun b hb => .inl hb, ((H7.out.2.1.byt (by omega)).same x78).mono fun b hb => .inr (.inl hb), ((stepsR_own H.out.2.2.1.fit H7.out.2.2.1).same fun b hb => x78.heap_eq (by rw [hB7]; exact (hx7 b hb).2) id).mono fun b hb => .inr (.inr hb), hkl, hvl, by omega⟩
        have hD8 : ∀ b, (b = gk ∨ b = gv ∨ (Value.slice As7 L.length cs7).ownBlock = some b) → b < B7 ∧ w3.heap.size ≤ b := by
          rintro b (rfl | rfl | h)
          · exact ⟨hxk, HG7.out.1⟩
          · exact ⟨hxv, HG7.out.2.1⟩
          · exact ⟨(hx7 b h).2, (hx7 b h).1⟩
        have H8 := Lib.hid (And.intro s8 (And.intro gS8 (And.intro gP8 (And.intro x68 (And.intro hQ8 (And.intro hD8 x78))))))
        have q0 : w8.cell? ⟨B7, 0, none⟩ = some (.bool nn) := cells_at s8 0
        have q1 : w8.cell? ⟨B7, 1, none⟩ = some (lentV gk k) := cells_at s8 1
        have q2 : w8.cell? ⟨B7, 2, none⟩ = some (lentV gv v) := cells_at s8 2
        have q3 : w8.cell? ⟨B7, 3, none⟩ = some (.slice As7 L.length cs7) := cells_at s8 3
        clear s8 gS8 gP8 x68 hQ8 hD8 x78 hx7
        go_wp2_with fail
        refine (texts_walk (nn := nn) H8.out.2.2.2.2.1 (fun b hb => by have := H8.out.2.2.2.2.2.1 b hb; omega)).mono ?_
        rw [HTX.out.1]
        rintro e w9 ⟨lv, us, rfl, o9, n9, x9⟩
        obtain ⟨Al, cl, rfl⟩ := own_slice_form o9.row
        have s9 := x9.heap H8.out.1 id
        have gS9 := x9.heap H8.out.2.1 id
        have hsz9 := x9.size
        have H9 := Lib.hid (And.intro s9 (And.intro (x9.heap H8.out.2.2.1 id) (And.intro o9 x9)))
        clear q0 q1 q2 q3
        have r0 : w9.cell? ⟨B7, 0, none⟩ = some (.bool nn) := cells_at s9 0
        have r1 : w9.cell? ⟨B7, 1, none⟩ = some (lentV gk k) := cells_at s9 1
        have r2 : w9.cell? ⟨B7, 2, none⟩ = some (lentV gv v) := cells_at s9 2
        have r3 : w9.cell? ⟨B7, 3, none⟩ = some (.slice As7 L.length cs7) := cells_at s9 3
        clear s9 o9 n9 x9
        go_wp2_with (refine wpList_load_rowg 29 (.tmp 4) rfl rfl w.heap.size rfl 29 (sumA root) (0, 0) _ gS9 Try.underlying29 rfl (info_sum H6.out.2.2.2.2) ?_)
        refine (check_walk (nn := nn) (root := root) (H8.out.2.2.2.2.1.same fun b hb => H9.out.2.2.2.heap_eq (by have := H8.out.2.2.2.2.2.1 b hb; omega) id) (fun b hb => by have := H8.out.2.2.2.2.2.1 b hb; omega) H6.out.2.2.2.2 (H.out.2.2.2.same ((H6.out.2.2.1.trans H8.out.2.2.2.1).trans H9.out.2.2.2)) hyl).mono ?_
        have hcl : (checkP root key nn k v L).1.length ≤ 140737488351232 := by
          unfold checkP
          split
          · simp
          · split
            · simp
            · split
              · simp
              · exact hvl
        generalize hcp : checkP root key nn k v L = cp at *
        rintro e w10 ⟨cv10, rfl, o10, n10, x10⟩
        obtain ⟨A10, c10, rfl⟩ := o10.formv
        have x8t := H9.out.2.2.2.trans x10
        have s10 := x10.heap H9.out.1 id
        have gP10 := x10.heap H9.out.2.1 id
        have gS10 := x10.heap gS9 id
        have y10 := (H6.out.2.2.1.trans H8.out.2.2.2.1).trans x8t
        have hsz10 := x10.size
        have HCP := Lib.hid hcp
        have H10 := Lib.hid (And.intro s10 (And.intro gP10 (And.intro gS10 (And.intro o10 (And.intro n10 (And.intro x10 (And.intro x8t y10)))))))
        clear r0 r1 r2 r3 hcp
        have q0 : w10.cell? ⟨B7, 0, none⟩ = some (.bool nn) := cells_at s10 0
        have q1 : w10.cell? ⟨B7, 1, none⟩ = some (lentV gk k) := cells_at s10 1
        have q2 : w10.cell? ⟨B7, 2, none⟩ = some (lentV gv v) := cells_at s10 2
        have q3 : w10.cell? ⟨B7, 3, none⟩ = some (.slice As7 L.length cs7) := cells_at s10 3
        have p0 : w10.cell? ⟨w.heap.size + 1, 0, none⟩ = some (.bool nn) := cells_at gP10 0
        have p1 : w10.cell? ⟨w.heap.size + 1, 1, none⟩ = some (.slice Ak k.length ck) := cells_at gP10 1
        have p2 : w10.cell? ⟨w.heap.size + 1, 2, none⟩ = some (.slice Av v.length cv) := cells_at gP10 2
        have p3 : w10.cell? ⟨w.heap.size + 1, 3, none⟩ = some (.slice As L.length cs) := cells_at gP10 3
        clear s10 gP10 gS10 o10 n10 x10 x8t y10 gS9
        go_wp2_with fail
        refine (psame_walk (nn := nn) (H8.out.2.2.2.2.1.same fun b hb => H10.out.2.2.2.2.2.2.1.heap_eq (by have := H8.out.2.2.2.2.2.1 b hb; omega) id) (HP.out.same (HB.out _ H10.out.2.2.2.2.2.2.2)) (fun b hb => by have := H8.out.2.2.2.2.2.1 b hb; omega) (fun b hb => Nat.lt_of_lt_of_le hb H10.out.2.2.2.2.2.2.2.size)).mono ?_
        rintro e w11 ⟨rfl, x11⟩
        have s11 := x11.heap H10.out.1 id
        have hsz11 := x11.size
        have H11 := Lib.hid (And.intro s11 x11)
        clear q0 q1 q2 q3 p0 p1 p2 p3
        have q0 : w11.cell? ⟨B7, 0, none⟩ = some (.bool nn) := cells_at s11 0
        have q1 : w11.cell? ⟨B7, 1, none⟩ = some (lentV gk k) := cells_at s11 1
        have q2 : w11.cell? ⟨B7, 2, none⟩ = some (lentV gv v) := cells_at s11 2
        have q3 : w11.cell? ⟨B7, 3, none⟩ = some (.slice As7 L.length cs7) := cells_at s11 3
        clear s11 x11
        go_wp2_with fail
        have x811 := H10.out.2.2.2.2.2.2.1.trans H11.out.2
        have x711 := H8.out.2.2.2.2.2.2.trans x811
        refine (spoil_walk (nn := nn) (H7.out.1.ext x711 id) (H7.out.2.1.ext x711 id) HG7.out.2.2 (own_ext H7.out.2.2.1 x711 fun _ _ => id) hkl hvl (by omega)).mono ?_
        rintro e w12 ⟨rfl, x12⟩
        have hFW : ∀ b, (b = gk ∨ b = gv ∨ (Value.slice As7 L.length cs7).ownBlock = some b) → w3.heap.size ≤ b ∧ b < B7 := fun b hb => ⟨(H8.out.2.2.2.2.2.1 b hb).2, (H8.out.2.2.2.2.2.1 b hb).1⟩
        have x6b : Ext (fun _ => False) w3 w11 := H7.out.2.2.2.trans x711
        have y12 : Ext (fun b => w3.heap.size ≤ b) w3 w12 := (x6b.mono (F1 := fun b => w3.heap.size ≤ b) fun _ _ => False.elim).trans' x12 fun b hb => .inl (hFW b hb).1
        have yw12 : Ext (fun _ => False) w w12 := H6.out.2.2.1.trans' y12 fun b hb => .inr (by have := H6.out.2.2.1.size; omega)
        have gS12 := y12.heap H6.out.1 (by show ¬ (w3.heap.size ≤ w.heap.size); omega)
        have gP12 := y12.heap H6.out.2.1 (by show ¬ (w3.heap.size ≤ w.heap.size + 1); omega)
        have o6 := H6.out.2.2.2.1
        have o6' := o6.ext2 y12 (fun q hq hF => by have := o6.row.lt q hq; omega) (fun u hu q hq hF => by have := o6.in_ u hu q hq; omega)
        have o9 := H9.out.2.2.1
        have x91 := H10.out.2.2.2.2.2.1.trans H11.out.2
        have o9' : OwnRows w8.heap.size w12 (.slice Al TX.length cl) us TX := (o9.ext2 x91 (fun _ _ => id) (fun _ _ _ _ => id)).ext2 x12 (fun q hq hF => by have := o9.row.lt q hq; have := hFW q hF; omega) (fun u hu q hq hF => by have := o9.in_ u hu q hq; have := hFW q hF; omega)
        have o10' := (H10.out.2.2.2.1.ext H11.out.2 fun _ _ => id).ext x12 fun q hq hF => by have := H10.out.2.2.2.2.1 q hq; have := hFW q hF; omega
        have hsz12 := x12.size
        have H12 := Lib.hid (And.intro yw12 (And.intro o6' (And.intro o9' (And.intro o10' gP12))))
        clear q0 q1 q2 q3 x811 x711 x12 x6b y12 o6 o6' o9 o9' o10' x91 hFW
        have p0 : w12.cell? ⟨w.heap.size + 1, 0, none⟩ = some (.bool nn) := cells_at gP12 0
        have p1 : w12.cell? ⟨w.heap.size + 1, 1, none⟩ = some (.slice Ak k.length ck) := cells_at gP12 1
        have p2 : w12.cell? ⟨w.heap.size + 1, 2, none⟩ = some (.slice Av v.length cv) := cells_at gP12 2
        have p3 : w12.cell? ⟨w.heap.size + 1, 3, none⟩ = some (.slice As L.length cs) := cells_at gP12 3
        clear gP12 yw12
        go_wp2_with (refine wpList_load_rowg 29 (.tmp 4) rfl rfl w.heap.size rfl 29 (sumA root) (0, 0) _ gS12 Try.underlying29 rfl (info_sum H6.out.2.2.2.2) ?_)
        refine (dcheck5_walk (nn := nn) (root := root) (HP.out.same (HB.out _ H12.out.1)) (fun b hb => Nat.lt_of_lt_of_le hb H12.out.1.size) H6.out.2.2.2.2 (H.out.2.2.2.same H12.out.1) hyl).mono ?_
        rw [HCP.out]
        rintro e w13 ⟨cv13, rfl, o13, n13, x13⟩
        obtain ⟨A13, c13, rfl⟩ := o13.formv
        have H13 := Lib.hid (And.intro o13 (And.intro n13 x13))
        have hsz13 := x13.size
        clear p0 p1 p2 p3 gS12 o13 n13 x13
        go_wp2_with fail
        refine (same_walk (H12.out.2.2.1.ext2 H13.out.2.2 (fun _ _ => id) (fun _ _ _ _ => id)).byts (H12.out.2.1.ext2 H13.out.2.2 (fun _ _ => id) (fun _ _ _ _ => id)).byts (by omega) (by omega)).mono ?_
        rintro e w14 ⟨rfl, x14⟩
        rw [show decide (TX = TX) = true by simp]
        have x34 := H13.out.2.2.trans x14
        have hw14 : w.heap.size < w14.heap.size := by have := x14.size; omega
        have hsz14 := x14.size
        obtain ⟨b1, _, hc1⟩ := (H12.out.2.2.2.1.byt.same x34).convS hw14 22 5 9 Try.underlying22 Try.underlying5 Try.underlying9
        obtain ⟨b2, _, hc2⟩ := (H13.out.1.byt.same x14).convS hw14 22 5 9 Try.underlying22 Try.underlying5 Try.underlying9
        have cv1 := hc1 w14 rfl
        have cv2 := hc2 w14 rfl
        have H14 := Lib.hid (And.intro x34 (H12.out.2.2.1.ext2 x34 (fun _ _ => id) (fun _ _ _ _ => id)))
        have o10w := H12.out.2.2.2.1.ext x34 fun _ _ => id
        have hw10 : ∀ q, (Value.slice A10 cp.1.length c10).ownBlock = some q → w9.heap.size ≤ q := H10.out.2.2.2.2.1
        have hxa := (Ext.refl (fun _ => False) w14).alloc (.cells #[.slice A10 cp.1.length c10] 22 (0, 0))
        have hrow := own_ext H14.out.2.row hxa fun _ _ => id
        have HO10 := Lib.hid (And.intro o10w hw10)
        clear x14 x34 hc1 hc2 o10w hw10
        have hbt1 : TX.length + 1 ≤ 1152921504606846976 := by omega
        have hbt2 : (TX.length + 1) * 24 ≤ 140737488355328 := by omega
        have hb14 : w8.heap.size ≤ (w14.alloc (.cells #[.slice A10 cp.1.length c10] 22 (0, 0))).heap.size := by simp only [World.size_alloc]; omega
        have HBT := Lib.hid (And.intro hbt1 (And.intro hbt2 hb14))
        clear hbt1 hbt2 hb14
        go_wp2_with (refine wpList_append_lit rfl (.tmp 84) (.tmp 86) 68 rfl Try.underlying68 info24 rfl (by decide) (v := .slice Al TX.length cl) rfl hrow HBT.out.2.2 (m := 1) (cs := [.slice A10 cp.1.length c10]) rfl (heap_alloc_self _ _) rfl (by simp [Value.oneCell']) (by decide) HBT.out.1 HBT.out.2.1 ?_; intro g15 c15 w15 ho15 hx15 hg15 hl15)
        have o9'' := H14.out.2.ext2 hxa (fun _ _ => id) fun _ _ _ _ => id
        have hlA : ∀ q, (Value.slice Al TX.length cl).ownBlock = some q → w8.heap.size ≤ q ∧ q < w9.heap.size := fun q hq => H9.out.2.2.1.row.lt q hq
        have hu15 := (HO10.out.1.ext hxa fun _ _ => id).ext hx15 fun q hq e => absurd (hlA q e).2 (Nat.not_lt.2 (HO10.out.2 q hq))
        have hrr := OwnRows.snoc2 o9'' hx15 ho15 hu15 (fun q hq => Nat.le_trans H9.out.2.2.2.size (HO10.out.2 q hq)) (fun u hu q hq hq' => absurd (H9.out.2.2.1.in_ u hu q hq').2 (Nat.not_lt.2 (HO10.out.2 q hq)))
        have H15 := Lib.hid (And.intro hrr (And.intro hxa hx15))
        clear hrr hxa hx15 o9'' hrow ho15 hu15 cv1 cv2
        refine (owned_walk H15.out.1.rows8 (by rw [H15.out.1.len, List.length_append, List.length_singleton]; exact Nat.le_trans HBT.out.1 (by decide))).mono ?_
        rintro e w16 ⟨rfl, x16⟩
        have H16 := Lib.hid x16
        clear x16
        go_wp2_with fail
        go_ret
        have hww8 : w.heap.size ≤ w8.heap.size := (H6.out.2.2.1.trans H8.out.2.2.2.1).size
        have hww9 : w.heap.size ≤ w9.heap.size := Nat.le_trans hww8 H9.out.2.2.2.size
        refine ⟨rfl, (((H12.out.1.trans H14.out.1).trans H15.out.2.1).trans' H15.out.2.2 fun b hb => .inr (Nat.le_trans hww8 (hlA b hb).1)).trans' H16.out fun b hb => .inr ?_⟩
        obtain ⟨u, hu, hb⟩ := hb
        rcases List.mem_append.1 hu with hu | hu
        · exact Nat.le_trans hww8 (H9.out.2.2.1.in_ u hu b hb).1
        · simp only [List.mem_singleton] at hu
          subst hu
          exact Nat.le_trans hww9 (HO10.out.2 b hb)
    · rw [List.concat_eq_append] at ht
      have o3' := o3
      rw [ht] at o3'
      obtain ⟨g, c, u, hav, hu, hT, hNg, hgl, hmc⟩ := ownRows_last o3'
      simp only [Value.slice.injEq] at hav
      obtain ⟨rfl, _, rfl⟩ := hav
      have hlm : TX.length = ls.length + 1 := by rw [ht]; simp
      have hTl := HTX.out.2 T (by rw [ht]; simp)
      obtain ⟨AT, cT, rfl⟩ := hT.formv
      generalize ls.length = m at *
      have hwm2 : IntKind.i64.wrap ((TX.length : Int) - 1) = (m : Int) := by rw [IntWalk.i64_in _ (by omega)]; omega
      have hi1 : decide ((m : Int) < (TX.length : Int)) = true := by rw [decide_eq_true_iff]; omega
      have hi3 : (m : Int) < (TX.length : Int) := by omega
      have hi4 : m < TX.length := by omega
      have hi5 : decide ((0 : Int) < (TX.length : Int)) = true := by rw [decide_eq_true_iff]; omega
      have hi6 : (0 : Int) < (TX.length : Int) := by omega
      cases own with
      | false =>
        have H6 := Lib.hid (And.intro gS (And.intro gP (And.intro y3 (And.intro o3 hr))))
        clear gS gP o3 n3 x3 y3 hszS o3' hu hT hTl hmc hi1 hi3 hi4 hi5 hi6 hwm2 ht hlm hNg hgl
        have e0 : w3.cell? ⟨w.heap.size + 1, 0, none⟩ = some (.bool nn) := cells_at H6.out.2.1 0
        have e1 : w3.cell? ⟨w.heap.size + 1, 1, none⟩ = some (.slice Ak k.length ck) := cells_at H6.out.2.1 1
        have e2 : w3.cell? ⟨w.heap.size + 1, 2, none⟩ = some (.slice Av v.length cv) := cells_at H6.out.2.1 2
        have e3 : w3.cell? ⟨w.heap.size + 1, 3, none⟩ = some (.slice As L.length cs) := cells_at H6.out.2.1 3
        go_wp2_with fail
        clear e0 e1 e2 e3
        refine (plent_walk (nn := nn) (HP.out.same (HB.out _ H6.out.2.2.1)) (fun b hb => Nat.lt_of_lt_of_le hb H6.out.2.2.1.size) (by omega)).mono ?_
        rintro e w7 ⟨gk, gv, sv7, rfl, lk7, lv7, hgk, hgv, hgne, hs7, x7⟩
        obtain ⟨As7, cs7, rfl⟩ := own_form hs7
        have H7 := Lib.hid (And.intro lk7 (And.intro lv7 (And.intro hs7 x7)))
        have HG7 := Lib.hid (And.intro hgk (And.intro hgv hgne))
        clear lk7 lv7 hs7 x7 hgk hgv hgne
        go_wp2_with (refine wpList_store_row rfl 43 (.tmp 12) _ rfl w7.heap.size #[.bool nn, lentV gk k, lentV gv v, .slice As7 L.length cs7] rfl rfl 43 _ (heap_alloc_self _ _) (by kernel_rfl) (by kernel_rfl) (by simp [Value.oneCell']) ?_; rename_i ax; have HAx := Lib.hid ax; clear ax)
        refine HAx.out _ _ ?_
        clear HAx
        generalize hw8 : World.setRow (World.alloc w7 _) _ _ = w8
        have s8 : w8.heap[w7.heap.size]? = some (.cells #[.bool nn, lentV gk k, lentV gv v, .slice As7 L.length cs7] 43 (0, 0)) := by rw [← hw8]; exact (row_new w7).1
        have x78 : Ext (fun _ => False) w7 w8 := by rw [← hw8]; exact (row_new w7).2
        clear hw8
        have hsz7 := x78.size
        have hb78 := lt_of_heap s8
        have x68 := H7.out.2.2.2.trans x78
        have hsz6 := x68.size
        have hsz67 := H7.out.2.2.2.size
        have gS8 := x68.heap H6.out.1 id
        have gP8 := x68.heap H6.out.2.1 id
        have hxk : gk < w7.heap.size := by obtain ⟨_, h, _⟩ := H7.out.1; exact lt_of_heap h
        have hxv : gv < w7.heap.size := by obtain ⟨_, h, _⟩ := H7.out.2.1; exact lt_of_heap h
        have hx7 := H7.out.2.2.1.lt
        generalize hB7 : w7.heap.size = B7 at *
        have hQ8 : PIs (fun b => b = gk ∨ b = gv ∨ (Value.slice As7 L.length cs7).ownBlock = some b) w8 (lentV gk k) (lentV gv v) (.slice As7 L.length cs7) k v L :=
          ⟨((H7.out.1.byt (by omega)).same x78).mono fun b hb => .inl hb, ((H7.out.2.1.byt (by omega)).same x78).mono fun b hb => .inr (.inl hb), ((stepsR_own H.out.2.2.1.fit H7.out.2.2.1).same fun b hb => x78.heap_eq (by rw [hB7]; exact (hx7 b hb).2) id).mono fun b hb => .inr (.inr hb), hkl, hvl, by omega⟩
        have hD8 : ∀ b, (b = gk ∨ b = gv ∨ (Value.slice As7 L.length cs7).ownBlock = some b) → b < B7 ∧ w3.heap.size ≤ b := by
          rintro b (rfl | rfl | h)
          · exact ⟨hxk, HG7.out.1⟩
          · exact ⟨hxv, HG7.out.2.1⟩
          · exact ⟨(hx7 b h).2, (hx7 b h).1⟩
        have H8 := Lib.hid (And.intro s8 (And.intro gS8 (And.intro gP8 (And.intro x68 (And.intro hQ8 (And.intro hD8 x78))))))
        have q0 : w8.cell? ⟨B7, 0, none⟩ = some (.bool nn) := cells_at s8 0
        have q1 : w8.cell? ⟨B7, 1, none⟩ = some (lentV gk k) := cells_at s8 1
        have q2 : w8.cell? ⟨B7, 2, none⟩ = some (lentV gv v) := cells_at s8 2
        have q3 : w8.cell? ⟨B7, 3, none⟩ = some (.slice As7 L.length cs7) := cells_at s8 3
        clear s8 gS8 gP8 x68 hQ8 hD8 x78 hx7
        go_wp2_with fail
        refine (texts_walk (nn := nn) H8.out.2.2.2.2.1 (fun b hb => by have := H8.out.2.2.2.2.2.1 b hb; omega)).mono ?_
        rw [HTX.out.1]
        rintro e w9 ⟨lv, us, rfl, o9, n9, x9⟩
        obtain ⟨Al, cl, rfl⟩ := own_slice_form o9.row
        have s9 := x9.heap H8.out.1 id
        have gS9 := x9.heap H8.out.2.1 id
        have hsz9 := x9.size
        have H9 := Lib.hid (And.intro s9 (And.intro (x9.heap H8.out.2.2.1 id) (And.intro o9 x9)))
        clear q0 q1 q2 q3
        have r0 : w9.cell? ⟨B7, 0, none⟩ = some (.bool nn) := cells_at s9 0
        have r1 : w9.cell? ⟨B7, 1, none⟩ = some (lentV gk k) := cells_at s9 1
        have r2 : w9.cell? ⟨B7, 2, none⟩ = some (lentV gv v) := cells_at s9 2
        have r3 : w9.cell? ⟨B7, 3, none⟩ = some (.slice As7 L.length cs7) := cells_at s9 3
        clear s9 o9 n9 x9
        go_wp2_with (refine wpList_load_rowg 29 (.tmp 4) rfl rfl w.heap.size rfl 29 (sumA root) (0, 0) _ gS9 Try.underlying29 rfl (info_sum H6.out.2.2.2.2) ?_)
        refine (check_walk (nn := nn) (root := root) (H8.out.2.2.2.2.1.same fun b hb => H9.out.2.2.2.heap_eq (by have := H8.out.2.2.2.2.2.1 b hb; omega) id) (fun b hb => by have := H8.out.2.2.2.2.2.1 b hb; omega) H6.out.2.2.2.2 (H.out.2.2.2.same ((H6.out.2.2.1.trans H8.out.2.2.2.1).trans H9.out.2.2.2)) hyl).mono ?_
        have hcl : (checkP root key nn k v L).1.length ≤ 140737488351232 := by
          unfold checkP
          split
          · simp
          · split
            · simp
            · split
              · simp
              · exact hvl
        generalize hcp : checkP root key nn k v L = cp at *
        rintro e w10 ⟨cv10, rfl, o10, n10, x10⟩
        obtain ⟨A10, c10, rfl⟩ := o10.formv
        have x8t := H9.out.2.2.2.trans x10
        have s10 := x10.heap H9.out.1 id
        have gP10 := x10.heap H9.out.2.1 id
        have gS10 := x10.heap gS9 id
        have y10 := (H6.out.2.2.1.trans H8.out.2.2.2.1).trans x8t
        have hsz10 := x10.size
        have HCP := Lib.hid hcp
        have H10 := Lib.hid (And.intro s10 (And.intro gP10 (And.intro gS10 (And.intro o10 (And.intro n10 (And.intro x10 (And.intro x8t y10)))))))
        clear r0 r1 r2 r3 hcp
        have q0 : w10.cell? ⟨B7, 0, none⟩ = some (.bool nn) := cells_at s10 0
        have q1 : w10.cell? ⟨B7, 1, none⟩ = some (lentV gk k) := cells_at s10 1
        have q2 : w10.cell? ⟨B7, 2, none⟩ = some (lentV gv v) := cells_at s10 2
        have q3 : w10.cell? ⟨B7, 3, none⟩ = some (.slice As7 L.length cs7) := cells_at s10 3
        have p0 : w10.cell? ⟨w.heap.size + 1, 0, none⟩ = some (.bool nn) := cells_at gP10 0
        have p1 : w10.cell? ⟨w.heap.size + 1, 1, none⟩ = some (.slice Ak k.length ck) := cells_at gP10 1
        have p2 : w10.cell? ⟨w.heap.size + 1, 2, none⟩ = some (.slice Av v.length cv) := cells_at gP10 2
        have p3 : w10.cell? ⟨w.heap.size + 1, 3, none⟩ = some (.slice As L.length cs) := cells_at gP10 3
        clear s10 gP10 gS10 o10 n10 x10 x8t y10 gS9
        go_wp2_with fail
        refine (psame_walk (nn := nn) (H8.out.2.2.2.2.1.same fun b hb => H10.out.2.2.2.2.2.2.1.heap_eq (by have := H8.out.2.2.2.2.2.1 b hb; omega) id) (HP.out.same (HB.out _ H10.out.2.2.2.2.2.2.2)) (fun b hb => by have := H8.out.2.2.2.2.2.1 b hb; omega) (fun b hb => Nat.lt_of_lt_of_le hb H10.out.2.2.2.2.2.2.2.size)).mono ?_
        rintro e w11 ⟨rfl, x11⟩
        have s11 := x11.heap H10.out.1 id
        have hsz11 := x11.size
        have H11 := Lib.hid (And.intro s11 x11)
        clear q0 q1 q2 q3 p0 p1 p2 p3
        have q0 : w11.cell? ⟨B7, 0, none⟩ = some (.bool nn) := cells_at s11 0
        have q1 : w11.cell? ⟨B7, 1, none⟩ = some (lentV gk k) := cells_at s11 1
        have q2 : w11.cell? ⟨B7, 2, none⟩ = some (lentV gv v) := cells_at s11 2
        have q3 : w11.cell? ⟨B7, 3, none⟩ = some (.slice As7 L.length cs7) := cells_at s11 3
        clear s11 x11
        go_wp2_with fail
        have x811 := H10.out.2.2.2.2.2.2.1.trans H11.out.2
        have x711 := H8.out.2.2.2.2.2.2.trans x811
        refine (spoil_walk (nn := nn) (H7.out.1.ext x711 id) (H7.out.2.1.ext x711 id) HG7.out.2.2 (own_ext H7.out.2.2.1 x711 fun _ _ => id) hkl hvl (by omega)).mono ?_
        rintro e w12 ⟨rfl, x12⟩
        have hFW : ∀ b, (b = gk ∨ b = gv ∨ (Value.slice As7 L.length cs7).ownBlock = some b) → w3.heap.size ≤ b ∧ b < B7 := fun b hb => ⟨(H8.out.2.2.2.2.2.1 b hb).2, (H8.out.2.2.2.2.2.1 b hb).1⟩
        have x6b : Ext (fun _ => False) w3 w11 := H7.out.2.2.2.trans x711
        have y12 : Ext (fun b => w3.heap.size ≤ b) w3 w12 := (x6b.mono (F1 := fun b => w3.heap.size ≤ b) fun _ _ => False.elim).trans' x12 fun b hb => .inl (hFW b hb).1
        have yw12 : Ext (fun _ => False) w w12 := H6.out.2.2.1.trans' y12 fun b hb => .inr (by have := H6.out.2.2.1.size; omega)
        have gS12 := y12.heap H6.out.1 (by show ¬ (w3.heap.size ≤ w.heap.size); omega)
        have gP12 := y12.heap H6.out.2.1 (by show ¬ (w3.heap.size ≤ w.heap.size + 1); omega)
        have o6 := H6.out.2.2.2.1
        have o6' := o6.ext2 y12 (fun q hq hF => by have := o6.row.lt q hq; omega) (fun u hu q hq hF => by have := o6.in_ u hu q hq; omega)
        have o9 := H9.out.2.2.1
        have x91 := H10.out.2.2.2.2.2.1.trans H11.out.2
        have o9' : OwnRows w8.heap.size w12 (.slice Al TX.length cl) us TX := (o9.ext2 x91 (fun _ _ => id) (fun _ _ _ _ => id)).ext2 x12 (fun q hq hF => by have := o9.row.lt q hq; have := hFW q hF; omega) (fun u hu q hq hF => by have := o9.in_ u hu q hq; have := hFW q hF; omega)
        have o10' := (H10.out.2.2.2.1.ext H11.out.2 fun _ _ => id).ext x12 fun q hq hF => by have := H10.out.2.2.2.2.1 q hq; have := hFW q hF; omega
        have hsz12 := x12.size
        have H12 := Lib.hid (And.intro yw12 (And.intro o6' (And.intro o9' (And.intro o10' gP12))))
        clear q0 q1 q2 q3 x811 x711 x12 x6b y12 o6 o6' o9 o9' o10' x91 hFW
        have p0 : w12.cell? ⟨w.heap.size + 1, 0, none⟩ = some (.bool nn) := cells_at gP12 0
        have p1 : w12.cell? ⟨w.heap.size + 1, 1, none⟩ = some (.slice Ak k.length ck) := cells_at gP12 1
        have p2 : w12.cell? ⟨w.heap.size + 1, 2, none⟩ = some (.slice Av v.length cv) := cells_at gP12 2
        have p3 : w12.cell? ⟨w.heap.size + 1, 3, none⟩ = some (.slice As L.length cs) := cells_at gP12 3
        clear gP12 yw12
        go_wp2_with (refine wpList_load_rowg 29 (.tmp 4) rfl rfl w.heap.size rfl 29 (sumA root) (0, 0) _ gS12 Try.underlying29 rfl (info_sum H6.out.2.2.2.2) ?_)
        refine (dcheck5_walk (nn := nn) (root := root) (HP.out.same (HB.out _ H12.out.1)) (fun b hb => Nat.lt_of_lt_of_le hb H12.out.1.size) H6.out.2.2.2.2 (H.out.2.2.2.same H12.out.1) hyl).mono ?_
        rw [HCP.out]
        rintro e w13 ⟨cv13, rfl, o13, n13, x13⟩
        obtain ⟨A13, c13, rfl⟩ := o13.formv
        have H13 := Lib.hid (And.intro o13 (And.intro n13 x13))
        have hsz13 := x13.size
        clear p0 p1 p2 p3 gS12 o13 n13 x13
        go_wp2_with fail
        refine (same_walk (H12.out.2.2.1.ext2 H13.out.2.2 (fun _ _ => id) (fun _ _ _ _ => id)).byts (H12.out.2.1.ext2 H13.out.2.2 (fun _ _ => id) (fun _ _ _ _ => id)).byts (by omega) (by omega)).mono ?_
        rintro e w14 ⟨rfl, x14⟩
        rw [show decide (TX = TX) = true by simp]
        have x34 := H13.out.2.2.trans x14
        have hw14 : w.heap.size < w14.heap.size := by have := x14.size; omega
        have hsz14 := x14.size
        obtain ⟨b1, _, hc1⟩ := (H12.out.2.2.2.1.byt.same x34).convS hw14 22 5 9 Try.underlying22 Try.underlying5 Try.underlying9
        obtain ⟨b2, _, hc2⟩ := (H13.out.1.byt.same x14).convS hw14 22 5 9 Try.underlying22 Try.underlying5 Try.underlying9
        have cv1 := hc1 w14 rfl
        have cv2 := hc2 w14 rfl
        have H14 := Lib.hid (And.intro x34 (H12.out.2.2.1.ext2 x34 (fun _ _ => id) (fun _ _ _ _ => id)))
        have o10w := H12.out.2.2.2.1.ext x34 fun _ _ => id
        have hw10 : ∀ q, (Value.slice A10 cp.1.length c10).ownBlock = some q → w9.heap.size ≤ q := H10.out.2.2.2.2.1
        have hxa := (Ext.refl (fun _ => False) w14).alloc (.cells #[.slice A10 cp.1.length c10] 22 (0, 0))
        have hrow := own_ext H14.out.2.row hxa fun _ _ => id
        have HO10 := Lib.hid (And.intro o10w hw10)
        clear x14 x34 hc1 hc2 o10w hw10
        have hbt1 : TX.length + 1 ≤ 1152921504606846976 := by omega
        have hbt2 : (TX.length + 1) * 24 ≤ 140737488355328 := by omega
        have hb14 : w8.heap.size ≤ (w14.alloc (.cells #[.slice A10 cp.1.length c10] 22 (0, 0))).heap.size := by simp only [World.size_alloc]; omega
        have HBT := Lib.hid (And.intro hbt1 (And.intro hbt2 hb14))
        clear hbt1 hbt2 hb14
        go_wp2_with (refine wpList_append_lit rfl (.tmp 84) (.tmp 86) 68 rfl Try.underlying68 info24 rfl (by decide) (v := .slice Al TX.length cl) rfl hrow HBT.out.2.2 (m := 1) (cs := [.slice A10 cp.1.length c10]) rfl (heap_alloc_self _ _) rfl (by simp [Value.oneCell']) (by decide) HBT.out.1 HBT.out.2.1 ?_; intro g15 c15 w15 ho15 hx15 hg15 hl15)
        have o9'' := H14.out.2.ext2 hxa (fun _ _ => id) fun _ _ _ _ => id
        have hlA : ∀ q, (Value.slice Al TX.length cl).ownBlock = some q → w8.heap.size ≤ q ∧ q < w9.heap.size := fun q hq => H9.out.2.2.1.row.lt q hq
        have hu15 := (HO10.out.1.ext hxa fun _ _ => id).ext hx15 fun q hq e => absurd (hlA q e).2 (Nat.not_lt.2 (HO10.out.2 q hq))
        have hrr := OwnRows.snoc2 o9'' hx15 ho15 hu15 (fun q hq => Nat.le_trans H9.out.2.2.2.size (HO10.out.2 q hq)) (fun u hu q hq hq' => absurd (H9.out.2.2.1.in_ u hu q hq').2 (Nat.not_lt.2 (HO10.out.2 q hq)))
        have H15 := Lib.hid (And.intro hrr (And.intro hxa hx15))
        clear hrr hxa hx15 o9'' hrow ho15 hu15 cv1 cv2
        refine (owned_walk H15.out.1.rows8 (by rw [H15.out.1.len, List.length_append, List.length_singleton]; exact Nat.le_trans HBT.out.1 (by decide))).mono ?_
        rintro e w16 ⟨rfl, x16⟩
        have H16 := Lib.hid x16
        clear x16
        go_wp2_with fail
        go_ret
        have hww8 : w.heap.size ≤ w8.heap.size := (H6.out.2.2.1.trans H8.out.2.2.2.1).size
        have hww9 : w.heap.size ≤ w9.heap.size := Nat.le_trans hww8 H9.out.2.2.2.size
        refine ⟨rfl, (((H12.out.1.trans H14.out.1).trans H15.out.2.1).trans' H15.out.2.2 fun b hb => .inr (Nat.le_trans hww8 (hlA b hb).1)).trans' H16.out fun b hb => .inr ?_⟩
        obtain ⟨u, hu, hb⟩ := hb
        rcases List.mem_append.1 hu with hu | hu
        · exact Nat.le_trans hww8 (H9.out.2.2.1.in_ u hu b hb).1
        · simp only [List.mem_singleton] at hu
          subst hu
          exact Nat.le_trans hww9 (HO10.out.2 b hb)
      | true =>
        have HT := Lib.hid hT
        have H3 := Lib.hid (And.intro gS (And.intro gP (And.intro y3 o3)))
        clear gS gP o3 n3 x3 y3 hszS o3' hT ht hlm
        go_wp2_with fail
        refine (draw_walk HT.out.byt (by omega)).mono ?_
        rintro e w4 ⟨rfl, x4⟩
        rw [sumV_A]
        have gS4 := x4.heap H3.out.1 id
        have gP4 := x4.heap H3.out.2.1 id
        have H4 := Lib.hid (And.intro gP4 (And.intro x4 (H3.out.2.2.1.trans x4)))
        clear gP4 x4 hi1 hi3 hi4 hi5 hi6 hwm2 hu
        have gS5 : (w4.setRow w.heap.size (sumA (rawB T))).heap[w.heap.size]? = some (.cells (sumA (rawB T)) 29 (0, 0)) := setRow_heap _ _ _ _ _ _ gS4
        have x5 : Ext (· = w.heap.size) w4 (w4.setRow w.heap.size (sumA (rawB T))) := (Ext.refl (· = w.heap.size) _).setRow (.inl rfl) _
        have gP6 := x5.heap H4.out.1 (by show ¬ (w.heap.size + 1 = w.heap.size); omega)
        have y6 : Ext (fun _ => False) w (w4.setRow w.heap.size (sumA (rawB T))) := H4.out.2.2.trans' x5 fun b hb => .inr (by omega)
        have o6 := (H3.out.2.2.2.ext2 H4.out.2.1 (fun _ _ => id) fun _ _ _ _ => id).ext2 x5 (fun q hq e => by have := (H3.out.2.2.2.row.lt q hq).1; omega) (fun u hu q hq e => by have := (H3.out.2.2.2.in_ u hu q hq).1; omega)
        have H6 := Lib.hid (And.intro gS5 (And.intro gP6 (And.intro y6 (And.intro o6 (rawB_len T)))))
        clear gS5 gP6 y6 o6
        have e0 : (w4.setRow w.heap.size (sumA (rawB T))).cell? ⟨w.heap.size + 1, 0, none⟩ = some (.bool nn) := cells_at H6.out.2.1 0
        have e1 : (w4.setRow w.heap.size (sumA (rawB T))).cell? ⟨w.heap.size + 1, 1, none⟩ = some (.slice Ak k.length ck) := cells_at H6.out.2.1 1
        have e2 : (w4.setRow w.heap.size (sumA (rawB T))).cell? ⟨w.heap.size + 1, 2, none⟩ = some (.slice Av v.length cv) := cells_at H6.out.2.1 2
        have e3 : (w4.setRow w.heap.size (sumA (rawB T))).cell? ⟨w.heap.size + 1, 3, none⟩ = some (.slice As L.length cs) := cells_at H6.out.2.1 3
        go_wp2_with (refine wpList_store_row rfl 29 (.tmp 4) _ rfl w.heap.size (sumA (rawB T)) rfl rfl 29 _ gS4 (info_sum (rawB_len _)) (by rw [sumA_size (rawB_len _), sumA_size hr]) (sumA_one _) ?_)
        clear e0 e1 e2 e3 gS4 hTl hmc hNg hgl
        have hsz45 := x5.size
        have hsz34 := H4.out.2.1.size
        clear x5
        generalize (w4.setRow w.heap.size (sumA (rawB T))) = w5 at *
        refine (plent_walk (nn := nn) (HP.out.same (HB.out _ H6.out.2.2.1)) (fun b hb => Nat.lt_of_lt_of_le hb H6.out.2.2.1.size) (by omega)).mono ?_
        rintro e w7 ⟨gk, gv, sv7, rfl, lk7, lv7, hgk, hgv, hgne, hs7, x7⟩
        obtain ⟨As7, cs7, rfl⟩ := own_form hs7
        have H7 := Lib.hid (And.intro lk7 (And.intro lv7 (And.intro hs7 x7)))
        have HG7 := Lib.hid (And.intro hgk (And.intro hgv hgne))
        clear lk7 lv7 hs7 x7 hgk hgv hgne
        go_wp2_with (refine wpList_store_row rfl 43 (.tmp 12) _ rfl w7.heap.size #[.bool nn, lentV gk k, lentV gv v, .slice As7 L.length cs7] rfl rfl 43 _ (heap_alloc_self _ _) (by kernel_rfl) (by kernel_rfl) (by simp [Value.oneCell']) ?_; rename_i ax; have HAx := Lib.hid ax; clear ax)
        refine HAx.out _ _ ?_
        clear HAx
        generalize hw8 : World.setRow (World.alloc w7 _) _ _ = w8
        have s8 : w8.heap[w7.heap.size]? = some (.cells #[.bool nn, lentV gk k, lentV gv v, .slice As7 L.length cs7] 43 (0, 0)) := by rw [← hw8]; exact (row_new w7).1
        have x78 : Ext (fun _ => False) w7 w8 := by rw [← hw8]; exact (row_new w7).2
        clear hw8
        have hsz7 := x78.size
        have hb78 := lt_of_heap s8
        have x68 := H7.out.2.2.2.trans x78
        have hsz6 := x68.size
        have hsz67 := H7.out.2.2.2.size
        have gS8 := x68.heap H6.out.1 id
        have gP8 := x68.heap H6.out.2.1 id
        have hxk : gk < w7.heap.size := by obtain ⟨_, h, _⟩ := H7.out.1; exact lt_of_heap h
        have hxv : gv < w7.heap.size := by obtain ⟨_, h, _⟩ := H7.out.2.1; exact lt_of_heap h
        have hx7 := H7.out.2.2.1.lt
        generalize hB7 : w7.heap.size = B7 at *
        have hQ8 : PIs (fun b => b = gk ∨ b = gv ∨ (Value.slice As7 L.length cs7).ownBlock = some b) w8 (lentV gk k) (lentV gv v) (.slice As7 L.length cs7) k v L :=
          ⟨((H7.out.1.byt (by omega)).same x78).mono fun b hb => .inl hb, ((H7.out.2.1.byt (by omega)).same x78).mono fun b hb => .inr (.inl hb), ((stepsR_own H.out.2.2.1.fit H7.out.2.2.1).same fun b hb => x78.heap_eq (by rw [hB7]; exact (hx7 b hb).2) id).mono fun b hb => .inr (.inr hb), hkl, hvl, by omega⟩
        have hD8 : ∀ b, (b = gk ∨ b = gv ∨ (Value.slice As7 L.length cs7).ownBlock = some b) → b < B7 ∧ w5.heap.size ≤ b := by
          rintro b (rfl | rfl | h)
          · exact ⟨hxk, HG7.out.1⟩
          · exact ⟨hxv, HG7.out.2.1⟩
          · exact ⟨(hx7 b h).2, (hx7 b h).1⟩
        have H8 := Lib.hid (And.intro s8 (And.intro gS8 (And.intro gP8 (And.intro x68 (And.intro hQ8 (And.intro hD8 x78))))))
        have q0 : w8.cell? ⟨B7, 0, none⟩ = some (.bool nn) := cells_at s8 0
        have q1 : w8.cell? ⟨B7, 1, none⟩ = some (lentV gk k) := cells_at s8 1
        have q2 : w8.cell? ⟨B7, 2, none⟩ = some (lentV gv v) := cells_at s8 2
        have q3 : w8.cell? ⟨B7, 3, none⟩ = some (.slice As7 L.length cs7) := cells_at s8 3
        clear s8 gS8 gP8 x68 hQ8 hD8 x78 hx7
        go_wp2_with fail
        refine (texts_walk (nn := nn) H8.out.2.2.2.2.1 (fun b hb => by have := H8.out.2.2.2.2.2.1 b hb; omega)).mono ?_
        rw [HTX.out.1]
        rintro e w9 ⟨lv, us, rfl, o9, n9, x9⟩
        obtain ⟨Al, cl, rfl⟩ := own_slice_form o9.row
        have s9 := x9.heap H8.out.1 id
        have gS9 := x9.heap H8.out.2.1 id
        have hsz9 := x9.size
        have H9 := Lib.hid (And.intro s9 (And.intro (x9.heap H8.out.2.2.1 id) (And.intro o9 x9)))
        clear q0 q1 q2 q3
        have r0 : w9.cell? ⟨B7, 0, none⟩ = some (.bool nn) := cells_at s9 0
        have r1 : w9.cell? ⟨B7, 1, none⟩ = some (lentV gk k) := cells_at s9 1
        have r2 : w9.cell? ⟨B7, 2, none⟩ = some (lentV gv v) := cells_at s9 2
        have r3 : w9.cell? ⟨B7, 3, none⟩ = some (.slice As7 L.length cs7) := cells_at s9 3
        clear s9 o9 n9 x9
        go_wp2_with (refine wpList_load_rowg 29 (.tmp 4) rfl rfl w.heap.size rfl 29 (sumA (rawB T)) (0, 0) _ gS9 Try.underlying29 rfl (info_sum H6.out.2.2.2.2) ?_)
        refine (check_walk (nn := nn) (root := (rawB T)) (H8.out.2.2.2.2.1.same fun b hb => H9.out.2.2.2.heap_eq (by have := H8.out.2.2.2.2.2.1 b hb; omega) id) (fun b hb => by have := H8.out.2.2.2.2.2.1 b hb; omega) H6.out.2.2.2.2 (H.out.2.2.2.same ((H6.out.2.2.1.trans H8.out.2.2.2.1).trans H9.out.2.2.2)) hyl).mono ?_
        have hcl : (checkP (rawB T) key nn k v L).1.length ≤ 140737488351232 := by
          unfold checkP
          split
          · simp
          · split
            · simp
            · split
              · simp
              · exact hvl
        generalize hcp : checkP (rawB T) key nn k v L = cp at *
        rintro e w10 ⟨cv10, rfl, o10, n10, x10⟩
        obtain ⟨A10, c10, rfl⟩ := o10.formv
        have x8t := H9.out.2.2.2.trans x10
        have s10 := x10.heap H9.out.1 id
        have gP10 := x10.heap H9.out.2.1 id
        have gS10 := x10.heap gS9 id
        have y10 := (H6.out.2.2.1.trans H8.out.2.2.2.1).trans x8t
        have hsz10 := x10.size
        have HCP := Lib.hid hcp
        have H10 := Lib.hid (And.intro s10 (And.intro gP10 (And.intro gS10 (And.intro o10 (And.intro n10 (And.intro x10 (And.intro x8t y10)))))))
        clear r0 r1 r2 r3 hcp
        have q0 : w10.cell? ⟨B7, 0, none⟩ = some (.bool nn) := cells_at s10 0
        have q1 : w10.cell? ⟨B7, 1, none⟩ = some (lentV gk k) := cells_at s10 1
        have q2 : w10.cell? ⟨B7, 2, none⟩ = some (lentV gv v) := cells_at s10 2
        have q3 : w10.cell? ⟨B7, 3, none⟩ = some (.slice As7 L.length cs7) := cells_at s10 3
        have p0 : w10.cell? ⟨w.heap.size + 1, 0, none⟩ = some (.bool nn) := cells_at gP10 0
        have p1 : w10.cell? ⟨w.heap.size + 1, 1, none⟩ = some (.slice Ak k.length ck) := cells_at gP10 1
        have p2 : w10.cell? ⟨w.heap.size + 1, 2, none⟩ = some (.slice Av v.length cv) := cells_at gP10 2
        have p3 : w10.cell? ⟨w.heap.size + 1, 3, none⟩ = some (.slice As L.length cs) := cells_at gP10 3
        clear s10 gP10 gS10 o10 n10 x10 x8t y10 gS9
        go_wp2_with fail
        refine (psame_walk (nn := nn) (H8.out.2.2.2.2.1.same fun b hb => H10.out.2.2.2.2.2.2.1.heap_eq (by have := H8.out.2.2.2.2.2.1 b hb; omega) id) (HP.out.same (HB.out _ H10.out.2.2.2.2.2.2.2)) (fun b hb => by have := H8.out.2.2.2.2.2.1 b hb; omega) (fun b hb => Nat.lt_of_lt_of_le hb H10.out.2.2.2.2.2.2.2.size)).mono ?_
        rintro e w11 ⟨rfl, x11⟩
        have s11 := x11.heap H10.out.1 id
        have hsz11 := x11.size
        have H11 := Lib.hid (And.intro s11 x11)
        clear q0 q1 q2 q3 p0 p1 p2 p3
        have q0 : w11.cell? ⟨B7, 0, none⟩ = some (.bool nn) := cells_at s11 0
        have q1 : w11.cell? ⟨B7, 1, none⟩ = some (lentV gk k) := cells_at s11 1
        have q2 : w11.cell? ⟨B7, 2, none⟩ = some (lentV gv v) := cells_at s11 2
        have q3 : w11.cell? ⟨B7, 3, none⟩ = some (.slice As7 L.length cs7) := cells_at s11 3
        clear s11 x11
        go_wp2_with fail
        have x811 := H10.out.2.2.2.2.2.2.1.trans H11.out.2
        have x711 := H8.out.2.2.2.2.2.2.trans x811
        refine (spoil_walk (nn := nn) (H7.out.1.ext x711 id) (H7.out.2.1.ext x711 id) HG7.out.2.2 (own_ext H7.out.2.2.1 x711 fun _ _ => id) hkl hvl (by omega)).mono ?_
        rintro e w12 ⟨rfl, x12⟩
        have hFW : ∀ b, (b = gk ∨ b = gv ∨ (Value.slice As7 L.length cs7).ownBlock = some b) → w5.heap.size ≤ b ∧ b < B7 := fun b hb => ⟨(H8.out.2.2.2.2.2.1 b hb).2, (H8.out.2.2.2.2.2.1 b hb).1⟩
        have x6b : Ext (fun _ => False) w5 w11 := H7.out.2.2.2.trans x711
        have y12 : Ext (fun b => w5.heap.size ≤ b) w5 w12 := (x6b.mono (F1 := fun b => w5.heap.size ≤ b) fun _ _ => False.elim).trans' x12 fun b hb => .inl (hFW b hb).1
        have yw12 : Ext (fun _ => False) w w12 := H6.out.2.2.1.trans' y12 fun b hb => .inr (by have := H6.out.2.2.1.size; omega)
        have gS12 := y12.heap H6.out.1 (by show ¬ (w5.heap.size ≤ w.heap.size); omega)
        have gP12 := y12.heap H6.out.2.1 (by show ¬ (w5.heap.size ≤ w.heap.size + 1); omega)
        have o6 := H6.out.2.2.2.1
        have o6' := o6.ext2 y12 (fun q hq hF => by have := o6.row.lt q hq; omega) (fun u hu q hq hF => by have := o6.in_ u hu q hq; omega)
        have o9 := H9.out.2.2.1
        have x91 := H10.out.2.2.2.2.2.1.trans H11.out.2
        have o9' : OwnRows w8.heap.size w12 (.slice Al TX.length cl) us TX := (o9.ext2 x91 (fun _ _ => id) (fun _ _ _ _ => id)).ext2 x12 (fun q hq hF => by have := o9.row.lt q hq; have := hFW q hF; omega) (fun u hu q hq hF => by have := o9.in_ u hu q hq; have := hFW q hF; omega)
        have o10' := (H10.out.2.2.2.1.ext H11.out.2 fun _ _ => id).ext x12 fun q hq hF => by have := H10.out.2.2.2.2.1 q hq; have := hFW q hF; omega
        have hsz12 := x12.size
        have H12 := Lib.hid (And.intro yw12 (And.intro o6' (And.intro o9' (And.intro o10' gP12))))
        clear q0 q1 q2 q3 x811 x711 x12 x6b y12 o6 o6' o9 o9' o10' x91 hFW
        have p0 : w12.cell? ⟨w.heap.size + 1, 0, none⟩ = some (.bool nn) := cells_at gP12 0
        have p1 : w12.cell? ⟨w.heap.size + 1, 1, none⟩ = some (.slice Ak k.length ck) := cells_at gP12 1
        have p2 : w12.cell? ⟨w.heap.size + 1, 2, none⟩ = some (.slice Av v.length cv) := cells_at gP12 2
        have p3 : w12.cell? ⟨w.heap.size + 1, 3, none⟩ = some (.slice As L.length cs) := cells_at gP12 3
        clear gP12 yw12
        go_wp2_with (refine wpList_load_rowg 29 (.tmp 4) rfl rfl w.heap.size rfl 29 (sumA (rawB T)) (0, 0) _ gS12 Try.underlying29 rfl (info_sum H6.out.2.2.2.2) ?_)
        refine (dcheck5_walk (nn := nn) (root := (rawB T)) (HP.out.same (HB.out _ H12.out.1)) (fun b hb => Nat.lt_of_lt_of_le hb H12.out.1.size) H6.out.2.2.2.2 (H.out.2.2.2.same H12.out.1) hyl).mono ?_
        rw [HCP.out]
        rintro e w13 ⟨cv13, rfl, o13, n13, x13⟩
        obtain ⟨A13, c13, rfl⟩ := o13.formv
        have H13 := Lib.hid (And.intro o13 (And.intro n13 x13))
        have hsz13 := x13.size
        clear p0 p1 p2 p3 gS12 o13 n13 x13
        go_wp2_with fail
        refine (same_walk (H12.out.2.2.1.ext2 H13.out.2.2 (fun _ _ => id) (fun _ _ _ _ => id)).byts (H12.out.2.1.ext2 H13.out.2.2 (fun _ _ => id) (fun _ _ _ _ => id)).byts (by omega) (by omega)).mono ?_
        rintro e w14 ⟨rfl, x14⟩
        rw [show decide (TX = TX) = true by simp]
        have x34 := H13.out.2.2.trans x14
        have hw14 : w.heap.size < w14.heap.size := by have := x14.size; omega
        have hsz14 := x14.size
        obtain ⟨b1, _, hc1⟩ := (H12.out.2.2.2.1.byt.same x34).convS hw14 22 5 9 Try.underlying22 Try.underlying5 Try.underlying9
        obtain ⟨b2, _, hc2⟩ := (H13.out.1.byt.same x14).convS hw14 22 5 9 Try.underlying22 Try.underlying5 Try.underlying9
        have cv1 := hc1 w14 rfl
        have cv2 := hc2 w14 rfl
        have H14 := Lib.hid (And.intro x34 (H12.out.2.2.1.ext2 x34 (fun _ _ => id) (fun _ _ _ _ => id)))
        have o10w := H12.out.2.2.2.1.ext x34 fun _ _ => id
        have hw10 : ∀ q, (Value.slice A10 cp.1.length c10).ownBlock = some q → w9.heap.size ≤ q := H10.out.2.2.2.2.1
        have hxa := (Ext.refl (fun _ => False) w14).alloc (.cells #[.slice A10 cp.1.length c10] 22 (0, 0))
        have hrow := own_ext H14.out.2.row hxa fun _ _ => id
        have HO10 := Lib.hid (And.intro o10w hw10)
        clear x14 x34 hc1 hc2 o10w hw10
        have hbt1 : TX.length + 1 ≤ 1152921504606846976 := by omega
        have hbt2 : (TX.length + 1) * 24 ≤ 140737488355328 := by omega
        have hb14 : w8.heap.size ≤ (w14.alloc (.cells #[.slice A10 cp.1.length c10] 22 (0, 0))).heap.size := by simp only [World.size_alloc]; omega
        have HBT := Lib.hid (And.intro hbt1 (And.intro hbt2 hb14))
        clear hbt1 hbt2 hb14
        go_wp2_with (refine wpList_append_lit rfl (.tmp 84) (.tmp 86) 68 rfl Try.underlying68 info24 rfl (by decide) (v := .slice Al TX.length cl) rfl hrow HBT.out.2.2 (m := 1) (cs := [.slice A10 cp.1.length c10]) rfl (heap_alloc_self _ _) rfl (by simp [Value.oneCell']) (by decide) HBT.out.1 HBT.out.2.1 ?_; intro g15 c15 w15 ho15 hx15 hg15 hl15)
        have o9'' := H14.out.2.ext2 hxa (fun _ _ => id) fun _ _ _ _ => id
        have hlA : ∀ q, (Value.slice Al TX.length cl).ownBlock = some q → w8.heap.size ≤ q ∧ q < w9.heap.size := fun q hq => H9.out.2.2.1.row.lt q hq
        have hu15 := (HO10.out.1.ext hxa fun _ _ => id).ext hx15 fun q hq e => absurd (hlA q e).2 (Nat.not_lt.2 (HO10.out.2 q hq))
        have hrr := OwnRows.snoc2 o9'' hx15 ho15 hu15 (fun q hq => Nat.le_trans H9.out.2.2.2.size (HO10.out.2 q hq)) (fun u hu q hq hq' => absurd (H9.out.2.2.1.in_ u hu q hq').2 (Nat.not_lt.2 (HO10.out.2 q hq)))
        have H15 := Lib.hid (And.intro hrr (And.intro hxa hx15))
        clear hrr hxa hx15 o9'' hrow ho15 hu15 cv1 cv2
        refine (owned_walk H15.out.1.rows8 (by rw [H15.out.1.len, List.length_append, List.length_singleton]; exact Nat.le_trans HBT.out.1 (by decide))).mono ?_
        rintro e w16 ⟨rfl, x16⟩
        have H16 := Lib.hid x16
        clear x16
        go_wp2_with fail
        go_ret
        have hww8 : w.heap.size ≤ w8.heap.size := (H6.out.2.2.1.trans H8.out.2.2.2.1).size
        have hww9 : w.heap.size ≤ w9.heap.size := Nat.le_trans hww8 H9.out.2.2.2.size
        refine ⟨rfl, (((H12.out.1.trans H14.out.1).trans H15.out.2.1).trans' H15.out.2.2 fun b hb => .inr (Nat.le_trans hww8 (hlA b hb).1)).trans' H16.out fun b hb => .inr ?_⟩
        obtain ⟨u, hu, hb⟩ := hb
        rcases List.mem_append.1 hu with hu | hu
        · exact Nat.le_trans hww8 (H9.out.2.2.1.in_ u hu b hb).1
        · simp only [List.mem_singleton] at hu
          subst hu
          exact Nat.le_trans hww9 (HO10.out.2 b hb)
end Go.Proofs.Ytoflfhjeabpcjaa
/- Digests, texts and rows of byte slices that come in; no condition. -/
namespace Go.Proofs.Ytoflfhjeabpcjaa
set_option linter.unusedVariables false
set_option linter.unusedSimpArgs false
open Go.RowKit Go.ChangeShapes Go.WideShapes Go.Deep

theorem bytes_of_cells : ∀ (cs : List Value), (∀ i, i < cs.length → ∃ u : UInt8, cs[i]? = some (byteV u)) → ∃ s : Bs, s.length = cs.length ∧ cs = s.map byteV
  | [], _ => ⟨[], rfl, rfl⟩
  | v :: r, h => by
    obtain ⟨u, hu⟩ := h 0 (by simp)
    obtain ⟨s, hl, rfl⟩ := bytes_of_cells r fun i hi => by
      obtain ⟨u, hu⟩ := h (i + 1) (by simpa using hi)
      exact ⟨u, by simpa using hu⟩
    simp at hu
    exact ⟨u :: s, by simp, by simp [hu]⟩
set_option maxRecDepth 100000 in
theorem open_sum {H : Type} {enc : TypeId × Value → H} {W : World} {base : Nat} {spare : Nat → Bool} {held : Bool} {v : Value} {d : DataW H} {p : List MemPlace} (hval : Value.okWide Try.prog W .any base 29 v)
    (h : ∃ fuel, DataW.trod enc Try.prog W 0 spare held fuel 29 v.cells.toList = some (d, p)) : ∃ s : Bs, s.length = 32 ∧ v = sumV s := by
  have hv := hval
  simp only [Value.okWide, Try.underlying29] at hv
  obtain ⟨cs, rfl, hsz, _⟩ := hv
  obtain ⟨fuel, hf⟩ := h
  obtain ⟨xs, m, _, _, hlen, hxl, hat⟩ := DataW.trod_array Try.underlying29 hf
  simp only [Value.cells] at hlen hat
  rw [show Try.prog.cellsOf 29 = 32 by kernel_rfl] at hlen
  rw [show Try.prog.cellsOf 5 = 1 by kernel_rfl] at hat
  obtain ⟨s, hl, he⟩ := bytes_of_cells cs.toList fun i hi => by
    have h1 := hat i (by omega)
    rw [List.getElem?_eq_getElem (by omega)] at h1
    obtain ⟨q, hq, _, hw⟩ := DataW.trod_int Try.underlying5 h1
    have hdt : (cs.toList.drop (i * 1)).take 1 = [cs.toList[i]] := by
      rw [Nat.mul_one, List.drop_eq_getElem_cons hi]
      rfl
    rw [hdt] at hq
    simp only [List.cons.injEq, and_true] at hq
    have hw' := bounds_u8 hw
    refine ⟨UInt8.ofNat q.toNat, ?_⟩
    rw [List.getElem?_eq_getElem hi, hq]
    simp [byteV]
    omega
  refine ⟨s, by omega, ?_⟩
  show Value.agg cs = .agg (s.map byteV).toArray
  rw [← he]
set_option maxRecDepth 100000 in
theorem open_text {H : Type} {enc : TypeId × Value → H} {W : World} {base : Nat} {spare : Nat → Bool} {held : Bool} {v : Value} {d : DataW H} {p : List MemPlace} (hval : Value.okWide Try.prog W .any base 9 v)
    (h : ∃ fuel, DataW.trod enc Try.prog W 0 spare held fuel 9 v.cells.toList = some (d, p)) : ∃ l : Bs, v = str l ∧ l.length ≤ maxLen := by
  obtain ⟨s, rfl⟩ := okWide_string Try.underlying9 hval
  obtain ⟨fuel, hf⟩ := h
  obtain ⟨s', h, _, hs⟩ := DataW.trod_string Try.underlying9 hf
  simp [Value.cells] at h
  subst h
  exact ⟨s.data.toList, rfl, hs⟩
set_option maxRecDepth 100000 in
theorem open_byts {H : Type} {enc : TypeId × Value → H} {W : World} {spare : Nat → Bool} {held : Bool} {A : Option Addr} {len cap : Nat} {d : DataW H} {p : List MemPlace} (hsm : Small Try.prog 68 d)
    (h : ∃ fuel, DataW.trod enc Try.prog W 0 spare held fuel 68 (Value.slice A len cap).cells.toList = some (d, p)) : ∃ l : List Bs, Byts (· < W.heap.size) W (.slice A len cap) l ∧ l.length ≤ 5864062014634 := by
  have h' := h
  obtain ⟨l, hl, _⟩ := trod_row_s (R := fun w g n x => ∃ u, w.cell? ⟨g, n, none⟩ = some u ∧ Byt (· < W.heap.size) w u x) (size := 1) Try.underlying68 (by kernel_rfl) (by decide) hsm (fun f cs x g n hf hs hc hcell => by
    obtain ⟨v, l, rfl, hb, _⟩ := opens_byt Try.underlying22 Try.underlying5 (by kernel_rfl) hf
    exact ⟨l, v, by simpa using hcell 0 v (by simp), hb⟩) h
  obtain ⟨fuel, hf⟩ := h'
  have hsl := small_slice (x := (d, p)) Try.underlying68 hf hsm
  rw [show Try.prog.bytesOf 22 = 24 by kernel_rfl] at hsl
  refine ⟨l, hl, ?_⟩
  obtain ⟨A', c', e, _⟩ := hl
  simp only [Value.slice.injEq] at e
  omega
end Go.Proofs.Ytoflfhjeabpcjaa
/- Steps and proofs that come in; no condition. -/
namespace Go.Proofs.Ytoflfhjeabpcjaa
set_option linter.unusedVariables false
set_option linter.unusedSimpArgs false
open Go.RowKit Go.ChangeShapes Go.WideShapes Go.Deep

set_option maxRecDepth 100000 in
theorem cells_sum {H : Type} {enc : TypeId × Value → H} {W : World} {spare : Nat → Bool} {held : Bool} {fuel : Nat} {cs : List Value} {x : DataW H × List MemPlace} (hf : DataW.trod enc Try.prog W 0 spare held fuel 29 cs = some x) : ∃ s : Bs, s.length = 32 ∧ cs = s.map byteV := by
  obtain ⟨xs, m, _, _, hlen, hxl, hat⟩ := DataW.trod_array Try.underlying29 hf
  rw [show Try.prog.cellsOf 29 = 32 by kernel_rfl] at hlen
  rw [show Try.prog.cellsOf 5 = 1 by kernel_rfl] at hat
  obtain ⟨s, hl, he⟩ := bytes_of_cells cs fun i hi => by
    have h1 := hat i (by omega)
    rw [List.getElem?_eq_getElem (by omega)] at h1
    obtain ⟨q, hq, _, hw⟩ := DataW.trod_int Try.underlying5 h1
    have hdt : (cs.drop (i * 1)).take 1 = [cs[i]] := by
      rw [Nat.mul_one, List.drop_eq_getElem_cons hi]
      rfl
    rw [hdt] at hq
    simp only [List.cons.injEq, and_true] at hq
    have hw' := bounds_u8 hw
    refine ⟨UInt8.ofNat q.toNat, ?_⟩
    rw [List.getElem?_eq_getElem hi, hq]
    simp [byteV]
    omega
  exact ⟨s, by omega, he⟩
set_option maxRecDepth 100000 in
theorem opens_step_s {H : Type} {enc : TypeId × Value → H} {W : World} {spare : Nat → Bool} {held : Bool} (fuel : Nat) (cs : List Value) (x : DataW H × List MemPlace) (g n : Nat)
    (h : DataW.trod enc Try.prog W 0 spare held fuel 48 cs = some x) (hs : Small Try.prog 48 x.1) (hl : cs.length = 34) (hat : ∀ j u, cs[j]? = some u → W.cell? ⟨g, n + j, none⟩ = some u) : ∃ d, StepAt W g n d := by
  have ki : Try.prog.cellsOf 3 = 1 := by kernel_rfl
  have kb : Try.prog.cellsOf 4 = 1 := by kernel_rfl
  have ks : Try.prog.cellsOf 29 = 32 := by kernel_rfl
  obtain ⟨_, _, h0⟩ := opens_field Try.underlying48 h 0 rfl ki
  obtain ⟨_, _, h1⟩ := opens_field Try.underlying48 h 1 rfl kb
  obtain ⟨_, _, h2⟩ := opens_field Try.underlying48 h 2 rfl ks
  obtain ⟨q0, e0, _, _⟩ := DataW.trod_int Try.underlying3 h0
  obtain ⟨s, hsl, e2⟩ := cells_sum h2
  obtain ⟨q1, e1⟩ : ∃ b, (cs.drop 1).take 1 = [.bool b] := by
    obtain ⟨b, e1, _⟩ := DataW.trod_bool Try.underlying4 h1
    exact ⟨b, e1⟩
  refine ⟨⟨q0, q1, s⟩, hsl, ?_⟩
  have hcs : cs = stepV ⟨q0, q1, s⟩ := by
    match cs, hl with
    | c0 :: c1 :: r, hl =>
      simp at e0 e1 e2
      subst e0 e1
      have hr : r.take 32 = r := List.take_of_length_le (by simp at hl; omega)
      rw [hr] at e2
      rw [e2]
      rfl
  intro j u hj
  exact hat j u (by rw [hcs]; exact hj)
theorem four_of {α : Type} : ∀ {l : List α}, l.length = 4 → ∃ a b c d, l = [a, b, c, d]
  | [a, b, c, d], _ => ⟨a, b, c, d, rfl⟩
set_option maxRecDepth 100000 in
theorem trod_len4 {H : Type} {enc : TypeId × Value → H} {W : World} {spare : Nat → Bool} {held : Bool} {fuel : Nat} {cs : List Value} {x : DataW H × List MemPlace} (h : DataW.trod enc Try.prog W 0 spare held fuel 43 cs = some x) : cs.length = 4 := by
  obtain ⟨_, _, _, _, hl, _⟩ := DataW.trod_struct Try.underlying43 h
  rw [hl]
  kernel_rfl
set_option maxRecDepth 100000 in
theorem open_proof {H : Type} {enc : TypeId × Value → H} {W : World} {base : Nat} {spare : Nat → Bool} {held : Bool} {v : Value} {d : DataW H} {p : List MemPlace} (hval : Value.okWide Try.prog W .any base 43 v) (hsm : Small Try.prog 43 d)
    (h : ∃ fuel, DataW.trod enc Try.prog W 0 spare held fuel 43 v.cells.toList = some (d, p)) : ∃ nn a b c k x L, v = .agg #[.bool nn, a, b, c] ∧ Byt (· < W.heap.size) W a k ∧ k.length ≤ 140737488351232 ∧ Byt (· < W.heap.size) W b x ∧ x.length ≤ 140737488351232 ∧ StepsR (· < W.heap.size) W c L ∧ L.length ≤ maxLen := by
  obtain ⟨fuel, hf⟩ := h
  have kb : Try.prog.cellsOf 4 = 1 := by kernel_rfl
  have ke : Try.prog.cellsOf 24 = 2 := by kernel_rfl
  have ks : Try.prog.cellsOf 41 = 1 := by kernel_rfl
  have k8 : Try.prog.cellsOf 22 = 1 := by kernel_rfl
  obtain ⟨_, _, h0⟩ := opens_field Try.underlying43 hf 0 rfl kb
  obtain ⟨_, _, h1, hs1⟩ := opens_field_s Try.underlying43 hf hsm 1 rfl ke
  obtain ⟨_, _, h2, hs2⟩ := opens_field_s Try.underlying43 hf hsm 2 rfl ks
  obtain ⟨nn, e0, _⟩ := DataW.trod_bool Try.underlying4 h0
  obtain ⟨_, _, h10, hs10⟩ := opens_field_s Try.underlying24 h1 hs1 0 rfl k8
  obtain ⟨_, _, h11, hs11⟩ := opens_field_s Try.underlying24 h1 hs1 1 rfl k8
  obtain ⟨a, k, e1, ha, la⟩ := opens_byt_s Try.underlying22 Try.underlying5 (by kernel_rfl) (by kernel_rfl) h10 hs10
  obtain ⟨b, x, e2, hb, lb⟩ := opens_byt_s Try.underlying22 Try.underlying5 (by kernel_rfl) (by kernel_rfl) h11 hs11
  obtain ⟨c, L, e3, hL, hl⟩ := opens_row_s (R := StepAt) (size := 34) Try.underlying41 (by kernel_rfl) (by decide) hs2 (fun f cs x g n => opens_step_s f cs x g n) h2
  have hlen := trod_len4 hf
  refine ⟨nn, a, b, c, k, x, L, ?_, ha, la, hb, lb, hL, hl⟩
  obtain ⟨c0, c1, c2, c3, hc⟩ := four_of hlen
  rw [hc] at e0 e1 e2 e3
  simp at e0 e1 e2 e3
  rw [e0, e1, e2, e3] at hc
  clear e0 e1 e2 e3 hf hval
  cases v
  case agg cs =>
    simp only [Value.cells] at hc
    congr 1
    exact Array.toList_inj.1 hc
  all_goals simp [Value.cells] at hc
end Go.Proofs.Ytoflfhjeabpcjaa
namespace Go.Proofs.Ytoflfhjeabpcjaa
set_option linter.unusedVariables false
set_option linter.unusedSimpArgs false
open Go.ChangeShapes Go.WideShapes Go.ChangeAt Go.RowKit
open Go.ChangeMaps (open_string shut_string)

set_option maxRecDepth 100000 in
theorem proofTells_lifted (os : Os) (started : os.Started) (H : Type) (enc : TypeId × Value → H) :
    ReturnsInHanded {} Try.checked os 8 .any (Rows.proofTellsSpec.pre6 enc Try.prog Try.f8 Rows.proofTellsRow.domain false) (Rows.proofTellsSpec.post enc Try.prog Try.f8 false true false false) := by
  refine returnsInHanded_of_change_sized (C := Try.checked) own started (by kernel_rfl) Try.func8
    (ChangeSpec.witness6 (enc := enc) (C := Try.checked) false ⟨#[], #[.agg #[.int .u8 0, .int .u8 0, .int .u8 0, .int .u8 0, .int .u8 0, .int .u8 0, .int .u8 0, .int .u8 0, .int .u8 0, .int .u8 0, .int .u8 0, .int .u8 0, .int .u8 0, .int .u8 0, .int .u8 0, .int .u8 0, .int .u8 0, .int .u8 0, .int .u8 0, .int .u8 0, .int .u8 0, .int .u8 0, .int .u8 0, .int .u8 0, .int .u8 0, .int .u8 0, .int .u8 0, .int .u8 0, .int .u8 0, .int .u8 0, .int .u8 0, .int .u8 0], .bool false, .slice none 0 0, .agg #[.bool false, .slice none 0 0, .slice none 0 0, .slice none 0 0]], []⟩ 8 (by kernel_rfl) (by kernel_rfl) (by kernel_rfl) (by kernel_rfl)) ?_
  intro W base args ds gs before hval0 hW hcnd hsz0 _
  have hsz : (DataW.weightsEach Try.prog (Try.f8.params.toList ++ Rows.proofTellsSpec.plain.varTypes Try.prog) (ds ++ gs)).all (· ≤ reachBytes) = true := hsz0
  have hval : ∀ (j : Nat) t v, Try.f8.params[j]? = some t → args[j]? = some v → Value.okWide Try.prog W .any base t v := hval0
  have hW' := hW
  obtain ⟨p, q, hA0, hV, rfl, hfz, hnd⟩ := hW
  have hA : DataW.TrodAll enc Try.prog W 0 (fun _ => true) true Try.f8.params.toList args.toList ds p := hA0
  rw [Try.params8] at hA hval hsz
  obtain ⟨v0, vs0, d0, ds0, p0, q0, hargs, rfl, rfl, h0, r0⟩ := trodAll_cons hA
  obtain ⟨v1, vs1, d1, ds1, p1, q1, rfl, rfl, rfl, h1, r1⟩ := trodAll_cons r0
  obtain ⟨v2, vs2, d2, ds2, p2, q2, rfl, rfl, rfl, h2, r2⟩ := trodAll_cons r1
  obtain ⟨v3, vs3, d3, ds3, p3, q3, rfl, rfl, rfl, h3, r3⟩ := trodAll_cons r2
  obtain ⟨rfl, rfl, rfl⟩ := trodAll_nil r3
  obtain rfl : args = #[v0, v1, v2, v3] := by cases args; simp_all
  obtain ⟨rfl, rfl⟩ := trodVars_none hV
  have k0 := h0
  have lt0 : ∀ x ∈ p0, x.block < W.heap.size := by obtain ⟨m, hm⟩ := k0; exact DataW.trod_lt m _ _ _ hm
  obtain ⟨l0, hl0, ml0⟩ := open_sum (hval 0 29 v0 rfl rfl) h0
  subst ml0
  obtain ⟨a1, rfl, rfl, rfl⟩ := open_bool Try.underlying4 (hval 1 4 v1 rfl rfl) h1
  obtain ⟨a2, len2, cap2, rfl⟩ := okWide_slice Try.underlying22 (hval 2 22 v2 rfl rfl)
  have k2 := h2
  have lt2 : ∀ x ∈ p2, x.block < W.heap.size := by obtain ⟨m, hm⟩ := k2; exact DataW.trod_lt m _ _ _ hm
  have k3 := h3
  have lt3 : ∀ x ∈ p3, x.block < W.heap.size := by obtain ⟨m, hm⟩ := k3; exact DataW.trod_lt m _ _ _ hm
  have sm3 := small_each hsz (j := 3) (t := 43) (d := d3) rfl rfl
  obtain ⟨nn3, a3, b3, c3, ek3, ev3, es3, ee3, ha3, la3, hb3, lb3, hc3, lc3⟩ := open_proof (hval 3 43 v3 rfl rfl) sm3 h3
  subst ee3
  have sm2 := small_each hsz (j := 2) (t := 22) (d := d2) rfl rfl
  obtain ⟨l2, hl2⟩ : ∃ l, Byt (· < W.heap.size) W (.slice a2 len2 cap2) l ∧ l.length ≤ 140737488351232 := by
    obtain ⟨fuel, hf⟩ := h2
    obtain ⟨v, l, e, hr, hm⟩ := opens_byt_s (x := (d2, p2)) Try.underlying22 Try.underlying5 (by kernel_rfl) (by kernel_rfl) hf sm2
    simp [Value.cells] at e
    exact ⟨l, e ▸ hr, hm⟩
  clear hA0 hval0 hsz0 hsz
  refine (tells_walk hl0 a1 hl2.1 hl2.2 ha3 la3 hb3 lb3 hc3 lc3).mono fun e W' ⟨he, hx⟩ => ?_
  subst he
  have bel : Go.RowKit.Below W.heap.size W W' := hx.below fun _ => False.elim
  exact ⟨_, rfl, _, _, _, [], _, [], hW', trodAll_mk1 (shut_bool Try.underlying4 _), (trodAll_cons_mk (Go.RowKit.Below.trod laidOut (by kernel_rfl) (of_decide_eq_true (by kernel_rfl)) k0 bel lt0) (trodAll_cons_mk (shut_bool Try.underlying4 _) (trodAll_cons_mk (Go.RowKit.Below.trod laidOut (by kernel_rfl) (of_decide_eq_true (by kernel_rfl)) k2 bel lt2) (trodAll_cons_mk (Go.RowKit.Below.trod laidOut (by kernel_rfl) (of_decide_eq_true (by kernel_rfl)) k3 bel lt3) trodAll_mk0)))), rfl, bel.frame _, fun h => by cases h⟩

theorem proofTells_over : Rows.proofTellsRow.holds Try.pinned (OpenSpec.ofChange Rows.proofTellsSpec) :=
  OpenClaim.holds_of_wide 8 Try.f8 rfl rfl rfl rfl rfl rfl rfl ⟨rfl, rfl, rfl, rfl, rfl⟩ rfl rfl rfl rfl rfl (by kernel_rfl) Try.func8 (by kernel_rfl)
    (of_decide_eq_true (by kernel_rfl)) (by unfold Func.isWrapper; first | (rw [if_pos (by decide +kernel)]; kernel_rfl) | (rw [if_neg (by decide +kernel)]; exact ⟨rfl, rfl⟩))
    (fun os started H enc _ => proofTells_lifted os started H enc)
theorem proofTells_holds : Rows.ProofTellsSaid := proofTells_over
end Go.Proofs.Ytoflfhjeabpcjaa
