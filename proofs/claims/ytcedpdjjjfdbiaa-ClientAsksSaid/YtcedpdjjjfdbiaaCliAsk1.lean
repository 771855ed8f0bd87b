/- A request is read: the document's; no condition. -/
import Derived.Test.YtcedpdjjjfdbiaaCliTrue
namespace Go.Proofs.Ytcedpdjjjfdbiaa
set_option linter.unusedVariables false
set_option linter.unusedSimpArgs false
open Go.RowKit

theorem results_cell_tmp {P : Program} {fn : Func} {p q : Tmp} {ty : TypeId} (h : fn.results = #[.cell p ty, .tmp q]) (tmps : Array Value) (w : World) (g : Nat) (t : TypeId) (cs : Array Value) (fr : Nat × Nat) (d : TypeDesc)
    (hp : tmps.getD p undef = .pointer (some ⟨g, 0, none⟩)) (hg : w.heap[g]? = some (.cells cs t fr))
    (hu : P.underlying ty = some d) (hd : (match d with | .struct _ | .array _ _ => true | _ => false) = true) (hi : (P.info? ty).map (·.size) = some cs.size) :
    (results fn tmps).run P w = .ok (.tuple #[.agg cs, tmps.getD q undef]) w := by
  have hp' : tmps[p]?.getD undef = .pointer (some ⟨g, 0, none⟩) := by simpa using hp
  simp [results, h, hp', asAddr, run_loadVar_row w g t ty cs fr d hg hu hd hi]
theorem take_blobs : ∀ (ls : List Bs) (p : Bs) (done : List Bs), (∀ l ∈ ls, l.length ≤ 65536) → takeG ls.length (p ++ ls.flatMap blobB) p.length done = (done ++ ls, (p ++ ls.flatMap blobB).length, 0)
  | [], p, done, _ => by simp [takeG]
  | l :: ls, p, done, h => by
    have hd : (p ++ (l :: ls).flatMap blobB).drop p.length = blobB l ++ ls.flatMap blobB := by rw [List.drop_left' rfl, List.flatMap_cons]
    have ht := takeR_blob l (ls.flatMap blobB) (h l (by simp))
    rw [List.length_cons, takeG, hd, ht, if_pos rfl]
    have hp : p ++ (l :: ls).flatMap blobB = (p ++ blobB l) ++ ls.flatMap blobB := by simp
    have hl : p.length + (4 + l.length) = (p ++ blobB l).length := by rw [List.length_append, blobB_len]
    simp only
    rw [hl, hp, take_blobs ls (p ++ blobB l) (done ++ [l]) fun x hx => h x (by simp [hx])]
    simp
theorem takeRow_rowB {ls : List Bs} (h1 : ls.length ≤ 4096) (h2 : ∀ l ∈ ls, l.length ≤ 65536) : takeRow (rowB ls) = (ls, (rowB ls).length, 0) := by
  have hb : be4 (rowB ls) = ls.length := by
    rw [rowB]
    exact be4_beB _ (by omega) _
  have hlen : 4 ≤ (rowB ls).length := by simp [rowB, beB_len]
  rw [takeRow, if_neg (by omega), if_neg (by omega), hb]
  have := take_blobs ls (beB ls.length 4) [] h2
  rw [beB_len] at this
  rw [rowB]
  simpa using this
theorem beP_beB (n : Nat) : ∀ k, k ≤ 8 → beP (beB (n : Int) 8) k = n / 2 ^ (8 * (8 - k)) % 2 ^ (8 * k)
  | 0, _ => by simp [beP, Nat.mod_one]
  | k + 1, hk => by
    have ih := beP_beB n k (by omega)
    have hg : (beB (n : Int) 8).getD k 0 = byteAt (n : Int) (8 * (8 - 1 - k)) := by
      rw [List.getD_eq_getElem?_getD]
      simp [beB, show k < 8 by omega]
    rw [beP, ih, hg, byteAt_num]
    have e1 : 8 * (8 - k) = 8 * (8 - (k + 1)) + 8 := by omega
    have e2 : 8 * (8 - 1 - k) = 8 * (8 - (k + 1)) := by omega
    have e3 : 8 * (k + 1) = 8 * k + 8 := by omega
    rw [e1, e2, e3, Nat.pow_add, Nat.pow_add, ← Nat.div_div_eq_div_mul]
    generalize n / 2 ^ (8 * (8 - (k + 1))) = x
    generalize 2 ^ (8 * k) = m
    have h1 : x % (m * 256) = (x / 256 % m) * 256 + x % 256 := by
      rw [Nat.mul_comm m 256, Nat.mod_mul]
      omega
    rw [show (2 : Nat) ^ 8 = 256 from rfl, h1]
theorem be_facts8 (x c : Nat) (hx : x < 281474976710656) (hc : c < 256) : ∃ a : Nat, IntKind.i64.wrap ((x : Int) * 256) = (a : Int) ∧ (x : Int) * 256 = (a : Int) ∧ bits .or .i64 (a : Int) (c : Int) = ((x * 256 + c : Nat) : Int) := by
  refine ⟨x * 256, by rw [IntKind.wrap_i64]; omega, by omega, ?_⟩
  rw [(bits_nat .i64 63 (by decide) (fun n h0 h1 => by rw [IntKind.wrap_i64]; omega) (x * 256) c (by omega) (by omega)).2]
  have := Nat.two_pow_add_eq_or_of_lt (i := 8) (b := c) (by omega) x
  rw [Nat.mul_comm] at this
  rw [← this]
set_option maxRecDepth 100000 in
theorem dtakenum_walk {w : World} {D : Nat → Prop} {v : Value} {n : Nat} (hn : n ≤ 1099511627776) (hb : Byt D w v (beB (n : Int) 8)) :
    Calls Try.prog 71 #[v] w fun e w' => e = .returned (.tuple #[.int .i64 (n : Nat), .int .i64 8, .int .i64 0]) ∧ w = w' := by
  obtain ⟨g, o, c, rfl, hcap, _, hcell⟩ := hb.flat (by intro e; have := congrArg List.length e; rw [beB_len] at this; simp at this)
  have hl8 := beB_len (n : Int) 8
  have hP := beP_beB n
  have hend : beP (beB (n : Int) 8) 8 = n := by rw [hP 8 (by omega)]; omega
  have hle : ∀ k, k ≤ 8 → beP (beB (n : Int) 8) k ≤ n := fun k hk => by
    rw [hP k hk]
    exact Nat.le_trans (Nat.mod_le _ _) (Nat.div_le_self _ _)
  generalize beB (n : Int) 8 = l at *
  have hc8 : 8 ≤ c := by omega
  have n1' : decide ((l.length : Int) < 8) = false := by simp; omega
  clear hP hb
  rw [hl8]
  go_enter Try.func71, Try.ntmps71
  go_wp2_with fail
  go_loop [5, 6] (fun n i => ∃ k : Nat, k ≤ 8 ∧ i = .int .i64 k ∧ n = .int .i64 (beP l k : Nat)) (fun _ i => 8 - (intOf i).toNat)
  case atStart => exact ⟨0, by omega, rfl, rfl⟩
  case round =>
    obtain ⟨k, hk, rfl, rfl⟩ := hrel
    by_cases hk8 : k < 8
    · have hk' : decide ((k : Int) < 8) = true := by simp; omega
      have hk'' : (k : Int) < 8 := by omega
      have hkl : k < l.length := by omega
      have hc := hcell k _ (List.getElem?_eq_getElem hkl)
      have hgd : (l.getD k 0) = l[k]'hkl := by rw [List.getD_eq_getElem?_getD, List.getElem?_eq_getElem hkl]; rfl
      have hlt2 : beP l k < 281474976710656 := by have := hle k (by omega); omega
      have hs : beP l (k + 1) = beP l k * 256 + (l[k]'hkl).toNat := by rw [beP, hgd]
      have hu := UInt8.toNat_lt (l[k]'hkl)
      obtain ⟨a, q1, q2, q3⟩ := be_facts8 _ _ hlt2 hu
      rw [← hs] at q3
      have HE := Lib.hid (And.intro hend hle)
      generalize (l[k]'hkl).toNat = u at *
      generalize hy : beP l (k + 1) = y at *
      have Hy := Lib.hid hy
      generalize beP l k = x at *
      clear hs hgd hcell hy hend hle
      go_wp2_with fail
      exact ⟨⟨k + 1, by omega, by go_num, by rw [Hy.out]⟩, by simp [intOf]; omega⟩
    · have : k = 8 := by omega
      subst this
      have hk' : decide ((8 : Int) < 8) = false := by decide
      rw [hend]
      clear hend hle hcell
      go_wp2_with fail
      refine bodyPost_ret (results_tmp3 rfl _ _ _) rfl ?_
      exact ⟨rfl, rfl⟩
set_option maxRecDepth 100000 in
theorem dnumof_walk {w : World} {D : Nat → Prop} {v : Value} {n : Nat} (hn : n ≤ 1099511627776) (hb : Byt D w v (beB (n : Int) 8)) :
    Calls Try.prog 61 #[v] w fun e w' => e = .returned (.tuple #[.int .i64 (n : Nat), .bool true]) ∧ w = w' := by
  have H := Lib.hid (dtakenum_walk hn hb)
  obtain ⟨A, c, hv, _, _⟩ := hb
  rw [beB_len] at hv
  subst hv
  go_enter Try.func61, Try.ntmps61
  go_wp2_with fail
  refine H.out.mono ?_
  rintro e _ ⟨rfl, rfl⟩
  go_wp2_with fail
  refine bodyPost_ret (results_tmp2 rfl _ _ _) rfl ?_
  exact ⟨rfl, rfl⟩
set_option maxRecDepth 100000 in
theorem drowof_walk {w : World} {v : Value} {l : Bs} {ls : List Bs} (hb : OwnB w v l) (hl : l.length ≤ 4194304) (ht : takeRow l = (ls, l.length, 0)) (h3 : ls.length = 3) :
    Calls Try.prog 60 #[v, .int .i64 3] w fun e w' => ∃ v' vs, e = .returned (.tuple #[v', .bool true]) ∧ OwnRows w.heap.size w' v' vs ls ∧ Ext (fun _ => False) w w' := by
  have H := Lib.hid (dtakerow_walk hb hl)
  unfold TRPost at H
  rw [ht] at H
  obtain ⟨A, c, rfl, _, _⟩ := hb.form
  clear hb ht
  go_enter Try.func60, Try.ntmps60
  go_wp2_with fail
  refine H.out.mono ?_
  rintro e w2 ⟨v', vs, rfl, hR, hx⟩
  obtain ⟨RA, Rc, rfl⟩ := own_slice_form hR.row
  have H2 := Lib.hid (And.intro hR hx)
  clear hR hx
  go_wp2_with fail
  refine bodyPost_ret (results_tmp2 rfl _ _ _) rfl ?_
  exact ⟨_, vs, by rw [h3]; rfl, H2.out.1, H2.out.2⟩
end Go.Proofs.Ytcedpdjjjfdbiaa
