/- What a round of the document's computes; no condition. -/
import Derived.Test.YtoflfhjeabpcjaaRefSha2
import Derived.Test.YtoflfhjeabpcjaaRefPlain
import Derived.Test.YtoflfhjeabpcjaaSha7
namespace Go.Proofs.Ytoflfhjeabpcjaa
set_option linter.unusedVariables false
set_option linter.unusedSimpArgs false
open Go.RowKit

section
variable {P : Program} {ops : Array Oper} {rest : List Oper} {o : Oper} {a : Act} {Q : Exit → Act → World → Prop} {w : World}
theorem run_append_ints (w : World) (t ty : TypeId) (ht : P.underlying t = some (.slice 3)) (hi : (P.info? 3).map (fun i => (i.zero, i.size, i.bytes)) = some (some (.int .i64 0), 1, 8))
    {g0 g n c : Nat} {xs : List Nat} (hn : xs.length = n) (h0 : 0 < n) (hb : n ≤ 1000000) (h : IntsB w g xs) :
    ∃ cp w', (Builtin.append_ #[t, t] ty #[.slice (some ⟨g0, 0, none⟩) 0 0, .slice (some ⟨g, 0, none⟩) n c]).run P w = .ok (.slice (some ⟨w.heap.size, 0, none⟩) n cp) w' ∧ IntsB w' w.heap.size xs ∧ Ext (fun _ => False) w w' ∧ n ≤ cp ∧ w'.heap.size = w.heap.size + 1 := by
  obtain ⟨i, hi1, hi2⟩ := Option.map_eq_some_iff.1 hi
  simp only [Prod.mk.injEq] at hi2
  obtain ⟨z1, z2, z3⟩ := hi2
  have hr := run_append_grow (P := P) w t ty _ i _ ht hi1 z1 ⟨g0, 0, none⟩ 0 0 [] (by simp) (fun j v h => by simp at h) ⟨g, 0, none⟩ n c (xs.map fun x : Nat => Value.int .i64 (x : Int)) (by simp [z2, hn])
    (fun j v hv => by
      simp only [List.getElem?_map, Option.map_eq_some_iff] at hv
      obtain ⟨u, hu, rfl⟩ := hv
      have ha : (⟨g, 0, none⟩ : Addr).add j = ⟨g, j, none⟩ := by unfold Addr.add; split <;> simp_all
      rw [ha]
      exact h.cell hu)
    (by omega) (by omega) (growslice_fits (by omega) (by rw [z3]; omega))
  rw [Nat.zero_add] at hr
  have hge := grownCap_ge w n 0 3
  refine ⟨_, _, hr, ⟨_, heap_alloc_self _ _, ?_, fun j x hx => ?_⟩, ((Ext.refl _ _).drew).alloc _, by simpa using hge, by simp⟩
  · simp [hn]
  · have hj : j < xs.length := (List.getElem?_eq_some_iff.1 hx).1
    rw [Array.getElem?_append_left (by simpa using hj)]
    simp [hx]
theorem wpList_append_ints (hgd : o.guard = none) (s x : Operand) (t : TypeId)
    (ho : o.op = .call { callee := .builtin .append, args := #[s, x], argTypes := #[t, t] })
    (ht : P.underlying t = some (.slice 3)) (hi : (P.info? 3).map (fun i => (i.zero, i.size, i.bytes)) = some (some (.int .i64 0), 1, 8))
    {g0 g n c : Nat} {xs : List Nat} (hs : a.eval s = .slice (some ⟨g0, 0, none⟩) 0 0) (hx : a.eval x = .slice (some ⟨g, 0, none⟩) n c) (hn : xs.length = n) (h0 : 0 < n) (hb : n ≤ 1000000) (h : IntsB w g xs)
    (next : ∀ cp w', IntsB w' w.heap.size xs → Ext (fun _ => False) w w' → n ≤ cp → w'.heap.size = w.heap.size + 1 → wpList P ops Q rest (a.put o.dst (.slice (some ⟨w.heap.size, 0, none⟩) n cp)) w') : wpList P ops Q (o :: rest) a w := by
  obtain ⟨cp, w', hr, h1, h2, h3, h4⟩ := run_append_ints (P := P) (g0 := g0) (c := c) w t o.type ht hi hn h0 hb h
  refine wpList_val hgd (w' := w') (v := _) ?_ (next cp w' h1 h2 h3 h4)
  unfold execOp
  simp only [ho, resolve, invoke, builtin, Sem.run_bind, Sem.run_pure, Result.andThen_ok, List.map_toArray, List.map_cons, List.map_nil, hs, hx, hr]
end

theorem not_walk (e : Nat) (he : e < 4294967296) (w : World) : Calls Try.prog 84 #[.int .i64 (e : Int)] w fun x w' => x = .returned (.int .i64 ((4294967295 ^^^ e : Nat) : Int)) ∧ w = w' := by
  have h1 : IntKind.i64.wrap (4294967295 - (e : Int)) = ((4294967295 ^^^ e : Nat) : Int) := by
    rw [← not_xor e he, IntKind.wrap_i64]
    omega
  have h2 : 4294967295 - (e : Int) = ((4294967295 ^^^ e : Nat) : Int) := by
    rw [← not_xor e he]
    omega
  generalize (4294967295 ^^^ e) = y at *
  go_enter Try.func84, Try.ntmps84
  go_wp2_with fail
  go_ret
  exact ⟨rfl, rfl⟩

theorem sum64 (a b : Nat) (h : a + b < 9223372036854775808) : IntKind.i64.wrap ((a : Int) + (b : Int)) = ((a + b : Nat) : Int) := by rw [IntKind.wrap_i64]; omega
theorem mod64 (a : Nat) : (a : Int).tmod 4294967296 = ((a % 4294967296 : Nat) : Int) := by rw [Int.tmod_eq_emod_of_nonneg (by omega)]; omega
theorem d3_1 (x : Nat) (hx : x < 4294967296) : ∃ d : Nat, bits .xor .i64 (rot x 6 : Int) (rot x 11 : Int) = (d : Int) ∧ bits .xor .i64 (d : Int) (rot x 25 : Int) = (three1 x : Int) :=
  ⟨_, i64_xor _ _ (rot_lt 6 hx) (rot_lt 11 hx), i64_xor _ _ (xor_lt (rot_lt 6 hx) (rot_lt 11 hx)) (rot_lt 25 hx)⟩
theorem d3_0 (x : Nat) (hx : x < 4294967296) : ∃ d : Nat, bits .xor .i64 (rot x 2 : Int) (rot x 13 : Int) = (d : Int) ∧ bits .xor .i64 (d : Int) (rot x 22 : Int) = (three0 x : Int) :=
  ⟨_, i64_xor _ _ (rot_lt 2 hx) (rot_lt 13 hx), i64_xor _ _ (xor_lt (rot_lt 2 hx) (rot_lt 13 hx)) (rot_lt 22 hx)⟩
/-- What a round reckons. -/
theorem dround (s : St) (h : StOk s) (k w : Nat) (hk : k < 4294967296) (hw : w < 4294967296) : ∃ d1 d2 n1 n2 cc z1 z2 z3 p m1 m2 m3 m4 mm q y1 y2 : Nat,
    (bits .xor .i64 (rot s.e 6 : Int) (rot s.e 11 : Int) = (d1 : Int) ∧ bits .xor .i64 (d1 : Int) (rot s.e 25 : Int) = (three1 s.e : Int) ∧ IntKind.i64.wrap ((s.i : Int) + (three1 s.e : Int)) = (z1 : Int) ∧
      bits .and .i64 (s.e : Int) (s.f : Int) = (n1 : Int) ∧ bits .and .i64 ((4294967295 ^^^ s.e : Nat) : Int) (s.g : Int) = (n2 : Int) ∧ bits .xor .i64 (n1 : Int) (n2 : Int) = (cc : Int) ∧
      IntKind.i64.wrap ((z1 : Int) + (cc : Int)) = (z2 : Int) ∧ IntKind.i64.wrap ((z2 : Int) + (k : Int)) = (z3 : Int) ∧ IntKind.i64.wrap ((z3 : Int) + (w : Int)) = (p : Int)) ∧
    (bits .xor .i64 (rot s.a 2 : Int) (rot s.a 13 : Int) = (d2 : Int) ∧ bits .xor .i64 (d2 : Int) (rot s.a 22 : Int) = (three0 s.a : Int) ∧ bits .and .i64 (s.a : Int) (s.b : Int) = (m1 : Int) ∧ bits .and .i64 (s.a : Int) (s.c : Int) = (m2 : Int) ∧
      bits .xor .i64 (m1 : Int) (m2 : Int) = (m3 : Int) ∧ bits .and .i64 (s.b : Int) (s.c : Int) = (m4 : Int) ∧ bits .xor .i64 (m3 : Int) (m4 : Int) = (mm : Int) ∧ IntKind.i64.wrap ((three0 s.a : Int) + (mm : Int)) = (q : Int)) ∧
    (IntKind.i64.wrap ((p : Int) + (q : Int)) = (y1 : Int) ∧ (p : Int) + (q : Int) = (y1 : Int) ∧ (y1 : Int).tmod 4294967296 = ((rnd s k w).a : Int) ∧ (y1 : Int) % 4294967296 = ((rnd s k w).a : Int)) ∧
    (IntKind.i64.wrap ((s.d : Int) + (p : Int)) = (y2 : Int) ∧ (s.d : Int) + (p : Int) = (y2 : Int) ∧ (y2 : Int).tmod 4294967296 = ((rnd s k w).e : Int) ∧ (y2 : Int) % 4294967296 = ((rnd s k w).e : Int)) := by
  have ha := rnd_a s k w
  have he' := rnd_e s k w
  obtain ⟨h1, h2, h3, h4, h5, h6, h7, h8⟩ := h
  have hnx : (4294967295 ^^^ s.e) < 4294967296 := xor_lt (by decide) h5
  have t1 := three1_lt h5
  have t0 := three0_lt h1
  have hc : ch s.e s.f s.g < 4294967296 := xor_lt (and_u32 h5) (and_u32 hnx)
  have hm : maj s.a s.b s.c < 4294967296 := xor_lt (xor_lt (and_u32 h1) (and_u32 h1)) (and_u32 h2)
  obtain ⟨d1, e1, e2⟩ := d3_1 s.e h5
  obtain ⟨d2, e3, e4⟩ := d3_0 s.a h1
  rw [← ha, ← he']
  refine ⟨d1, d2, _, _, ch s.e s.f s.g, s.i + three1 s.e, s.i + three1 s.e + ch s.e s.f s.g, s.i + three1 s.e + ch s.e s.f s.g + k, s.i + three1 s.e + ch s.e s.f s.g + k + w, _, _, _, _, maj s.a s.b s.c, three0 s.a + maj s.a s.b s.c,
    (s.i + three1 s.e + ch s.e s.f s.g + k + w) + (three0 s.a + maj s.a s.b s.c), s.d + (s.i + three1 s.e + ch s.e s.f s.g + k + w),
    ⟨e1, e2, sum64 _ _ (by omega), i64_and _ _ h5 h6, i64_and _ _ hnx h7, i64_xor _ _ (and_u32 h5) (and_u32 hnx), sum64 _ _ (by omega), sum64 _ _ (by omega), sum64 _ _ (by omega)⟩,
    ⟨e3, e4, i64_and _ _ h1 h2, i64_and _ _ h1 h3, i64_xor _ _ (and_u32 h1) (and_u32 h1), i64_and _ _ h2 h3, i64_xor _ _ (xor_lt (and_u32 h1) (and_u32 h1)) (and_u32 h2), sum64 _ _ (by omega)⟩,
    ⟨sum64 _ _ (by omega), by omega, mod64 _, by omega⟩, ⟨sum64 _ _ (by omega), by omega, mod64 _, by omega⟩⟩
/-- Eight numbers moved by one place, from place 7 down to place i. -/
def shf (xs : List Nat) (i : Nat) : List Nat := xs.take (i + 1) ++ (xs.drop i).take (7 - i)
theorem shf_start (x0 x1 x2 x3 x4 x5 x6 x7 : Nat) : shf [x0, x1, x2, x3, x4, x5, x6, x7] 7 = [x0, x1, x2, x3, x4, x5, x6, x7] := rfl
theorem shf_end (x0 x1 x2 x3 x4 x5 x6 x7 : Nat) : shf [x0, x1, x2, x3, x4, x5, x6, x7] 0 = [x0, x0, x1, x2, x3, x4, x5, x6] := rfl
theorem shf_step (x0 x1 x2 x3 x4 x5 x6 x7 i : Nat) (h : i < 7) : ∃ y, (shf [x0, x1, x2, x3, x4, x5, x6, x7] (i + 1))[i]? = some y ∧ (shf [x0, x1, x2, x3, x4, x5, x6, x7] (i + 1)).set (i + 1) y = shf [x0, x1, x2, x3, x4, x5, x6, x7] i ∧ (shf [x0, x1, x2, x3, x4, x5, x6, x7] (i + 1)).length = 8 := by
  have : i = 0 ∨ i = 1 ∨ i = 2 ∨ i = 3 ∨ i = 4 ∨ i = 5 ∨ i = 6 := by omega
  rcases this with rfl | rfl | rfl | rfl | rfl | rfl | rfl <;> exact ⟨_, rfl, rfl, rfl⟩
theorem dks_walk (w : World) : Calls Try.prog 80 #[] w fun e w' => e = .returned (.slice (some ⟨w.heap.size, 0, none⟩) 64 64) ∧ IntsB w' w.heap.size ks0 ∧ Ext (fun _ => False) w w' ∧ w'.heap.size = w.heap.size + 1 := by
  go_enter Try.func80, Try.ntmps80
  go_wp2_with fail
  go_ret
  refine ⟨rfl, ⟨_, heap_alloc_self _ _, by decide, fun j x hx => ?_⟩, (Ext.refl _ _).alloc _, by simp⟩
  have h := congrArg (Option.map fun y : Nat => Value.int .i64 (y : Int)) hx
  rw [← List.getElem?_map] at h
  rw [Option.map_some] at h
  rw [← h, ← List.getElem?_toArray]
  rfl
theorem dhs_walk (w : World) : Calls Try.prog 81 #[] w fun e w' => e = .returned (.slice (some ⟨w.heap.size, 0, none⟩) 8 8) ∧ IntsB w' w.heap.size hs0 ∧ Ext (fun _ => False) w w' ∧ w'.heap.size = w.heap.size + 1 := by
  go_enter Try.func81, Try.ntmps81
  go_wp2_with fail
  go_ret
  refine ⟨rfl, ⟨_, heap_alloc_self _ _, by decide, fun j x hx => ?_⟩, (Ext.refl _ _).alloc _, by simp⟩
  have h := congrArg (Option.map fun y : Nat => Value.int .i64 (y : Int)) hx
  rw [← List.getElem?_map] at h
  rw [Option.map_some] at h
  rw [← h, ← List.getElem?_toArray]
  rfl
end Go.Proofs.Ytoflfhjeabpcjaa
