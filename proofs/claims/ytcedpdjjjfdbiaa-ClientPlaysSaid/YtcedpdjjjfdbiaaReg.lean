/- The registry: what it holds; no condition. -/
import Derived.Test.YtcedpdjjjfdbiaaOps
namespace Go.Proofs.Ytcedpdjjjfdbiaa
set_option linter.unusedVariables false
set_option linter.unusedSimpArgs false
open Go.RowKit

abbrev prE (p : Int × Bs) : Value := .agg #[.int .i64 p.1, str p.2]
abbrev inE (n : Int) : Value := .int .i64 n
def prC (p : Int × Bs) : List Value := [.int .i64 p.1, str p.2]
/-- The texts that one signed. -/
def byL (who : Int) (L : List (Int × Bs)) : List Bs := (L.filter fun p => p.1 == who).map (·.2)

theorem toList_str (s : Bs) : (⟨s.toArray⟩ : ByteArray).toList = s := by rw [ByteArray.toList_eq]
theorem str_eq (s t : Bs) : ((⟨s.toArray⟩ : ByteArray) == ⟨t.toArray⟩) = decide (s = t) := by
  rw [beq_toListBytes, toList_str, toList_str]
  by_cases h : s = t <;> simp [h]

theorem chk_pair (n : Nat) (e : Bool) (x : Int × Bs) (W : World) : (Instr.checkKey e (n + 2) 79 (prE x)).run Try.prog W = .ok () W := by
  simp [Instr.checkKey, run_underlying Try.underlying79, run_underlying Try.underlying3, run_underlying Try.underlying9, part, isAgg]
theorem chk_int (n : Nat) (e : Bool) (x : Int) (W : World) : (Instr.checkKey e (n + 1) 3 (inE x)).run Try.prog W = .ok () W := by
  simp [Instr.checkKey, run_underlying Try.underlying3]
theorem fields_pair : Try.prog.fieldsOf 79 = #[{ name := "who", type := 3, offset := 0, embedded := false, tag := "", pkgPath := "vestry/registry", byteOffset := 0 }, { name := "text", type := 9, offset := 1, embedded := false, tag := "", pkgPath := "vestry/registry", byteOffset := 8 }] := by kernel_rfl

theorem eql_pair (x y : Int × Bs) (W : World) : (Op.equal 79 (prE x) (prE y)).run Try.prog W = .ok (decide (x = y)) W := by
  have hs : Try.prog.stoodInHeld 79 = false := by kernel_rfl
  obtain ⟨a, s⟩ := x
  obtain ⟨b, t⟩ := y
  have h := run_equalIn_struct (P := Try.prog) W 9999 79 #[.int .i64 a, str s] #[.int .i64 b, str t] (by rw [fields_pair]; exact Try.underlying79) hs
  have e : Op.equal 79 (prE (a, s)) (prE (b, t)) = Op.equalIn (9999 + 1) 79 (prE (a, s)) (prE (b, t)) := rfl
  have hi : ∀ (a b : Int) (W : World), (Op.equalIn 9999 3 (.int .i64 a) (.int .i64 b)).run Try.prog W = .ok (a == b) W := fun a b W => run_equalIn_int (P := Try.prog) W 9998 3 .i64 .i64 a b Try.underlying3
  have ht : ∀ (s t : Bs) (W : World), (Op.equalIn 9999 9 (str s) (str t)).run Try.prog W = .ok (s == t) W := fun s t W => by
    have := run_equalIn_string (P := Try.prog) W 9998 9 ⟨s.toArray⟩ ⟨t.toArray⟩ Try.underlying9
    rwa [toList_str, toList_str] at this
  rw [e, h, fields_pair]
  simp only [Op.eqFields, Sem.run_bind, part, isAgg, run_underlying Try.underlying3, run_underlying Try.underlying9]
  by_cases hab : a = b
  · by_cases hst : s = t <;> simp [hi, ht, hab, hst, toList_str]
  · simp [hi, ht, hab]

theorem key_pair : KeyOf Try.prog 79 prE where
  und := ⟨_, Try.underlying79, fun _ _ => .inl rfl⟩
  eql := eql_pair
  chk := fun e x W => chk_pair 9998 e x W
  bits := fun x => by simp only [Instr.sameBits]; simp [Instr.sameBits, str_eq]

theorem key_int : KeyOf Try.prog 3 inE where
  und := ⟨_, Try.underlying3, fun x y => .inr (by simp [Instr.sameNow]; rw [Bool.eq_iff_iff]; simp)⟩
  eql := fun x y W => by
    have e : Op.equal 3 (inE x) (inE y) = Op.equalIn (9999 + 1) 3 (inE x) (inE y) := rfl
    rw [e, run_equalIn_int W 9999 3 .i64 .i64 x y Try.underlying3]
    by_cases h : x = y <;> simp [h]
  chk := fun e x W => chk_int 9999 e x W
  bits := fun x => by simp [Instr.sameBits]

/-- A registry at block a: its pairs, in order; F: the blocks that it takes. -/
structure RegAt (F : Nat → Prop) (w : World) (a m t : Nat) (ov : Value) (ES : List ((Int × Bs) × Value)) (ET : List (Int × Value)) (L : List (Int × Bs)) : Prop where
  obj : w.heap[a]? = some (.cells #[.map (some m), ov, .map (some t)] 73 (0, 0))
  known : MapIs prE w m ES
  has : ∀ p, assoc p ES = if p ∈ L then some (.bool true) else none
  order : w.ownsRow 0 79 2 ov L.length (L.flatMap prC)
  texts : MapIs inE w t ET
  rows : ∀ who, w.ownsRow 0 9 1 ((assoc who ET).getD (.slice none 0 0)) (byL who L).length ((byL who L).map str)
  apart : ∀ who who' v v' k, assoc who ET = some v → assoc who' ET = some v' → v.ownBlock = some k → v'.ownBlock = some k → who = who'
  ne : m ≠ t
  fa : F a
  fm : F m
  ft : F t
  fo : ∀ k, ov.ownBlock = some k → F k
  fr : ∀ who v k, assoc who ET = some v → v.ownBlock = some k → F k
  lt : ∀ k, F k → k < w.heap.size
  nodup : L.Nodup
def RegRep (F : Nat → Prop) (w : World) (a : Nat) (L : List (Int × Bs)) : Prop := ∃ m t ov ES ET, RegAt F w a m t ov ES ET L

theorem RegAt.keep {F F1 : Nat → Prop} {w w' : World} {a m t : Nat} {ov : Value} {ES : List ((Int × Bs) × Value)} {ET : List (Int × Value)} {L : List (Int × Bs)} (h : RegAt F w a m t ov ES ET L)
    (he : Ext F1 w w') (hF : ∀ k, F k → ¬ F1 k) : RegAt F w' a m t ov ES ET L :=
  { obj := he.heap h.obj (hF _ h.fa)
    known := h.known.keep (he.heap_eq h.known.lt (hF _ h.fm))
    has := h.has
    order := own_ext h.order he fun k hk => hF k (h.fo k hk)
    texts := h.texts.keep (he.heap_eq h.texts.lt (hF _ h.ft))
    rows := fun who => own_ext (h.rows who) he fun k hk => by
      cases hv : assoc who ET with
      | none => rw [hv] at hk; cases hk
      | some v => rw [hv] at hk; exact hF k (h.fr who v k hv hk)
    apart := h.apart, ne := h.ne, fa := h.fa, fm := h.fm, ft := h.ft, fo := h.fo, fr := h.fr
    lt := fun k hk => Nat.lt_of_lt_of_le (h.lt k hk) he.size
    nodup := h.nodup }
theorem RegRep.keep {F F1 : Nat → Prop} {w w' : World} {a : Nat} {L : List (Int × Bs)} (h : RegRep F w a L) (he : Ext F1 w w') (hF : ∀ k, F k → ¬ F1 k) : RegRep F w' a L := by
  obtain ⟨m, t, ov, ES, ET, h⟩ := h
  exact ⟨m, t, ov, ES, ET, h.keep he hF⟩
theorem RegRep.lt {F : Nat → Prop} {w : World} {a : Nat} {L : List (Int × Bs)} (h : RegRep F w a L) : ∀ k, F k → k < w.heap.size := by
  obtain ⟨m, t, ov, ES, ET, h⟩ := h
  exact h.lt

theorem zero_bool (W : World) : (zeroValue 4).run Try.prog W = .ok (.bool false) W := by kernel_rfl
theorem zero_strs (W : World) : (zeroValue 63).run Try.prog W = .ok (.slice none 0 0) W := by kernel_rfl
theorem info_pair : (Try.prog.info? 79).map (fun i => (i.zero, i.size, i.bytes)) = some (some (.agg #[.int .i64 0, .string ByteArray.empty]), 2, 24) := by kernel_rfl
theorem info_string : (Try.prog.info? 9).map (fun i => (i.zero, i.size, i.bytes)) = some (some (.string ByteArray.empty), 1, 16) := by kernel_rfl

/-- The pair is known: nothing is added. -/
theorem add_old {F : Nat → Prop} {w : World} {a : Nat} {L : List (Int × Bs)} (h : RegRep F w a L) (who : Int) (s : Bs) (hin : (who, s) ∈ L) :
    Calls Try.prog 30 #[.pointer (some ⟨a, 0, none⟩), .agg #[.int .i64 who, str s]] w fun e w' => e = .returned (.tuple #[]) ∧ Ext (fun _ => False) w w' := by
  obtain ⟨m, t, ov, ES, ET, h⟩ := h
  have c0 : w.cell? ⟨a, 0, none⟩ = some (.map (some m)) := by simp [World.cell?, h.obj]
  have hal := lt_of_heap h.obj
  have hml := h.known.lt
  have hlk := h.known.lookup key_pair Try.underlying69 _ zero_bool (who, s)
  rw [h.has, if_pos hin] at hlk
  simp only [Option.getD_some] at hlk
  clear h hin
  go_enter Try.func30, Try.ntmps30
  go_wp2_with fail
  refine wp_region_mix (Cls [a, m, w.heap.size] _) [] [0, 1, 2, 3, 4, 5, 6] (by kernel_rfl) (by kernel_rfl) (Cls.refl _ _) ?_
  try dsimp only [wpMix, wpSegs, pick, List.getElem?_cons_zero, List.getElem?_cons_succ]
  generalize hz : Act.mk _ _ = z
  repeat (first | (refine wpQuiet_step (fun K hK => ?_); replace hK := Lib.hid hK; subst hz; go_simp; generalize hz : Act.mk _ _ = z; refine hK.out z ?_; clear hK K) | (refine wpQuiet_step (fun K hK => ?_); replace hK := Lib.hid hK; subst hz; refine iteSkip (by kernel_rfl) ?_; go_simp; generalize hz : Act.mk _ _ = z; refine hK.out z ?_; clear hK K))
  refine wpQuiet_nil ?_
  subst hz
  try dsimp only [NoPan]
  go_wp2_with fail
  refine bodyPost_end (results_none rfl _ _ _) rfl ?_
  exact ⟨rfl, (((Ext.refl _ w).alloc _).drew)⟩

theorem add_new {F : Nat → Prop} {w : World} {a : Nat} {L : List (Int × Bs)} (h : RegRep F w a L) (who : Int) (s : Bs) (hin : (who, s) ∉ L) (hlen : L.length < 1073741824) :
    Calls Try.prog 30 #[.pointer (some ⟨a, 0, none⟩), .agg #[.int .i64 who, str s]] w fun e w' => e = .returned (.tuple #[]) ∧
      ∃ F', RegRep F' w' a (L ++ [(who, s)]) ∧ Ext F w w' ∧ ∀ k, F' k → F k ∨ w.heap.size ≤ k := by
  obtain ⟨m, t, ov, ES, ET, h⟩ := h
  have c0 : w.cell? ⟨a, 0, none⟩ = some (.map (some m)) := by simp [World.cell?, h.obj]
  have hal := lt_of_heap h.obj
  have hml := h.known.lt
  have hlk := h.known.lookup key_pair Try.underlying69 _ zero_bool (who, s)
  rw [h.has, if_neg hin] at hlk
  simp only [Option.getD_none] at hlk
  go_enter Try.func30, Try.ntmps30
  go_wp2_with fail
  refine wp_region_mix (Cls [a, m, w.heap.size] _) [] [0, 1, 2, 3, 4, 5, 6] (by kernel_rfl) (by kernel_rfl) (Cls.refl _ _) ?_
  try dsimp only [wpMix, wpSegs, pick, List.getElem?_cons_zero, List.getElem?_cons_succ]
  generalize hz : Act.mk _ _ = z
  repeat (first | (refine wpQuiet_step (fun K hK => ?_); replace hK := Lib.hid hK; subst hz; go_simp; generalize hz : Act.mk _ _ = z; refine hK.out z ?_; clear hK K) | (refine wpQuiet_step (fun K hK => ?_); replace hK := Lib.hid hK; subst hz; refine iteSkip (by kernel_rfl) ?_; go_simp; generalize hz : Act.mk _ _ = z; refine hK.out z ?_; clear hK K))
  refine wpQuiet_nil ?_
  subst hz
  try dsimp only [NoPan]
  go_wp2_with fail
  refine wp_region_bar (Cls [a, w.heap.size] _) [] [0, 1, 2, 3, 4] 5 [] [] (by kernel_rfl) (by kernel_rfl) (Cls.refl _ _) ?_
  try dsimp only [wpMix, wpSegs, pick, List.getElem?_cons_zero, List.getElem?_cons_succ]
  generalize hz : Act.mk _ _ = z
  repeat (first | (refine wpQuiet_step (fun K hK => ?_); replace hK := Lib.hid hK; subst hz; go_simp; generalize hz : Act.mk _ _ = z; refine hK.out z ?_; clear hK K) | (refine wpQuiet_step (fun K hK => ?_); replace hK := Lib.hid hK; subst hz; refine iteSkip (by kernel_rfl) ?_; go_simp; generalize hz : Act.mk _ _ = z; refine hK.out z ?_; clear hK K))
  refine wpQuiet_nil ?_
  subst hz
  try dsimp only [NoPan]
  generalize hW : (w.alloc (Obj.cells #[Value.int IntKind.i64 who, str s] 79)).drew.drew = W
  have hWx : Ext (fun _ => False) w W := by subst hW; exact (((Ext.refl _ w).alloc _).drew).drew
  have hWs : W.heap.size = w.heap.size + 1 := by subst hW; simp
  have hWb : W.heap[w.heap.size]? = some (.cells #[.int .i64 who, str s] 79 (0, 0)) := by subst hW; exact heap_alloc_self _ _
  clear hW
  have h1 := h.keep hWx (fun _ _ => id)
  refine wpList_mapUpdate key_pair Try.underlying69 rfl _ _ _ rfl (k := (who, s)) rfl rfl (v := .bool true) rfl h1.known ?_
  intro W1 hm1 hx1 hs1
  apply wpList_nil
  simp only [Exit.then]
  try dsimp only [wpMix, wpSegs, pick, List.getElem?_cons_zero, List.getElem?_cons_succ]
  generalize hz : Act.mk _ _ = z
  repeat (first | (refine wpQuiet_step (fun K hK => ?_); replace hK := Lib.hid hK; subst hz; go_simp; generalize hz : Act.mk _ _ = z; refine hK.out z ?_; clear hK K) | (refine wpQuiet_step (fun K hK => ?_); replace hK := Lib.hid hK; subst hz; refine iteSkip (by kernel_rfl) ?_; go_simp; generalize hz : Act.mk _ _ = z; refine hK.out z ?_; clear hK K))
  refine wpQuiet_nil ?_
  subst hz
  try dsimp only [NoPan]
  have ham : a ≠ m := by
    obtain ⟨es, c, hes, _⟩ := h1.known
    exact ne_of_obj h1.obj hes (by simp)
  have hao : W1.heap[a]? = _ := hx1.heap h1.obj ham
  have hbo : W1.heap[w.heap.size]? = _ := hx1.heap hWb (by omega)
  have d1 : W1.cell? ⟨a, 1, none⟩ = some ov := cells_at hao 1
  have e0 : W1.cell? ⟨w.heap.size, 0, none⟩ = some (.int .i64 who) := cells_at hbo 0
  have e1 : W1.cell? ⟨w.heap.size, 1, none⟩ = some (str s) := cells_at hbo 1
  have hal1 : a < W1.heap.size := by omega
  have hbl1 : w.heap.size < W1.heap.size := by omega
  have Hs1 := Lib.hid hs1
  have HWs := Lib.hid hWs
  clear hs1 hWs
  go_wp2_with fail
  refine wp_region_bar (Cls [a, w.heap.size] _) [([0, 1, 2, 3, 4, 5], 6), ([], 7)] [8, 9] 10 [] [] (by kernel_rfl) (by kernel_rfl) (Cls.refl _ _) ?_
  try dsimp only [wpMix, wpSegs, pick, List.getElem?_cons_zero, List.getElem?_cons_succ]
  generalize hz : Act.mk _ _ = z
  repeat (first | (refine wpQuiet_step (fun K hK => ?_); replace hK := Lib.hid hK; subst hz; go_simp; generalize hz : Act.mk _ _ = z; refine hK.out z ?_; clear hK K) | (refine wpQuiet_step (fun K hK => ?_); replace hK := Lib.hid hK; subst hz; refine iteSkip (by kernel_rfl) ?_; go_simp; generalize hz : Act.mk _ _ = z; refine hK.out z ?_; clear hK K))
  refine wpQuiet_nil ?_
  subst hz
  try dsimp only [NoPan]
  go_wp2_with fail
  have hxa : Ext (fun _ => False) W1.drew (W1.alloc (Obj.cells #[Value.int IntKind.i64 who, str s] 79)).drew := (Ext.refl _ _).alloc _
  have hxb : Ext (fun _ => False) W1 (W1.alloc (Obj.cells #[Value.int IntKind.i64 who, str s] 79)).drew := ((Ext.refl _ _).alloc _).drew
  have hob : ∀ k, ov.ownBlock = some k → k ≠ m ∧ k ≠ a ∧ k ≠ w.heap.size ∧ k < W1.heap.size := by
    intro k hk
    obtain ⟨cs, hcs⟩ := own_ty h1.order k hk
    obtain ⟨es, c, hes, _⟩ := h1.known
    exact ⟨ne_of_obj hcs hes (by simp), ne_of_obj hcs h1.obj (by simp), fun e => by have := h.lt k (h.fo k hk); omega, by have := own_below h1.order k hk; have := Hs1.out; omega⟩
  refine ⟨(Cls.refl _ _).old hxa (by simp; exact ⟨hal1, hbl1⟩), ?_⟩
  try dsimp only [wpMix, wpSegs, pick, List.getElem?_cons_zero, List.getElem?_cons_succ]
  generalize hz : Act.mk _ _ = z
  repeat (first | (refine wpQuiet_step (fun K hK => ?_); replace hK := Lib.hid hK; subst hz; go_simp; generalize hz : Act.mk _ _ = z; refine hK.out z ?_; clear hK K) | (refine wpQuiet_step (fun K hK => ?_); replace hK := Lib.hid hK; subst hz; refine iteSkip (by kernel_rfl) ?_; go_simp; generalize hz : Act.mk _ _ = z; refine hK.out z ?_; clear hK K))
  refine wpQuiet_nil ?_
  subst hz
  try dsimp only [NoPan]
  have ho3 := own_ext (own_ext h1.order hx1 fun k hk => (hob k hk).1) hxb fun _ _ => id
  refine wpList_append_lit rfl _ _ 71 rfl Try.underlying71 info_pair rfl (by decide) (v := ov) rfl ho3 (Nat.zero_le _) rfl (heap_alloc_self _ _) rfl (by simp [Value.oneCell']) (by decide) (by omega) (by omega) ?_
  intro g2 c2 W2 ho4 hx4 hg2 hl2
  apply wpList_nil
  simp only [Exit.then]
  refine ⟨((Cls.refl _ _).old hxa (by simp; exact ⟨hal1, hbl1⟩)).step hx4 (by simp; exact ⟨⟨by omega, fun e => (hob _ e).2.1 rfl⟩, ⟨by omega, fun e => (hob _ e).2.2.1 rfl⟩⟩), ?_⟩
  have hx24 : Ext (fun k => ov.ownBlock = some k) W1 W2 := (hxb.mono fun _ _ => False.elim).trans hx4
  have hg2' : ov.ownBlock = some g2 ∨ g2 = W1.heap.size + 1 := by simpa using hg2
  have hs2 : W1.heap.size < W2.heap.size := by have := hx4.size; simp at this; omega
  have hao2 : W2.heap[a]? = _ := hx24.heap hao fun e => (hob _ e).2.1 rfl
  have hbo2 : W2.heap[w.heap.size]? = _ := hx24.heap hbo fun e => (hob _ e).2.2.1 rfl
  have d2 : W2.cell? ⟨a, 1, none⟩ = some ov := cells_at hao2 1
  have d2f : W2.frozen? ⟨a, 1, none⟩ = false := by simp [World.frozen?, hao2]
  clear hg2 hx4 hxa hxb ho3 d1 e0 e1
  try dsimp only [wpMix, wpSegs, pick, List.getElem?_cons_zero, List.getElem?_cons_succ]
  generalize hz : Act.mk _ _ = z
  repeat (first | (refine wpQuiet_step (fun K hK => ?_); replace hK := Lib.hid hK; subst hz; go_simp; generalize hz : Act.mk _ _ = z; refine hK.out z ?_; clear hK K) | (refine wpQuiet_step (fun K hK => ?_); replace hK := Lib.hid hK; subst hz; refine iteSkip (by kernel_rfl) ?_; go_simp; generalize hz : Act.mk _ _ = z; refine hK.out z ?_; clear hK K))
  refine wpQuiet_nil ?_
  subst hz
  try dsimp only [NoPan]
  go_wp2_with fail
  generalize hW3 : W2.setCell ⟨a, 1, none⟩ (Value.slice (some ⟨g2, 0, none⟩) (L.length + 1) c2) = W3
  have hx3 : Ext (· = a) W2 W3 := by subst hW3; exact (Ext.refl (· = a) _).setCell (.inl rfl) _
  have hao3 : W3.heap[a]? = some (.cells #[.map (some m), .slice (some ⟨g2, 0, none⟩) (L.length + 1) c2, .map (some t)] 73 (0, 0)) := by subst hW3; exact heap_setCell_self hao2
  have hs3 : W3.heap.size = W2.heap.size := by subst hW3; simp
  have hbo3 : W3.heap[w.heap.size]? = _ := hx3.heap hbo2 (by omega)
  clear hW3 d2 d2f hao2
  -- the order is written; the texts are as they were
  have hxw : Ext (fun k => k = m ∨ ov.ownBlock = some k ∨ k = a) w W3 :=
    (((hWx.mono fun _ _ => False.elim).trans (hx1.mono fun _ _ e => .inl e)).trans (hx24.mono fun _ _ e => .inr (.inl e))).trans (hx3.mono fun _ _ e => .inr (.inr e))
  have hat : a ≠ t := by
    obtain ⟨es, c, hes, _⟩ := h.texts
    exact ne_of_obj h.obj hes (by simp)
  have hot : ov.ownBlock ≠ some t := by
    intro e
    obtain ⟨cs, hcs⟩ := own_ty h.order _ e
    obtain ⟨es, c, hes, _⟩ := h.texts
    exact ne_of_obj hcs hes (by simp) rfl
  have htl := h.texts.lt
  have ht3 : MapIs inE W3 t ET := h.texts.keep (hxw.heap_eq htl (by rintro (e | e | e); exact h.ne e.symm; exact hot e; exact hat e.symm))
  have hlt4 := ht3.lookup key_int Try.underlying70 _ zero_strs who
  have hrow := h.rows who
  generalize hv : (assoc who ET).getD (.slice none 0 0) = v at hlt4 hrow
  have Hv := Lib.hid hv
  have hvb : ∀ k, v.ownBlock = some k → k ≠ m ∧ k ≠ t ∧ k ≠ a ∧ ov.ownBlock ≠ some k ∧ k < w.heap.size := by
    intro k hk
    obtain ⟨cs, hcs⟩ := own_ty hrow k hk
    obtain ⟨es, c, hes, _⟩ := h.known
    obtain ⟨es', c', hes', _⟩ := h.texts
    refine ⟨ne_of_obj hcs hes (by simp), ne_of_obj hcs hes' (by simp), ne_of_obj hcs h.obj (by simp), fun e => ?_, own_below hrow k hk⟩
    obtain ⟨cs', hcs'⟩ := own_ty h.order k e
    rw [hcs] at hcs'
    simp at hcs'
  have hrow3 := own_ext hrow hxw fun k hk => by
    obtain ⟨e1, e2, e3, e4, e5⟩ := hvb k hk
    rintro (e | e | e)
    exact e1 e
    exact e4 e
    exact e3 e
  clear hv hx1
  have d2 : W3.cell? ⟨a, 2, none⟩ = some (.map (some t)) := cells_at hao3 2
  have e0 : W3.cell? ⟨w.heap.size, 0, none⟩ = some (.int .i64 who) := cells_at hbo3 0
  have e1 : W3.cell? ⟨w.heap.size, 1, none⟩ = some (str s) := cells_at hbo3 1
  have hal3 : a < W3.heap.size := by omega
  have hbl3 : w.heap.size < W3.heap.size := by omega
  have htl3 : t < W3.heap.size := by omega
  have Hs3 := Lib.hid hs3
  clear hs3
  try dsimp only [wpMix, wpSegs, pick, List.getElem?_cons_zero, List.getElem?_cons_succ]
  generalize hz : Act.mk _ _ = z
  repeat (first | (refine wpQuiet_step (fun K hK => ?_); replace hK := Lib.hid hK; subst hz; go_simp; generalize hz : Act.mk _ _ = z; refine hK.out z ?_; clear hK K) | (refine wpQuiet_step (fun K hK => ?_); replace hK := Lib.hid hK; subst hz; refine iteSkip (by kernel_rfl) ?_; go_simp; generalize hz : Act.mk _ _ = z; refine hK.out z ?_; clear hK K))
  refine wpQuiet_nil ?_
  subst hz
  try dsimp only [NoPan]
  go_wp2_with fail
  refine wp_region_bar (Cls [a, t, w.heap.size] _) [([0, 1, 2, 3, 4, 5, 6, 7, 8, 9, 10, 11, 12, 13, 14], 15), ([], 16)] [] 17 [] [] (by kernel_rfl) (by kernel_rfl) (Cls.refl _ _) ?_
  try dsimp only [wpMix, wpSegs, pick, List.getElem?_cons_zero, List.getElem?_cons_succ]
  generalize hz : Act.mk _ _ = z
  repeat (first | (refine wpQuiet_step (fun K hK => ?_); replace hK := Lib.hid hK; subst hz; go_simp; generalize hz : Act.mk _ _ = z; refine hK.out z ?_; clear hK K) | (refine wpQuiet_step (fun K hK => ?_); replace hK := Lib.hid hK; subst hz; refine iteSkip (by kernel_rfl) ?_; go_simp; generalize hz : Act.mk _ _ = z; refine hK.out z ?_; clear hK K))
  refine wpQuiet_nil ?_
  subst hz
  try dsimp only [NoPan]
  go_wp2_with fail
  have hD : ∀ b ∈ [a, t, w.heap.size], b < W3.drew.heap.size := by simp; exact ⟨hal3, htl3, hbl3⟩
  have hxa : Ext (fun _ => False) W3.drew (W3.alloc (Obj.cells #[str s] 9)).drew := (Ext.refl _ _).alloc _
  have hxb : Ext (fun _ => False) W3 (W3.alloc (Obj.cells #[str s] 9)).drew := ((Ext.refl _ _).alloc _).drew
  refine ⟨(Cls.refl _ _).old hxa hD, ?_⟩
  try dsimp only [wpMix, wpSegs, pick, List.getElem?_cons_zero, List.getElem?_cons_succ]
  generalize hz : Act.mk _ _ = z
  repeat (first | (refine wpQuiet_step (fun K hK => ?_); replace hK := Lib.hid hK; subst hz; go_simp; generalize hz : Act.mk _ _ = z; refine hK.out z ?_; clear hK K) | (refine wpQuiet_step (fun K hK => ?_); replace hK := Lib.hid hK; subst hz; refine iteSkip (by kernel_rfl) ?_; go_simp; generalize hz : Act.mk _ _ = z; refine hK.out z ?_; clear hK K))
  refine wpQuiet_nil ?_
  subst hz
  try dsimp only [NoPan]
  have hrow4 := own_ext hrow3 hxb fun _ _ => id
  have hlb : (byL who L).length ≤ L.length := by simp [byL]; exact List.length_filter_le _ _
  refine wpList_append_lit rfl _ _ 63 rfl Try.underlying63 info_string rfl (by decide) (v := v) rfl hrow4 (Nat.zero_le _) rfl (heap_alloc_self _ _) rfl (by simp [Value.oneCell']) (by decide) (by omega) (by omega) ?_
  intro g5 c5 W5 hrow5 hx5 hg5 hl5
  apply wpList_nil
  simp only [Exit.then]
  have hx35 : Ext (fun k => v.ownBlock = some k) W3 W5 := (hxb.mono fun _ _ => False.elim).trans hx5
  have hwl : w.heap.size ≤ W3.heap.size := hxw.size
  have hg5' : v.ownBlock = some g5 ∨ g5 = W3.heap.size + 1 := by simpa using hg5
  have hs5 : W3.heap.size < W5.heap.size := by have := hx5.size; simp at this; omega
  refine ⟨((Cls.refl _ _).old hxa hD).step hx5 (by simp; exact ⟨⟨by omega, fun e => (hvb _ e).2.2.1 rfl⟩, ⟨by omega, fun e => (hvb _ e).2.1 rfl⟩, ⟨by omega, fun e => by have := (hvb _ e).2.2.2.2; omega⟩⟩), ?_⟩
  try dsimp only [wpMix, wpSegs, pick, List.getElem?_cons_zero, List.getElem?_cons_succ]
  generalize hz : Act.mk _ _ = z
  repeat (first | (refine wpQuiet_step (fun K hK => ?_); replace hK := Lib.hid hK; subst hz; go_simp; generalize hz : Act.mk _ _ = z; refine hK.out z ?_; clear hK K) | (refine wpQuiet_step (fun K hK => ?_); replace hK := Lib.hid hK; subst hz; refine iteSkip (by kernel_rfl) ?_; go_simp; generalize hz : Act.mk _ _ = z; refine hK.out z ?_; clear hK K))
  refine wpQuiet_nil ?_
  subst hz
  try dsimp only [NoPan]
  have ht5 : MapIs inE W5 t ET := ht3.keep (hx35.heap_eq htl3 fun e => (hvb _ e).2.1 rfl)
  refine wpList_mapUpdate key_int Try.underlying70 rfl _ _ _ rfl (k := who) rfl rfl (v := .slice (some ⟨g5, 0, none⟩) ((byL who L).length + 1) c5) rfl ht5 ?_
  intro W6 ht6 hx6 hs6
  apply wpList_nil
  simp only [Exit.then]
  try dsimp only [wpMix, wpSegs, pick, List.getElem?_cons_zero, List.getElem?_cons_succ]
  generalize hz : Act.mk _ _ = z
  repeat (first | (refine wpQuiet_step (fun K hK => ?_); replace hK := Lib.hid hK; subst hz; go_simp; generalize hz : Act.mk _ _ = z; refine hK.out z ?_; clear hK K) | (refine wpQuiet_step (fun K hK => ?_); replace hK := Lib.hid hK; subst hz; refine iteSkip (by kernel_rfl) ?_; go_simp; generalize hz : Act.mk _ _ = z; refine hK.out z ?_; clear hK K))
  refine wpQuiet_nil ?_
  subst hz
  try dsimp only [NoPan]
  go_wp2_with fail
  refine bodyPost_end (results_none rfl _ _ _) rfl ?_
  clear hlt4 hlk d2 e0 e1 c0 htl3 hbl3 hal3 hrow4 hxa hxb hD
  -- what came of it
  have hvin : ∀ k, v.ownBlock = some k → assoc who ET = some v := by
    intro k hk
    have hv := Hv.out
    cases hc : assoc who ET with
    | none => rw [hc] at hv; simp only [Option.getD_none] at hv; rw [← hv] at hk; cases hk
    | some u => rw [hc] at hv; simp only [Option.getD_some] at hv; rw [hv]
  have hxall : Ext (fun k => (k = m ∨ ov.ownBlock = some k ∨ k = a) ∨ v.ownBlock = some k ∨ k = t) w W6 :=
    ((hxw.mono fun _ _ e => .inl e).trans (hx35.mono fun _ _ e => .inr (.inl e))).trans (hx6.mono fun _ _ e => .inr (.inr e))
  have hw1 : w.heap.size ≤ W1.heap.size := by have := hWx.size; have := Hs1.out; omega
  have hg2t : ∃ cs, W2.heap[g2]? = some (.cells cs 79 (0, 0)) := own_ty ho4 g2 rfl
  have hg2n : g2 ≠ a ∧ v.ownBlock ≠ some g2 ∧ g2 ≠ t ∧ g2 ≠ m := by
    rcases hg2' with e | e
    · have := hob _ e
      exact ⟨this.2.1, fun e' => (hvb _ e').2.2.2.1 e, fun e' => hot (e' ▸ e), this.1⟩
    · exact ⟨by omega, fun e' => by have := (hvb _ e').2.2.2.2; omega, by omega, by omega⟩
  have hx26 : Ext (fun k => k = a ∨ v.ownBlock = some k ∨ k = t) W2 W6 :=
    ((hx3.mono fun _ _ e => .inl e).trans (hx35.mono fun _ _ e => .inr (.inl e))).trans (hx6.mono fun _ _ e => .inr (.inr e))
  have hx13 : Ext (fun k => ov.ownBlock = some k ∨ k = a ∨ v.ownBlock = some k ∨ k = t) W1 W6 :=
    (hx24.mono fun _ _ e => .inl e).trans (hx26.mono fun _ _ e => .inr e)
  have hml1 : m < W1.heap.size := by omega
  have hgrow : w.heap.size ≤ W6.heap.size := hxall.size
  refine ⟨rfl, fun k => F k ∨ k = g2 ∨ k = g5, ⟨m, t, .slice (some ⟨g2, 0, none⟩) (L.length + 1) c2, assocSet (who, s) (.bool true) ES, assocSet who (.slice (some ⟨g5, 0, none⟩) ((byL who L).length + 1) c5) ET, ?_⟩, ?_, ?_⟩
  · refine
      { obj := (hx6.heap (hx35.heap hao3 fun e => (hvb _ e).2.2.1 rfl) hat)
        known := hm1.keep (hx13.heap_eq hml1 ?_)
        has := fun p => ?_
        order := ?_
        texts := ht6
        rows := fun who' => ?_
        apart := ?_
        ne := h.ne, fa := .inl h.fa, fm := .inl h.fm, ft := .inl h.ft
        fo := fun k hk => .inr (.inl ?_)
        fr := fun who' u k hu hk => ?_
        lt := fun k hk => ?_
        nodup := ?_ }
    · rintro (e | e | e | e)
      · exact (hob _ e).1 rfl
      · exact ham e.symm
      · exact (hvb _ e).1 rfl
      · exact h.ne e
    · rw [assoc_set, h.has]
      by_cases hp : p = (who, s)
      · simp [hp]
      · simp [hp]
    · have := own_ext ho4 hx26 fun k hk => by
        obtain rfl : g2 = k := by simpa [Value.ownBlock] using hk
        rintro (e | e | e)
        · exact hg2n.1 e
        · exact hg2n.2.1 e
        · exact hg2n.2.2.1 e
      simpa [List.flatMap_append, prC] using this
    · rw [assoc_set]
      by_cases hp : who' = who
      · subst hp
        have := own_ext hrow5 hx6 fun k hk => by
          obtain rfl : g5 = k := by simpa [Value.ownBlock] using hk
          rintro rfl
          rcases hg5' with e | e
          · exact (hvb _ e).2.1 rfl
          · omega
        simpa [byL, List.filter_append] using this
      · rw [if_neg hp]
        have hb : byL who' (L ++ [(who, s)]) = byL who' L := by
          simp [byL, List.filter_append]
          exact fun e => hp e.symm
        rw [hb]
        refine own_ext (h.rows who') hxall fun k hk => ?_
        cases hc : assoc who' ET with
        | none => rw [hc] at hk; cases hk
        | some u =>
          rw [hc] at hk
          obtain ⟨cs, hcs⟩ := own_ty (h.rows who') k (by rw [hc]; exact hk)
          rintro ((e | e | e) | e | e)
          · subst e; obtain ⟨es, c, hes, _⟩ := h.known; exact ne_of_obj hcs hes (by simp) rfl
          · obtain ⟨cs', hcs'⟩ := own_ty h.order k e; rw [hcs] at hcs'; simp at hcs'
          · subst e; exact ne_of_obj hcs h.obj (by simp) rfl
          · exact hp (h.apart who' who u v k hc (hvin k e) hk e)
          · subst e; obtain ⟨es, c, hes, _⟩ := h.texts; exact ne_of_obj hcs hes (by simp) rfl
    · intro x y u u' k hu hu' hk hk'
      rw [assoc_set] at hu hu'
      have key : ∀ z r, assoc z ET = some r → r.ownBlock = some g5 → z = who := by
        intro z r hz hr
        rcases hg5' with e | e
        · exact h.apart z who r v g5 hz (hvin _ e) hr e
        · have := h.lt _ (h.fr z r g5 hz hr)
          omega
      by_cases hx : x = who
      · by_cases hy : y = who
        · rw [hx, hy]
        · rw [if_pos hx] at hu
          rw [if_neg hy] at hu'
          injection hu with hu
          subst hu
          obtain rfl : g5 = k := by simpa [Value.ownBlock] using hk
          exact absurd (key y u' hu' hk') hy
      · rw [if_neg hx] at hu
        by_cases hy : y = who
        · rw [if_pos hy] at hu'
          injection hu' with hu'
          subst hu'
          obtain rfl : g5 = k := by simpa [Value.ownBlock] using hk'
          exact absurd (key x u hu hk) hx
        · rw [if_neg hy] at hu'
          exact h.apart x y u u' k hu hu' hk hk'
    · simpa [Value.ownBlock] using hk.symm
    · rw [assoc_set] at hu
      by_cases hp : who' = who
      · rw [if_pos hp] at hu
        injection hu with hu
        subst hu
        exact .inr (.inr (by simpa [Value.ownBlock] using hk.symm))
      · rw [if_neg hp] at hu
        exact .inl (h.fr who' u k hu hk)
    · have h25 := hx26.size
      have h56 : W5.heap.size ≤ W6.heap.size := hx6.size
      rcases hk with hk | rfl | rfl
      · exact Nat.lt_of_lt_of_le (h.lt k hk) hgrow
      · omega
      · omega
    · exact List.nodup_append.2 ⟨h.nodup, by simp, fun x hx y hy e => hin (by simp at hy; rw [← hy, ← e]; exact hx)⟩
  · refine hxall.mono fun k hkl e => ?_
    rcases e with (rfl | e | rfl) | e | rfl
    · exact h.fm
    · exact h.fo k e
    · exact h.fa
    · exact h.fr who v k (hvin k e) e
    · exact h.ft
  · rintro k (hk | rfl | rfl)
    · exact .inl hk
    · rcases hg2' with e | e
      · exact .inl (h.fo _ e)
      · exact .inr (by omega)
    · rcases hg5' with e | e
      · exact .inl (h.fr who v _ (hvin _ e) e)
      · exact .inr (by omega)
end Go.Proofs.Ytcedpdjjjfdbiaa
