/- Trees of entries by their keys' bits: a plain law; no condition. -/
import Derived.Test.YtoflfhjeabpcjaaBase
namespace Go.Proofs.Ytoflfhjeabpcjaa
set_option linter.unusedVariables false
set_option linter.unusedSimpArgs false
open Go.RowKit

/-- A key's bit: nine of each byte, the first of which is one. -/
def bitB (k : Bs) (i : Nat) : Bool := if 9 * k.length ≤ i then false else if i % 9 = 0 then true else (k.getD (i / 9) 0).toNat.testBit (8 - i % 9)
theorem bitB_nil (i : Nat) : bitB [] i = false := by simp [bitB]
theorem bitB_zero (c : UInt8) (k : Bs) : bitB (c :: k) 0 = true := by simp [bitB]
theorem bitB_head (c : UInt8) (k : Bs) (j : Nat) (h0 : 0 < j) (h : j < 9) : bitB (c :: k) j = c.toNat.testBit (8 - j) := by
  unfold bitB
  rw [if_neg (by rw [List.length_cons]; omega), if_neg (by omega), Nat.div_eq_of_lt h, Nat.mod_eq_of_lt h]
  rfl
theorem bitB_tail (c : UInt8) (k : Bs) (i : Nat) : bitB (c :: k) (i + 9) = bitB k i := by
  unfold bitB
  rw [List.length_cons, Nat.add_mod_right, Nat.add_div_right _ (by decide)]
  by_cases h : 9 * k.length ≤ i
  · rw [if_pos (by omega), if_pos h]
  · rw [if_neg (by omega), if_neg h]
    simp
theorem bitB_lt {k : Bs} {i : Nat} (h : bitB k i = true) : i < 9 * k.length := by
  unfold bitB at h
  split at h
  · cases h
  · omega
theorem byte_bits {c d : UInt8} (h : ∀ j, 0 < j → j < 9 → c.toNat.testBit (8 - j) = d.toNat.testBit (8 - j)) : c = d := by
  apply UInt8.toNat_inj.1
  apply Nat.eq_of_testBit_eq
  intro i
  by_cases hi : i < 8
  · have := h (8 - i) (by omega) (by omega)
    rwa [show 8 - (8 - i) = i by omega] at this
  · have hp : 2 ^ 8 ≤ 2 ^ i := Nat.pow_le_pow_right (by decide) (by omega)
    rw [Nat.testBit_lt_two_pow (Nat.lt_of_lt_of_le c.toNat_lt hp), Nat.testBit_lt_two_pow (Nat.lt_of_lt_of_le d.toNat_lt hp)]
/-- Unlike keys have unlike bits. -/
theorem bits_apart : ∀ (a b : Bs), a ≠ b → ∃ i, bitB a i ≠ bitB b i ∧ (i < 9 * a.length ∨ i < 9 * b.length)
  | [], [], h => absurd rfl h
  | [], c :: b, _ => ⟨0, by rw [bitB_nil, bitB_zero]; decide, .inr (by rw [List.length_cons]; omega)⟩
  | c :: a, [], _ => ⟨0, by rw [bitB_nil, bitB_zero]; decide, .inl (by rw [List.length_cons]; omega)⟩
  | c :: a, d :: b, h => by
    by_cases hcd : c = d
    · subst hcd
      obtain ⟨i, h1, h2⟩ := bits_apart a b fun e => h (by rw [e])
      exact ⟨i + 9, by rwa [bitB_tail, bitB_tail], h2.imp (fun h => by rw [List.length_cons]; omega) fun h => by rw [List.length_cons]; omega⟩
    · have : ∃ j, 0 < j ∧ j < 9 ∧ c.toNat.testBit (8 - j) ≠ d.toNat.testBit (8 - j) := by
        apply Classical.byContradiction
        intro hn
        exact hcd (byte_bits fun j h0 h9 => Classical.byContradiction fun hne => hn ⟨j, h0, h9, hne⟩)
      obtain ⟨j, h0, h9, hne⟩ := this
      exact ⟨j, by rwa [bitB_head _ _ _ h0 h9, bitB_head _ _ _ h0 h9], .inl (by rw [List.length_cons]; omega)⟩
/-- The first place apart. -/
theorem first_apart {a b : Bs} (h : a ≠ b) : ∃ i, bitB a i ≠ bitB b i ∧ (∀ j, j < i → bitB a j = bitB b j) ∧ (i < 9 * a.length ∨ i < 9 * b.length) := by
  obtain ⟨i, h1, h2⟩ := bits_apart a b h
  induction i using Nat.strongRecOn with
  | ind i ih =>
    by_cases hj : ∃ j, j < i ∧ bitB a j ≠ bitB b j
    · obtain ⟨j, hj1, hj2⟩ := hj
      exact ih j hj1 hj2 (h2.imp (fun h => by omega) fun h => by omega)
    · exact ⟨i, h1, fun j hji => Classical.byContradiction fun hne => hj ⟨j, hji, hne⟩, h2⟩
theorem lt_of_bits {x y : Nat} (i : Nat) (hx : x.testBit i = false) (hy : y.testBit i = true) (h : ∀ j, i < j → x.testBit j = y.testBit j) : x < y := by
  have hh : x / 2 ^ (i + 1) = y / 2 ^ (i + 1) := by
    apply Nat.eq_of_testBit_eq
    intro j
    rw [Nat.testBit_div_two_pow, Nat.testBit_div_two_pow]
    exact h _ (by omega)
  rw [Nat.testBit_eq_decide_div_mod_eq] at hx hy
  simp only [decide_eq_false_iff_not, decide_eq_true_eq] at hx hy
  rw [Nat.pow_succ, ← Nat.div_div_eq_div_mul, ← Nat.div_div_eq_div_mul] at hh
  have h2 : x / 2 ^ i < y / 2 ^ i := by omega
  exact Classical.byContradiction fun hn => Nat.lt_irrefl _ (Nat.lt_of_lt_of_le h2 (Nat.div_le_div_right (Nat.le_of_not_lt hn)))
/-- The order of keys is that of their bits. -/
theorem bits_lt : ∀ (a b : Bs) (i : Nat), (∀ j, j < i → bitB a j = bitB b j) → bitB a i = false → bitB b i = true → a < b
  | _, [], i, _, _, h2 => by rw [bitB_nil] at h2; cases h2
  | [], c :: b, i, _, _, _ => by simp
  | c :: a, d :: b, i, h, h1, h2 => by
    by_cases h9 : i < 9
    · by_cases h0 : i = 0
      · subst h0
        rw [bitB_zero] at h1
        cases h1
      · rw [bitB_head _ _ _ (by omega) h9] at h1 h2
        refine List.cons_lt_cons_iff.2 (.inl ?_)
        rw [UInt8.lt_iff_toNat_lt]
        refine lt_of_bits (8 - i) h1 h2 fun j hj => ?_
        by_cases hj8 : j < 8
        · have := h (8 - j) (by omega)
          rw [bitB_head _ _ _ (by omega) (by omega), bitB_head _ _ _ (by omega) (by omega), show 8 - (8 - j) = j by omega] at this
          exact this
        · have hp : 2 ^ 8 ≤ 2 ^ j := Nat.pow_le_pow_right (by decide) (by omega)
          rw [Nat.testBit_lt_two_pow (Nat.lt_of_lt_of_le c.toNat_lt hp), Nat.testBit_lt_two_pow (Nat.lt_of_lt_of_le d.toNat_lt hp)]
    · have hcd : c = d := byte_bits fun j h0 hj => by
        have := h j (by omega)
        rwa [bitB_head _ _ _ h0 hj, bitB_head _ _ _ h0 hj] at this
      subst hcd
      refine List.cons_lt_cons_iff.2 (.inr ⟨rfl, bits_lt a b (i - 9) (fun j hj => ?_) ?_ ?_⟩)
      · have := h (j + 9) (by omega)
        rwa [bitB_tail, bitB_tail] at this
      · rw [← bitB_tail c, show i - 9 + 9 = i by omega]; exact h1
      · rw [← bitB_tail c, show i - 9 + 9 = i by omega]; exact h2

/-- An entry, or a fork at a place. -/
inductive Tr where
  | leaf (k v : Bs)
  | fork (b : Nat) (l r : Tr)
namespace Tr
def ents : Tr → List (Bs × Bs)
  | .leaf k v => [(k, v)]
  | .fork _ l r => l.ents ++ r.ents
def ok : Tr → Prop
  | .leaf k v => k.length ≤ 120 ∧ v.length ≤ 1200
  | .fork b l r => l.ok ∧ r.ok ∧ (∀ e ∈ l.ents, bitB e.1 b = false) ∧ (∀ e ∈ r.ents, bitB e.1 b = true) ∧ ∀ e ∈ l.ents, ∀ f ∈ r.ents, ∀ i, i < b → bitB e.1 i = bitB f.1 i
theorem some_ent : ∀ t : Tr, ∃ e, e ∈ t.ents
  | .leaf k v => ⟨_, List.mem_singleton.2 rfl⟩
  | .fork _ l r => let ⟨e, h⟩ := l.some_ent; ⟨e, List.mem_append.2 (.inl h)⟩
theorem ents_pos (t : Tr) : 0 < t.ents.length := by
  obtain ⟨e, h⟩ := t.some_ent
  exact List.length_pos_of_mem h
theorem ok_ent : ∀ {t : Tr}, t.ok → ∀ e ∈ t.ents, e.1.length ≤ 120 ∧ e.2.length ≤ 1200
  | .leaf k v, h, e, he => by
    rw [List.mem_singleton.1 he]
    exact h
  | .fork _ l r, h, e, he => (List.mem_append.1 he).elim (fun he => ok_ent h.1 e he) fun he => ok_ent h.2.1 e he
/-- All below a fork are alike ahead of its place. -/
theorem alike {b : Nat} {l r : Tr} (h : (fork b l r).ok) {e f : Bs × Bs} (he : e ∈ (fork b l r).ents) (hf : f ∈ (fork b l r).ents) : ∀ i, i < b → bitB e.1 i = bitB f.1 i := by
  obtain ⟨_, _, _, _, h5⟩ := h
  obtain ⟨x, hx⟩ := l.some_ent
  obtain ⟨y, hy⟩ := r.some_ent
  intro i hi
  rcases List.mem_append.1 he with he | he <;> rcases List.mem_append.1 hf with hf | hf
  · rw [h5 e he y hy i hi, h5 f hf y hy i hi]
  · exact h5 e he f hf i hi
  · exact (h5 f hf e he i hi).symm
  · rw [← h5 x hx e he i hi, ← h5 x hx f hf i hi]
theorem place_lt {b : Nat} {l r : Tr} (h : (fork b l r).ok) : b < 1080 := by
  obtain ⟨y, hy⟩ := r.some_ent
  have h1 := bitB_lt (h.2.2.2.1 y hy)
  have h2 := (ok_ent h.2.1 y hy).1
  omega
theorem sorted : ∀ {t : Tr}, t.ok → t.ents.Pairwise (fun e f => e.1 < f.1)
  | .leaf k v, _ => List.pairwise_singleton _ _
  | .fork b l r, h => by
    refine List.pairwise_append.2 ⟨sorted h.1, sorted h.2.1, fun e he f hf => ?_⟩
    exact bits_lt _ _ b (h.2.2.2.2 e he f hf) (h.2.2.1 e he) (h.2.2.2.1 f hf)
/-- The entry to which a key leads. -/
def last : Tr → Bs → Bs × Bs
  | .leaf k v, _ => (k, v)
  | .fork b l r, q => if bitB q b then r.last q else l.last q
theorem last_mem : ∀ (t : Tr) (q : Bs), t.last q ∈ t.ents
  | .leaf k v, q => List.mem_singleton.2 rfl
  | .fork b l r, q => by
    rw [last]
    split
    · exact List.mem_append.2 (.inr (r.last_mem q))
    · exact List.mem_append.2 (.inl (l.last_mem q))
/-- A key that is there leads to its entry. -/
theorem last_of : ∀ {t : Tr}, t.ok → ∀ e ∈ t.ents, t.last e.1 = e
  | .leaf k v, _, e, he => (List.mem_singleton.1 he).symm
  | .fork b l r, h, e, he => by
    rw [last]
    rcases List.mem_append.1 he with he | he
    · rw [h.2.2.1 e he, if_neg (by decide), last_of h.1 e he]
    · rw [h.2.2.2.1 e he, if_pos rfl, last_of h.2.1 e he]
theorem one_value {t : Tr} (h : t.ok) {k v v' : Bs} (h1 : (k, v) ∈ t.ents) (h2 : (k, v') ∈ t.ents) : v = v' := by
  have e1 := last_of h _ h1
  have e2 := last_of h _ h2
  rw [e1] at e2
  exact congrArg Prod.snd e2

/-- With another entry, apart at a place (none: it is there already). -/
def ins (k v : Bs) : Option Nat → Tr → Tr
  | none, .leaf _ _ => .leaf k v
  | some i, .leaf k' v' => if bitB k i then .fork i (.leaf k' v') (.leaf k v) else .fork i (.leaf k v) (.leaf k' v')
  | none, .fork b l r => if bitB k b then .fork b l (ins k v none r) else .fork b (ins k v none l) r
  | some i, .fork b l r => if i < b then (if bitB k i then .fork i (.fork b l r) (.leaf k v) else .fork i (.leaf k v) (.fork b l r))
      else if bitB k b then .fork b l (ins k v (some i) r) else .fork b (ins k v (some i) l) r
theorem ins_none {k v : Bs} (hk : k.length ≤ 120) (hv : v.length ≤ 1200) : ∀ {t : Tr}, t.ok → (t.last k).1 = k → (ins k v none t).ok ∧ ∀ e, e ∈ (ins k v none t).ents ↔ e = (k, v) ∨ (e ∈ t.ents ∧ e.1 ≠ k)
  | .leaf k' v', _, he => by
    refine ⟨⟨hk, hv⟩, fun e => ?_⟩
    rw [last] at he
    subst he
    rw [ins]
    simp only [ents, List.mem_singleton]
    constructor
    · exact .inl
    · rintro (h | ⟨h1, h2⟩)
      · exact h
      · rw [h1] at h2; exact absurd rfl h2
  | .fork b l r, h, he => by
    rw [last] at he
    rw [ins]
    split at he <;> rename_i hb
    · obtain ⟨i1, i2⟩ := ins_none hk hv h.2.1 he
      rw [if_pos hb]
      have hin : ∀ e, e ∈ (ins k v none r).ents → e = (k, v) ∨ e ∈ r.ents := fun e he => ((i2 e).1 he).imp id And.left
      have hkr : ∃ f ∈ r.ents, f.1 = k := ⟨_, r.last_mem k, he⟩
      refine ⟨⟨h.1, i1, h.2.2.1, fun e he => ?_, fun e he f hf i hi => ?_⟩, fun e => ?_⟩
      · rcases hin e he with rfl | h1
        · exact hb
        · exact h.2.2.2.1 e h1
      · rcases hin f hf with rfl | h1
        · obtain ⟨f, hf, hfk⟩ := hkr
          rw [← hfk]
          exact h.2.2.2.2 e he f hf i hi
        · exact h.2.2.2.2 e he f h1 i hi
      · simp only [ents, List.mem_append, i2]
        constructor
        · rintro (h1 | h1 | h1)
          · exact .inr ⟨.inl h1, fun e1 => by have := h.2.2.1 e h1; rw [e1, hb] at this; cases this⟩
          · exact .inl h1
          · exact .inr ⟨.inr h1.1, h1.2⟩
        · rintro (h1 | ⟨h1 | h1, h2⟩)
          · exact .inr (.inl h1)
          · exact .inl h1
          · exact .inr (.inr ⟨h1, h2⟩)
    · obtain ⟨i1, i2⟩ := ins_none hk hv h.1 he
      rw [if_neg hb]
      have hb' : bitB k b = false := by simpa using hb
      have hin : ∀ e, e ∈ (ins k v none l).ents → e = (k, v) ∨ e ∈ l.ents := fun e he => ((i2 e).1 he).imp id And.left
      have hkl : ∃ f ∈ l.ents, f.1 = k := ⟨_, l.last_mem k, he⟩
      refine ⟨⟨i1, h.2.1, fun e he => ?_, h.2.2.2.1, fun e he f hf i hi => ?_⟩, fun e => ?_⟩
      · rcases hin e he with rfl | h1
        · exact hb'
        · exact h.2.2.1 e h1
      · rcases hin e he with rfl | h1
        · obtain ⟨g, hg, hgk⟩ := hkl
          rw [← hgk]
          exact h.2.2.2.2 g hg f hf i hi
        · exact h.2.2.2.2 e h1 f hf i hi
      · simp only [ents, List.mem_append, i2]
        constructor
        · rintro ((h1 | h1) | h1)
          · exact .inl h1
          · exact .inr ⟨.inl h1.1, h1.2⟩
          · exact .inr ⟨.inr h1, fun e1 => by have := h.2.2.2.1 e h1; rw [e1, hb'] at this; cases this⟩
        · rintro (h1 | ⟨h1 | h1, h2⟩)
          · exact .inl (.inl h1)
          · exact .inl (.inr ⟨h1, h2⟩)
          · exact .inr h1
/-- A fork above a whole tree. -/
theorem above {k v : Bs} (hk : k.length ≤ 120) (hv : v.length ≤ 1200) {t : Tr} (h : t.ok) {i : Nat} (heq : ∀ e ∈ t.ents, ∀ j, j < i → bitB e.1 j = bitB k j) (hne : ∀ e ∈ t.ents, bitB e.1 i ≠ bitB k i) :
    (if bitB k i then fork i t (leaf k v) else fork i (leaf k v) t).ok ∧ ∀ e, e ∈ (if bitB k i then fork i t (leaf k v) else fork i (leaf k v) t).ents ↔ e = (k, v) ∨ e ∈ t.ents := by
  cases hb : bitB k i with
  | true =>
    rw [if_pos rfl]
    refine ⟨⟨h, ⟨hk, hv⟩, fun e he => ?_, fun e he => ?_, fun e he f hf j hj => ?_⟩, fun e => ?_⟩
    · have := hne e he
      rw [hb] at this
      simpa using this
    · rw [List.mem_singleton.1 he]; exact hb
    · rw [List.mem_singleton.1 hf]; exact heq e he j hj
    · simp only [ents, List.mem_append, List.mem_singleton]
      exact Or.comm
  | false =>
    rw [if_neg (by decide)]
    refine ⟨⟨⟨hk, hv⟩, h, fun e he => ?_, fun e he => ?_, fun e he f hf j hj => ?_⟩, fun e => ?_⟩
    · rw [List.mem_singleton.1 he]; exact hb
    · have := hne e he
      rw [hb] at this
      simpa using this
    · rw [List.mem_singleton.1 he]; exact (heq f hf j hj).symm
    · simp only [ents, List.mem_append, List.mem_singleton]
theorem ins_some {k v : Bs} (hk : k.length ≤ 120) (hv : v.length ≤ 1200) {i : Nat} : ∀ {t : Tr}, t.ok → (∀ j, j < i → bitB (t.last k).1 j = bitB k j) → bitB (t.last k).1 i ≠ bitB k i →
    (ins k v (some i) t).ok ∧ ∀ e, e ∈ (ins k v (some i) t).ents ↔ e = (k, v) ∨ e ∈ t.ents
  | .leaf k' v', h, heq, hne => by
    rw [ins]
    refine above hk hv h (fun e he => ?_) fun e he => ?_
    · rw [List.mem_singleton.1 he]; exact heq
    · rw [List.mem_singleton.1 he]; exact hne
  | .fork b l r, h, heq, hne => by
    rw [ins]
    split
    · rename_i hib
      have hm := last_mem (fork b l r) k
      refine above hk hv h (fun e he j hj => ?_) fun e he => ?_
      · rw [alike h he hm j (by omega)]; exact heq j hj
      · rw [alike h he hm i hib]; exact hne
    · rename_i hib
      rw [last] at heq hne
      have hpre : ∀ f ∈ (fork b l r).ents, ∀ j, j < b → bitB f.1 j = bitB k j := by
        intro f hf j hj
        have hm := last_mem (fork b l r) k
        rw [alike h hf hm j hj, last]
        exact heq j (by omega)
      split at heq <;> rename_i hb
      · rw [if_pos hb] at hne
        obtain ⟨i1, i2⟩ := ins_some hk hv h.2.1 heq hne
        rw [if_pos hb]
        refine ⟨⟨h.1, i1, h.2.2.1, fun e he => ?_, fun e he f hf j hj => ?_⟩, fun e => ?_⟩
        · rcases (i2 e).1 he with rfl | h1
          · exact hb
          · exact h.2.2.2.1 e h1
        · rcases (i2 f).1 hf with rfl | h1
          · exact hpre e (List.mem_append.2 (.inl he)) j hj
          · exact h.2.2.2.2 e he f h1 j hj
        · simp only [ents, List.mem_append, i2]
          constructor
          · rintro (h1 | h1 | h1)
            · exact .inr (.inl h1)
            · exact .inl h1
            · exact .inr (.inr h1)
          · rintro (h1 | h1 | h1)
            · exact .inr (.inl h1)
            · exact .inl h1
            · exact .inr (.inr h1)
      · rw [if_neg hb] at hne
        have hb' : bitB k b = false := by simpa using hb
        obtain ⟨i1, i2⟩ := ins_some hk hv h.1 heq hne
        rw [if_neg hb]
        refine ⟨⟨i1, h.2.1, fun e he => ?_, h.2.2.2.1, fun e he f hf j hj => ?_⟩, fun e => ?_⟩
        · rcases (i2 e).1 he with rfl | h1
          · exact hb'
          · exact h.2.2.1 e h1
        · rcases (i2 e).1 he with rfl | h1
          · exact (hpre f (List.mem_append.2 (.inr hf)) j hj).symm
          · exact h.2.2.2.2 e h1 f hf j hj
        · simp only [ents, List.mem_append, i2]
          constructor
          · rintro ((h1 | h1) | h1)
            · exact .inl h1
            · exact .inr (.inl h1)
            · exact .inr (.inr h1)
          · rintro (h1 | h1 | h1)
            · exact .inl (.inl h1)
            · exact .inl (.inr h1)
            · exact .inr h1

/-- Without the entry of a key that is there. -/
def del (k : Bs) : Tr → Option Tr
  | .leaf _ _ => none
  | .fork b l r => if bitB k b then (match del k r with | none => some l | some r' => some (.fork b l r')) else (match del k l with | none => some r | some l' => some (.fork b l' r))
def okO : Option Tr → Prop
  | none => True
  | some t => t.ok
def entsO : Option Tr → List (Bs × Bs)
  | none => []
  | some t => t.ents
theorem del_ok {k : Bs} : ∀ {t : Tr}, t.ok → (t.last k).1 = k → okO (del k t) ∧ ∀ e, e ∈ entsO (del k t) ↔ e ∈ t.ents ∧ e.1 ≠ k
  | .leaf k' v', _, he => by
    rw [last] at he
    subst he
    refine ⟨trivial, fun e => ?_⟩
    simp only [del, entsO, ents, List.mem_singleton, List.not_mem_nil, false_iff]
    rintro ⟨rfl, h⟩
    exact h rfl
  | .fork b l r, h, he => by
    rw [last] at he
    rw [del]
    split at he <;> rename_i hb
    · obtain ⟨i1, i2⟩ := del_ok h.2.1 he
      rw [if_pos hb]
      have hl : ∀ e ∈ l.ents, e.1 ≠ k := fun e h1 e1 => by have := h.2.2.1 e h1; rw [e1, hb] at this; cases this
      cases hd : del k r with
      | none =>
        rw [hd] at i2
        refine ⟨h.1, fun e => ?_⟩
        have := i2 e
        simp only [entsO, List.not_mem_nil, false_iff] at this
        simp only [entsO, ents, List.mem_append]
        constructor
        · exact fun h1 => ⟨.inl h1, hl e h1⟩
        · rintro ⟨h1 | h1, h2⟩
          · exact h1
          · exact absurd ⟨h1, h2⟩ this
      | some r' =>
        rw [hd] at i1 i2
        simp only [entsO] at i2
        refine ⟨⟨h.1, i1, h.2.2.1, fun e he => h.2.2.2.1 e ((i2 e).1 he).1, fun e he f hf => h.2.2.2.2 e he f ((i2 f).1 hf).1⟩, fun e => ?_⟩
        simp only [entsO, ents, List.mem_append, i2]
        constructor
        · rintro (h1 | h1)
          · exact ⟨.inl h1, hl e h1⟩
          · exact ⟨.inr h1.1, h1.2⟩
        · rintro ⟨h1 | h1, h2⟩
          · exact .inl h1
          · exact .inr ⟨h1, h2⟩
    · obtain ⟨i1, i2⟩ := del_ok h.1 he
      rw [if_neg hb]
      have hb' : bitB k b = false := by simpa using hb
      have hr : ∀ e ∈ r.ents, e.1 ≠ k := fun e h1 e1 => by have := h.2.2.2.1 e h1; rw [e1, hb'] at this; cases this
      cases hd : del k l with
      | none =>
        rw [hd] at i2
        refine ⟨h.2.1, fun e => ?_⟩
        have := i2 e
        simp only [entsO, List.not_mem_nil, false_iff] at this
        simp only [entsO, ents, List.mem_append]
        constructor
        · exact fun h1 => ⟨.inr h1, hr e h1⟩
        · rintro ⟨h1 | h1, h2⟩
          · exact absurd ⟨h1, h2⟩ this
          · exact h1
      | some l' =>
        rw [hd] at i1 i2
        simp only [entsO] at i2
        refine ⟨⟨i1, h.2.1, fun e he => h.2.2.1 e ((i2 e).1 he).1, h.2.2.2.1, fun e he f hf => h.2.2.2.2 e ((i2 e).1 he).1 f hf⟩, fun e => ?_⟩
        simp only [entsO, ents, List.mem_append, i2]
        constructor
        · rintro (h1 | h1)
          · exact ⟨.inl h1.1, h1.2⟩
          · exact ⟨.inr h1, hr e h1⟩
        · rintro ⟨h1 | h1, h2⟩
          · exact .inl ⟨h1, h2⟩
          · exact .inr h1

/-- The entries make the tree. -/
theorem canon : ∀ {t u : Tr}, t.ok → u.ok → (∀ e, e ∈ t.ents ↔ e ∈ u.ents) → t = u := by
  have fst : ∀ (b : Nat) (l r : Tr), (fork b l r).ok → ∃ e ∈ (fork b l r).ents, ∃ f ∈ (fork b l r).ents, bitB e.1 b ≠ bitB f.1 b := by
    intro b l r h
    obtain ⟨x, hx⟩ := l.some_ent
    obtain ⟨y, hy⟩ := r.some_ent
    exact ⟨x, List.mem_append.2 (.inl hx), y, List.mem_append.2 (.inr hy), by rw [h.2.2.1 x hx, h.2.2.2.1 y hy]; decide⟩
  have low : ∀ (k v : Bs) (b : Nat) (l r : Tr), (fork b l r).ok → ¬ ∀ e, e ∈ (leaf k v).ents ↔ e ∈ (fork b l r).ents := by
    intro k v b l r h hi
    obtain ⟨e, he, f, hf, hne⟩ := fst b l r h
    have h1 := (hi e).2 he
    have h2 := (hi f).2 hf
    rw [List.mem_singleton.1 h1, List.mem_singleton.1 h2] at hne
    exact hne rfl
  intro t
  induction t with
  | leaf k v =>
    intro u _ hu hi
    cases u with
    | leaf k' v' =>
      have := (hi (k, v)).1 (List.mem_singleton.2 rfl)
      have e1 := List.mem_singleton.1 this
      injection e1 with e1 e2
      subst e1 e2
      rfl
    | fork b l r => exact absurd hi (low k v b l r hu)
  | fork b l r ihl ihr =>
    intro u ht hu hi
    cases u with
    | leaf k v => exact absurd (fun e => (hi e).symm) (low k v b l r ht)
    | fork b' l' r' =>
      have hb : b = b' := by
        rcases Nat.lt_trichotomy b b' with h | h | h
        · obtain ⟨e, he, f, hf, hne⟩ := fst b l r ht
          exact absurd (alike hu ((hi e).1 he) ((hi f).1 hf) b h) hne
        · exact h
        · obtain ⟨e, he, f, hf, hne⟩ := fst b' l' r' hu
          exact absurd (alike ht ((hi e).2 he) ((hi f).2 hf) b' h) hne
      subst hb
      have side : ∀ {l r l' r' : Tr}, (fork b l r).ok → (fork b l' r').ok → (∀ e, e ∈ (fork b l r).ents ↔ e ∈ (fork b l' r').ents) → (∀ e ∈ l.ents, e ∈ l'.ents) ∧ ∀ e ∈ r.ents, e ∈ r'.ents := by
        intro l r l' r' h h' hi
        refine ⟨fun e he => ?_, fun e he => ?_⟩
        · rcases List.mem_append.1 ((hi e).1 (List.mem_append.2 (.inl he))) with h1 | h1
          · exact h1
          · have := h.2.2.1 e he
            rw [h'.2.2.2.1 e h1] at this
            cases this
        · rcases List.mem_append.1 ((hi e).1 (List.mem_append.2 (.inr he))) with h1 | h1
          · have := h.2.2.2.1 e he
            rw [h'.2.2.1 e h1] at this
            cases this
          · exact h1
      have s1 := side ht hu hi
      have s2 := side hu ht fun e => (hi e).symm
      rw [ihl ht.1 hu.1 fun e => ⟨s1.1 e, s2.1 e⟩, ihr ht.2.1 hu.2.1 fun e => ⟨s1.2 e, s2.2 e⟩]
theorem canonO : ∀ {t u : Option Tr}, okO t → okO u → (∀ e, e ∈ entsO t ↔ e ∈ entsO u) → t = u
  | none, none, _, _, _ => rfl
  | none, some u, _, _, h => by
    obtain ⟨e, he⟩ := u.some_ent
    exact absurd ((h e).2 he) (by simp [entsO])
  | some t, none, _, _, h => by
    obtain ⟨e, he⟩ := t.some_ent
    exact absurd ((h e).1 he) (by simp [entsO])
  | some t, some u, h1, h2, h => by rw [canon h1 h2 h]

def lastO (t : Option Tr) (k : Bs) : Option (Bs × Bs) := t.map fun t => t.last k
/-- The value of a key that is there. -/
def get : Option Tr → Bs → Option Bs
  | none, _ => none
  | some t, k => if (t.last k).1 = k then some (t.last k).2 else none
theorem get_mem {t : Option Tr} (h : okO t) {k v : Bs} : get t k = some v ↔ (k, v) ∈ entsO t := by
  cases t with
  | none => simp [get, entsO]
  | some t =>
    simp only [get, entsO]
    constructor
    · intro hg
      split at hg
      · rename_i he
        have := t.last_mem k
        injection hg with hg
        rw [show t.last k = (k, v) from Prod.ext he hg] at this
        exact this
      · cases hg
    · intro hm
      have := last_of h _ hm
      simp only at this
      rw [this]
      simp
theorem get_none {t : Option Tr} (h : okO t) {k : Bs} : get t k = none ↔ ∀ e ∈ entsO t, e.1 ≠ k := by
  constructor
  · rintro hg ⟨k', v⟩ he rfl
    rw [(get_mem h).2 he] at hg
    cases hg
  · intro hn
    cases hg : get t k with
    | none => rfl
    | some v => exact absurd rfl (hn _ ((get_mem h).1 hg))

/-- The steps of a key's path: the place, whether to the right. -/
def path : Tr → Bs → List (Nat × Bool × Tr)
  | .leaf _ _, _ => []
  | .fork b l r, q => if bitB q b then (b, true, l) :: r.path q else (b, false, r) :: l.path q
theorem path_bit : ∀ (t : Tr) (q : Bs), ∀ s ∈ t.path q, bitB q s.1 = s.2.1
  | .leaf _ _, _, _, h => by cases h
  | .fork b l r, q, s, h => by
    rw [path] at h
    split at h <;> rename_i hb <;> rcases List.mem_cons.1 h with rfl | h
    · exact hb
    · exact path_bit r q s h
    · simpa using hb
    · exact path_bit l q s h
theorem path_last : ∀ {t : Tr}, t.ok → ∀ (q : Bs), ∀ s ∈ t.path q, bitB (t.last q).1 s.1 = s.2.1
  | .leaf _ _, _, _, _, h => by cases h
  | .fork b l r, ho, q, s, h => by
    rw [path] at h
    rw [last]
    split at h <;> rename_i hb <;> rcases List.mem_cons.1 h with rfl | h
    · rw [if_pos hb]; exact ho.2.2.2.1 _ (r.last_mem q)
    · rw [if_pos hb]; exact path_last ho.2.1 q s h
    · rw [if_neg hb]; exact ho.2.2.1 _ (l.last_mem q)
    · rw [if_neg hb]; exact path_last ho.1 q s h
/-- The places rise. -/
theorem places_rise : ∀ {t : Tr} {b : Nat}, t.ok → (∀ e ∈ t.ents, ∀ f ∈ t.ents, ∀ i, i ≤ b → bitB e.1 i = bitB f.1 i) → ∀ q, ∀ s ∈ t.path q, b < s.1
  | .leaf _ _, _, _, _, _, _, h => by cases h
  | .fork c l r, b, ho, ha, q, s, h => by
    have hcb : b < c := by
      apply Classical.byContradiction
      intro hn
      obtain ⟨x, hx⟩ := l.some_ent
      obtain ⟨y, hy⟩ := r.some_ent
      have := ha x (List.mem_append.2 (.inl hx)) y (List.mem_append.2 (.inr hy)) c (by omega)
      rw [ho.2.2.1 x hx, ho.2.2.2.1 y hy] at this
      cases this
    rw [path] at h
    split at h <;> rcases List.mem_cons.1 h with rfl | h
    · exact hcb
    · exact places_rise ho.2.1 (fun e he f hf => ha e (List.mem_append.2 (.inr he)) f (List.mem_append.2 (.inr hf))) q s h
    · exact hcb
    · exact places_rise ho.1 (fun e he f hf => ha e (List.mem_append.2 (.inl he)) f (List.mem_append.2 (.inl hf))) q s h
theorem path_rises : ∀ {t : Tr}, t.ok → ∀ q, (t.path q).Pairwise (fun s s' => s.1 < s'.1)
  | .leaf _ _, _, _ => List.Pairwise.nil
  | .fork b l r, ho, q => by
    have hall : ∀ {u : Tr}, (∀ e ∈ u.ents, e ∈ (fork b l r).ents) → (∃ x, ∀ e ∈ u.ents, bitB e.1 b = x) → ∀ e ∈ u.ents, ∀ f ∈ u.ents, ∀ i, i ≤ b → bitB e.1 i = bitB f.1 i := by
      rintro u hs ⟨x, hx⟩ e he f hf i hi
      rcases Nat.lt_or_eq_of_le hi with h | rfl
      · exact alike ho (hs e he) (hs f hf) i h
      · rw [hx e he, hx f hf]
    rw [path]
    split
    · exact List.pairwise_cons.2 ⟨fun s hs => places_rise ho.2.1 (hall (fun e he => List.mem_append.2 (.inr he)) ⟨true, ho.2.2.2.1⟩) q s hs, path_rises ho.2.1 q⟩
    · exact List.pairwise_cons.2 ⟨fun s hs => places_rise ho.1 (hall (fun e he => List.mem_append.2 (.inl he)) ⟨false, ho.2.2.1⟩) q s hs, path_rises ho.1 q⟩
theorem path_len : ∀ (t : Tr) (q : Bs), (t.path q).length < t.ents.length
  | .leaf _ _, _ => by simp [path, ents]
  | .fork b l r, q => by
    have h1 := l.ents_pos
    have h2 := r.ents_pos
    have h3 := path_len l q
    have h4 := path_len r q
    rw [path, ents, List.length_append]
    split <;> rw [List.length_cons] <;> omega
end Tr
end Go.Proofs.Ytoflfhjeabpcjaa
