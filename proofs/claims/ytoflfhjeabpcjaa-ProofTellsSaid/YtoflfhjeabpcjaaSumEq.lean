/- Digests compared, and digests of named rows; no condition. -/
import Derived.Test.YtoflfhjeabpcjaaDigText
import Derived.Test.YtoflfhjeabpcjaaRefSha4
import Derived.Test.YtoflfhjeabpcjaaHex
import Derived.ChangeKeysEq
namespace Go.Proofs.Ytoflfhjeabpcjaa
set_option linter.unusedVariables false
set_option linter.unusedSimpArgs false
open Go.RowKit

theorem run_items {w : World} (d : Nat) (s t : Bs) : ∀ is : List Nat, (∀ i ∈ is, i < s.length ∧ i < t.length) →
    (Op.eqItems (d + 1) 5 1 (s.map byteV).toArray (t.map byteV).toArray is).run Try.prog w = .ok (is.all fun i => s[i]? == t[i]?) w
  | [], _ => by simp [Op.eqItems]
  | i :: is, h => by
    obtain ⟨h1, h2⟩ := h i (by simp)
    have p1 : (Go.part 5 (s.map byteV).toArray (i * 1)).run Try.prog w = .ok (byteV s[i]) w := run_part_plain w (by kernel_rfl) (by simp [h1])
    have p2 : (Go.part 5 (t.map byteV).toArray (i * 1)).run Try.prog w = .ok (byteV t[i]) w := run_part_plain w (by kernel_rfl) (by simp [h2])
    have p3 : (Op.equalIn (d + 1) 5 (byteV s[i]) (byteV t[i])).run Try.prog w = .ok (((s[i].toNat : Nat) : Int) == ((t[i].toNat : Nat) : Int)) w := run_equalIn_int w d 5 .u8 .u8 _ _ Try.underlying5
    have ih := run_items (w := w) d s t is fun j hj => h j (by simp [hj])
    simp only [Op.eqItems, Sem.run_bind, p1, p2, p3, Result.andThen_ok, List.all_cons, List.getElem?_eq_getElem h1, List.getElem?_eq_getElem h2]
    by_cases he : s[i] = t[i]
    · simp [he, ih]
    · have hn : (((s[i].toNat : Nat) : Int) == ((t[i].toNat : Nat) : Int)) = false := by
        rw [beq_eq_false_iff_ne]
        intro e
        exact he (UInt8.toNat_inj.1 (by omega))
      have hn2 : (some s[i] == some t[i]) = false := by simp [he]
      rw [hn, hn2]
      simp
theorem items_all (s t : Bs) (hs : s.length = 32) (ht : t.length = 32) : ((List.range 32).all fun i => s[i]? == t[i]?) = decide (s = t) := by
  by_cases h : s = t
  · subst h
    simp
  · rw [decide_eq_false h, List.all_eq_false]
    have : ∃ i, i < 32 ∧ s[i]? ≠ t[i]? := by
      refine Classical.byContradiction fun hn => h (List.ext_getElem? fun i => ?_)
      by_cases hi : i < 32
      · exact Classical.byContradiction fun hne => hn ⟨i, hi, hne⟩
      · rw [List.getElem?_eq_none (by omega), List.getElem?_eq_none (by omega)]
    obtain ⟨i, hi, hne⟩ := this
    exact ⟨i, List.mem_range.2 hi, by simpa using hne⟩
theorem run_eql_sum (s t : Bs) (hs : s.length = 32) (ht : t.length = 32) (w : World) : (binOp .eql 29 (sumV s) (sumV t)).run Try.prog w = .ok (.bool (decide (s = t))) w := by
  have h := run_equalIn_array (P := Try.prog) w 9999 (s.map byteV).toArray (t.map byteV).toArray Try.underlying29 (i := (Try.prog.info? 5).getD default) (by kernel_rfl)
  rw [show Try.prog.cellsOf 5 = 1 by kernel_rfl, run_items 9998 s t (List.range 32) (fun i hi => by rw [List.mem_range] at hi; omega), items_all s t hs ht] at h
  rw [sumV_cells, sumV_cells, run_eql_struct, h]
  rfl
end Go.Proofs.Ytoflfhjeabpcjaa
