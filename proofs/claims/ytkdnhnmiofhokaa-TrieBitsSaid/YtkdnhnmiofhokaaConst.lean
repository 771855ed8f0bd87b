/- Constant bytes laid out; no condition. -/
import Derived.Test.YtkdnhnmiofhokaaOpens
import Derived.Lib.SlBytesConst
namespace Go.Proofs.Ytkdnhnmiofhokaa
set_option linter.unusedVariables false
set_option linter.unusedSimpArgs false
open Go.RowKit

theorem Byt.const {w : World} {g : Nat} {l : Bs} {t : TypeId} {fr : Nat × Nat} {cs : Array Value} (h : w.heap[g]? = some (.cells cs t fr)) (hc : cs = (l.map fun c => Value.int .u8 c.toNat).toArray) (n : Nat) (hn : n = l.length) :
    Byt (fun b => b = g) w (.slice (some ⟨g, 0, none⟩) n n) l := by
  subst hc hn
  refine ⟨_, _, rfl, Nat.le_refl _, fun _ => ⟨_, rfl, rfl, fun j u hu => ?_⟩⟩
  have ha : (⟨g, 0, none⟩ : Addr).add j = ⟨g, j, none⟩ := by unfold Addr.add; split <;> simp_all
  rw [ha]
  simp [World.cell?, h, hu]

end Go.Proofs.Ytkdnhnmiofhokaa
