/- The disk's other acts; no condition. -/
import Derived.Test.YtcedpdjjjfdbiaaDisk2
import Derived.Lib.SliceRun
namespace Go.Proofs.Ytcedpdjjjfdbiaa
set_option linter.unusedVariables false
set_option linter.unusedSimpArgs false
open Go.RowKit

def syncD (x : Dk) : Int × Dk :=
  if x.off then (18, x) else if (goesD x).1 then (0, { (goesD x).2 with s := x.l.length }) else (18, { (goesD x).2 with s := x.s + (x.part % (x.l.length - x.s + 1 : Nat)).toNat })

theorem emod_nat (p : Int) (k : Nat) (hk : 0 < k) : ∃ q : Nat, p % (k : Int) = (q : Int) ∧ q < k := by
  have h0 := Int.emod_nonneg p (by omega : (k : Int) ≠ 0)
  have h1 := Int.emod_lt_of_pos p (by omega : (0 : Int) < (k : Int))
  exact ⟨(p % (k : Int)).toNat, (Int.toNat_of_nonneg h0).symm, by omega⟩

/-- Bytes that are the answer's own. -/
def Fresh (w : World) (l : Bs) (e : Ending) (w' : World) : Prop := ∃ v, e = .returned v ∧ OwnB w' v l ∧ Ext (fun _ => False) w w' ∧ ∀ k, v.ownBlock = some k → w.heap.size ≤ k

theorem bytes_clone {w : World} {v : Value} {l : Bs} (hb : OwnB w v l) (hl : l.length ≤ 140737488355328) : Calls Try.prog 73 #[v] w (Fresh w l) := by
  have kn := fun (W : World) (a : Option Addr) (n c : Nat) => Lib.run_eql_slice_nil (P := Try.prog) W 33 5 a n c 0 0 Try.underlying33
  have Hb := Lib.hid hb
  rcases hb with ⟨rfl, rfl⟩ | ⟨g, c, cells, fr, rfl, hg, h1, h2, h3, h4, h5⟩
  ·
    go_enter Try.func73, Try.ntmps73
    go_wp2_with fail
    go_ret
    exact ⟨_, rfl, .inl ⟨rfl, rfl⟩, Ext.refl _ _, fun k hk => by simp [Value.ownBlock] at hk⟩
  · clear hg h1 h2 h3 h4 h5
    go_enter Try.func73, Try.ntmps73
    go_wp2_with (at_builtin; refine Hid.out ?_)
    refine Lib.hid ?_
    have hxa : ∀ o, Ext (fun _ => False) w (w.alloc o) := fun o => (Ext.refl _ _).alloc o
    refine wpList_append_bytes rfl _ _ 33 rfl Try.underlying33 info_u8 (sv := .slice (some ⟨w.heap.size, 0, none⟩) 0 0) (xv := .slice (some ⟨g, 0, none⟩) l.length c) (l := []) rfl rfl
      (.inr ⟨w.heap.size, 0, #[], (0, 0), rfl, heap_alloc_self _ _, Nat.le_refl _, Nat.le_refl _, by decide, fun i hi => by omega, fun j u hu => by simp at hu⟩) (Hb.out.byt.same (hxa _)) (by simpa using hl) ?_
    intro v2 w2 hown2 hx2 hb2
    obtain ⟨A2, c2, hv2, _, _⟩ := hown2.form
    subst hv2
    have hx : Ext (fun _ => False) w w2 := (hxa _).trans' hx2 fun b hb => .inr (by simp [Value.ownBlock] at hb; omega)
    have hb3 : ∀ k, (Value.slice A2 ([] ++ l).length c2).ownBlock = some k → w.heap.size ≤ k := by
      intro k hk
      rcases hb2 with h | ⟨b, h, hle⟩
      · rw [h] at hk; simp [Value.ownBlock] at hk; omega
      · rw [h] at hk; simp at hk hle; omega
    have H := Lib.hid (And.intro hown2 (And.intro hx hb3))
    clear hb2 hx2 hb3 hx hown2
    go_wp2_with fail
    go_ret
    exact ⟨_, rfl, H.out.1, H.out.2.1, H.out.2.2⟩

def keepD (n : Nat) (x : Dk) : Dk := { x with l := x.l.take n, s := n }
def cutD (n : Int) (x : Dk) : Int × Dk :=
  if x.off then (18, x) else if n < 0 ∨ (x.l.length : Int) < n then (1, x) else
  if (goesD x).1 then (0, keepD n.toNat (goesD x).2) else if x.part % 2 ≠ 0 then (18, keepD n.toNat (goesD x).2) else (18, (goesD x).2)

def bootD (k : Int) (x : Dk) : Dk :=
  { keepD (x.s + (k % (x.l.length - x.s + 1 : Nat)).toNat) x with off := false, armed := false, acts := 0, part := 0 }

end Go.Proofs.Ytcedpdjjjfdbiaa
