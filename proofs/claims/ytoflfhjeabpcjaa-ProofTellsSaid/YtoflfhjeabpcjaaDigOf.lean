/- Digests of named rows, and the small case of the digest; no condition. -/
import Derived.Test.YtoflfhjeabpcjaaSumEq
import Derived.Lib.SlBytesConst
namespace Go.Proofs.Ytoflfhjeabpcjaa
set_option linter.unusedVariables false
set_option linter.unusedSimpArgs false
open Go.RowKit

theorem hex_abc : hexB (rawB [97, 98, 99]) = [98, 97, 55, 56, 49, 54, 98, 102, 56, 102, 48, 49, 99, 102, 101, 97, 52, 49, 52, 49, 52, 48, 100, 101, 53, 100, 97, 101, 50, 50, 50, 51, 98, 48, 48, 51, 54, 49, 97, 51, 57, 54, 49, 55, 55, 97, 57, 99, 98, 52, 49, 48, 102, 102, 54, 49, 102, 50, 48, 48, 49, 53, 97, 100] := by decide +kernel
theorem text_xa : textR [120] [[97]] = ([0, 0, 0, 2, 0, 0, 0, 1, 120, 0, 0, 0, 1, 97], 0) := by decide +kernel
theorem results_cell_tmp {P : Program} {fn : Func} {p q : Tmp} {ty : TypeId} (h : fn.results = #[.cell p ty, .tmp q]) (tmps : Array Value) (w : World) (g : Nat) (t : TypeId) (cs : Array Value) (fr : Nat × Nat) (d : TypeDesc)
    (hp : tmps.getD p undef = .pointer (some ⟨g, 0, none⟩)) (hg : w.heap[g]? = some (.cells cs t fr))
    (hu : P.underlying ty = some d) (hd : (match d with | .struct _ | .array _ _ => true | _ => false) = true) (hi : (P.info? ty).map (·.size) = some cs.size) :
    (results fn tmps).run P w = .ok (.tuple #[.agg cs, tmps.getD q undef]) w := by
  have hp' : tmps[p]?.getD undef = .pointer (some ⟨g, 0, none⟩) := by simpa using hp
  simp [results, h, hp', asAddr, run_loadVar_row w g t ty cs fr d hg hu hd hi]

/-- The digest of a named row, and the answer's number. -/
def ofR (nm : Bs) (ls : List Bs) : Bs × Int := if (textR nm ls).2 = 0 then (rawB (textR nm ls).1, 0) else (List.replicate 32 0, (textR nm ls).2)
theorem ofR_len (nm : Bs) (ls : List Bs) : (ofR nm ls).1.length = 32 := by
  unfold ofR
  split
  · exact rawB_len _
  · rfl
theorem textR_num (nm : Bs) (ls : List Bs) : (textR nm ls).2 = 0 ∨ (textR nm ls).2 = 2 := by
  unfold textR
  split
  · exact .inr rfl
  · unfold rowR
    split
    · exact .inl rfl
    · exact .inr rfl
theorem textR_len (nm : Bs) (ls : List Bs) : (textR nm ls).1.length ≤ 268451844 := by
  unfold textR
  split
  · simp
  · exact rowR_len _
theorem zeros_cells : ((List.replicate 32 (0 : UInt8)).map byteV).toArray = #[.int .u8 0, .int .u8 0, .int .u8 0, .int .u8 0, .int .u8 0, .int .u8 0, .int .u8 0, .int .u8 0, .int .u8 0, .int .u8 0, .int .u8 0, .int .u8 0, .int .u8 0, .int .u8 0, .int .u8 0, .int .u8 0, .int .u8 0, .int .u8 0, .int .u8 0, .int .u8 0, .int .u8 0, .int .u8 0, .int .u8 0, .int .u8 0, .int .u8 0, .int .u8 0, .int .u8 0, .int .u8 0, .int .u8 0, .int .u8 0, .int .u8 0, .int .u8 0] := rfl
theorem sum_size (s : Bs) (h : s.length = 32) : ((s.map byteV).toArray).size = 32 := by simp [h]
theorem sum_one (s : Bs) : (((s.map byteV).toArray).all (·.oneCell')) = true := by
  rw [Array.all_eq_true]
  intro k hk
  simp [byteV, Value.oneCell']

set_option maxRecDepth 100000 in
set_option maxHeartbeats 1000000 in
theorem of_walk {w : World} {D : Nat → Prop} {v : Value} {nm : Bs} {ls : List Bs} (hv : Byts D w v ls) (hl : ls.length ≤ 5864062014634) (hnm : nm.length ≤ 9223372036854775807) :
    Calls Try.prog 15 #[str nm, v] w fun e w' => e = .returned (.tuple #[sumV (ofR nm ls).1, .int .i64 (ofR nm ls).2]) ∧ Ext (fun _ => False) w w' := by
  have hx1 : Ext (fun _ => False) w (w.alloc (.cells ((List.replicate 32 (0 : UInt8)).map byteV).toArray 29 (0, 0))) := (Ext.refl _ _).alloc _
  have hs1 : (w.alloc (.cells ((List.replicate 32 (0 : UInt8)).map byteV).toArray 29 (0, 0))).heap[w.heap.size]? = some (.cells ((List.replicate 32 (0 : UInt8)).map byteV).toArray 29 (0, 0)) := heap_alloc_self _ _
  have hT := text_walk (hv.same hx1) hl hnm
  have hlen := textR_len nm ls
  have hof : ofR nm ls = if (textR nm ls).2 = 0 then (rawB (textR nm ls).1, 0) else (List.replicate 32 0, (textR nm ls).2) := rfl
  have hnum := textR_num nm ls
  unfold TextPost at hT
  generalize textR nm ls = tr at *
  obtain ⟨tx, tn⟩ := tr
  dsimp only at hT hlen hof hnum
  have H1 := Lib.hid (And.intro hT (And.intro hx1 (And.intro hs1 (And.intro hof hlen))))
  clear hT hx1 hs1 hof hlen hv
  go_enter Try.func15, Try.ntmps15
  go_wp2_with fail
  refine H1.out.1.mono ?_
  rintro e w2 ⟨v2, rfl, h2⟩
  have hs2 := h2.ext.heap H1.out.2.2.1 id
  have hx2 := H1.out.2.1.trans h2.ext
  have H2 := Lib.hid (And.intro h2 (And.intro hs2 hx2))
  clear h2 hs2 hx2
  rcases hnum with rfl | rfl
  · have hR := raw_walk H2.out.1.byt (by have := H1.out.2.2.2.2; omega)
    have HR := Lib.hid hR
    clear hR
    go_wp2_with fail
    refine HR.out.mono ?_
    rintro e w3 ⟨rfl, hx3⟩
    have hs3 := hx3.heap H2.out.2.1 id
    have H3 := Lib.hid (And.intro hs3 (H2.out.2.2.trans hx3))
    clear hs3 hx3 HR
    rw [sumV_cells]
    have hcz := sum_size (rawB tx) (rawB_len _)
    have hco := sum_one (rawB tx)
    have hce : ((rawB tx).map byteV).toArray = ((rawB tx).map byteV).toArray := rfl
    generalize hcs : ((rawB tx).map byteV).toArray = cs at *
    have Hc := Lib.hid (And.intro hcz (And.intro hco hcs))
    clear hcz hco hcs hce
    go_wp2_with (refine wpList_store_row rfl 29 _ _ rfl w.heap.size cs rfl rfl 29 _ H3.out.1 (by rw [Hc.out.1]; kernel_rfl) (by rw [Hc.out.1]; rfl) Hc.out.2.1 ?_)
    refine bodyPost_ret (results_cell_tmp rfl _ _ w.heap.size 29 cs (0, 0) _ rfl (setRow_heap _ _ _ _ _ _ H3.out.1) Try.underlying29 rfl (by rw [Hc.out.1]; kernel_rfl)) rfl ?_
    refine ⟨?_, H3.out.2.setRow (.inr (Nat.le_refl _)) _⟩
    rw [H1.out.2.2.2.1]
    simp only [if_true]
    rw [sumV_cells, Hc.out.2.2]
    rfl
  · go_wp2_with (refine wpList_store_row rfl 29 _ _ rfl w.heap.size _ rfl rfl 29 _ H2.out.2.1 (by kernel_rfl) (by kernel_rfl) (by kernel_rfl) ?_)
    refine bodyPost_ret (results_cell_tmp rfl _ _ w.heap.size 29 _ (0, 0) _ rfl (setRow_heap _ _ _ _ _ _ H2.out.2.1) Try.underlying29 rfl (by kernel_rfl)) rfl ?_
    refine ⟨?_, H2.out.2.2.setRow (.inr (Nat.le_refl _)) _⟩
    rw [H1.out.2.2.2.1, if_neg (by decide), sumV_cells, zeros_cells]
    rfl
theorem byt_const {w : World} {g : Nat} {l : Bs} {t : TypeId} {fr : Nat × Nat} {cs : Array Value} (h : w.heap[g]? = some (.cells cs t fr)) (hc : cs = (l.map byteV).toArray) (n : Nat) (hn : n = l.length) :
    Byt (fun b => b = g) w (.slice (some ⟨g, 0, none⟩) n n) l := by
  subst hc hn
  refine ⟨_, _, rfl, Nat.le_refl _, fun _ => ⟨_, rfl, rfl, fun j u hu => ?_⟩⟩
  have ha : (⟨g, 0, none⟩ : Addr).add j = ⟨g, j, none⟩ := by unfold Addr.add; split <;> simp_all
  rw [ha]
  simp [World.cell?, h, hu, byteV]
end Go.Proofs.Ytoflfhjeabpcjaa
