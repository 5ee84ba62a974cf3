/- Steps that came in: each one's kind, process, slot, version. Conditions: none beyond each lemma's own hypotheses. -/
import Derived.Test.YthifbmopfcfokaaDoorLaw
import Derived.Deep.Slices
import Derived.Deep.Fields
import Derived.Deep.Grids
import Derived.ChangeArms
namespace Go.Proofs.YthifbmopfcfokaaDoor
open Go.RowKit Go.ChangeShapes Go.WideShapes Go.Deep

theorem i64_of_wf {x : Int} (h : (Lit.int .i64 x).wf = true) : -9223372036854775808 ≤ x ∧ x < 9223372036854775808 := by
  simp [Lit.wf, IntKind.min, IntKind.max, IntKind.signed, IntKind.bits] at h
  exact ⟨by omega, by omega⟩
/-- The slice at A reads, up to n, as steps. -/
def StepsL (W : World) (A : Option Addr) (n : Nat) : Prop := ∀ k, k < n → ∃ (bl off : Nat) (wh pl sl tx : Int), A = some ⟨bl, off, none⟩ ∧ bl < W.heap.size ∧
  W.cell? ⟨bl, off + k * 4, none⟩ = some (.int .i64 wh) ∧ W.cell? ⟨bl, off + k * 4 + 1, none⟩ = some (.int .i64 pl) ∧ W.cell? ⟨bl, off + k * 4 + 2, none⟩ = some (.int .i64 sl) ∧ W.cell? ⟨bl, off + k * 4 + 3, none⟩ = some (.int .u64 tx) ∧ pl < 9223372036854775808 ∧ 0 ≤ tx ∧ tx < 18446744073709551616

set_option maxRecDepth 100000 in
theorem open_stepsL {H : Type} {enc : TypeId × Value → H} {W : World} {fuel : Nat} {cs : List Value} {x : DataW H × List MemPlace} (h : DataW.trod enc Tryd.prog W 0 (fun _ => true) true fuel 22 cs = some x) :
    ∃ A len cap, cs = [.slice A len cap] ∧ len ≤ maxLen ∧ StepsL W A len := by
  rcases open_slice Tryd.underlying22 h with ⟨rfl, _⟩ | ⟨a, len, cap, m, n, D, Pl, rfl, _, hl, hm, hmm, _, hi⟩
  · exact ⟨none, 0, 0, rfl, by simp [maxLen], fun k hk => absurd hk (by omega)⟩
  simp only [if_true] at hmm
  refine ⟨some a, len, cap, rfl, by omega, fun k hk => ?_⟩
  have h4 : Tryd.prog.cellsOf 40 = 4 := by kernel_rfl
  obtain ⟨cs', hc, ht⟩ := hi k (by omega)
  rw [h4] at hc
  obtain ⟨xs, n', _, _, hlen, hxl, hf⟩ := DataW.trod_struct Tryd.underlying40 ht
  obtain ⟨_, hcl, hat⟩ := World.cells?_some hc
  obtain ⟨c0, c1, c2, c3, rfl⟩ : ∃ c0 c1 c2 c3, cs' = [c0, c1, c2, c3] := by
    match cs', hcl with
    | [c0, c1, c2, c3], _ => exact ⟨c0, c1, c2, c3, rfl⟩
  obtain ⟨y0, y1, y2, y3, rfl⟩ : ∃ y0 y1 y2 y3, xs = [y0, y1, y2, y3] := by
    match xs, hxl with
    | [y0, y1, y2, y3], _ => exact ⟨y0, y1, y2, y3, rfl⟩
  have o1 : Tryd.prog.cellsOf 3 = 1 := by kernel_rfl
  have o2 : Tryd.prog.cellsOf 23 = 1 := by kernel_rfl
  have f0 : DataW.trod enc Tryd.prog W 0 (fun _ => true) true n' 3 [c0] = some y0 := by
    have h := hf 0 _ rfl
    change DataW.trod enc Tryd.prog W 0 (fun _ => true) true n' 3 (List.take (Tryd.prog.cellsOf 3) [c0, c1, c2, c3]) = some y0 at h
    rw [o1] at h
    exact h
  have f1 : DataW.trod enc Tryd.prog W 0 (fun _ => true) true n' 3 [c1] = some y1 := by
    have h := hf 1 _ rfl
    change DataW.trod enc Tryd.prog W 0 (fun _ => true) true n' 3 (List.take (Tryd.prog.cellsOf 3) [c1, c2, c3]) = some y1 at h
    rw [o1] at h
    exact h
  have f2 : DataW.trod enc Tryd.prog W 0 (fun _ => true) true n' 3 [c2] = some y2 := by
    have h := hf 2 _ rfl
    change DataW.trod enc Tryd.prog W 0 (fun _ => true) true n' 3 (List.take (Tryd.prog.cellsOf 3) [c2, c3]) = some y2 at h
    rw [o1] at h
    exact h
  have f3 : DataW.trod enc Tryd.prog W 0 (fun _ => true) true n' 23 [c3] = some y3 := by
    have h := hf 3 _ rfl
    change DataW.trod enc Tryd.prog W 0 (fun _ => true) true n' 23 (List.take (Tryd.prog.cellsOf 23) [c3]) = some y3 at h
    rw [o2] at h
    exact h
  obtain ⟨wh, e0, _, _⟩ := DataW.trod_int Tryd.underlying3 f0
  obtain ⟨pl, e1, _, hp⟩ := DataW.trod_int Tryd.underlying3 f1
  obtain ⟨sl, e2, _, _⟩ := DataW.trod_int Tryd.underlying3 f2
  obtain ⟨tx, e3, _, htx⟩ := DataW.trod_int Tryd.underlying23 f3
  cases e0
  cases e1
  cases e2
  cases e3
  have a0 := hat 0 (by omega)
  have a1 := hat 1 (by omega)
  have a2 := hat 2 (by omega)
  have a3 := hat 3 (by omega)
  obtain ⟨bl, off, spot⟩ := a
  have hspot : spot = none := by
    obtain ⟨cs0, hc0, _⟩ := hi 0 (by omega)
    rw [h4] at hc0
    obtain ⟨_, hl0, hat0⟩ := World.cells?_some hc0
    have h0 := hat0 0 (by omega)
    have hs0 : cs0[0]? = some (cs0[0]'(by omega)) := List.getElem?_eq_getElem (by omega)
    rw [hs0] at h0
    simpa [Addr.add] using World.cell?_spot h0
  subst hspot
  simp only [Addr.add_lit] at a0 a1 a2 a3
  exact ⟨bl, off, wh, pl, sl, tx, rfl, World.block_lt_of_cell? W _ a0, a0, a1, a2, a3, (i64_of_wf hp).2, (u64_of_wf htx).1, (u64_of_wf htx).2⟩
end Go.Proofs.YthifbmopfcfokaaDoor
