/- Steps that came in: each one's kind, place, text, what is kept. Conditions: none beyond each lemma's own hypotheses. -/
import Derived.Test.YtabcchadjgnldaaFKnown
import Derived.Test.YtabcchadjgnldaaLaw
import Derived.Deep.Slices
import Derived.Deep.Fields
import Derived.Deep.Grids
import Derived.ChangeArms
namespace Go.Proofs.Ytabcchadjgnldaa
open Go.RowKit Go.ChangeShapes Go.WideShapes Go.Deep

/-- The slice at A reads, up to n, as steps. -/
def StepsAt (W : World) (A : Option Addr) (n : Nat) : Prop := ∀ k, k < n → ∃ (bl off : Nat) (wh pl : Int) (sx : ByteArray) (kA : Option Addr) (kn kc : Nat) (kf : Nat → Bool), A = some ⟨bl, off, none⟩ ∧ bl < W.heap.size ∧
  W.cell? ⟨bl, off + k * 4, none⟩ = some (.int .i64 wh) ∧ W.cell? ⟨bl, off + k * 4 + 1, none⟩ = some (.int .i64 pl) ∧ W.cell? ⟨bl, off + k * 4 + 2, none⟩ = some (.string sx) ∧ W.cell? ⟨bl, off + k * 4 + 3, none⟩ = some (.slice kA kn kc) ∧ Rd W kA kn (bols kf) ∧ kn ≤ maxLen ∧ sx.size ≤ maxLen

theorem open_steps {H : Type} {enc : TypeId × Value → H} {W : World} {fuel : Nat} {cs : List Value} {x : DataW H × List MemPlace} (h : DataW.trod enc Try.prog W 0 (fun _ => true) true fuel 23 cs = some x) :
    ∃ A len cap, cs = [.slice A len cap] ∧ len ≤ maxLen ∧ StepsAt W A len := by
  rcases open_slice Try.underlying23 h with ⟨rfl, _⟩ | ⟨a, len, cap, m, n, D, Pl, rfl, _, hl, hm, hmm, _, hi⟩
  · exact ⟨none, 0, 0, rfl, by simp [maxLen], fun k hk => absurd hk (by omega)⟩
  simp only [if_true] at hmm
  refine ⟨some a, len, cap, rfl, by omega, fun k hk => ?_⟩
  have h4 : Try.prog.cellsOf 31 = 4 := by kernel_rfl
  obtain ⟨cs', hc, ht⟩ := hi k (by omega)
  rw [h4] at hc
  obtain ⟨xs, n', _, _, hlen, hxl, hf⟩ := DataW.trod_struct Try.underlying31 ht
  obtain ⟨_, hcl, hat⟩ := World.cells?_some hc
  obtain ⟨c0, c1, c2, c3, rfl⟩ : ∃ c0 c1 c2 c3, cs' = [c0, c1, c2, c3] := by
    match cs', hcl with
    | [c0, c1, c2, c3], _ => exact ⟨c0, c1, c2, c3, rfl⟩
  obtain ⟨y0, y1, y2, y3, rfl⟩ : ∃ y0 y1 y2 y3, xs = [y0, y1, y2, y3] := by
    match xs, hxl with
    | [y0, y1, y2, y3], _ => exact ⟨y0, y1, y2, y3, rfl⟩
  have one : ∀ t, t ∈ [3, 9, 29] → Try.prog.cellsOf t = 1 := by
    intro t ht
    simp at ht
    rcases ht with rfl | rfl | rfl <;> (show _ = _; kernel_rfl)
  have f0 : DataW.trod enc Try.prog W 0 (fun _ => true) true n' 3 [c0] = some y0 := by
    have h := hf 0 _ rfl
    change DataW.trod enc Try.prog W 0 (fun _ => true) true n' 3 (List.take (Try.prog.cellsOf 3) [c0, c1, c2, c3]) = some y0 at h
    rw [one 3 (by simp)] at h
    exact h
  have f1 : DataW.trod enc Try.prog W 0 (fun _ => true) true n' 3 [c1] = some y1 := by
    have h := hf 1 _ rfl
    change DataW.trod enc Try.prog W 0 (fun _ => true) true n' 3 (List.take (Try.prog.cellsOf 3) [c1, c2, c3]) = some y1 at h
    rw [one 3 (by simp)] at h
    exact h
  have f2 : DataW.trod enc Try.prog W 0 (fun _ => true) true n' 9 [c2] = some y2 := by
    have h := hf 2 _ rfl
    change DataW.trod enc Try.prog W 0 (fun _ => true) true n' 9 (List.take (Try.prog.cellsOf 9) [c2, c3]) = some y2 at h
    rw [one 9 (by simp)] at h
    exact h
  have f3 : DataW.trod enc Try.prog W 0 (fun _ => true) true n' 29 [c3] = some y3 := by
    have h := hf 3 _ rfl
    change DataW.trod enc Try.prog W 0 (fun _ => true) true n' 29 (List.take (Try.prog.cellsOf 29) [c3]) = some y3 at h
    rw [one 29 (by simp)] at h
    exact h
  obtain ⟨wh, e0, _, _⟩ := DataW.trod_int Try.underlying3 f0
  obtain ⟨pl, e1, _, _⟩ := DataW.trod_int Try.underlying3 f1
  obtain ⟨sx, e2, _, hsz⟩ := DataW.trod_string Try.underlying9 f2
  cases e0
  cases e1
  cases e2
  have a0 := hat 0 (by omega)
  have a1 := hat 1 (by omega)
  have a2 := hat 2 (by omega)
  have a3 := hat 3 (by omega)
  obtain ⟨bl, off, spot⟩ := a
  have hspot : spot = none := by
    obtain ⟨cs0, hc0, _⟩ := hi 0 (by omega)
    rw [h4] at hc0
    obtain ⟨_, hl0, hat0⟩ := World.cells?_some hc0
    have h0 := hat0 0 (by omega)
    have hs0 : cs0[0]? = some (cs0[0]'(by omega)) := List.getElem?_eq_getElem (by omega)
    rw [hs0] at h0
    simpa [Addr.add] using World.cell?_spot h0
  subst hspot
  simp only [Addr.add_lit] at a0 a1 a2 a3
  have hkeep : ∃ kA kn kc kf, c3 = .slice kA kn kc ∧ Rd W kA kn (bols kf) ∧ kn ≤ maxLen := by
    rcases open_bools Try.underlying29 Try.underlying4 (by kernel_rfl) f3 with ⟨e3, _⟩ | ⟨a', len', cap', B, e3, _, hl', hm', _, hB⟩
    · cases e3
      exact ⟨none, 0, 0, fun _ => false, rfl, Rd.zero _ _ _, by simp [maxLen]⟩
    · cases e3
      refine ⟨some a', len', cap', B, rfl, fun i hi => ?_, by omega⟩
      have hb := hB i (by omega)
      obtain ⟨bl', off', spot'⟩ := a'
      have hspot : spot' = none := by simpa [Addr.add] using World.cell?_spot (hB 0 (by omega))
      subst hspot
      rw [Addr.add_lit] at hb
      exact ⟨bl', off', rfl, World.block_lt_of_cell? W _ hb, hb⟩
  obtain ⟨kA, kn, kc, kf, rfl, hk1, hk2⟩ := hkeep
  exact ⟨bl, off, wh, pl, sx, kA, kn, kc, kf, rfl, World.block_lt_of_cell? W _ a0, a0, a1, a2, a3, hk1, hk2, hsz⟩

theorem StepsAt.kept0 {w w' : World} {A : Option Addr} {n : Nat} (h : StepsAt w A n) (k : Kept [] w w') : StepsAt w' A n := fun i hi => by
  obtain ⟨bl, off, wh, pl, sx, kA, kn, kc, kf, rfl, hb, a0, a1, a2, a3, hr, hk, hs⟩ := h i hi
  have hbl := k.block bl hb (by simp)
  exact ⟨bl, off, wh, pl, sx, kA, kn, kc, kf, rfl, Nat.lt_of_lt_of_le hb k.size, (World.cell?_of_block hbl).trans a0, (World.cell?_of_block hbl).trans a1, (World.cell?_of_block hbl).trans a2, (World.cell?_of_block hbl).trans a3, hr.kept0 k, hk, hs⟩
end Go.Proofs.Ytabcchadjgnldaa
