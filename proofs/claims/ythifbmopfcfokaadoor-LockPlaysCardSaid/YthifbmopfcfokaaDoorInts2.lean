/- Slices of ints held against each other, copied: the reference's SameInts, slices.Clone.
   Conditions: each slice reads as its list; it has no more elements than a list that memory can hold. -/
import Derived.Test.YthifbmopfcfokaaDoorInts
import Derived.WalkLawsBesides
namespace Go.Proofs.YthifbmopfcfokaaDoor
open Go.RowKit

/-- A slice of ints of the call's own: v owns a row of the numbers l, in a block from base on. -/
def Own (w : World) (base : Nat) (v : Value) (l : List Int) : Prop := w.ownsRow base 3 1 v l.length (l.map (Value.int .i64))
theorem info_int : (Tryd.prog.info? 3).map (fun i => (i.zero, i.size, i.bytes)) = some (some (.int .i64 0), 1, 8) := by kernel_rfl

theorem Own.nil (w : World) (base : Nat) : Own w base (.slice none 0 0) [] := World.ownsRow_nil w base _ _
theorem Own.shape {w : World} {base : Nat} {v : Value} {l : List Int} (h : Own w base v l) : ∃ A c, v = .slice A l.length c ∧ l.length ≤ maxLen ∧ Rd w A l.length (ints l) ∧ v.ownBlock = A.map (·.block) := by
  rcases h.2 with ⟨rfl, h0⟩ | ⟨g, cap, cur, rfl, _, hg, hn, hm, hs, ht⟩
  · exact ⟨none, 0, by rw [h0], by rw [h0]; exact Nat.zero_le _, by rw [h0]; exact Rd.zero _ _ _, rfl⟩
  · refine ⟨_, cap, rfl, Nat.le_trans hn hm, fun k hk => ⟨g, 0, rfl, (Array.getElem?_eq_some_iff.1 hg).1, ?_⟩, rfl⟩
    have hc := h.cells (g := g) rfl k (.int .i64 (l.getD k 0)) (by simp [List.getD, hk])
    rw [Addr.add_lit] at hc
    exact hc
theorem Own.lt {w : World} {base : Nat} {v : Value} {l : List Int} (h : Own w base v l) : ∀ k, v.ownBlock = some k → base ≤ k ∧ k < w.heap.size := World.ownsRow.lt h
theorem Own.kept {w w' : World} {base : Nat} {v : Value} {l : List Int} {S : List Nat} (h : Own w base v l) (k : Kept S w w') (hs : ∀ b, v.ownBlock = some b → b ∉ S) : Own w' base v l := by
  refine ⟨h.1, ?_⟩
  rcases h.2 with hn | ⟨g, cap, cur, rfl, hb, hg, rest⟩
  · exact .inl hn
  · exact .inr ⟨g, cap, cur, rfl, hb, (k.block g (Array.getElem?_eq_some_iff.1 hg).1 (hs g rfl)).trans hg, rest⟩
theorem Own.kept0 {w w' : World} {base : Nat} {v : Value} {l : List Int} (h : Own w base v l) (k : Kept [] w w') : Own w' base v l := h.kept k (by simp)
theorem Own.drewN {w : World} {base : Nat} {v : Value} {l : List Int} (h : Own w base v l) (n : Nat) : Own (w.drewN n) base v l := h
theorem Own.base {w : World} {base base' : Nat} {v : Value} {l : List Int} (h : Own w base v l) (hb : base' ≤ base) : Own w base' v l := by
  refine ⟨h.1, ?_⟩
  rcases h.2 with hn | ⟨g, cap, cur, rfl, hg, rest⟩
  · exact .inl hn
  · exact .inr ⟨g, cap, cur, rfl, Nat.le_trans hb hg, rest⟩

theorem same_step {a b : List Int} {k n : Nat} (ha : a.length = n) (hb : b.length = n) (hk : k < n) (ht : a.take k = b.take k) (he : a.getD k 0 = b.getD k 0) : a.take (k + 1) = b.take (k + 1) := by
  rw [List.take_succ_eq_append_getElem (by omega), List.take_succ_eq_append_getElem (by omega), ht]
  congr 2
  simpa [List.getD, ha, hb, hk] using he

section
variable (A B : Option Addr) (n m c d : Nat) (a b : List Int) (w : World)
theorem rd_news {w w' : World} {ad : Addr} {n : Nat} {l : List Int} (hl : l.length = n) (hr : Rd w (some ad) n (ints l)) (hk : Kept [] w w') : ∀ j u, (l.map (Value.int .i64))[j]? = some u → w'.cell? (ad.add j) = some u := by
  intro j u hu
  have hj : j < n := by
    have := (List.getElem?_eq_some_iff.1 hu).1
    simpa [hl] using this
  obtain ⟨bl, off, h1, _, hc⟩ := (hr.kept0 hk) j hj
  have h1 := Option.some.inj h1
  subst h1
  rw [Addr.add_lit, hc]
  simp [hl, hj] at hu
  simp [ints, List.getD, hl, hj, ← hu]
theorem one_cell (l : List Int) : ∀ u ∈ l.map (Value.int .i64), u.oneCell' = true := by
  intro u hu
  obtain ⟨_, _, rfl⟩ := List.mem_map.1 hu
  rfl

theorem eql_nil_ints (X : Option Addr) (x y : Nat) (W : World) : (binOp .eql 36 (.slice X x y) (.slice none 0 0)).run Tryd.prog W = .ok (.bool X.isNone) W := by
  simp only [binOp]
  simp [run_equal_slice_nil W 36 3 X x y Tryd.underlying36]

end
end Go.Proofs.YthifbmopfcfokaaDoor
