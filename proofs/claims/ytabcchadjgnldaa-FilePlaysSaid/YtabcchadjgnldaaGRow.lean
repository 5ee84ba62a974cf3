/- A row of ints of the call's own, cell by cell. Conditions: none beyond each lemma's own hypotheses. -/
import Derived.Test.YtabcchadjgnldaaGAppend
namespace Go.Proofs.Ytabcchadjgnldaa
open Go.RowKit

section
variable {w : World} {base g n c : Nat} {l : List Int}
theorem Own.block (h : Own w base (.slice (some ⟨g, 0, none⟩) n c) l) : n = l.length ∧ ∃ cur, base ≤ g ∧ Blk w g 3 cur ∧ n ≤ c ∧ c ≤ maxLen ∧ cur.size = c ∧ cur.toList.take n = l.map (Value.int .i64) := by
  rcases h.2 with ⟨h1, _⟩ | ⟨g', cap, cur, h1, hb, hg, hn, hm, hs, ht⟩
  · cases h1
  · injection h1 with e1 e2 e3
    injection e1 with e1
    injection e1 with e1
    subst e1
    subst e3
    subst e2
    exact ⟨rfl, cur, hb, hg, hn, hm, by simpa using hs, by simpa using ht⟩
theorem Own.of_block (hn : n = l.length) {cur : Array Value} (hb : base ≤ g) (hg : Blk w g 3 cur) (hc : n ≤ c) (hm : c ≤ maxLen) (hs : cur.size = c) (ht : cur.toList.take n = l.map (Value.int .i64)) : Own w base (.slice (some ⟨g, 0, none⟩) n c) l := by
  subst hn
  exact ⟨by simp, .inr ⟨g, c, cur, rfl, hb, hg, hc, hm, by simpa using hs, by simpa using ht⟩⟩
theorem Own.at' (h : Own w base (.slice (some ⟨g, 0, none⟩) n c) l) {i : Nat} (hi : i < n) : w.cell? ⟨g, i, none⟩ = some (.int .i64 (l.getD i 0)) := by
  obtain ⟨hn, cur, _, hb, hc, hm, hs, ht⟩ := h.block
  rw [hb.cell i]
  have h1 : (cur.toList.take n)[i]? = (l.map (Value.int .i64))[i]? := by rw [ht]
  rw [List.getElem?_take_of_lt hi, Array.getElem?_toList] at h1
  rw [h1]
  simp [List.getD, show i < l.length by omega]
theorem Own.some' (h : Own w base (.slice (some ⟨g, 0, none⟩) n c) l) {i : Nat} (hi : i < c) : (w.cell? ⟨g, i, none⟩).isSome = true := by
  obtain ⟨hn, cur, _, hb, hc, hm, hs, ht⟩ := h.block
  rw [hb.cell i]
  simp
  omega
theorem Own.free' (h : Own w base (.slice (some ⟨g, 0, none⟩) n c) l) (i : Nat) : w.frozen? ⟨g, i, none⟩ = false := by
  obtain ⟨hn, cur, _, hb, hc, hm, hs, ht⟩ := h.block
  exact hb.free i
theorem Own.set' (h : Own w base (.slice (some ⟨g, 0, none⟩) n c) l) (i : Nat) (y : Int) : Own (w.setCell ⟨g, i, none⟩ (.int .i64 y)) base (.slice (some ⟨g, 0, none⟩) n c) (l.set i y) := by
  obtain ⟨hn, cur, h0, hb, hc, hm, hs, ht⟩ := h.block
  refine Own.of_block (by simpa using hn) h0 (hb.set i _) hc hm (by simpa using hs) ?_
  rw [Array.toList_setIfInBounds, List.take_set, ht, List.map_set]
/-- The row cut to its first i elements, while cells from i on turn. -/
theorem Own.cut' (h : Own w base (.slice (some ⟨g, 0, none⟩) n c) l) {i : Nat} (hi : i ≤ n) : Own w base (.slice (some ⟨g, 0, none⟩) i c) (l.take i) := by
  obtain ⟨hn, cur, h0, hb, hc, hm, hs, ht⟩ := h.block
  refine Own.of_block (by simp; omega) h0 hb (by omega) hm hs ?_
  rw [List.map_take, ← ht, List.take_take]
  congr 1
  omega
theorem Own.setBehind (h : Own w base (.slice (some ⟨g, 0, none⟩) n c) l) {i : Nat} (hi : n ≤ i) (u : Value) : Own (w.setCell ⟨g, i, none⟩ u) base (.slice (some ⟨g, 0, none⟩) n c) l := by
  obtain ⟨hn, cur, h0, hb, hc, hm, hs, ht⟩ := h.block
  refine Own.of_block hn h0 (hb.set i _) hc hm (by simpa using hs) ?_
  rw [Array.toList_setIfInBounds, List.take_set_of_le hi, ht]
end
theorem Own.setCells {base g n c : Nat} {l : List Int} : ∀ (vs : List Value) (i : Nat) (w : World), n ≤ i → Own w base (.slice (some ⟨g, 0, none⟩) n c) l → Own (w.setCells g i vs) base (.slice (some ⟨g, 0, none⟩) n c) l
  | [], _, _, _, h => h
  | v :: r, i, _, hi, h => Own.setCells r (i + 1) _ (by omega) (h.setBehind hi v)
theorem Kept.setCells {S : List Nat} {a : World} {g : Nat} (hg : g ∈ S) : ∀ (vs : List Value) (i : Nat) (w : World), Kept S a w → Kept S a (w.setCells g i vs)
  | [], _, _, h => h
  | v :: r, i, _, h => Kept.setCells hg r (i + 1) _ (h.setCell (p := ⟨g, i, none⟩) (.inl hg) v)

end Go.Proofs.Ytabcchadjgnldaa
