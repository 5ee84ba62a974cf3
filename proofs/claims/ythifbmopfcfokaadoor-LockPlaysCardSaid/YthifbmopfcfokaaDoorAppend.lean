/- append onto a slice of ints of the call's own, whatever is appended; as a step of a list of operations and of a region that draws its order.
   Conditions: the row and what is appended have at most 65536 elements together. -/
import Derived.Test.YthifbmopfcfokaaDoorInts2
import Derived.Maps.AppendAt
import Derived.Deep.RegionLaw
namespace Go.Proofs.YthifbmopfcfokaaDoor
open Go.RowKit

/-- The blocks that a value of the call's own lies in. -/
def blk (v : Value) : List Nat := v.ownBlock.toList
theorem blk_mem {v : Value} {b : Nat} (h : v.ownBlock = some b) : b ∈ blk v := by simp [blk, h]
theorem mem_blk {v : Value} {b : Nat} (h : b ∈ blk v) : v.ownBlock = some b := by simpa [blk] using h
theorem Kept.grown' {S : List Nat} {a w w' : World} {v : Value} (h : Kept S a w) (hg : w.grownBy w' v.ownBlock) (hr : ∀ k, v.ownBlock = some k → k ∈ S ∨ a.heap.size ≤ k) : Kept S a w' := h.grown hg hr

section
variable {w : World}
theorem run_app (base : Nat) (ty : TypeId) (v : Value) (l : List Int) (hown : Own w base v l) (X : Option Addr) (m c : Nat) (news : List Int) (hc : X = none → c = 0) (hl : news.length = m) (hr : Rd w X m (ints news)) (hlen : l.length + m ≤ 65536) (hbase : base ≤ w.heap.size) :
    ∃ v' w', (Builtin.append_ #[36, 36] ty #[v, .slice X m c]).run Tryd.prog w = .ok v' w' ∧ Own w' base v' (l ++ news) ∧ Kept (blk v) w w' ∧ (v'.ownBlock = v.ownBlock ∨ v'.ownBlock = some w.heap.size) := by
  obtain ⟨i0, hi0, hz0, hz1, hz2⟩ := info_parts info_int
  cases X with
  | none =>
    have h0 : m = 0 := by
      rcases Nat.eq_zero_or_pos m with h | h
      · exact h
      · obtain ⟨_, _, h, _⟩ := hr 0 h
        cases h
    subst h0
    obtain rfl := List.eq_nil_of_length_eq_zero hl
    obtain rfl := hc rfl
    exact ⟨v, w, run_append_owned_none w base 36 ty 3 i0 1 Tryd.underlying36 hi0 v l.length _ hown, by simpa using hown, Kept.refl _ _, .inl rfl⟩
  | some ad =>
    obtain ⟨v', w', hrun, ho, hg, _, hat⟩ := run_append_own_at (P := Tryd.prog) w base 36 ty 3 i0 (.int .i64 0) 1 8 Tryd.underlying36 hi0 hz0 hz1 hz2 rfl (by decide) v l.length _ hown ad m c (news.map (Value.int .i64)) (by simp [hl]) (rd_news hl hr (Kept.refl _ _)) (one_cell news) (by simp only [maxLen]; omega) (by omega) hbase
    exact ⟨v', w', hrun, by simpa [Own, hl] using ho, (Kept.refl _ _).grown hg (fun k hk => .inl (blk_mem hk)), hat⟩

variable {ops : Array Oper} {rest : List Oper} {o : Oper} {a : Act} {Q : Exit → Act → World → Prop}
theorem wp_app {K : Act → World → Prop} (s x : Operand) (ho : o.op = .call { callee := .builtin .append, args := #[s, x], argTypes := #[36, 36] })
    (base : Nat) (v : Value) (l : List Int) (hs : a.eval s = v) (hown : Own w base v l) (X : Option Addr) (m c : Nat) (news : List Int) (hx : a.eval x = .slice X m c) (hc : X = none → c = 0) (hl : news.length = m) (hr : Rd w X m (ints news))
    (hlen : l.length + m ≤ 65536) (hbase : base ≤ w.heap.size)
    (h : ∀ v' w', Own w' base v' (l ++ news) → Kept (blk v) w w' → (v'.ownBlock = v.ownBlock ∨ v'.ownBlock = some w.heap.size) → K (a.put o.dst v') w') : o.wp Tryd.prog a w K Q := by
  obtain ⟨v', w', hrun, h2, h3, h4⟩ := run_app base o.type v l hown X m c news hc hl hr hlen hbase
  unfold Oper.wp execOp
  simp only [ho, resolve, invoke, builtin, Sem.run_bind, Sem.run_pure, Result.andThen_ok, List.map_toArray, List.map_cons, List.map_nil, hs, hx, hrun]
  exact h v' w' h2 h3 h4
theorem wpList_app (hgd : o.guard = none) (s x : Operand) (ho : o.op = .call { callee := .builtin .append, args := #[s, x], argTypes := #[36, 36] })
    (base : Nat) (v : Value) (l : List Int) (hs : a.eval s = v) (hown : Own w base v l) (X : Option Addr) (m c : Nat) (news : List Int) (hx : a.eval x = .slice X m c) (hc : X = none → c = 0) (hl : news.length = m) (hr : Rd w X m (ints news))
    (hlen : l.length + m ≤ 65536) (hbase : base ≤ w.heap.size)
    (h : ∀ v' w', Own w' base v' (l ++ news) → Kept (blk v) w w' → (v'.ownBlock = v.ownBlock ∨ v'.ownBlock = some w.heap.size) → wpList Tryd.prog ops Q rest (a.put o.dst v') w') : wpList Tryd.prog ops Q (o :: rest) a w :=
  wpList_plain hgd fun _ hK => wp_app s x ho base v l hs hown X m c news hx hc hl hr hlen hbase fun v' w' h2 h3 h4 => hK _ _ (h v' w' h2 h3 h4)
theorem step_app {K : Act → World → Prop} {E : Prop} (hgd : o.guard = none) (s x : Operand) (ho : o.op = .call { callee := .builtin .append, args := #[s, x], argTypes := #[36, 36] })
    (base : Nat) (v : Value) (l : List Int) (hs : a.eval s = v) (hown : Own w base v l) (X : Option Addr) (m c : Nat) (news : List Int) (hx : a.eval x = .slice X m c) (hc : X = none → c = 0) (hl : news.length = m) (hr : Rd w X m (ints news))
    (hlen : l.length + m ≤ 65536) (hbase : base ≤ w.heap.size)
    (h : ∀ v' w', Own w' base v' (l ++ news) → Kept (blk v) w w' → (v'.ownBlock = v.ownBlock ∨ v'.ownBlock = some w.heap.size) → K (a.put o.dst v') w') : if Region.wanted o (yielded ops a.tmps) = true then Oper.wp Tryd.prog o a w K Q else E := by
  have hw : Region.wanted o (yielded ops a.tmps) = true := by simp [Region.wanted, hgd]
  rw [if_pos hw]
  exact wp_app s x ho base v l hs hown X m c news hx hc hl hr hlen hbase h
end

theorem rd_one (w : World) (x : Int) (t : TypeId) : Rd (w.alloc (.cells #[.int .i64 x] t)) (some ⟨w.heap.size, 0, none⟩) 1 (ints [x]) := by
  intro k hk
  obtain rfl : k = 0 := by omega
  exact ⟨w.heap.size, 0, rfl, by simp, (Blk.new w t _).cell 0⟩
end Go.Proofs.YthifbmopfcfokaaDoor
