/- Rows of bools of the call's own: read, appended to. Conditions: rows of at most 65536. -/
import Derived.Test.YtabcchadjgnldaaGStr
namespace Go.Proofs.Ytabcchadjgnldaa
open Go.RowKit

/-- A list of bools, element by element. -/
def bls (l : List Bool) (k : Nat) : Value := .bool (l.getD k false)
/-- A slice of bools of the call's own. -/
def OwnB (w : World) (base : Nat) (v : Value) (l : List Bool) : Prop := w.ownsRow base 4 1 v l.length (l.map (Value.bool))
theorem info_bl : (Try.prog.info? 4).map (fun i => (i.zero, i.size, i.bytes)) = some (some (.bool false), 1, 1) := by kernel_rfl

theorem OwnB.nil (w : World) (base : Nat) : OwnB w base (.slice none 0 0) [] := World.ownsRow_nil w base _ _
theorem OwnB.shape {w : World} {base : Nat} {v : Value} {l : List Bool} (h : OwnB w base v l) : ∃ A c, v = .slice A l.length c ∧ l.length ≤ maxLen ∧ Rd w A l.length (bls l) ∧ v.ownBlock = A.map (·.block) := by
  rcases h.2 with ⟨rfl, h0⟩ | ⟨g, cap, cur, rfl, _, hg, hn, hm, hs, ht⟩
  · exact ⟨none, 0, by rw [h0], by rw [h0]; exact Nat.zero_le _, by rw [h0]; exact Rd.zero _ _ _, rfl⟩
  · refine ⟨_, cap, rfl, Nat.le_trans hn hm, fun k hk => ⟨g, 0, rfl, (Array.getElem?_eq_some_iff.1 hg).1, ?_⟩, rfl⟩
    have hc := h.cells (g := g) rfl k (.bool (l.getD k false)) (by simp [List.getD, hk])
    rw [Addr.add_lit] at hc
    exact hc
theorem OwnB.lt {w : World} {base : Nat} {v : Value} {l : List Bool} (h : OwnB w base v l) : ∀ k, v.ownBlock = some k → base ≤ k ∧ k < w.heap.size := World.ownsRow.lt h
theorem OwnB.kept {w w' : World} {base : Nat} {v : Value} {l : List Bool} {S : List Nat} (h : OwnB w base v l) (k : Kept S w w') (hs : ∀ b, v.ownBlock = some b → b ∉ S) : OwnB w' base v l := by
  refine ⟨h.1, ?_⟩
  rcases h.2 with hn | ⟨g, cap, cur, rfl, hb, hg, rest⟩
  · exact .inl hn
  · exact .inr ⟨g, cap, cur, rfl, hb, (k.block g (Array.getElem?_eq_some_iff.1 hg).1 (hs g rfl)).trans hg, rest⟩
theorem OwnB.kept0 {w w' : World} {base : Nat} {v : Value} {l : List Bool} (h : OwnB w base v l) (k : Kept [] w w') : OwnB w' base v l := h.kept k (by simp)
theorem OwnB.drewN {w : World} {base : Nat} {v : Value} {l : List Bool} (h : OwnB w base v l) (n : Nat) : OwnB (w.drewN n) base v l := h
theorem OwnB.base {w : World} {base base' : Nat} {v : Value} {l : List Bool} (h : OwnB w base v l) (hb : base' ≤ base) : OwnB w base' v l := by
  refine ⟨h.1, ?_⟩
  rcases h.2 with hn | ⟨g, cap, cur, rfl, hg, rest⟩
  · exact .inl hn
  · exact .inr ⟨g, cap, cur, rfl, Nat.le_trans hb hg, rest⟩

theorem rd_newsB {w w' : World} {ad : Addr} {n : Nat} {l : List Bool} (hl : l.length = n) (hr : Rd w (some ad) n (bls l)) (hk : Kept [] w w') : ∀ j u, (l.map (Value.bool))[j]? = some u → w'.cell? (ad.add j) = some u := by
  intro j u hu
  have hj : j < n := by
    have := (List.getElem?_eq_some_iff.1 hu).1
    simpa [hl] using this
  obtain ⟨bl, off, h1, _, hc⟩ := (hr.kept0 hk) j hj
  have h1 := Option.some.inj h1
  subst h1
  rw [Addr.add_lit, hc]
  simp [hl, hj] at hu
  simp [bls, List.getD, hl, hj, ← hu]
theorem one_cellB (l : List Bool) : ∀ u ∈ l.map (Value.bool), u.oneCell' = true := by
  intro u hu
  obtain ⟨_, _, rfl⟩ := List.mem_map.1 hu
  rfl

section
variable {w : World}
theorem run_appB (base : Nat) (ty : TypeId) (v : Value) (l : List Bool) (hown : OwnB w base v l) (X : Option Addr) (m c : Nat) (news : List Bool) (hc : X = none → c = 0) (hl : news.length = m) (hr : Rd w X m (bls news)) (hlen : l.length + m ≤ 65536) (hbase : base ≤ w.heap.size) :
    ∃ v' w', (Builtin.append_ #[29, 29] ty #[v, .slice X m c]).run Try.prog w = .ok v' w' ∧ OwnB w' base v' (l ++ news) ∧ Kept (blk v) w w' ∧ (v'.ownBlock = v.ownBlock ∨ v'.ownBlock = some w.heap.size) := by
  obtain ⟨i0, hi0, hz0, hz1, hz2⟩ := info_parts info_bl
  cases X with
  | none =>
    have h0 : m = 0 := by
      rcases Nat.eq_zero_or_pos m with h | h
      · exact h
      · obtain ⟨_, _, h, _⟩ := hr 0 h
        cases h
    subst h0
    obtain rfl := List.eq_nil_of_length_eq_zero hl
    obtain rfl := hc rfl
    exact ⟨v, w, run_append_owned_none w base 29 ty 4 i0 1 Try.underlying29 hi0 v l.length _ hown, by simpa using hown, Kept.refl _ _, .inl rfl⟩
  | some ad =>
    obtain ⟨v', w', hrun, ho, hg, _, hat⟩ := run_append_own_at (P := Try.prog) w base 29 ty 4 i0 (.bool false) 1 1 Try.underlying29 hi0 hz0 hz1 hz2 rfl (by decide) v l.length _ hown ad m c (news.map (Value.bool)) (by simp [hl]) (rd_newsB hl hr (Kept.refl _ _)) (one_cellB news) (by simp only [maxLen]; omega) (by omega) hbase
    exact ⟨v', w', hrun, by simpa [OwnB, hl] using ho, (Kept.refl _ _).grown hg (fun k hk => .inl (blk_mem hk)), hat⟩

variable {ops : Array Oper} {rest : List Oper} {o : Oper} {a : Act} {Q : Exit → Act → World → Prop}
theorem wp_appB {K : Act → World → Prop} (s x : Operand) (ho : o.op = .call { callee := .builtin .append, args := #[s, x], argTypes := #[29, 29] })
    (base : Nat) (v : Value) (l : List Bool) (hs : a.eval s = v) (hown : OwnB w base v l) (X : Option Addr) (m c : Nat) (news : List Bool) (hx : a.eval x = .slice X m c) (hc : X = none → c = 0) (hl : news.length = m) (hr : Rd w X m (bls news))
    (hlen : l.length + m ≤ 65536) (hbase : base ≤ w.heap.size)
    (h : ∀ v' w', OwnB w' base v' (l ++ news) → Kept (blk v) w w' → (v'.ownBlock = v.ownBlock ∨ v'.ownBlock = some w.heap.size) → K (a.put o.dst v') w') : o.wp Try.prog a w K Q := by
  obtain ⟨v', w', hrun, h2, h3, h4⟩ := run_appB base o.type v l hown X m c news hc hl hr hlen hbase
  unfold Oper.wp execOp
  simp only [ho, resolve, invoke, builtin, Sem.run_bind, Sem.run_pure, Result.andThen_ok, List.map_toArray, List.map_cons, List.map_nil, hs, hx, hrun]
  exact h v' w' h2 h3 h4
theorem wpList_appB (hgd : o.guard = none) (s x : Operand) (ho : o.op = .call { callee := .builtin .append, args := #[s, x], argTypes := #[29, 29] })
    (base : Nat) (v : Value) (l : List Bool) (hs : a.eval s = v) (hown : OwnB w base v l) (X : Option Addr) (m c : Nat) (news : List Bool) (hx : a.eval x = .slice X m c) (hc : X = none → c = 0) (hl : news.length = m) (hr : Rd w X m (bls news))
    (hlen : l.length + m ≤ 65536) (hbase : base ≤ w.heap.size)
    (h : ∀ v' w', OwnB w' base v' (l ++ news) → Kept (blk v) w w' → (v'.ownBlock = v.ownBlock ∨ v'.ownBlock = some w.heap.size) → wpList Try.prog ops Q rest (a.put o.dst v') w') : wpList Try.prog ops Q (o :: rest) a w :=
  wpList_plain hgd fun _ hK => wp_appB s x ho base v l hs hown X m c news hx hc hl hr hlen hbase fun v' w' h2 h3 h4 => hK _ _ (h v' w' h2 h3 h4)
theorem step_appB {K : Act → World → Prop} {E : Prop} (hgd : o.guard = none) (s x : Operand) (ho : o.op = .call { callee := .builtin .append, args := #[s, x], argTypes := #[29, 29] })
    (base : Nat) (v : Value) (l : List Bool) (hs : a.eval s = v) (hown : OwnB w base v l) (X : Option Addr) (m c : Nat) (news : List Bool) (hx : a.eval x = .slice X m c) (hc : X = none → c = 0) (hl : news.length = m) (hr : Rd w X m (bls news))
    (hlen : l.length + m ≤ 65536) (hbase : base ≤ w.heap.size)
    (h : ∀ v' w', OwnB w' base v' (l ++ news) → Kept (blk v) w w' → (v'.ownBlock = v.ownBlock ∨ v'.ownBlock = some w.heap.size) → K (a.put o.dst v') w') : if Region.wanted o (yielded ops a.tmps) = true then Oper.wp Try.prog o a w K Q else E := by
  have hw : Region.wanted o (yielded ops a.tmps) = true := by simp [Region.wanted, hgd]
  rw [if_pos hw]
  exact wp_appB s x ho base v l hs hown X m c news hx hc hl hr hlen hbase h
end

theorem rd_oneB (w : World) (x : Bool) (t : TypeId) : Rd (w.alloc (.cells #[.bool x] t)) (some ⟨w.heap.size, 0, none⟩) 1 (bls [x]) := by
  intro k hk
  obtain rfl : k = 0 := by omega
  exact ⟨w.heap.size, 0, rfl, by simp, (Blk.new w t _).cell 0⟩
end Go.Proofs.Ytabcchadjgnldaa
