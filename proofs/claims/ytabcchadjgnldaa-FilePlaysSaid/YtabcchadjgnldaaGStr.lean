/- Rows of strings of the call's own, and slices of strings that came in: read, copied, appended to, cell by cell. Conditions: rows of at most 65536. -/
import Derived.Test.YtabcchadjgnldaaGRow
namespace Go.Proofs.Ytabcchadjgnldaa
open Go.RowKit

/-- A list of strings, element by element. -/
def strs (l : List ByteArray) (k : Nat) : Value := .string (l.getD k ByteArray.empty)
/-- A slice of strings of the call's own. -/
def OwnS (w : World) (base : Nat) (v : Value) (l : List ByteArray) : Prop := w.ownsRow base 9 1 v l.length (l.map (Value.string))
theorem info_str : (Try.prog.info? 9).map (fun i => (i.zero, i.size, i.bytes)) = some (some (.string ⟨#[]⟩), 1, 16) := by kernel_rfl

theorem OwnS.nil (w : World) (base : Nat) : OwnS w base (.slice none 0 0) [] := World.ownsRow_nil w base _ _
theorem OwnS.shape {w : World} {base : Nat} {v : Value} {l : List ByteArray} (h : OwnS w base v l) : ∃ A c, v = .slice A l.length c ∧ l.length ≤ maxLen ∧ Rd w A l.length (strs l) ∧ v.ownBlock = A.map (·.block) := by
  rcases h.2 with ⟨rfl, h0⟩ | ⟨g, cap, cur, rfl, _, hg, hn, hm, hs, ht⟩
  · exact ⟨none, 0, by rw [h0], by rw [h0]; exact Nat.zero_le _, by rw [h0]; exact Rd.zero _ _ _, rfl⟩
  · refine ⟨_, cap, rfl, Nat.le_trans hn hm, fun k hk => ⟨g, 0, rfl, (Array.getElem?_eq_some_iff.1 hg).1, ?_⟩, rfl⟩
    have hc := h.cells (g := g) rfl k (.string (l.getD k ByteArray.empty)) (by simp [List.getD, hk])
    rw [Addr.add_lit] at hc
    exact hc
theorem OwnS.lt {w : World} {base : Nat} {v : Value} {l : List ByteArray} (h : OwnS w base v l) : ∀ k, v.ownBlock = some k → base ≤ k ∧ k < w.heap.size := World.ownsRow.lt h
theorem OwnS.kept {w w' : World} {base : Nat} {v : Value} {l : List ByteArray} {S : List Nat} (h : OwnS w base v l) (k : Kept S w w') (hs : ∀ b, v.ownBlock = some b → b ∉ S) : OwnS w' base v l := by
  refine ⟨h.1, ?_⟩
  rcases h.2 with hn | ⟨g, cap, cur, rfl, hb, hg, rest⟩
  · exact .inl hn
  · exact .inr ⟨g, cap, cur, rfl, hb, (k.block g (Array.getElem?_eq_some_iff.1 hg).1 (hs g rfl)).trans hg, rest⟩
theorem OwnS.kept0 {w w' : World} {base : Nat} {v : Value} {l : List ByteArray} (h : OwnS w base v l) (k : Kept [] w w') : OwnS w' base v l := h.kept k (by simp)
theorem OwnS.drewN {w : World} {base : Nat} {v : Value} {l : List ByteArray} (h : OwnS w base v l) (n : Nat) : OwnS (w.drewN n) base v l := h
theorem OwnS.base {w : World} {base base' : Nat} {v : Value} {l : List ByteArray} (h : OwnS w base v l) (hb : base' ≤ base) : OwnS w base' v l := by
  refine ⟨h.1, ?_⟩
  rcases h.2 with hn | ⟨g, cap, cur, rfl, hg, rest⟩
  · exact .inl hn
  · exact .inr ⟨g, cap, cur, rfl, Nat.le_trans hb hg, rest⟩

theorem rd_newsS {w w' : World} {ad : Addr} {n : Nat} {l : List ByteArray} (hl : l.length = n) (hr : Rd w (some ad) n (strs l)) (hk : Kept [] w w') : ∀ j u, (l.map (Value.string))[j]? = some u → w'.cell? (ad.add j) = some u := by
  intro j u hu
  have hj : j < n := by
    have := (List.getElem?_eq_some_iff.1 hu).1
    simpa [hl] using this
  obtain ⟨bl, off, h1, _, hc⟩ := (hr.kept0 hk) j hj
  have h1 := Option.some.inj h1
  subst h1
  rw [Addr.add_lit, hc]
  simp [hl, hj] at hu
  simp [strs, List.getD, hl, hj, ← hu]
theorem one_cellS (l : List ByteArray) : ∀ u ∈ l.map (Value.string), u.oneCell' = true := by
  intro u hu
  obtain ⟨_, _, rfl⟩ := List.mem_map.1 hu
  rfl

section
variable (A : Option Addr) (n c : Nat) (a : List ByteArray) (w : World)
theorem eql_nil_strs (X : Option Addr) (x y : Nat) (W : World) : (binOp .eql 22 (.slice X x y) (.slice none 0 0)).run Try.prog W = .ok (.bool X.isNone) W := by
  simp only [binOp]
  simp [run_equal_slice_nil W 22 9 X x y Try.underlying22]

set_option maxRecDepth 100000 in
theorem cloneS_nil : Calls Try.prog 25 #[.slice none n c] w fun e w' => e = .returned (.slice none 0 0) ∧ w = w' := by
  have hq := eql_nil_strs
  go_enter Try.func25, Try.ntmps25
  go_wp2
  go_ret
  exact ⟨rfl, rfl⟩

set_option maxRecDepth 100000 in
theorem cloneS_some (ad : Addr) (ha : a.length = n) (hn : n ≤ 65536) (hr : Rd w (some ad) n (strs a)) :
    Calls Try.prog 25 #[.slice (some ad) n c] w fun e w' => ∃ v, e = .returned v ∧ OwnS w' w.heap.size v a ∧ Kept [] w w' := by
  obtain ⟨i0, hi0, hz0, hz1, hz2⟩ := info_parts info_str
  have hq := eql_nil_strs
  go_enter Try.func25, Try.ntmps25
  have HR := hide hr
  clear hr
  have HA := hide ha
  clear ha
  go_wp2_with (at_builtin; refine wpList_append_own _ rfl (.tmp 5) (.tmp 6) 22 rfl w.heap.size 9 i0 (.string ⟨#[]⟩) 1 16 Try.underlying22 hi0 hz0 hz1 hz2 rfl (by decide) (.slice (some ⟨w.heap.size, 0, none⟩) 0 0) 0 [] rfl (World.ownsRow_made w #[] 0 (Nat.le_refl _) (by simp [maxLen]) rfl) ad n c (a.map (Value.string)) rfl (by rw [List.length_map, HA.out, Nat.mul_one]) (rd_newsS HA.out HR.out ((Kept.refl _ _).alloc _)) (one_cellS a) (by simp only [maxLen]; omega) (by omega) (by simp) ?_)
  intro v' w1 hown hg _
  go_wp2
  go_ret
  have H := HA.out
  subst H
  exact ⟨v', rfl, by simpa [OwnS] using hown, ((Kept.refl _ _).alloc _).grown hg (by simp [Value.ownBlock])⟩

/-- A copy of a slice of the call's own or of what came in: a row of its own; nil: nil. -/
theorem cloneS_any (ha : a.length = n) (hn : n ≤ 65536) (hr : Rd w A n (strs a)) :
    Calls Try.prog 25 #[.slice A n c] w fun e w' => ∃ v, e = .returned v ∧ OwnS w' w.heap.size v a ∧ Kept [] w w' := by
  cases A with
  | some ad => exact cloneS_some n c a w ad ha hn hr
  | none =>
    have h0 : n = 0 := by
      rcases Nat.eq_zero_or_pos n with h | h
      · exact h
      · obtain ⟨_, _, h, _⟩ := hr 0 h
        cases h
    subst h0
    obtain rfl := List.eq_nil_of_length_eq_zero ha
    exact (cloneS_nil 0 c w).mono fun e w' ⟨he, hw⟩ => ⟨_, he, by subst hw; exact OwnS.nil _ _, by subst hw; exact Kept.refl _ _⟩
end

section
variable {w : World}
theorem run_appS (base : Nat) (ty : TypeId) (v : Value) (l : List ByteArray) (hown : OwnS w base v l) (X : Option Addr) (m c : Nat) (news : List ByteArray) (hc : X = none → c = 0) (hl : news.length = m) (hr : Rd w X m (strs news)) (hlen : l.length + m ≤ 65536) (hbase : base ≤ w.heap.size) :
    ∃ v' w', (Builtin.append_ #[22, 22] ty #[v, .slice X m c]).run Try.prog w = .ok v' w' ∧ OwnS w' base v' (l ++ news) ∧ Kept (blk v) w w' ∧ (v'.ownBlock = v.ownBlock ∨ v'.ownBlock = some w.heap.size) := by
  obtain ⟨i0, hi0, hz0, hz1, hz2⟩ := info_parts info_str
  cases X with
  | none =>
    have h0 : m = 0 := by
      rcases Nat.eq_zero_or_pos m with h | h
      · exact h
      · obtain ⟨_, _, h, _⟩ := hr 0 h
        cases h
    subst h0
    obtain rfl := List.eq_nil_of_length_eq_zero hl
    obtain rfl := hc rfl
    exact ⟨v, w, run_append_owned_none w base 22 ty 9 i0 1 Try.underlying22 hi0 v l.length _ hown, by simpa using hown, Kept.refl _ _, .inl rfl⟩
  | some ad =>
    obtain ⟨v', w', hrun, ho, hg, _, hat⟩ := run_append_own_at (P := Try.prog) w base 22 ty 9 i0 (.string ⟨#[]⟩) 1 16 Try.underlying22 hi0 hz0 hz1 hz2 rfl (by decide) v l.length _ hown ad m c (news.map (Value.string)) (by simp [hl]) (rd_newsS hl hr (Kept.refl _ _)) (one_cellS news) (by simp only [maxLen]; omega) (by omega) hbase
    exact ⟨v', w', hrun, by simpa [OwnS, hl] using ho, (Kept.refl _ _).grown hg (fun k hk => .inl (blk_mem hk)), hat⟩

variable {ops : Array Oper} {rest : List Oper} {o : Oper} {a : Act} {Q : Exit → Act → World → Prop}
theorem wp_appS {K : Act → World → Prop} (s x : Operand) (ho : o.op = .call { callee := .builtin .append, args := #[s, x], argTypes := #[22, 22] })
    (base : Nat) (v : Value) (l : List ByteArray) (hs : a.eval s = v) (hown : OwnS w base v l) (X : Option Addr) (m c : Nat) (news : List ByteArray) (hx : a.eval x = .slice X m c) (hc : X = none → c = 0) (hl : news.length = m) (hr : Rd w X m (strs news))
    (hlen : l.length + m ≤ 65536) (hbase : base ≤ w.heap.size)
    (h : ∀ v' w', OwnS w' base v' (l ++ news) → Kept (blk v) w w' → (v'.ownBlock = v.ownBlock ∨ v'.ownBlock = some w.heap.size) → K (a.put o.dst v') w') : o.wp Try.prog a w K Q := by
  obtain ⟨v', w', hrun, h2, h3, h4⟩ := run_appS base o.type v l hown X m c news hc hl hr hlen hbase
  unfold Oper.wp execOp
  simp only [ho, resolve, invoke, builtin, Sem.run_bind, Sem.run_pure, Result.andThen_ok, List.map_toArray, List.map_cons, List.map_nil, hs, hx, hrun]
  exact h v' w' h2 h3 h4
theorem wpList_appS (hgd : o.guard = none) (s x : Operand) (ho : o.op = .call { callee := .builtin .append, args := #[s, x], argTypes := #[22, 22] })
    (base : Nat) (v : Value) (l : List ByteArray) (hs : a.eval s = v) (hown : OwnS w base v l) (X : Option Addr) (m c : Nat) (news : List ByteArray) (hx : a.eval x = .slice X m c) (hc : X = none → c = 0) (hl : news.length = m) (hr : Rd w X m (strs news))
    (hlen : l.length + m ≤ 65536) (hbase : base ≤ w.heap.size)
    (h : ∀ v' w', OwnS w' base v' (l ++ news) → Kept (blk v) w w' → (v'.ownBlock = v.ownBlock ∨ v'.ownBlock = some w.heap.size) → wpList Try.prog ops Q rest (a.put o.dst v') w') : wpList Try.prog ops Q (o :: rest) a w :=
  wpList_plain hgd fun _ hK => wp_appS s x ho base v l hs hown X m c news hx hc hl hr hlen hbase fun v' w' h2 h3 h4 => hK _ _ (h v' w' h2 h3 h4)
theorem step_appS {K : Act → World → Prop} {E : Prop} (hgd : o.guard = none) (s x : Operand) (ho : o.op = .call { callee := .builtin .append, args := #[s, x], argTypes := #[22, 22] })
    (base : Nat) (v : Value) (l : List ByteArray) (hs : a.eval s = v) (hown : OwnS w base v l) (X : Option Addr) (m c : Nat) (news : List ByteArray) (hx : a.eval x = .slice X m c) (hc : X = none → c = 0) (hl : news.length = m) (hr : Rd w X m (strs news))
    (hlen : l.length + m ≤ 65536) (hbase : base ≤ w.heap.size)
    (h : ∀ v' w', OwnS w' base v' (l ++ news) → Kept (blk v) w w' → (v'.ownBlock = v.ownBlock ∨ v'.ownBlock = some w.heap.size) → K (a.put o.dst v') w') : if Region.wanted o (yielded ops a.tmps) = true then Oper.wp Try.prog o a w K Q else E := by
  have hw : Region.wanted o (yielded ops a.tmps) = true := by simp [Region.wanted, hgd]
  rw [if_pos hw]
  exact wp_appS s x ho base v l hs hown X m c news hx hc hl hr hlen hbase h
end

theorem rd_oneS (w : World) (x : ByteArray) (t : TypeId) : Rd (w.alloc (.cells #[.string x] t)) (some ⟨w.heap.size, 0, none⟩) 1 (strs [x]) := by
  intro k hk
  obtain rfl : k = 0 := by omega
  exact ⟨w.heap.size, 0, rfl, by simp, (Blk.new w t _).cell 0⟩
section
variable {w : World} {base g n c : Nat} {l : List ByteArray}
theorem OwnS.block (h : OwnS w base (.slice (some ⟨g, 0, none⟩) n c) l) : n = l.length ∧ ∃ cur, base ≤ g ∧ Blk w g 9 cur ∧ n ≤ c ∧ c ≤ maxLen ∧ cur.size = c ∧ cur.toList.take n = l.map (Value.string) := by
  rcases h.2 with ⟨h1, _⟩ | ⟨g', cap, cur, h1, hb, hg, hn, hm, hs, ht⟩
  · cases h1
  · injection h1 with e1 e2 e3
    injection e1 with e1
    injection e1 with e1
    subst e1
    subst e3
    subst e2
    exact ⟨rfl, cur, hb, hg, hn, hm, by simpa using hs, by simpa using ht⟩
theorem OwnS.of_block (hn : n = l.length) {cur : Array Value} (hb : base ≤ g) (hg : Blk w g 9 cur) (hc : n ≤ c) (hm : c ≤ maxLen) (hs : cur.size = c) (ht : cur.toList.take n = l.map (Value.string)) : OwnS w base (.slice (some ⟨g, 0, none⟩) n c) l := by
  subst hn
  exact ⟨by simp, .inr ⟨g, c, cur, rfl, hb, hg, hc, hm, by simpa using hs, by simpa using ht⟩⟩
theorem OwnS.at' (h : OwnS w base (.slice (some ⟨g, 0, none⟩) n c) l) {i : Nat} (hi : i < n) : w.cell? ⟨g, i, none⟩ = some (.string (l.getD i ByteArray.empty)) := by
  obtain ⟨hn, cur, _, hb, hc, hm, hs, ht⟩ := h.block
  rw [hb.cell i]
  have h1 : (cur.toList.take n)[i]? = (l.map (Value.string))[i]? := by rw [ht]
  rw [List.getElem?_take_of_lt hi, Array.getElem?_toList] at h1
  rw [h1]
  simp [List.getD, show i < l.length by omega]
theorem OwnS.some' (h : OwnS w base (.slice (some ⟨g, 0, none⟩) n c) l) {i : Nat} (hi : i < c) : (w.cell? ⟨g, i, none⟩).isSome = true := by
  obtain ⟨hn, cur, _, hb, hc, hm, hs, ht⟩ := h.block
  rw [hb.cell i]
  simp
  omega
theorem OwnS.free' (h : OwnS w base (.slice (some ⟨g, 0, none⟩) n c) l) (i : Nat) : w.frozen? ⟨g, i, none⟩ = false := by
  obtain ⟨hn, cur, _, hb, hc, hm, hs, ht⟩ := h.block
  exact hb.free i
theorem OwnS.set' (h : OwnS w base (.slice (some ⟨g, 0, none⟩) n c) l) (i : Nat) (y : ByteArray) : OwnS (w.setCell ⟨g, i, none⟩ (.string y)) base (.slice (some ⟨g, 0, none⟩) n c) (l.set i y) := by
  obtain ⟨hn, cur, h0, hb, hc, hm, hs, ht⟩ := h.block
  refine OwnS.of_block (by simpa using hn) h0 (hb.set i _) hc hm (by simpa using hs) ?_
  rw [Array.toList_setIfInBounds, List.take_set, ht, List.map_set]
/-- The row cut to its first i elements, while cells from i on turn. -/
theorem OwnS.cut' (h : OwnS w base (.slice (some ⟨g, 0, none⟩) n c) l) {i : Nat} (hi : i ≤ n) : OwnS w base (.slice (some ⟨g, 0, none⟩) i c) (l.take i) := by
  obtain ⟨hn, cur, h0, hb, hc, hm, hs, ht⟩ := h.block
  refine OwnS.of_block (by simp; omega) h0 hb (by omega) hm hs ?_
  rw [List.map_take, ← ht, List.take_take]
  congr 1
  omega
theorem OwnS.setBehind (h : OwnS w base (.slice (some ⟨g, 0, none⟩) n c) l) {i : Nat} (hi : n ≤ i) (u : Value) : OwnS (w.setCell ⟨g, i, none⟩ u) base (.slice (some ⟨g, 0, none⟩) n c) l := by
  obtain ⟨hn, cur, h0, hb, hc, hm, hs, ht⟩ := h.block
  refine OwnS.of_block hn h0 (hb.set i _) hc hm (by simpa using hs) ?_
  rw [Array.toList_setIfInBounds, List.take_set_of_le hi, ht]
end
theorem OwnS.setCells {base g n c : Nat} {l : List ByteArray} : ∀ (vs : List Value) (i : Nat) (w : World), n ≤ i → OwnS w base (.slice (some ⟨g, 0, none⟩) n c) l → OwnS (w.setCells g i vs) base (.slice (some ⟨g, 0, none⟩) n c) l
  | [], _, _, _, h => h
  | v :: r, i, _, hi, h => OwnS.setCells r (i + 1) _ (by omega) (h.setBehind hi v)
end Go.Proofs.Ytabcchadjgnldaa
