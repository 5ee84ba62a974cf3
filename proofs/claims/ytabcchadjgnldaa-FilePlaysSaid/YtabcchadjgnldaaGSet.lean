/- A map of ints to bools, all of them true: a set of the call's own: made, asked, added to (in one step, or in the two of 'a, m[k] = b, true').
   Conditions: the map is the call's own; keys are ints. -/
import Derived.Test.YtabcchadjgnldaaGStr
import Derived.Maps.OwnSet
import Derived.Maps.RangeWalk
import Derived.WideKeyEntry
namespace Go.Proofs.Ytabcchadjgnldaa
open Go.RowKit Go.ChangeMaps
open Go.Maps (Keyed)

theorem key_int : Keyed Try.prog 3 := Maps.int_keyed Try.underlying3
theorem wf_int {k : Int} (h0 : 0 ≤ k) (h1 : k < 9223372036854775808) : (Lit.int .i64 k).wf = true := by
  simp [Lit.wf, IntKind.min, IntKind.max, IntKind.signed, IntKind.bits]
  omega
theorem zero_bool (w : World) : (zeroValue 4).run Try.prog w = .ok (.bool false) w := Try.zeroValue4 w

/-- Block b is a set of at most n ints: those at which L is true. -/
def SetAt (w : World) (b n : Nat) (L : Int → Bool) : Prop := ∃ D : DataW Unit, w.ownsMap Try.prog 3 (plainElem Try.prog 4) b n D ∧ (∀ k, (Lit.int .i64 k).wf = true → D.atKey (.int .i64 k) (.lit (.bool false)) = .lit (.bool (L k))) ∧ (∀ k, (Lit.int .i64 k).wf = true → Maps.has D (.int .i64 k) = L k)
/-- One more. -/
def add (L : Int → Bool) (k : Int) : Int → Bool := fun i => if i = k then true else L i

theorem plain_bool_inv {v : Value} {z : DataW Unit × List MemPlace} (h : plainElem Try.prog 4 v = some z) : ∃ c, v = .bool c ∧ z = (.lit (.bool c), []) := by
  unfold plainElem at h
  rw [Try.underlying4] at h
  cases v <;> simp at h
  exact ⟨_, rfl, h.symm⟩

section
variable {w w' : World} {b n : Nat} {L : Int → Bool}
theorem SetAt.made (w : World) : SetAt (w.alloc (.map #[] 0)) w.heap.size 0 (fun _ => false) := ⟨.map [], World.ownsMap_made _ _ _ _, fun _ _ => rfl, fun _ _ => rfl⟩
theorem SetAt.lt (h : SetAt w b n L) : b < w.heap.size := by
  obtain ⟨D, h, _⟩ := h
  exact h.lt
theorem SetAt.of_block (h : SetAt w b n L) (hb : w'.heap[b]? = w.heap[b]?) : SetAt w' b n L := by
  obtain ⟨D, ⟨es, clock, h1, h2⟩, h3⟩ := h
  exact ⟨D, ⟨es, clock, hb.trans h1, h2⟩, h3⟩
theorem SetAt.kept {S : List Nat} (h : SetAt w b n L) (k : Kept S w w') (hb : b ∉ S) : SetAt w' b n L := h.of_block (k.block b h.lt hb)
theorem SetAt.kept0 (h : SetAt w b n L) (k : Kept [] w w') : SetAt w' b n L := h.kept k (by simp)
theorem SetAt.mono (h : SetAt w b n L) {n' : Nat} (hn : n ≤ n') : SetAt w b n' L := by
  obtain ⟨D, h1, h2⟩ := h
  exact ⟨D, h1.mono hn, h2⟩
theorem SetAt.ne {g : Nat} {t : TypeId} {cs : Array Value} (h : SetAt w b n L) (hg : Blk w g t cs) : b ≠ g := by
  rintro rfl
  obtain ⟨D, ⟨es, clock, h1, _⟩, _⟩ := h
  unfold Blk at hg
  rw [h1] at hg
  cases hg
theorem SetAt.look (h : SetAt w b n L) {k : Int} (hk : (Lit.int .i64 k).wf = true) : (Instr.lookup 55 (.map (some b)) (.int .i64 k) false).run Try.prog w = .ok (.bool (L k)) w := by
  obtain ⟨D, h1, h2, _⟩ := h
  obtain ⟨v, ps, hrun, hv⟩ := h1.lookup key_int Try.underlying55 (zero_bool w) (plainElem_bool Try.underlying4 false) (Maps.keyOf_int_mk Try.underlying3 hk)
  obtain ⟨c, rfl, e⟩ := plain_bool_inv hv
  rw [h2 k hk] at e
  simp at e
  rw [hrun, e.1]
theorem SetAt.put_D {D : DataW Unit} (hm : Maps.IsMap D) {k : Int} (h2 : ∀ k, (Lit.int .i64 k).wf = true → D.atKey (.int .i64 k) (.lit (.bool false)) = .lit (.bool (L k))) (h3 : ∀ k, (Lit.int .i64 k).wf = true → Maps.has D (.int .i64 k) = L k) :
    (∀ i, (Lit.int .i64 i).wf = true → (D.put (.int .i64 k) (.lit (.bool true))).atKey (.int .i64 i) (.lit (.bool false)) = .lit (.bool (add L k i))) ∧ (∀ i, (Lit.int .i64 i).wf = true → Maps.has (D.put (.int .i64 k) (.lit (.bool true))) (.int .i64 i) = add L k i) := by
  constructor
  · intro i hi
    unfold add
    by_cases e : i = k
    · subst e
      rw [Maps.atKey_put_same hm (key_int.key (Maps.keyOf_int_mk Try.underlying3 hi)), if_pos rfl]
    · rw [Maps.atKey_put_other (by simpa using e), if_neg e, h2 i hi]
  · intro i hi
    unfold add
    by_cases e : i = k
    · subst e
      rw [Maps.has_put_same hm (key_int.key (Maps.keyOf_int_mk Try.underlying3 hi)), if_pos rfl]
    · rw [Maps.has_put_other (by simpa using e), if_neg e, h3 i hi]
/-- 'm[k] = true'. -/
theorem SetAt.put (h : SetAt w b n L) (hn : n < maxLen) {k : Int} (hk : (Lit.int .i64 k).wf = true) : ∃ w', (Instr.mapUpdate 55 (.map (some b)) (.int .i64 k) (.bool true)).run Try.prog w = .ok () w' ∧ SetAt w' b (n + 1) (add L k) ∧ Kept [b] w w' := by
  obtain ⟨D, h1, h2, h3⟩ := h
  obtain ⟨w', hrun, ho, hg⟩ := h1.update key_int Try.underlying55 hn (Maps.keyOf_int_mk Try.underlying3 hk) (plainElem_bool Try.underlying4 true)
  exact ⟨w', hrun, ⟨_, ho, SetAt.put_D h1.isMap h2 h3⟩, (Kept.refl _ _).grown hg (by simp)⟩

theorem born_at {l : List MapEntry} (hn : (l.map (·.born)).Nodup) {j : Nat} {x : MapEntry} (h : l[j]? = some x) : l.findIdx? (fun e => ((e.born : Nat) : Int) == ((x.born : Nat) : Int)) = some j := WideElems.findIdx_born hn h
theorem kept_block {a w : World} {b : Nat} (h : Kept [b] a w) (o : Obj) : Kept [b] a (setBlock w b o) :=
  ⟨h.os, h.tape, h.output, by simpa [setBlock] using h.size, fun i hi hn => by
    have hne : i ≠ b := by simpa using hn
    rw [show (setBlock w b o).heap[i]? = w.heap[i]? from by simp [setBlock, Array.getElem?_setIfInBounds_ne (Ne.symm hne)]]
    exact h.block i hi hn⟩
theorem block_at {w : World} {b : Nat} {o o' : Obj} (h : w.heap[b]? = some o) : (setBlock w b o').heap[b]? = some o' := by
  have hb := (Array.getElem?_eq_some_iff.1 h).1
  simp [setBlock, hb]

/-- The first of the two steps of 'm[k] = true': the entry is there; the second lays its value, whatever else has turned meanwhile. -/
theorem SetAt.entry (h : SetAt w b n L) (hn : n < maxLen) {k : Int} (hk : (Lit.int .i64 k).wf = true) : ∃ (v0 : Value) (st : Nat) (w1 : World), (Instr.mapEntry 55 (.map (some b)) (.int .i64 k)).run Try.prog w = .ok (.tuple #[v0, goInt st]) w1 ∧ Kept [b] w w1 ∧ b < w1.heap.size ∧
    ∀ w2, w2.heap[b]? = w1.heap[b]? → ∃ w3, (Instr.entryStore 55 (.map (some b)) (goInt st) (.bool true)).run Try.prog w2 = .ok () w3 ∧ SetAt w3 b (n + 1) (add L k) ∧ Kept [b] w2 w3 := by
  have hkey := Maps.keyOf_int_mk Try.underlying3 hk
  obtain ⟨wu, hu, hset, _⟩ := h.put hn hk
  obtain ⟨D, ⟨es, clock, hb, F, _, _⟩, _⟩ := h
  have hlt := (Array.getElem?_eq_some_iff.1 hb).1
  have hkeys : ∀ e ∈ es.toList, ∃ l, keyOf Try.prog 3 e.key = some l := fun e he => by
    obtain ⟨y, hy⟩ := F.reads e he
    exact ⟨y.1, WideElems.rd_key hy⟩
  obtain ⟨s1, s2, _⟩ := F.stamped
  rcases key_int.find w hkey es.toList hkeys with ⟨h1, _⟩ | ⟨j, x, h1, h2, h3⟩
  · have hw : (Instr.mapUpdate 55 (.map (some b)) (.int .i64 k) (.bool true)).run Try.prog w = .ok () (setBlock w b (.map (es.push ⟨.int .i64 k, .bool true, clock⟩) (clock + 1))) := by
      simp [Instr.mapUpdate, run_underlying Try.underlying55, MapKept.run_getObj_map hb, key_int.check w false hkey, h1, MapKept.run_setObj_map _ hb, Result.andThen, setBlock]
    rw [hw] at hu
    cases hu
    refine ⟨.bool false, clock, setBlock w b (.map (es.push ⟨.int .i64 k, .bool false, clock⟩) (clock + 1)), ?_, kept_block (Kept.refl _ _) _, by simpa [setBlock] using hlt, fun w2 hw2 => ?_⟩
    · simp [Instr.mapEntry, run_underlying Try.underlying55, MapKept.run_getObj_map hb, key_int.check w false hkey, h1, MapKept.run_setObj_map _ hb, Result.andThen, setBlock]
    · rw [block_at hb] at hw2
      have hidx : (es.push ⟨.int .i64 k, .bool false, clock⟩).findIdx? (fun e => ((e.born : Nat) : Int) == ((clock : Nat) : Int)) = some es.size := by
        rw [WideElems.findIdx_arr]
        refine born_at (x := ⟨.int .i64 k, .bool false, clock⟩) ?_ (by simp)
        rw [Array.toList_push, List.map_append]
        refine List.nodup_append.2 ⟨s2, by simp, fun a ha c hc e => ?_⟩
        simp at hc
        obtain ⟨y, hy, rfl⟩ := List.mem_map.1 ha
        have := s1 y hy
        omega
      have hmod : (es.push ⟨.int .i64 k, .bool false, clock⟩).modify es.size (fun e => { e with val := .bool true }) = es.push ⟨.int .i64 k, .bool true, clock⟩ := by
        apply Array.ext'
        rw [Array.toList_modify, Array.toList_push, Array.toList_push, ← Array.length_toList, WideElems.modify_last]
      refine ⟨setBlock w2 b (.map (es.push ⟨.int .i64 k, .bool true, clock⟩) (clock + 1)), ?_, hset.of_block (by rw [block_at hw2, block_at hb]), kept_block (Kept.refl _ _) _⟩
      simp [Instr.entryStore, MapKept.run_getObj_map hw2, asInt, asIntOf, goInt, hidx, hmod, MapKept.run_setObj_map _ hw2, Result.andThen, setBlock]
  · have hj : es[j]? = some x := by simpa using h2
    have hsame : es.modify j (fun e => { e with key := .int .i64 k }) = es := by
      apply Array.ext'
      rw [Array.toList_modify, modify_eq_set _ _ _ _ h2, show ({ x with key := .int .i64 k } : MapEntry) = x from by rw [← h3]]
      exact WideElems.set_self _ _ _ h2
    have hw : (Instr.mapUpdate 55 (.map (some b)) (.int .i64 k) (.bool true)).run Try.prog w = .ok () (setBlock w b (.map (es.modify j fun e => { e with key := .int .i64 k, val := .bool true }) clock)) := by
      simp [Instr.mapUpdate, run_underlying Try.underlying55, MapKept.run_getObj_map hb, key_int.check w false hkey, h1, hj, h3, key_int.stays w hkey, MapKept.run_setObj_map _ hb, Result.andThen, setBlock]
    rw [hw] at hu
    cases hu
    refine ⟨x.val, x.born, setBlock w b (.map es clock), ?_, kept_block (Kept.refl _ _) _, by simpa [setBlock] using hlt, fun w2 hw2 => ?_⟩
    · simp [Instr.mapEntry, run_underlying Try.underlying55, MapKept.run_getObj_map hb, key_int.check w false hkey, h1, hj, h3, key_int.stays w hkey, hsame, MapKept.run_setObj_map _ hb, Result.andThen, setBlock]
    · rw [block_at hb] at hw2
      have hidx : es.findIdx? (fun e => ((e.born : Nat) : Int) == ((x.born : Nat) : Int)) = some j := by
        rw [WideElems.findIdx_arr]
        exact born_at s2 h2
      have hmod : es.modify j (fun e => { e with val := .bool true }) = es.modify j (fun e => { e with key := .int .i64 k, val := .bool true }) := by
        apply Array.ext'
        rw [Array.toList_modify, Array.toList_modify, modify_eq_set _ _ _ _ h2, modify_eq_set _ _ _ _ h2, ← h3]
      refine ⟨setBlock w2 b (.map (es.modify j fun e => { e with key := .int .i64 k, val := .bool true }) clock), ?_, hset.of_block (by rw [block_at hw2, block_at hb]), kept_block (Kept.refl _ _) _⟩
      simp [Instr.entryStore, MapKept.run_getObj_map hw2, asInt, asIntOf, goInt, hidx, hmod, MapKept.run_setObj_map _ hw2, Result.andThen, setBlock]
end
end Go.Proofs.Ytabcchadjgnldaa
