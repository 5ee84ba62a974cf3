/- A send into a buffered channel, and a select of one case with a default, are steps of the walk's code logic, as long as one goroutine alone is there.
   Conditions: the channel lies in the world as an open channel; a send has room; a select takes its case if the channel is ready, and else its default. -/
import Derived.Conc.LoneSelect
import Derived.WalkKit
import Derived.Test.YtkdihjhndebloaaGreatDoorBase
namespace Go.Proofs.YtkdihjhndebloaaGreatDoor
open Go Go.Conc Go.RowKit

section
variable {P : Program} {ops : Array Oper} {Q : Exit → Act → World → Prop} {a : Act} {w w' : World}

/-- A region under way, the operations 'l' still to come. -/
def InReg (P : Program) (ops : Array Oper) (Q : Exit → Act → World → Prop) (l : List Nat) (a : Act) (w : World) : Prop :=
  ∀ (b : Frame) (k : List Item) (cs : List Frame), ∃ e a' w', Q e a' w' ∧ Arrives P (lone (b.at a (.inRegion ops l :: k)) cs w) b k cs e a' w'

theorem inReg_start {id : Nat} (h : InReg P ops Q (List.range ops.size) a w) : (Code.region id ops false).wp P Q a w :=
  fun b k cs => let ⟨e, a', w', q, r⟩ := h b k cs; ⟨e, a', w', q, .of_steps (.one step_region) r⟩

theorem inReg_list (l : List Oper) (n : Nat) (hl : ∀ j, l[j]? = ops[n + j]?) (h : wpList P ops Q l a w) : InReg P ops Q (List.range' n l.length) a w :=
  fun b k cs => wp_ops _ a w (by rw [wpOps_eq_wpList l n hl]; exact h) b k cs

theorem finish_in {b : Frame} {k : List Item} {i : Nat} {rest : List Nat} {o : Oper} (ho : ops[i]? = some o) (v : Value) :
    (b.at a (.inRegion ops (i :: rest) :: k)).finish v = b.at (a.put o.dst v) (.inRegion ops rest :: k) := by
  rw [Frame.finish_at, ho]; rfl

theorem inReg_value {i : Nat} {rest : List Nat} {o : Oper} {v : Value} (ho : ops[i]? = some o) (hg : o.guard = none) (hr : (execOp a.eval o).run P w = .ok (.value v) w')
    (h : InReg P ops Q rest (a.put o.dst v) w') : InReg P ops Q (i :: rest) a w := by
  intro b k cs
  obtain ⟨e, a', w₂, q, r⟩ := h b k cs
  refine ⟨e, a', w₂, q, .of_steps (.one (step_lone_go ?_)) r⟩
  rw [stepG_op ho (by simp [Region.wanted, hg]), ← finish_in ho]
  simp [stepG.apply, hr]

theorem stepG_comm_any {b : Frame} {k : List Item} {cs : List Frame} {i : Nat} {rest : List Nat} {o : Oper} {cases : Array CommCase} {blocking : Bool} {shape : CommShape} (ho : ops[i]? = some o) (hg : o.guard = none)
    (hr : (execOp a.eval o).run P w = .ok (.comm cases blocking shape) w') :
    ∃ es, stepG P true (G (b.at a (.inRegion ops (i :: rest) :: k)) cs) w = .comm (G (b.at a (.inRegion ops (i :: rest) :: k)) cs) cases blocking shape w' es := by
  have h := stepG_op (P := P) (b := b) (a := a) (k := k) (cs := cs) (w := w) (rest := rest) ho (by simp [Region.wanted, hg])
  simp only [G]
  rw [h]
  simp [stepG.apply, hr, GStep.after]

variable {i : Nat} {rest : List Nat} {o : Oper} {c cap s r : Nat} {buf : Array Value} {z v : Value} {tm closed : Bool}

theorem inReg_send (ho : ops[i]? = some o) (hg : o.guard = none) (hr : (execOp a.eval o).run P w = .ok (.comm #[scase c v z] true .send) w)
    (hc : w.heap[c]? = some (.chan cap buf false s r tm)) (hroom : buf.size < cap)
    (h : InReg P ops Q rest (a.put o.dst undef) (w.setChan c cap (buf.push v) false (s + 1) r tm)) : InReg P ops Q (i :: rest) a w := by
  intro b k cs
  obtain ⟨e, a', w₂, q, hrest⟩ := h b k cs
  obtain ⟨es, hst⟩ := stepG_comm_any (b := b) (k := k) (cs := cs) (rest := rest) ho hg hr
  have hs := step_lone_send_room hst hc hroom
  rw [finish_in ho] at hs
  exact ⟨e, a', w₂, q, .of_steps (.one hs) hrest⟩

theorem inReg_sel_send (ho : ops[i]? = some o) (hg : o.guard = none) (hr : (execOp a.eval o).run P w = .ok (.comm #[scase c v z] false .select) w)
    (hc : w.heap[c]? = some (.chan cap buf false s r tm)) (hroom : buf.size < cap)
    (h : InReg P ops Q rest (a.put o.dst (.tuple #[goInt 0, .bool false])) (w.setChan c cap (buf.push v) false (s + 1) r tm)) : InReg P ops Q (i :: rest) a w := by
  intro b k cs
  obtain ⟨e, a', w₂, q, hrest⟩ := h b k cs
  obtain ⟨es, hst⟩ := stepG_comm_any (b := b) (k := k) (cs := cs) (rest := rest) ho hg hr
  have hs := step_lone_select_send_room hst hc hroom
  rw [finish_in ho] at hs
  exact ⟨e, a', w₂, q, .of_steps (.one hs) hrest⟩

theorem inReg_sel_full (ho : ops[i]? = some o) (hg : o.guard = none) (hr : (execOp a.eval o).run P w = .ok (.comm #[scase c v z] false .select) w)
    (hc : w.heap[c]? = some (.chan cap buf false s r tm)) (hfull : cap ≤ buf.size)
    (h : InReg P ops Q rest (a.put o.dst (.tuple #[goInt (-1), .bool false])) w) : InReg P ops Q (i :: rest) a w := by
  intro b k cs
  obtain ⟨e, a', w₂, q, hrest⟩ := h b k cs
  obtain ⟨es, hst⟩ := stepG_comm_any (b := b) (k := k) (cs := cs) (rest := rest) ho hg hr
  have hs := step_lone_select_send_full hst hc hfull
  rw [finish_in ho] at hs
  exact ⟨e, a', w₂, q, .of_steps (.one hs) hrest⟩

theorem inReg_sel_recv (ho : ops[i]? = some o) (hg : o.guard = none) (hr : (execOp a.eval o).run P w = .ok (.comm #[rcase c z] false .select) w)
    (hc : w.heap[c]? = some (.chan cap buf closed s r tm)) (hsome : 0 < buf.size)
    (h : InReg P ops Q rest (a.put o.dst (.tuple #[goInt 0, .bool true, buf.getD 0 undef])) (w.setChan c cap (buf.extract 1 buf.size) closed s (r + 1) tm)) : InReg P ops Q (i :: rest) a w := by
  intro b k cs
  obtain ⟨e, a', w₂, q, hrest⟩ := h b k cs
  obtain ⟨es, hst⟩ := stepG_comm_any (b := b) (k := k) (cs := cs) (rest := rest) ho hg hr
  have hs := step_lone_select_recv_buf hst hc hsome
  rw [finish_in ho] at hs
  exact ⟨e, a', w₂, q, .of_steps (.one hs) hrest⟩

theorem inReg_sel_none (ho : ops[i]? = some o) (hg : o.guard = none) (hr : (execOp a.eval o).run P w = .ok (.comm #[rcase c z] false .select) w)
    (hc : w.heap[c]? = some (.chan cap #[] false s r tm))
    (h : InReg P ops Q rest (a.put o.dst (.tuple #[goInt (-1), .bool false, z])) w) : InReg P ops Q (i :: rest) a w := by
  intro b k cs
  obtain ⟨e, a', w₂, q, hrest⟩ := h b k cs
  obtain ⟨es, hst⟩ := stepG_comm_any (b := b) (k := k) (cs := cs) (rest := rest) ho hg hr
  have hs := step_lone_select_default hst hc
  rw [finish_in ho] at hs
  exact ⟨e, a', w₂, q, .of_steps (.one hs) hrest⟩

/-! ### regions, whole -/
variable {id : Nat} {l : List Oper}
theorem range_cons (o : Oper) (l : List Oper) : List.range (o :: l).toArray.size = 0 :: List.range' 1 l.length := by
  simp [List.range_eq_range', List.range'_succ]
theorem tail_at (o : Oper) (l : List Oper) (j : Nat) : l[j]? = (o :: l).toArray[1 + j]? := by
  simp [Nat.add_comm 1 j]
theorem tail_at3 (o o' o'' : Oper) (l : List Oper) (j : Nat) : l[j]? = (o :: o' :: o'' :: l).toArray[3 + j]? := by
  simp [Nat.add_comm 3 j]

theorem wp_sel_send (hg : o.guard = none) (hr : (execOp a.eval o).run P w = .ok (.comm #[scase c v z] false .select) w) (hc : w.heap[c]? = some (.chan cap buf false s r tm)) (hroom : buf.size < cap)
    (h : wpList P (o :: l).toArray Q l (a.put o.dst (.tuple #[goInt 0, .bool false])) (w.setChan c cap (buf.push v) false (s + 1) r tm)) : (Code.region id (o :: l).toArray false).wp P Q a w :=
  inReg_start (by rw [range_cons]; exact inReg_sel_send (by simp) hg hr hc hroom (inReg_list l 1 (tail_at o l) h))
theorem wp_sel_full (hg : o.guard = none) (hr : (execOp a.eval o).run P w = .ok (.comm #[scase c v z] false .select) w) (hc : w.heap[c]? = some (.chan cap buf false s r tm)) (hfull : cap ≤ buf.size)
    (h : wpList P (o :: l).toArray Q l (a.put o.dst (.tuple #[goInt (-1), .bool false])) w) : (Code.region id (o :: l).toArray false).wp P Q a w :=
  inReg_start (by rw [range_cons]; exact inReg_sel_full (by simp) hg hr hc hfull (inReg_list l 1 (tail_at o l) h))
theorem wp_sel_recv (hg : o.guard = none) (hr : (execOp a.eval o).run P w = .ok (.comm #[rcase c z] false .select) w) (hc : w.heap[c]? = some (.chan cap buf closed s r tm)) (hsome : 0 < buf.size)
    (h : wpList P (o :: l).toArray Q l (a.put o.dst (.tuple #[goInt 0, .bool true, buf.getD 0 undef])) (w.setChan c cap (buf.extract 1 buf.size) closed s (r + 1) tm)) : (Code.region id (o :: l).toArray false).wp P Q a w :=
  inReg_start (by rw [range_cons]; exact inReg_sel_recv (by simp) hg hr hc hsome (inReg_list l 1 (tail_at o l) h))
theorem wp_sel_none (hg : o.guard = none) (hr : (execOp a.eval o).run P w = .ok (.comm #[rcase c z] false .select) w) (hc : w.heap[c]? = some (.chan cap #[] false s r tm))
    (h : wpList P (o :: l).toArray Q l (a.put o.dst (.tuple #[goInt (-1), .bool false, z])) w) : (Code.region id (o :: l).toArray false).wp P Q a w :=
  inReg_start (by rw [range_cons]; exact inReg_sel_none (by simp) hg hr hc (inReg_list l 1 (tail_at o l) h))

/-- A send behind two operations that yield values. -/
theorem wp_send2 {o' o'' : Oper} {v0 v1 : Value} (hg : o.guard = none) (hg' : o'.guard = none) (hg'' : o''.guard = none) (r0 : (execOp a.eval o).run P w = .ok (.value v0) w) (r1 : (execOp (a.put o.dst v0).eval o').run P w = .ok (.value v1) w)
    (r2 : (execOp ((a.put o.dst v0).put o'.dst v1).eval o'').run P w = .ok (.comm #[scase c v z] true .send) w) (hc : w.heap[c]? = some (.chan cap buf false s r tm)) (hroom : buf.size < cap)
    (h : wpList P (o :: o' :: o'' :: l).toArray Q l (((a.put o.dst v0).put o'.dst v1).put o''.dst undef) (w.setChan c cap (buf.push v) false (s + 1) r tm)) : (Code.region id (o :: o' :: o'' :: l).toArray false).wp P Q a w :=
  inReg_start (by
    have e : List.range (o :: o' :: o'' :: l).toArray.size = 0 :: 1 :: 2 :: List.range' 3 l.length := by simp [List.range_eq_range', List.range'_succ]
    rw [e]
    exact inReg_value (o := o) (by simp) hg r0 (inReg_value (o := o') (by simp) hg' r1 (inReg_send (o := o'') (by simp) hg'' r2 hc hroom (inReg_list l 3 (tail_at3 o o' o'' l) h))))
end

theorem chan_set (w : World) (c cap : Nat) (buf : Array Value) (cl : Bool) (s r : Nat) (tm : Bool) (h : c < w.heap.size) : (w.setChan c cap buf cl s r tm).heap[c]? = some (.chan cap buf cl s r tm) := heap_setChan w c cap buf cl s r tm h
theorem chan_lt {w : World} {c : Nat} {o : Obj} (h : w.heap[c]? = some o) : c < w.heap.size := (Array.getElem?_eq_some_iff.1 h).1
theorem kept_setChan {S : List Nat} {a w : World} (h : Kept S a w) {c : Nat} (hc : c ∈ S ∨ a.heap.size ≤ c) (cap : Nat) (buf : Array Value) (cl : Bool) (s r : Nat) (tm : Bool) : Kept S a (w.setChan c cap buf cl s r tm) :=
  ⟨h.os, h.tape, h.output, by simpa [World.setChan] using h.size, fun i hi hn => by
    have : i ≠ c := by
      rintro rfl
      rcases hc with hc | hc
      · exact hn hc
      · omega
    simp only [World.setChan]
    rw [Array.getElem?_setIfInBounds_ne (Ne.symm this)]
    exact h.block i hi hn⟩
end Go.Proofs.YtkdihjhndebloaaGreatDoor
