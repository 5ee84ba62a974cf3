/- The lock: Claim takes the first free slot, or none; the oldest version. Conditions: the lock lies whole in a block; numbers fit their types. -/
import Derived.Test.YthifbmopfcfokaaDoorLock
namespace Go.Proofs.YthifbmopfcfokaaDoor
open Go.RowKit Go.Conc

/-- The free slots among the first k. -/
def fl (p : Nat → Int) (k : Nat) : List Nat := (List.range k).filter fun i => decide (p i = 0)
theorem fl_succ_free {p : Nat → Int} {k : Nat} (h : p k = 0) : fl p (k + 1) = fl p k ++ [k] := by simp [fl, List.range_succ, h]
theorem fl_succ_held {p : Nat → Int} {k : Nat} (h : p k ≠ 0) : fl p (k + 1) = fl p k := by simp [fl, List.range_succ, h]
theorem fl_length (p : Nat → Int) (k : Nat) : (fl p k).length ≤ k := Nat.le_trans (List.length_filter_le ..) (by simp)
theorem fl_mem {p : Nat → Int} {k j : Nat} : j ∈ fl p k ↔ j < k ∧ p j = 0 := by simp [fl]
/-- Numbers as a channel holds them. -/
def boxes (l : List Nat) : Array Value := (l.map fun i : Nat => Value.int .i64 i).toArray
theorem boxes_push (l : List Nat) (k : Nat) : (boxes l).push (.int .i64 k) = boxes (l ++ [k]) := by simp [boxes]
theorem boxes_size (l : List Nat) : (boxes l).size = l.length := by simp [boxes]
theorem mk_slots (w : World) : (Instr.makeChan 76 (.int .i64 8)).run Tryd.prog w = .ok (.chan (some w.heap.size)) (w.alloc (.chan 8 #[] false 0 0 false)) := by
  have hb : (Tryd.prog.info? 3).map (·.bytes) = some 8 := by kernel_rfl
  obtain ⟨i, hi, hb⟩ := Option.map_eq_some_iff.1 hb
  simpa using run_makeChan (P := Tryd.prog) (w := w) Tryd.underlying76 hi .i64 8 (by omega) (by rw [hb]; omega)
theorem idx_all (p t : Nat → Int) : ∀ k : Nat, k < 8 → ∀ w, (Instr.index 32 (slotsV p t) (.int .i64 k)).run Tryd.prog w = .ok (.agg #[.int .i64 (p k), .int .u64 (t k)]) w := fun k hk w => idx_slots p t k hk w

/-- The least of last and the versions of the first k slots that have one. -/
def old (t : Nat → Int) (last : Int) : Nat → Int
  | 0 => last
  | k + 1 => if 0 < t k then (if t k < old t last k then t k else old t last k) else old t last k
theorem old_succ (t : Nat → Int) (last : Int) (k : Nat) : old t last (k + 1) = if 0 < t k then (if t k < old t last k then t k else old t last k) else old t last k := rfl

section
variable (g : Nat) (wr : Int) (p t : Nat → Int) (w : World)
set_option maxRecDepth 100000 in
theorem claim_first (q : Int) (j : Nat) (r : List Nat) (hq : 0 < q) (h : LockAt w g wr p t) (hf : fl p 8 = j :: r) : Calls Tryd.prog 11 #[.pointer (some ⟨g, 0, none⟩), .int .i64 q] w fun e w' => e = .returned (.tuple #[.int .i64 j, .nilIface]) ∧ LockAt w' g wr (upd p j q) (upd t j 0) ∧ Kept [g] w w' := by
  have hmk := mk_slots
  have hgl := Blk.lt h
  obtain ⟨c1, c2, c3, c4, c5, c6, c7, c8, c9, c10, c11, c12, c13, c14, c15, c16⟩ := h.cells
  have HL := hide h
  have HF := hide hf
  clear h hf
  go_enter Tryd.func11, Tryd.ntmps11
  go_wp2
  clear c1 c2 c3 c4 c5 c6 c7 c8 c9 c10 c11 c12 c13 c14 c15 c16 hmk
  have HI := hide (idx_all p t)
  generalize hsv : slotsV p t = sv at HI
  unfold slotsV at hsv
  rw [hsv]
  clear hsv
  generalize hcs : w.heap.size = ch
  have HCS := hide hcs
  clear hcs
  go_loopw [7, 8, 15] (fun _ _ i wz => ∃ k : Nat, k ≤ 8 ∧ i = .int .i64 k ∧ wz.heap[ch]? = some (.chan 8 (boxes (fl p k)) false (fl p k).length 0 false) ∧ Kept [] w wz) (fun _ _ i _ => 8 - (intOf i).toNat)
  case atStart => exact ⟨0, Nat.zero_le _, rfl, by rw [← HCS.out]; exact heap_alloc_new w _, (Kept.refl _ _).alloc _⟩
  case round =>
    obtain ⟨k, hk, rfl, hch, hK⟩ := hrel
    by_cases hlt : k < 8
    · have hi := HI.out k hlt
      have hlen := fl_length p k
      by_cases hx : p k = 0
      · have HX := hide (fl_succ_free hx)
        rw [hx] at hi
        clear hx
        generalize t k = y at hi
        go_upto_region 6 with (fail)
        have hch2 := (Below.heap_alloc wr (.cells #[.int .i64 0, .int .u64 y] 31) ch (chan_lt hch)).trans hch
        refine wp_send2 (c := ch) (z := .tuple #[]) (v := .int .i64 k) (v0 := .chan (some ch)) (v1 := .int .i64 k) rfl rfl rfl rfl (by simp [go_sem, execOp, Act.eval]) (by simp [go_sem, execOp, scase, Act.eval, Act.put]) hch2 (by rw [boxes_size]; omega) ?_
        go_wp2
        go_roundw
        case rel => exact ⟨k + 1, hlt, by go_num, by rw [chan_set _ _ _ _ _ _ _ _ (chan_lt hch2), boxes_push, HX.out, List.length_append]; rfl, kept_setChan (hK.alloc _) (.inr (by rw [HCS.out]; exact Nat.le_refl _)) _ _ _ _ _ _⟩
        case measure => simp [intOf]; omega
      · have HX := hide (fl_succ_held hx)
        generalize p k = x at hi hx
        have hb : (x == 0) = false := by simp [hx]
        clear hx
        generalize t k = y at hi
        have hch2 := (Below.heap_alloc wr (.cells #[.int .i64 x, .int .u64 y] 31) ch (chan_lt hch)).trans hch
        go_wp2
        go_roundw
        case rel => exact ⟨k + 1, hlt, by go_num, by rw [HX.out]; exact hch2, hK.alloc _⟩
        case measure => simp [intOf]; omega
    · obtain rfl : k = 8 := by omega
      have hj : j < 8 := (fl_mem.1 (by rw [HF.out]; simp : j ∈ fl p 8)).1
      rw [HF.out] at hch
      clear HI
      go_upto_region 9 with (fail)
      refine wp_sel_recv (c := ch) (z := .int .i64 0) rfl (by simp [go_sem, execOp, rcase, Act.eval]) hch (by simp [boxes]) ?_
      rw [show (boxes (j :: r)).getD 0 undef = .int .i64 j from rfl]
      have hK2 := kept_setChan hK (c := ch) (.inr (by rw [HCS.out]; exact Nat.le_refl _)) 8 ((boxes (j :: r)).extract 1 (boxes (j :: r)).size) false (j :: r).length (0 + 1) false
      generalize wr.setChan ch 8 ((boxes (j :: r)).extract 1 (boxes (j :: r)).size) false (j :: r).length (0 + 1) false = w2 at hK2 ⊢
      have hL2 : LockAt w2 g _ p t := Blk.kept0 HL.out hK2
      have d0 := hL2.pid hj
      have d1 := hL2.txn hj
      have f0 := Blk.free hL2 (1 + j * 2)
      have f1 := Blk.free hL2 (1 + j * 2 + 1)
      clear hK hch HCS hgl
      go_wp2
      go_ret2
      exact ⟨rfl, (hL2.setPid hj q).setTxn hj 0, ((hK2.more (by simp)).setCell (by simp) _).setCell (by simp) _⟩

set_option maxRecDepth 100000 in
theorem claim_full (q : Int) (h : LockAt w g wr p t) (hn : ∀ k, k < 8 → p k ≠ 0) : Calls Tryd.prog 11 #[.pointer (some ⟨g, 0, none⟩), .int .i64 q] w fun e w' => e = .returned (.tuple #[.int .i64 (-1), .iface 69 (.int .i64 15)]) ∧ Kept [] w w' := by
  have hmk := mk_slots
  have hgl := Blk.lt h
  obtain ⟨c1, c2, c3, c4, c5, c6, c7, c8, c9, c10, c11, c12, c13, c14, c15, c16⟩ := h.cells
  clear h
  have HN := hide hn
  clear hn
  go_enter Tryd.func11, Tryd.ntmps11
  go_wp2
  clear c1 c2 c3 c4 c5 c6 c7 c8 c9 c10 c11 c12 c13 c14 c15 c16 hmk
  have HI := hide (idx_all p t)
  generalize hsv : slotsV p t = sv at HI
  unfold slotsV at hsv
  rw [hsv]
  clear hsv
  generalize hcs : w.heap.size = ch
  have HCS := hide hcs
  clear hcs
  go_loopw [7, 8, 15] (fun _ _ i wz => ∃ k : Nat, k ≤ 8 ∧ i = .int .i64 k ∧ wz.heap[ch]? = some (.chan 8 #[] false 0 0 false) ∧ Kept [] w wz) (fun _ _ i _ => 8 - (intOf i).toNat)
  case atStart => exact ⟨0, Nat.zero_le _, rfl, by rw [← HCS.out]; exact heap_alloc_new w _, (Kept.refl _ _).alloc _⟩
  case round =>
    obtain ⟨k, hk, rfl, hch, hK⟩ := hrel
    by_cases hlt : k < 8
    · have hi := HI.out k hlt
      have hx := HN.out k hlt
      generalize p k = x at hi hx
      have hb : (x == 0) = false := by simp [hx]
      clear hx
      generalize t k = y at hi
      have hch2 := (Below.heap_alloc wr (.cells #[.int .i64 x, .int .u64 y] 31) ch (chan_lt hch)).trans hch
      go_wp2
      go_roundw
      case rel => exact ⟨k + 1, hlt, by go_num, hch2, hK.alloc _⟩
      case measure => simp [intOf]; omega
    · obtain rfl : k = 8 := by omega
      clear HI
      go_upto_region 9 with (fail)
      refine wp_sel_none (c := ch) (z := .int .i64 0) rfl (by simp [go_sem, execOp, rcase, Act.eval]) hch ?_
      go_wp2
      go_ret2
      exact ⟨rfl, hK⟩

set_option maxRecDepth 100000 in
theorem claim_nobody (q : Int) (h : LockAt w g wr p t) (hq : q ≤ 0) : Calls Tryd.prog 11 #[.pointer (some ⟨g, 0, none⟩), .int .i64 q] w fun e w' => e = .returned (.tuple #[.int .i64 (-1), .iface 69 (.int .i64 15)]) ∧ Kept [] w w' := by
  have hmk := mk_slots
  have hgl := Blk.lt h
  obtain ⟨c1, c2, c3, c4, c5, c6, c7, c8, c9, c10, c11, c12, c13, c14, c15, c16⟩ := h.cells
  clear h
  go_enter Tryd.func11, Tryd.ntmps11
  go_wp2
  clear c1 c2 c3 c4 c5 c6 c7 c8 c9 c10 c11 c12 c13 c14 c15 c16 hmk
  have HI := hide (idx_all p t)
  generalize hsv : slotsV p t = sv at HI
  unfold slotsV at hsv
  rw [hsv]
  clear hsv
  generalize hcs : w.heap.size = ch
  have HCS := hide hcs
  clear hcs
  go_loopw [7, 8, 15] (fun _ _ i wz => ∃ k : Nat, k ≤ 8 ∧ i = .int .i64 k ∧ wz.heap[ch]? = some (.chan 8 #[] false 0 0 false) ∧ Kept [] w wz) (fun _ _ i _ => 8 - (intOf i).toNat)
  case atStart => exact ⟨0, Nat.zero_le _, rfl, by rw [← HCS.out]; exact heap_alloc_new w _, (Kept.refl _ _).alloc _⟩
  case round =>
    obtain ⟨k, hk, rfl, hch, hK⟩ := hrel
    by_cases hlt : k < 8
    · have hi := HI.out k hlt
      generalize p k = x at hi
      generalize t k = y at hi
      have hch2 := (Below.heap_alloc wr (.cells #[.int .i64 x, .int .u64 y] 31) ch (chan_lt hch)).trans hch
      by_cases hx : x = 0
      · have hb : (x == 0) = true := by simp [hx]
        clear hx
        go_wp2
        go_roundw
        case rel => exact ⟨k + 1, hlt, by go_num, hch2, hK.alloc _⟩
        case measure => simp [intOf]; omega
      · have hb : (x == 0) = false := by simp [hx]
        clear hx
        go_wp2
        go_roundw
        case rel => exact ⟨k + 1, hlt, by go_num, hch2, hK.alloc _⟩
        case measure => simp [intOf]; omega
    · obtain rfl : k = 8 := by omega
      clear HI
      go_upto_region 9 with (fail)
      refine wp_sel_none (c := ch) (z := .int .i64 0) rfl (by simp [go_sem, execOp, rcase, Act.eval]) hch ?_
      go_wp2
      go_ret2
      exact ⟨rfl, hK⟩

set_option maxRecDepth 100000 in
theorem oldest_any (last : Int) (h : LockAt w g wr p t) (ht : ∀ k, k < 8 → 0 ≤ t k) : Calls Tryd.prog 25 #[.pointer (some ⟨g, 0, none⟩), .int .u64 last] w fun e w' => e = .returned (.int .u64 (old t last 8)) ∧ Kept [] w w' := by
  have HT := hide ht
  have hgl := Blk.lt h
  obtain ⟨c1, c2, c3, c4, c5, c6, c7, c8, c9, c10, c11, c12, c13, c14, c15, c16⟩ := h.cells
  clear h ht
  go_enter Tryd.func25, Tryd.ntmps25
  go_wp2
  clear c1 c2 c3 c4 c5 c6 c7 c8 c9 c10 c11 c12 c13 c14 c15 c16
  have HI := hide (idx_all p t)
  generalize hsv : slotsV p t = sv at HI
  unfold slotsV at hsv
  rw [hsv]
  clear hsv
  go_loopw [1, 6, 11] (fun m _ i wz => ∃ k : Nat, k ≤ 8 ∧ i = .int .i64 k ∧ m = .int .u64 (old t last k) ∧ Kept [] w wz) (fun _ _ i _ => 8 - (intOf i).toNat)
  case atStart => exact ⟨0, Nat.zero_le _, rfl, rfl, Kept.refl _ _⟩
  case round =>
    obtain ⟨k, hk, rfl, rfl, hK⟩ := hrel
    by_cases hlt : k < 8
    · have hi := HI.out k hlt
      have hy := HT.out k hlt
      have HO := hide (old_succ t last k)
      generalize p k = x at hi
      generalize t k = y at hi hy HO
      generalize old t last k = m at HO
      by_cases hy1 : 0 < y
      · have HO2 := hide (HO.out.trans (if_pos hy1))
        clear HO
        go_wp2
        go_roundw
        case rel => exact ⟨k + 1, hlt, by go_num, by rw [HO2.out], hK.alloc _⟩
        case measure => simp [intOf]; omega
      · have HO2 := hide (HO.out.trans (if_neg hy1))
        clear HO
        go_wp2
        go_roundw
        case rel => exact ⟨k + 1, hlt, by go_num, by rw [HO2.out], hK.alloc _⟩
        case measure => simp [intOf]; omega
    · obtain rfl : k = 8 := by omega
      go_wp2
      go_ret
      exact ⟨rfl, hK⟩
end
end Go.Proofs.YthifbmopfcfokaaDoor
