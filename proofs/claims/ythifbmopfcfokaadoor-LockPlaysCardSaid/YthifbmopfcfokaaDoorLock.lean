/- The lock: New, Writer, own, Publish, Free, Claim, Release, Oldest. Conditions: the lock lies whole in a block; numbers fit their types. -/
import Derived.Test.YthifbmopfcfokaaDoorLive
namespace Go.Proofs.YthifbmopfcfokaaDoor
open Go.RowKit Go.Conc

/-- The cells of a lock: who writes, of each slot its process and its version. -/
def lockC (wr : Int) (p t : Nat → Int) : Array Value := #[.int .i64 wr, .int .i64 (p 0), .int .u64 (t 0), .int .i64 (p 1), .int .u64 (t 1), .int .i64 (p 2), .int .u64 (t 2), .int .i64 (p 3), .int .u64 (t 3), .int .i64 (p 4), .int .u64 (t 4), .int .i64 (p 5), .int .u64 (t 5), .int .i64 (p 6), .int .u64 (t 6), .int .i64 (p 7), .int .u64 (t 7)]
def LockAt (w : World) (g : Nat) (wr : Int) (p t : Nat → Int) : Prop := Blk w g 73 (lockC wr p t)
/-- All slots as one value. -/
def slotsV (p t : Nat → Int) : Value := .agg #[.int .i64 (p 0), .int .u64 (t 0), .int .i64 (p 1), .int .u64 (t 1), .int .i64 (p 2), .int .u64 (t 2), .int .i64 (p 3), .int .u64 (t 3), .int .i64 (p 4), .int .u64 (t 4), .int .i64 (p 5), .int .u64 (t 5), .int .i64 (p 6), .int .u64 (t 6), .int .i64 (p 7), .int .u64 (t 7)]
def upd (f : Nat → Int) (j : Nat) (x : Int) : Nat → Int := fun i => if i = j then x else f i
theorem upd_at (f : Nat → Int) (j : Nat) (x : Int) : upd f j x j = x := by simp [upd]
theorem upd_ne (f : Nat → Int) (j : Nat) (x : Int) {i : Nat} (h : i ≠ j) : upd f j x i = f i := by simp [upd, h]

theorem idx_slots (p t : Nat → Int) (k : Nat) (hk : k < 8) (w : World) : (Instr.index 32 (slotsV p t) (.int .i64 k)).run Tryd.prog w = .ok (.agg #[.int .i64 (p k), .int .u64 (t k)]) w := by
  have h : k = 0 ∨ k = 1 ∨ k = 2 ∨ k = 3 ∨ k = 4 ∨ k = 5 ∨ k = 6 ∨ k = 7 := by omega
  rcases h with rfl | rfl | rfl | rfl | rfl | rfl | rfl | rfl <;> (show _ = _; kernel_rfl)

section
variable {w w' : World} {g : Nat} {wr : Int} {p t : Nat → Int}
theorem LockAt.pid (h : LockAt w g wr p t) {k : Nat} (hk : k < 8) : w.cell? ⟨g, 1 + k * 2, none⟩ = some (.int .i64 (p k)) := by
  rw [Blk.cell h]
  match k, hk with
  | 0, _ | 1, _ | 2, _ | 3, _ | 4, _ | 5, _ | 6, _ | 7, _ => rfl
theorem LockAt.txn (h : LockAt w g wr p t) {k : Nat} (hk : k < 8) : w.cell? ⟨g, 1 + k * 2 + 1, none⟩ = some (.int .u64 (t k)) := by
  rw [Blk.cell h]
  match k, hk with
  | 0, _ | 1, _ | 2, _ | 3, _ | 4, _ | 5, _ | 6, _ | 7, _ => rfl
theorem LockAt.setPid (h : LockAt w g wr p t) {k : Nat} (hk : k < 8) (x : Int) : LockAt (w.setCell ⟨g, 1 + k * 2, none⟩ (.int .i64 x)) g wr (upd p k x) t := by
  have h1 := Blk.set h (1 + k * 2) (.int .i64 x)
  match k, hk with
  | 0, _ | 1, _ | 2, _ | 3, _ | 4, _ | 5, _ | 6, _ | 7, _ => exact h1
theorem LockAt.setTxn (h : LockAt w g wr p t) {k : Nat} (hk : k < 8) (x : Int) : LockAt (w.setCell ⟨g, 1 + k * 2 + 1, none⟩ (.int .u64 x)) g wr p (upd t k x) := by
  have h1 := Blk.set h (1 + k * 2 + 1) (.int .u64 x)
  match k, hk with
  | 0, _ | 1, _ | 2, _ | 3, _ | 4, _ | 5, _ | 6, _ | 7, _ => exact h1
theorem LockAt.setWr (h : LockAt w g wr p t) (x : Int) : LockAt (w.setCell ⟨g, 0, none⟩ (.int .i64 x)) g x p t := Blk.set h 0 _
theorem LockAt.cells (h : LockAt w g wr p t) : w.cell? ⟨g, 1, none⟩ = some (.int .i64 (p 0)) ∧ w.cell? ⟨g, 2, none⟩ = some (.int .u64 (t 0)) ∧ w.cell? ⟨g, 3, none⟩ = some (.int .i64 (p 1)) ∧ w.cell? ⟨g, 4, none⟩ = some (.int .u64 (t 1)) ∧ w.cell? ⟨g, 5, none⟩ = some (.int .i64 (p 2)) ∧ w.cell? ⟨g, 6, none⟩ = some (.int .u64 (t 2)) ∧ w.cell? ⟨g, 7, none⟩ = some (.int .i64 (p 3)) ∧ w.cell? ⟨g, 8, none⟩ = some (.int .u64 (t 3)) ∧ w.cell? ⟨g, 9, none⟩ = some (.int .i64 (p 4)) ∧ w.cell? ⟨g, 10, none⟩ = some (.int .u64 (t 4)) ∧ w.cell? ⟨g, 11, none⟩ = some (.int .i64 (p 5)) ∧ w.cell? ⟨g, 12, none⟩ = some (.int .u64 (t 5)) ∧ w.cell? ⟨g, 13, none⟩ = some (.int .i64 (p 6)) ∧ w.cell? ⟨g, 14, none⟩ = some (.int .u64 (t 6)) ∧ w.cell? ⟨g, 15, none⟩ = some (.int .i64 (p 7)) ∧ w.cell? ⟨g, 16, none⟩ = some (.int .u64 (t 7)) :=
  ⟨Blk.cell h 1, Blk.cell h 2, Blk.cell h 3, Blk.cell h 4, Blk.cell h 5, Blk.cell h 6, Blk.cell h 7, Blk.cell h 8, Blk.cell h 9, Blk.cell h 10, Blk.cell h 11, Blk.cell h 12, Blk.cell h 13, Blk.cell h 14, Blk.cell h 15, Blk.cell h 16⟩
end

section
variable (g : Nat) (wr : Int) (p t : Nat → Int) (w : World)
set_option maxRecDepth 100000 in
theorem newl_any : Calls Tryd.prog 5 #[] w fun e w' => ∃ g, e = .returned (.pointer (some ⟨g, 0, none⟩)) ∧ LockAt w' g 0 (fun _ => 0) (fun _ => 0) ∧ Kept [] w w' ∧ w.heap.size ≤ g := by
  go_enter Tryd.func5, Tryd.ntmps5
  go_wp2
  go_ret
  exact ⟨w.heap.size, rfl, Blk.new w _ _, (Kept.refl _ _).alloc _, Nat.le_refl _⟩

set_option maxRecDepth 100000 in
theorem writer_any (h : LockAt w g wr p t) : Calls Tryd.prog 30 #[.pointer (some ⟨g, 0, none⟩)] w fun e w' => e = .returned (.int .i64 wr) ∧ w = w' := by
  have c0 : w.cell? ⟨g, 0, none⟩ = some (.int .i64 wr) := Blk.cell h 0
  clear h
  go_enter Tryd.func30, Tryd.ntmps30
  go_wp2
  go_ret
  exact ⟨rfl, rfl⟩

/-- A process's own slot. -/
def owns (p : Nat → Int) (s q : Int) : Bool := decide (0 ≤ s) && decide (s < 8) && decide (0 < q) && decide (p s.toNat = q)
set_option maxRecDepth 100000 in
theorem own_any (s q : Int) (h : LockAt w g wr p t) : Calls Tryd.prog 36 #[.pointer (some ⟨g, 0, none⟩), .int .i64 s, .int .i64 q] w fun e w' => e = .returned (.bool (owns p s q)) ∧ w = w' := by
  by_cases h0 : 0 ≤ s ∧ s < 8
  · obtain ⟨h0, h1⟩ := h0
    obtain ⟨k, rfl⟩ := Int.eq_ofNat_of_zero_le h0
    have hk : k < 8 := by omega
    have c0 := h.pid hk
    clear h
    generalize hx : p k = x at c0
    have HX := hide hx
    clear hx
    go_enter Tryd.func36, Tryd.ntmps36
    go_wp2
    all_goals
      go_ret
      refine ⟨ret_bool' ?_, rfl⟩
    all_goals
      by_cases h2 : 0 < q <;> simp [owns, h0, h1, h2, HX.out] <;> first | rfl | omega
  · have ho : owns p s q = false := by
      unfold owns
      by_cases h1 : 0 ≤ s
      · have h2 : ¬ s < 8 := fun h2 => h0 ⟨h1, h2⟩
        simp [h2]
      · simp [h1]
    rw [ho]
    clear ho h
    by_cases h1 : 0 ≤ s
    · have h2 : ¬ s < 8 := fun h2 => h0 ⟨h1, h2⟩
      clear h0
      go_enter Tryd.func36, Tryd.ntmps36
      go_wp2
      go_ret
      exact ⟨rfl, rfl⟩
    · clear h0
      go_enter Tryd.func36, Tryd.ntmps36
      go_wp2
      go_ret
      exact ⟨rfl, rfl⟩

set_option maxRecDepth 100000 in
theorem publish_no (s q x : Int) (h : LockAt w g wr p t) (ho : owns p s q = false) : Calls Tryd.prog 14 #[.pointer (some ⟨g, 0, none⟩), .int .i64 s, .int .i64 q, .int .u64 x] w fun e w' => e = .returned (.iface 69 (.int .i64 18)) ∧ w = w' := by
  have HL := hide h
  have HO := hide ho
  clear h ho
  go_enter Tryd.func14, Tryd.ntmps14
  go_wp2_with fail
  refine (own_any g wr p t w s q HL.out).mono ?_
  rintro e w' ⟨rfl, rfl⟩
  rw [HO.out]
  go_wp2
  go_ret
  exact ⟨rfl, rfl⟩

set_option maxRecDepth 100000 in
theorem publish_own (k : Nat) (q x : Int) (hk : k < 8) (h : LockAt w g wr p t) (ho : owns p k q = true) : Calls Tryd.prog 14 #[.pointer (some ⟨g, 0, none⟩), .int .i64 k, .int .i64 q, .int .u64 x] w fun e w' => e = .returned .nilIface ∧ LockAt w' g wr p (upd t k x) ∧ Kept [g] w w' := by
  have HL := hide h
  have HO := hide ho
  have c0 := h.txn hk
  have f0 := Blk.free h (1 + k * 2 + 1)
  clear h ho
  go_enter Tryd.func14, Tryd.ntmps14
  go_wp2_with fail
  refine (own_any g wr p t w k q HL.out).mono ?_
  rintro e w' ⟨rfl, rfl⟩
  rw [HO.out]
  go_wp2
  go_ret
  exact ⟨rfl, HL.out.setTxn hk x, (Kept.refl _ _).setCell (by simp) _⟩

set_option maxRecDepth 100000 in
theorem free_no (s q : Int) (h : LockAt w g wr p t) (ho : owns p s q = false) : Calls Tryd.prog 16 #[.pointer (some ⟨g, 0, none⟩), .int .i64 s, .int .i64 q] w fun e w' => e = .returned (.iface 69 (.int .i64 18)) ∧ w = w' := by
  have HL := hide h
  have HO := hide ho
  clear h ho
  go_enter Tryd.func16, Tryd.ntmps16
  go_wp2_with fail
  refine (own_any g wr p t w s q HL.out).mono ?_
  rintro e w' ⟨rfl, rfl⟩
  rw [HO.out]
  go_wp2
  go_ret
  exact ⟨rfl, rfl⟩

set_option maxRecDepth 100000 in
theorem free_own (k : Nat) (q : Int) (hk : k < 8) (h : LockAt w g wr p t) (ho : owns p k q = true) : Calls Tryd.prog 16 #[.pointer (some ⟨g, 0, none⟩), .int .i64 k, .int .i64 q] w fun e w' => e = .returned .nilIface ∧ LockAt w' g wr (upd p k 0) (upd t k 0) ∧ Kept [g] w w' := by
  have HL := hide h
  have HO := hide ho
  have c0 := h.pid hk
  have c1 := h.txn hk
  have f0 := Blk.free h (1 + k * 2)
  have f1 := Blk.free h (1 + k * 2 + 1)
  clear h ho
  go_enter Tryd.func16, Tryd.ntmps16
  go_wp2_with fail
  refine (own_any g wr p t w k q HL.out).mono ?_
  rintro e w' ⟨rfl, rfl⟩
  rw [HO.out]
  go_wp2
  go_ret
  exact ⟨rfl, (HL.out.setPid hk 0).setTxn hk 0, ((Kept.refl _ _).setCell (by simp) _).setCell (by simp) _⟩

set_option maxRecDepth 100000 in
theorem release_no (q : Int) (h : LockAt w g wr p t) (ho : q ≤ 0 ∨ wr ≠ q) : Calls Tryd.prog 9 #[.pointer (some ⟨g, 0, none⟩), .int .i64 q] w fun e w' => e = .returned (.bool false) ∧ w = w' := by
  have c0 : w.cell? ⟨g, 0, none⟩ = some (.int .i64 wr) := Blk.cell h 0
  clear h
  by_cases hq : q ≤ 0
  · clear ho
    go_enter Tryd.func9, Tryd.ntmps9
    go_wp2
    go_ret
    exact ⟨rfl, rfl⟩
  · have hne : wr ≠ q := ho.resolve_left hq
    have hb : (wr != q) = true := by simp [hne]
    clear ho hne
    go_enter Tryd.func9, Tryd.ntmps9
    go_wp2
    go_ret
    exact ⟨rfl, rfl⟩
set_option maxRecDepth 100000 in
theorem release_own (h : LockAt w g wr p t) (hq : 0 < wr) : Calls Tryd.prog 9 #[.pointer (some ⟨g, 0, none⟩), .int .i64 wr] w fun e w' => e = .returned (.bool true) ∧ LockAt w' g 0 p t ∧ Kept [g] w w' := by
  have HL := hide h
  have c0 : w.cell? ⟨g, 0, none⟩ = some (.int .i64 wr) := Blk.cell h 0
  have f0 := Blk.free h 0
  clear h
  go_enter Tryd.func9, Tryd.ntmps9
  go_wp2
  go_ret
  exact ⟨rfl, HL.out.setWr 0, (Kept.refl _ _).setCell (by simp) _⟩
end
end Go.Proofs.YthifbmopfcfokaaDoor
