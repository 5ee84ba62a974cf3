/- The lock: Slots, a row of slots of the call's own. Conditions: the lock lies whole in a block. -/
import Derived.Test.YthifbmopfcfokaaDoorLTake
namespace Go.Proofs.YthifbmopfcfokaaDoor
open Go.RowKit Go.Conc

/-- A row of all slots at block b. -/
def slotsA (p t : Nat → Int) : Array Value := #[.int .i64 (p 0), .int .u64 (t 0), .int .i64 (p 1), .int .u64 (t 1), .int .i64 (p 2), .int .u64 (t 2), .int .i64 (p 3), .int .u64 (t 3), .int .i64 (p 4), .int .u64 (t 4), .int .i64 (p 5), .int .u64 (t 5), .int .i64 (p 6), .int .u64 (t 6), .int .i64 (p 7), .int .u64 (t 7)]
def SlotsAt (w : World) (b : Nat) (p t : Nat → Int) : Prop := ∃ rest : Array Value, Blk w b 31 (slotsA p t ++ rest)
section
variable {w w' : World} {b : Nat} {p t : Nat → Int}
theorem SlotsAt.pid (h : SlotsAt w b p t) {k : Nat} (hk : k < 8) : w.cell? ⟨b, k * 2, none⟩ = some (.int .i64 (p k)) := by
  obtain ⟨rest, h⟩ := h
  have hz : (slotsA p t).size = 16 := rfl
  rw [h.cell, Array.getElem?_append_left (by omega)]
  match k, hk with
  | 0, _ | 1, _ | 2, _ | 3, _ | 4, _ | 5, _ | 6, _ | 7, _ => rfl
theorem SlotsAt.txn (h : SlotsAt w b p t) {k : Nat} (hk : k < 8) : w.cell? ⟨b, k * 2 + 1, none⟩ = some (.int .u64 (t k)) := by
  obtain ⟨rest, h⟩ := h
  have hz : (slotsA p t).size = 16 := rfl
  rw [h.cell, Array.getElem?_append_left (by omega)]
  match k, hk with
  | 0, _ | 1, _ | 2, _ | 3, _ | 4, _ | 5, _ | 6, _ | 7, _ => rfl
theorem SlotsAt.kept0 (h : SlotsAt w b p t) (k : Kept [] w w') : SlotsAt w' b p t := by
  obtain ⟨rest, h⟩ := h
  exact ⟨rest, h.kept0 k⟩
end

section
variable (g : Nat) (wr : Int) (p t : Nat → Int) (w : World)
set_option maxRecDepth 100000 in
theorem slots_any (h : LockAt w g wr p t) : Calls Tryd.prog 32 #[.pointer (some ⟨g, 0, none⟩)] w fun e w' => ∃ b c, e = .returned (.slice (some ⟨b, 0, none⟩) 8 c) ∧ SlotsAt w' b p t ∧ Kept [] w w' := by
  have hgl := Blk.lt h
  obtain ⟨c1, c2, c3, c4, c5, c6, c7, c8, c9, c10, c11, c12, c13, c14, c15, c16⟩ := h.cells
  clear h
  go_enter Tryd.func32, Tryd.ntmps32
  go_wp2
  go_ret
  exact ⟨_, _, rfl, ⟨_, Blk.new _ _ _⟩, (Kept.refl _ _).drew.alloc _⟩
end
end Go.Proofs.YthifbmopfcfokaaDoor
