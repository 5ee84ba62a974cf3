/- What is taken from the front of bytes: pack.Cut's take and the reference's Take.
   Conditions: the cut lies whole in a block; the number asked for is not negative; the bytes are no more than an int counts. -/
import Derived.Test.YtkdihjhndebloaaGreatDoorPackNum
namespace Go.Proofs.YtkdihjhndebloaaGreatDoor
open Go.RowKit

/-- The error of a cut. -/
def errV (bad : Bool) : Value := if bad then .iface 74 (.int .i64 11) else .nilIface
/-- A cut of the program's: its bytes, whether some lacked. -/
def CutAt (w : World) (g : Nat) (s : ByteArray) (bad : Bool) : Prop := Blk w g 314 #[.string s, errV bad]
/-- A cut of the reference's. -/
def RefAt (w : World) (g : Nat) (s : ByteArray) (bad : Bool) : Prop := Blk w g 254 #[.string s, .bool bad]

def takeB (s : ByteArray) (bad : Bool) (n : Nat) : Bool := bad || decide (s.size < n)
def takeV (s : ByteArray) (bad : Bool) (n : Nat) : ByteArray := if takeB s bad n then ⟨#[]⟩ else s.extract 0 n
def takeS (s : ByteArray) (bad : Bool) (n : Nat) : ByteArray := if takeB s bad n then s else s.extract n s.size

theorem take_bad (s : ByteArray) (n : Nat) : takeB s true n = true ∧ takeV s true n = ⟨#[]⟩ ∧ takeS s true n = s := by simp [takeV, takeS, takeB]
theorem take_less {s : ByteArray} {bad : Bool} {n : Nat} (h : s.size < n) : takeB s bad n = true ∧ takeV s bad n = ⟨#[]⟩ ∧ takeS s bad n = s := by simp [takeV, takeS, takeB, h]
theorem take_good {s : ByteArray} {n : Nat} (h : n ≤ s.size) : takeB s false n = false ∧ takeV s false n = s.extract 0 n ∧ takeS s false n = s.extract n s.size := by
  have h' : ¬ s.size < n := by omega
  simp [takeV, takeS, takeB, h']

section
variable (g : Nat) (s : ByteArray) (w : World)

theorem cut_cells {g : Nat} {s : ByteArray} {w : World} (h : CutAt w g s false) : w.cell? ⟨g, 0, none⟩ = some (.string s) ∧ w.cell? ⟨g, 1, none⟩ = some .nilIface ∧ w.frozen? ⟨g, 0, none⟩ = false ∧ w.frozen? ⟨g, 1, none⟩ = false :=
  ⟨h.cell 0, h.cell 1, h.free 0, h.free 1⟩
theorem cut_cells_bad {g : Nat} {s : ByteArray} {w : World} (h : CutAt w g s true) : w.cell? ⟨g, 0, none⟩ = some (.string s) ∧ w.cell? ⟨g, 1, none⟩ = some (.iface 74 (.int .i64 11)) ∧ w.frozen? ⟨g, 0, none⟩ = false ∧ w.frozen? ⟨g, 1, none⟩ = false :=
  ⟨h.cell 0, h.cell 1, h.free 0, h.free 1⟩
theorem ref_cells {g : Nat} {s : ByteArray} {bad : Bool} {w : World} (h : RefAt w g s bad) : w.cell? ⟨g, 0, none⟩ = some (.string s) ∧ w.cell? ⟨g, 1, none⟩ = some (.bool bad) ∧ w.frozen? ⟨g, 0, none⟩ = false ∧ w.frozen? ⟨g, 1, none⟩ = false :=
  ⟨h.cell 0, h.cell 1, h.free 0, h.free 1⟩
theorem cut_set0 {g : Nat} {s s' : ByteArray} {bad : Bool} {w : World} (h : CutAt w g s bad) : CutAt (w.setCell ⟨g, 0, none⟩ (.string s')) g s' bad := Blk.set h 0 _
theorem cut_set1 {g : Nat} {s : ByteArray} {bad : Bool} {w : World} (h : CutAt w g s bad) : CutAt (w.setCell ⟨g, 1, none⟩ (.iface 74 (.int .i64 11))) g s true := Blk.set h 1 _
theorem ref_set0 {g : Nat} {s s' : ByteArray} {bad : Bool} {w : World} (h : RefAt w g s bad) : RefAt (w.setCell ⟨g, 0, none⟩ (.string s')) g s' bad := Blk.set h 0 _
theorem ref_set1 {g : Nat} {s : ByteArray} {bad : Bool} {w : World} (h : RefAt w g s bad) : RefAt (w.setCell ⟨g, 1, none⟩ (.bool true)) g s true := Blk.set h 1 _

/-- What a take leaves. -/
def Took (At : World → Nat → ByteArray → Bool → Prop) (w w' : World) (g : Nat) (s : ByteArray) (bad : Bool) (n : Nat) : Prop := At w' g (takeS s bad n) (takeB s bad n) ∧ Kept [g] w w'

set_option maxRecDepth 100000 in
theorem take_any_bad (n : Int) (h : CutAt w g s true) : Calls Tryz.prog 179 #[.pointer (some ⟨g, 0, none⟩), .int .i64 n] w fun e w' => e = .returned (.string ⟨#[]⟩) ∧ w' = w.setCell ⟨g, 1, none⟩ (.iface 74 (.int .i64 11)) := by
  obtain ⟨c0, c1, f0, f1⟩ := cut_cells_bad h
  go_enter Tryz.func179, Tryz.ntmps179
  go_wp2
  go_ret
  exact ⟨rfl, rfl⟩
set_option maxRecDepth 100000 in
theorem take_any_less (n : Nat) (hn : s.size < n) (h : CutAt w g s false) : Calls Tryz.prog 179 #[.pointer (some ⟨g, 0, none⟩), .int .i64 n] w fun e w' => e = .returned (.string ⟨#[]⟩) ∧ w' = w.setCell ⟨g, 1, none⟩ (.iface 74 (.int .i64 11)) := by
  obtain ⟨c0, c1, f0, f1⟩ := cut_cells h
  go_enter Tryz.func179, Tryz.ntmps179
  go_wp2
  go_ret
  exact ⟨rfl, rfl⟩
set_option maxRecDepth 100000 in
theorem take_any_good (n : Nat) (hn : n ≤ s.size) (_hs : s.size ≤ 9223372036854775807) (h : CutAt w g s false) : Calls Tryz.prog 179 #[.pointer (some ⟨g, 0, none⟩), .int .i64 n] w fun e w' => e = .returned (.string (s.extract 0 n)) ∧ w' = w.setCell ⟨g, 0, none⟩ (.string (s.extract n s.size)) := by
  obtain ⟨c0, c1, f0, f1⟩ := cut_cells h
  go_enter Tryz.func179, Tryz.ntmps179
  go_wp2
  go_ret
  exact ⟨rfl, rfl⟩
theorem take_any (bad : Bool) (n : Int) (h0 : 0 ≤ n) (hs : s.size ≤ 9223372036854775807) (h : CutAt w g s bad) :
    Calls Tryz.prog 179 #[.pointer (some ⟨g, 0, none⟩), .int .i64 n] w fun e w' => e = .returned (.string (takeV s bad n.toNat)) ∧ Took CutAt w w' g s bad n.toNat := by
  obtain ⟨n, rfl⟩ := Int.eq_ofNat_of_zero_le h0
  rw [Int.toNat_natCast]
  unfold Took
  cases bad with
  | true =>
    obtain ⟨e1, e2, e3⟩ := take_bad s n
    rw [e1, e2, e3]
    exact (take_any_bad g s w n h).mono fun e w' ⟨he, hw⟩ => by subst hw; exact ⟨he, cut_set1 h, (Kept.refl _ _).setCell (by simp) _⟩
  | false =>
    by_cases hn : s.size < n
    · obtain ⟨e1, e2, e3⟩ := take_less (bad := false) hn
      rw [e1, e2, e3]
      exact (take_any_less g s w n hn h).mono fun e w' ⟨he, hw⟩ => by subst hw; exact ⟨he, cut_set1 h, (Kept.refl _ _).setCell (by simp) _⟩
    · obtain ⟨e1, e2, e3⟩ := take_good (s := s) (n := n) (by omega)
      rw [e1, e2, e3]
      exact (take_any_good g s w n (by omega) hs h).mono fun e w' ⟨he, hw⟩ => by subst hw; exact ⟨he, cut_set0 h, (Kept.refl _ _).setCell (by simp) _⟩

set_option maxRecDepth 100000 in
theorem taker_any_bad (n : Int) (h : RefAt w g s true) : Calls Tryz.prog 197 #[.pointer (some ⟨g, 0, none⟩), .int .i64 n] w fun e w' => e = .returned (.string ⟨#[]⟩) ∧ w' = w.setCell ⟨g, 1, none⟩ (.bool true) := by
  obtain ⟨c0, c1, f0, f1⟩ := ref_cells h
  go_enter Tryz.func197, Tryz.ntmps197
  go_wp2
  go_ret
  exact ⟨rfl, rfl⟩
set_option maxRecDepth 100000 in
theorem taker_any_less (n : Nat) (hn : s.size < n) (h : RefAt w g s false) : Calls Tryz.prog 197 #[.pointer (some ⟨g, 0, none⟩), .int .i64 n] w fun e w' => e = .returned (.string ⟨#[]⟩) ∧ w' = w.setCell ⟨g, 1, none⟩ (.bool true) := by
  obtain ⟨c0, c1, f0, f1⟩ := ref_cells h
  go_enter Tryz.func197, Tryz.ntmps197
  go_wp2
  go_ret
  exact ⟨rfl, rfl⟩
set_option maxRecDepth 100000 in
theorem taker_any_good (n : Nat) (hn : n ≤ s.size) (_hs : s.size ≤ 9223372036854775807) (h : RefAt w g s false) : Calls Tryz.prog 197 #[.pointer (some ⟨g, 0, none⟩), .int .i64 n] w fun e w' => e = .returned (.string (s.extract 0 n)) ∧ w' = w.setCell ⟨g, 0, none⟩ (.string (s.extract n s.size)) := by
  obtain ⟨c0, c1, f0, f1⟩ := ref_cells h
  go_enter Tryz.func197, Tryz.ntmps197
  go_wp2
  go_ret
  exact ⟨rfl, rfl⟩
theorem taker_any (bad : Bool) (n : Int) (h0 : 0 ≤ n) (hs : s.size ≤ 9223372036854775807) (h : RefAt w g s bad) :
    Calls Tryz.prog 197 #[.pointer (some ⟨g, 0, none⟩), .int .i64 n] w fun e w' => e = .returned (.string (takeV s bad n.toNat)) ∧ Took RefAt w w' g s bad n.toNat := by
  obtain ⟨n, rfl⟩ := Int.eq_ofNat_of_zero_le h0
  rw [Int.toNat_natCast]
  unfold Took
  cases bad with
  | true =>
    obtain ⟨e1, e2, e3⟩ := take_bad s n
    rw [e1, e2, e3]
    exact (taker_any_bad g s w n h).mono fun e w' ⟨he, hw⟩ => by subst hw; exact ⟨he, ref_set1 h, (Kept.refl _ _).setCell (by simp) _⟩
  | false =>
    by_cases hn : s.size < n
    · obtain ⟨e1, e2, e3⟩ := take_less (bad := false) hn
      rw [e1, e2, e3]
      exact (taker_any_less g s w n hn h).mono fun e w' ⟨he, hw⟩ => by subst hw; exact ⟨he, ref_set1 h, (Kept.refl _ _).setCell (by simp) _⟩
    · obtain ⟨e1, e2, e3⟩ := take_good (s := s) (n := n) (by omega)
      rw [e1, e2, e3]
      exact (taker_any_good g s w n (by omega) hs h).mono fun e w' ⟨he, hw⟩ => by subst hw; exact ⟨he, ref_set0 h, (Kept.refl _ _).setCell (by simp) _⟩

set_option maxRecDepth 100000 in
theorem new_any : Calls Tryz.prog 114 #[.string s] w fun e w' => e = .returned (.pointer (some ⟨w.heap.size, 0, none⟩)) ∧ w' = w.alloc (.cells #[.string s, .nilIface] 314) := by
  go_enter Tryz.func114, Tryz.ntmps114
  go_wp2
  go_ret
  exact ⟨rfl, rfl⟩
set_option maxRecDepth 100000 in
theorem err_any (bad : Bool) (h : CutAt w g s bad) : Calls Tryz.prog 280 #[.pointer (some ⟨g, 0, none⟩)] w fun e w' => e = .returned (errV bad) ∧ w = w' := by
  have c0 : w.cell? ⟨g, 1, none⟩ = some (errV bad) := h.cell 1
  go_enter Tryz.func280, Tryz.ntmps280
  go_wp2
  go_ret
  exact ⟨rfl, rfl⟩
end
end Go.Proofs.YtkdihjhndebloaaGreatDoor
