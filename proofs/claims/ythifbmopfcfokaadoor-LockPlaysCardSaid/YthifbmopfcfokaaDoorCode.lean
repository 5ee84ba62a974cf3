/- An error's number. Conditions: nil, or an api.Errno; the package-level variable of errors holds the type error. -/
import Derived.Test.YthifbmopfcfokaaDoorAs
import Derived.Test.YthifbmopfcfokaaDoorLKnown
namespace Go.Proofs.YthifbmopfcfokaaDoor
open Go.RowKit

set_option maxRecDepth 100000 in
theorem code_nil (w : World) : Calls Tryd.prog 13 #[.nilIface] w fun e w' => e = .returned (.int .i64 0) ∧ Kept [] w w' := by
  go_enter Tryd.func13, Tryd.ntmps13
  go_wp2
  go_ret
  exact ⟨rfl, (Kept.refl _ _).alloc _⟩

set_option maxRecDepth 100000 in
theorem code_errno (n : Int) (w : World) (hg : ErrVar w) : Calls Tryd.prog 13 #[.iface 69 (.int .i64 n)] w fun e w' => e = .returned (.int .i64 n) ∧ Kept [] w w' := by
  have k1 : Kept [] w (w.alloc (.cells #[.int .i64 0] 69)) := (Kept.refl _ _).alloc _
  have hb := Blk.new w 69 #[.int .i64 0]
  have HA := hide (as_hit n ⟨w.heap.size, 0, none⟩ (.int .i64 0) (w.alloc (.cells #[.int .i64 0] 69)) (hg.kept0 k1) (hb.cell 0) (hb.free 0))
  clear hb k1
  go_enter Tryd.func13, Tryd.ntmps13
  go_wp2_with fail
  refine HA.out.mono ?_
  rintro e w' ⟨rfl, hw⟩
  have k1 : Kept [] w (w.alloc (.cells #[.int .i64 0] 69)) := (Kept.refl _ _).alloc _
  have k2 : Kept [] w w' := by
    rw [hw]
    exact ((((k1.alloc _).alloc _).alloc _).alloc _).setCell (p := ⟨w.heap.size, 0, none⟩) (.inr (Nat.le_refl _)) _
  have c0 : w'.cell? ⟨w.heap.size, 0, none⟩ = some (.int .i64 n) := by
    rw [hw]
    exact ((((((Blk.new w 69 #[.int .i64 0]).alloc _).alloc _).alloc _).alloc _).set 0 (.int .i64 n)).cell 0
  clear hw
  go_wp2
  go_ret
  exact ⟨rfl, k2⟩
end Go.Proofs.YthifbmopfcfokaaDoor
