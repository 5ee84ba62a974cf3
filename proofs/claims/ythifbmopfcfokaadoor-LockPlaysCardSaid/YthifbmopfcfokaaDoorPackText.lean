/- pack.Text and the reference's Text tell a text as two bytes, how long, and its bytes, at most 65535.
   Conditions: the text takes no more bytes than a process can hold. -/
import Derived.Test.YthifbmopfcfokaaDoorPackNum
import Derived.RegionTactic
import Derived.BigRegion
namespace Go.Proofs.YthifbmopfcfokaaDoor
open Go.RowKit

theorem conv2 (w : World) (c0 c1 : Int) :
    (convert 108 9 (.slice (some ⟨w.heap.size, 0, none⟩) 2 2)).run Tryd.prog (w.alloc (.cells #[.int .u8 c0, .int .u8 c1] 5)) =
      .ok (.string (strOfNums [c0, c1])) (w.alloc (.cells #[.int .u8 c0, .int .u8 c1] 5)) := by
  refine run_convert_bytes_arg (P := Tryd.prog) _ 108 5 Tryd.underlying108 Tryd.underlying5 w.heap.size 0 2 2 [c0, c1] rfl (fun i hi => ?_) 9 Tryd.underlying9
  rw [Nat.zero_add, (Blk.new w _ _).cell i]
  match i, hi with
  | 0, _ => rfl
  | 1, _ => rfl
theorem conv2d (w : World) (c0 c1 : Int) :
    (convert 108 9 (.slice (some ⟨w.heap.size, 0, none⟩) 2 2)).run Tryd.prog (w.alloc (.cells #[.int .u8 c0, .int .u8 c1] 5)).drew =
      .ok (.string (strOfNums [c0, c1])) (w.alloc (.cells #[.int .u8 c0, .int .u8 c1] 5)).drew := by
  refine run_convert_bytes_arg (P := Tryd.prog) _ 108 5 Tryd.underlying108 Tryd.underlying5 w.heap.size 0 2 2 [c0, c1] rfl (fun i hi => ?_) 9 Tryd.underlying9
  rw [Nat.zero_add, (Blk.new w _ _).drew.cell i]
  match i, hi with
  | 0, _ => rfl
  | 1, _ => rfl

/-- A text's bytes: how long, the lowest first; the text. -/
def textS (s : ByteArray) : ByteArray := if s.size ≤ 65535 then strOfNums [(s.size : Int) % 256, (s.size : Int) / 256] ++ s else strOfNums [255, 255] ++ s.extract 0 65535
theorem textS_short {s : ByteArray} (h : s.size ≤ 65535) : Ending.returned (.string (strOfNums [(s.size : Int) % 256, (s.size : Int) / 256] ++ s)) = .returned (.string (textS s)) := by
  rw [textS, if_pos h]
theorem textS_long {s : ByteArray} (h : ¬ s.size ≤ 65535) : Ending.returned (.string (strOfNums [255, 255] ++ s.extract 0 65535)) = .returned (.string (textS s)) := by
  rw [textS, if_neg h]
theorem two_size (c0 c1 : Int) : (strOfNums [c0, c1]).size = 2 := by simp [strOfNums_size]

end Go.Proofs.YthifbmopfcfokaaDoor
