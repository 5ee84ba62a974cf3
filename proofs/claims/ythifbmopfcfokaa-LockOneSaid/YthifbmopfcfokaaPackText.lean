/- pack.Text and the reference's Text tell a text as two bytes, how long, and its bytes, at most 65535.
   Conditions: the text takes no more bytes than a process can hold. -/
import Derived.Test.YthifbmopfcfokaaPackNum
import Derived.RegionTactic
import Derived.BigRegion
namespace Go.Proofs.Ythifbmopfcfokaa
open Go.RowKit

theorem conv2 (w : World) (c0 c1 : Int) :
    (convert 42 9 (.slice (some ⟨w.heap.size, 0, none⟩) 2 2)).run Try.prog (w.alloc (.cells #[.int .u8 c0, .int .u8 c1] 5)) =
      .ok (.string (strOfNums [c0, c1])) (w.alloc (.cells #[.int .u8 c0, .int .u8 c1] 5)) := by
  refine run_convert_bytes_arg (P := Try.prog) _ 42 5 Try.underlying42 Try.underlying5 w.heap.size 0 2 2 [c0, c1] rfl (fun i hi => ?_) 9 Try.underlying9
  rw [Nat.zero_add, (Blk.new w _ _).cell i]
  match i, hi with
  | 0, _ => rfl
  | 1, _ => rfl
theorem conv2d (w : World) (c0 c1 : Int) :
    (convert 42 9 (.slice (some ⟨w.heap.size, 0, none⟩) 2 2)).run Try.prog (w.alloc (.cells #[.int .u8 c0, .int .u8 c1] 5)).drew =
      .ok (.string (strOfNums [c0, c1])) (w.alloc (.cells #[.int .u8 c0, .int .u8 c1] 5)).drew := by
  refine run_convert_bytes_arg (P := Try.prog) _ 42 5 Try.underlying42 Try.underlying5 w.heap.size 0 2 2 [c0, c1] rfl (fun i hi => ?_) 9 Try.underlying9
  rw [Nat.zero_add, (Blk.new w _ _).drew.cell i]
  match i, hi with
  | 0, _ => rfl
  | 1, _ => rfl

/-- A text's bytes: how long, the lowest first; the text. -/
def textS (s : ByteArray) : ByteArray := if s.size ≤ 65535 then strOfNums [(s.size : Int) % 256, (s.size : Int) / 256] ++ s else strOfNums [255, 255] ++ s.extract 0 65535
theorem textS_short {s : ByteArray} (h : s.size ≤ 65535) : Ending.returned (.string (strOfNums [(s.size : Int) % 256, (s.size : Int) / 256] ++ s)) = .returned (.string (textS s)) := by
  rw [textS, if_pos h]
theorem textS_long {s : ByteArray} (h : ¬ s.size ≤ 65535) : Ending.returned (.string (strOfNums [255, 255] ++ s.extract 0 65535)) = .returned (.string (textS s)) := by
  rw [textS, if_neg h]
theorem two_size (c0 c1 : Int) : (strOfNums [c0, c1]).size = 2 := by simp [strOfNums_size]

set_option maxRecDepth 100000 in
theorem text_short (s : ByteArray) (hs : s.size ≤ 65535) (w : World) :
    Calls Try.prog 17 #[.string s] w fun e w' => e = .returned (.string (textS s)) ∧ Kept [] w w' := by
  have hcv := conv2
  have hsz := two_size
  go_enter Try.func17, Try.ntmps17
  go_wp2
  go_ret
  exact ⟨textS_short hs, (Kept.refl _ _).alloc _⟩
set_option maxRecDepth 100000 in
theorem text_long (s : ByteArray) (hs : ¬ s.size ≤ 65535) (hr : s.size ≤ 140737488351232) (w : World) :
    Calls Try.prog 17 #[.string s] w fun e w' => e = .returned (.string (textS s)) ∧ Kept [] w w' := by
  have hcv := conv2
  have hsz := two_size
  have hm : min 65535 s.size = 65535 := by omega
  go_enter Try.func17, Try.ntmps17
  go_wp2
  go_ret
  exact ⟨textS_long hs, (Kept.refl _ _).alloc _⟩
theorem text_any (s : ByteArray) (hr : s.size ≤ 140737488351232) (w : World) :
    Calls Try.prog 17 #[.string s] w fun e w' => e = .returned (.string (textS s)) ∧ Kept [] w w' := by
  by_cases h : s.size ≤ 65535
  · exact text_short s h w
  · exact text_long s h hr w

set_option maxRecDepth 100000 in
theorem textr_short (s : ByteArray) (hs : s.size ≤ 65535) (w : World) :
    Calls Try.prog 18 #[.string s] w fun e w' => e = .returned (.string (textS s)) ∧ Kept [] w w' := by
  have hcv := conv2d
  have hsz := two_size
  go_enter Try.func18, Try.ntmps18
  go_wp2
  go_region
  all_goals go_wp2
  all_goals go_ret
  all_goals exact ⟨textS_short hs, ((Kept.refl _ _).alloc _).drew⟩
set_option maxRecDepth 100000 in
theorem textr_long (s : ByteArray) (hs : ¬ s.size ≤ 65535) (hr : s.size ≤ 140737488351232) (w : World) :
    Calls Try.prog 18 #[.string s] w fun e w' => e = .returned (.string (textS s)) ∧ Kept [] w w' := by
  have hcv := conv2d
  have hsz := two_size
  have hm : min 65535 s.size = 65535 := by omega
  go_enter Try.func18, Try.ntmps18
  go_wp2
  go_region
  all_goals go_wp2
  all_goals go_ret
  all_goals exact ⟨textS_long hs, ((Kept.refl _ _).alloc _).drew⟩
theorem textr_any (s : ByteArray) (hr : s.size ≤ 140737488351232) (w : World) :
    Calls Try.prog 18 #[.string s] w fun e w' => e = .returned (.string (textS s)) ∧ Kept [] w w' := by
  by_cases h : s.size ≤ 65535
  · exact textr_short s h w
  · exact textr_long s h hr w
end Go.Proofs.Ythifbmopfcfokaa
