/- pack.Num and the reference's Num tell a number as eight bytes, the lowest first.
   Conditions: the number is one of uint64. -/
import Derived.Test.YtkdihjhndebloaaGreatDoorChecked
import Derived.Test.YtkdihjhndebloaaGreatDoorBase
import Derived.WalkLawsBesides
import Derived.KernelRfl
namespace Go.Proofs.YtkdihjhndebloaaGreatDoor
open Go.RowKit

/-- The eight bytes of a number, the lowest first. -/
def numL (n : Int) : List Int := [n % 256, n / 256 % 256, n / 65536 % 256, n / 16777216 % 256, n / 4294967296 % 256, n / 1099511627776 % 256, n / 281474976710656 % 256, n / 72057594037927936 % 256]
def numS (n : Int) : ByteArray := strOfNums (numL n)
theorem numS_of {n : Int} {l : List Int} (h : l = numL n) : Ending.returned (.string (strOfNums l)) = .returned (.string (numS n)) := by rw [h]; rfl
theorem numS_size (n : Int) : (numS n).size = 8 := by simp [numS, strOfNums_size, numL]

/-- The string of eight bytes that lie in the newest block. -/
theorem conv8 (w : World) (c0 c1 c2 c3 c4 c5 c6 c7 : Int) :
    (convert 36 9 (.slice (some ⟨w.heap.size, 0, none⟩) 8 8)).run Tryz.prog (w.alloc (.cells #[.int .u8 c0, .int .u8 c1, .int .u8 c2, .int .u8 c3, .int .u8 c4, .int .u8 c5, .int .u8 c6, .int .u8 c7] 5)) =
      .ok (.string (strOfNums [c0, c1, c2, c3, c4, c5, c6, c7])) (w.alloc (.cells #[.int .u8 c0, .int .u8 c1, .int .u8 c2, .int .u8 c3, .int .u8 c4, .int .u8 c5, .int .u8 c6, .int .u8 c7] 5)) := by
  refine run_convert_bytes_arg (P := Tryz.prog) _ 36 5 Tryz.underlying36 Tryz.underlying5 w.heap.size 0 8 8 [c0, c1, c2, c3, c4, c5, c6, c7] rfl (fun i hi => ?_) 9 Tryz.underlying9
  rw [Nat.zero_add, (Blk.new w _ _).cell i]
  match i, hi with
  | 0, _ => rfl
  | 1, _ => rfl
  | 2, _ => rfl
  | 3, _ => rfl
  | 4, _ => rfl
  | 5, _ => rfl
  | 6, _ => rfl
  | 7, _ => rfl

theorem mk8 (w : World) : (Instr.makeSlice 36 (.int .i64 8) (.int .i64 8)).run Tryz.prog w = .ok (.slice (some ⟨w.heap.size, 0, none⟩) 8 8) (w.alloc (.cells #[.int .u8 0, .int .u8 0, .int .u8 0, .int .u8 0, .int .u8 0, .int .u8 0, .int .u8 0, .int .u8 0] 5)) := by kernel_rfl

set_option maxRecDepth 100000 in
theorem num_any (n : Int) (h0 : 0 ≤ n) (h1 : n < 18446744073709551616) (w : World) :
    Calls Tryz.prog 193 #[.int .u64 n] w fun e w' => e = .returned (.string (numS n)) ∧ Kept [] w w' := by
  have hmk := mk8
  have hcv := conv8
  go_enter Tryz.func193, Tryz.ntmps193
  go_wp2
  refine wp_loop_rounds 9 ?_
  iterate 9 (rw [rounds_succ]; go_wp2)
  go_ret
  exact ⟨numS_of (by simp only [numL, List.cons.injEq, and_true, true_and]; omega), (Kept.refl _ _).alloc _⟩

set_option maxRecDepth 100000 in
theorem numr_any (n : Int) (h0 : 0 ≤ n) (h1 : n < 18446744073709551616) (w : World) :
    Calls Tryz.prog 213 #[.int .u64 n] w fun e w' => e = .returned (.string (numS n)) ∧ Kept [] w w' := by
  have hmk := mk8
  have hcv := conv8
  go_enter Tryz.func213, Tryz.ntmps213
  go_wp2
  refine wp_loop_rounds 9 ?_
  iterate 9 (rw [rounds_succ]; go_wp2)
  go_ret
  exact ⟨numS_of (by simp only [numL, List.cons.injEq, and_true, true_and]; omega), (Kept.refl _ _).alloc _⟩
end Go.Proofs.YtkdihjhndebloaaGreatDoor
