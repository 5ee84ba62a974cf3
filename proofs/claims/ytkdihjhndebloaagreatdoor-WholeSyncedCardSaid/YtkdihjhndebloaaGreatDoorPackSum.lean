/- pack.Sum and the reference's Sum tell a text's sum: 5381 at first, for each byte times 33, plus it, by 64 bits.
   Conditions: the text's length is an int. -/
import Derived.Test.YtkdihjhndebloaaGreatDoorPackNum
namespace Go.Proofs.YtkdihjhndebloaaGreatDoor
open Go.RowKit

def sumStep (h : Int) (b : UInt8) : Int := IntKind.u64.wrap (IntKind.u64.wrap (h * 33) + IntKind.u64.wrap b.toNat)
def sumL (l : List UInt8) : Int := l.foldl sumStep 5381
def sumS (s : ByteArray) : Int := sumL s.data.toList
theorem sumL_snoc (l : List UInt8) (b : UInt8) : sumL (l ++ [b]) = sumStep (sumL l) b := by simp [sumL]
theorem wrap_u64 (n : Int) : 0 ≤ IntKind.u64.wrap n ∧ IntKind.u64.wrap n < 18446744073709551616 := by
  rw [IntKind.wrap_u64]
  omega
theorem sumStep_bd (h : Int) (b : UInt8) : 0 ≤ sumStep h b ∧ sumStep h b < 18446744073709551616 := wrap_u64 _
theorem sumL_bd (l : List UInt8) : 0 ≤ sumL l ∧ sumL l < 18446744073709551616 := by
  rcases List.eq_nil_or_concat l with rfl | ⟨l', b, rfl⟩
  · simp [sumL]
  · rw [List.concat_eq_append, sumL_snoc]
    exact sumStep_bd _ _
theorem take_snoc (s : ByteArray) (k : Nat) (h : k < s.size) : s.data.toList.take (k + 1) = s.data.toList.take k ++ [s[k]] := by
  rw [List.take_succ_eq_append_getElem (by simpa using h)]; rfl
theorem sum_snoc (s : ByteArray) (k : Nat) (h : k < s.size) : Value.int .u64 (IntKind.u64.wrap (IntKind.u64.wrap (sumL (s.data.toList.take k) * 33) + IntKind.u64.wrap (s[k].toNat : Int))) = .int .u64 (sumL (s.data.toList.take (k + 1))) := by
  rw [take_snoc s k h, sumL_snoc]
  rfl
theorem sum_all (s : ByteArray) (k : Nat) (h : s.size ≤ k) : Ending.returned (.int .u64 (sumL (s.data.toList.take k))) = .returned (.int .u64 (sumS s)) := by
  rw [List.take_of_length_le (by simpa using h)]
  rfl

set_option maxRecDepth 100000 in
theorem sum_any (s : ByteArray) (hs : s.size ≤ 9223372036854775807) (w : World) :
    Calls Tryz.prog 194 #[.string s] w fun e w' => e = .returned (.int .u64 (sumS s)) ∧ w = w' := by
  go_enter Tryz.func194, Tryz.ntmps194
  go_wp2
  go_step3
  go_wp2
  go_step3
  go_wp2
  refine wp_loop_rounds 1 ?_
  rw [rounds_succ]
  go_wp2
  go_loop [3, 4, 7] (fun t _ i => ∃ k : Nat, k ≤ s.size ∧ i = .int .i64 k ∧ t = .int .u64 (sumL (s.data.toList.take k))) (fun _ _ i => s.size - (intOf i).toNat)
  case atStart => exact ⟨0, Nat.zero_le _, rfl, rfl⟩
  case round =>
    obtain ⟨k, hk, rfl, rfl⟩ := hrel
    by_cases hlt : k < s.size
    · go_wp2
      go_round
      case rel => exact ⟨k + 1, hlt, by go_num, sum_snoc s k hlt⟩
      case measure => simp [intOf]; omega
    · go_wp2
      go_ret
      exact ⟨sum_all s k (by omega), rfl⟩
set_option maxRecDepth 100000 in
theorem sumr_any (s : ByteArray) (hs : s.size ≤ 9223372036854775807) (w : World) :
    Calls Tryz.prog 125 #[.string s] w fun e w' => e = .returned (.int .u64 (sumS s)) ∧ w = w' := by
  go_enter Tryz.func125, Tryz.ntmps125
  go_wp2
  go_loop [3, 4] (fun t i => ∃ k : Nat, k ≤ s.size ∧ i = .int .i64 k ∧ t = .int .u64 (sumL (s.data.toList.take k))) (fun _ i => s.size - (intOf i).toNat)
  case atStart => exact ⟨0, Nat.zero_le _, rfl, rfl⟩
  case round =>
    obtain ⟨k, hk, rfl, rfl⟩ := hrel
    by_cases hlt : k < s.size
    · go_wp2
      go_round
      case rel => exact ⟨k + 1, hlt, by go_num, sum_snoc s k hlt⟩
      case measure => simp [intOf]; omega
    · go_wp2
      go_ret
      exact ⟨sum_all s k (by omega), rfl⟩
end Go.Proofs.YtkdihjhndebloaaGreatDoor
