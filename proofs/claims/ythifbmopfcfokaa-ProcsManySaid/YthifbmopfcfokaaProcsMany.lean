/- What ProcsMany answers: true, at every number. Conditions: none. -/
import Derived.Test.YthifbmopfcfokaaLive
namespace Go.Proofs.Ythifbmopfcfokaa
open Go.RowKit

/-- The numbers 1 .. k. -/
def upK (k : Nat) : List Int := (List.range k).map fun i : Nat => (i : Int) + 1
theorem upK_succ (k : Nat) : upK k ++ [(k : Int) + 1] = upK (k + 1) := by simp [upK, List.range_succ]
theorem upK_len (k : Nat) : (upK k).length = k := by simp [upK]
theorem wo_up (n : Int) (h0 : 0 ≤ n) (h1 : n < 64) : (wo (upK 64) (n + 1)).length = 63 ∧ n + 1 ∈ upK 64 ∧ n + 1 ∉ wo (upK 64) (n + 1) ++ [65] := by
  have h : ∀ i : Fin 64, (wo (upK 64) (i.val + 1)).length = 63 ∧ (i.val : Int) + 1 ∈ upK 64 ∧ (i.val : Int) + 1 ∉ wo (upK 64) (i.val + 1) ++ [65] := by decide +kernel
  have h2 := h ⟨n.toNat, by omega⟩
  simpa [Int.toNat_of_nonneg h0] using h2

set_option maxRecDepth 100000 in
theorem many_any (n : Int) (n0 : 0 ≤ n) (n1 : n < 256) (w : World) : Calls Try.prog 8 #[.int .u8 n] w fun e w' => e = .returned (.bool true) ∧ Kept [] w w' := by
  have HU := hide (wo_up (n % 64) (Int.emod_nonneg _ (by omega)) (Int.emod_lt_of_pos _ (by omega)))
  go_enter Try.func8, Try.ntmps8
  go_wp2_with fail
  refine (known5_any w).mono ?_
  rintro e w1 ⟨rfl, k1⟩
  go_wp2_with fail
  refine (new_L w [] _ k1 (by simp)).mono ?_
  rintro e w2 ⟨g, rfl, h2, _, _⟩
  go_wp2
  go_loopw [4, 5, 6] (fun i _ _ wr => ∃ k : Nat, k ≤ 64 ∧ i = .int .i64 (k + 1) ∧ Live w wr g (upK k) k []) (fun i _ _ _ => 65 - (intOf i).toNat)
  case atStart => exact ⟨0, Nat.zero_le _, rfl, h2⟩
  case round =>
    obtain ⟨k, hk, rfl, h⟩ := hrel
    by_cases hlt : k < 64
    · go_wp2_with fail
      refine (spawn_L w g _ _ [] _ h (by rw [upK_len]; exact hlt) (by omega) (by omega)).mono ?_
      rintro e w3 ⟨rfl, h3, _, _⟩
      rw [upK_succ] at h3
      go_wp2
      go_roundw
      case rel => exact ⟨k + 1, hlt, by go_num, by simpa using h3⟩
      case measure => simp [intOf]; omega
    · obtain rfl : k = 64 := by omega
      rw [show ((64 : Nat) : Int) = 64 from rfl] at h ⊢
      go_wp2_with fail
      refine (spawn_Lf w g _ _ [] _ h (upK_len 64)).mono ?_
      rintro e w3 ⟨rfl, h3, _⟩
      go_wp2_with fail
      refine (kill_L w g _ _ [] _ (n % 64 + 1) h3 HU.out.2.1).mono ?_
      rintro e w4 ⟨rfl, h4, _, _⟩
      go_wp2_with fail
      refine (spawn_L w g _ _ [] _ h4 (by rw [HU.out.1]; omega) (by omega) (by omega)).mono ?_
      rintro e w5 ⟨rfl, h5, _, _⟩
      go_wp2_with fail
      refine (is_same 26 _).mono ?_
      rintro e w6 ⟨rfl, rfl⟩
      go_wp2_with fail
      refine (lives_L w g _ _ _ _ (n % 64 + 1) h5).mono ?_
      rintro e w7 ⟨rfl, rfl⟩
      rw [show decide (n % 64 + 1 ∈ wo (upK 64) (n % 64 + 1) ++ [64 + 1]) = false from decide_eq_false HU.out.2.2]
      go_wp2_with fail
      refine (all_L w g _ _ _ _ h5 (by rw [List.length_append, HU.out.1]; decide)).mono ?_
      rintro e w12 ⟨A', n', c', rfl, hn', _, _, h12, _⟩
      have hn2 : n' = 64 := by rw [hn', List.length_append, HU.out.1]; rfl
      clear hn'
      subst hn2
      go_wp2
      go_ret
      exact ⟨rfl, h12.all⟩
end Go.Proofs.Ythifbmopfcfokaa
