/- What LockSlots answers: true, at every two bytes. Conditions: none. -/
import Derived.Test.YthifbmopfcfokaaLOldest
namespace Go.Proofs.Ythifbmopfcfokaa
open Go.RowKit Go.Conc

/-- One process has the first k slots. -/
def allP (x : Int) (k : Nat) : Nat → Int := part (fun _ => x) k
theorem allP_at {x : Int} {k i : Nat} (h : i < k) : allP x k i = x := by simp [allP, part, h]
theorem allP_none {x : Int} {k i : Nat} (h : ¬ i < k) : allP x k i = 0 := by simp [allP, part, h]

set_option maxRecDepth 100000 in
set_option maxHeartbeats 1000000 in
theorem claims_any (n u : Int) (n0 : 0 ≤ n) (n1 : n < 256) (u0 : 0 ≤ u) (u1 : u < 256) (w : World) :
    Calls Try.prog 11 #[.int .u8 n, .int .u8 u] w fun e w' => e = .returned (.bool true) ∧ Kept [] w w' := by
  obtain ⟨j, hj⟩ : ∃ j : Nat, u % 8 = (j : Int) := ⟨(u % 8).toNat, (Int.toNat_of_nonneg (Int.emod_nonneg _ (by omega))).symm⟩
  have hj8 : j < 8 := by omega
  have HJ := hide hj
  clear hj
  go_enter Try.func11, Try.ntmps11
  go_wp2_with fail
  refine (known6_any w).mono ?_
  rintro e w1 ⟨rfl, k1⟩
  go_wp2_with fail
  refine (newl_any w1).mono ?_
  rintro e w2 ⟨gl, rfl, hL2, k2, hgl⟩
  have K2 := k1.trans0 k2
  have hgl : w.heap.size ≤ gl := Nat.le_trans k1.size hgl
  clear k1 k2
  go_wp2
  go_loopw [6, 7, 8] (fun i _ _ wz => ∃ k : Nat, k ≤ 8 ∧ i = .int .i64 k ∧ LockAt wz gl 0 (allP (n + 1) k) (fun _ => 0) ∧ Kept [] w wz) (fun i _ _ _ => 8 - (intOf i).toNat)
  case atStart => exact ⟨0, Nat.zero_le _, rfl, by rw [allP, part_zero]; exact hL2, K2⟩
  case round =>
    obtain ⟨k, hk, rfl, hL, hK⟩ := hrel
    clear hL2 K2
    by_cases hlt : k < 8
    · obtain ⟨r, hr⟩ := fl_first (p := allP (n + 1) k) hlt (fun i hi => by rw [allP_at hi]; omega) (allP_none (by omega))
      have HP := hide (part_succ (fun _ => n + 1) k)
      go_wp2_with fail
      refine (claim_first gl 0 _ _ wr _ k r (by omega) hL hr).mono ?_
      rintro e w3 ⟨rfl, hL3, k3⟩
      rw [upd_zero, allP, HP.out] at hL3
      have K3 := hK.trans k3 (fun x hx => by simp at hx; subst hx; exact .inr hgl)
      clear hL hK hr
      go_wp2
      go_roundw
      case rel => exact ⟨k + 1, hlt, by go_num, hL3, K3⟩
      case measure => simp [intOf]; omega
    · obtain rfl : k = 8 := by omega
      have hfull : ∀ i, i < 8 → allP (n + 1) 8 i ≠ 0 := fun i hi => by rw [allP_at hi]; omega
      have hno : owns (allP (n + 1) 8) j 500 = false := by
        simp [owns, allP_at hj8]
        omega
      have hown : owns (allP (n + 1) 8) j (n + 1) = true := by
        simp [owns, allP_at hj8]
        omega
      obtain ⟨r, hr⟩ := fl_first (p := upd (allP (n + 1) 8) j 0) hj8 (fun i hi => by rw [upd_ne _ _ _ (by omega), allP_at (by omega)]; omega) (upd_at _ _ _)
      have HF := hide hfull
      have HN := hide hno
      have HO := hide hown
      have HR := hide hr
      clear hfull hno hown hr
      go_wp2_with fail
      refine (claim_full gl 0 _ _ wr 500 hL HF.out).mono ?_
      rintro e w3 ⟨rfl, k3⟩
      have hL3 : LockAt w3 gl 0 _ _ := Blk.kept0 hL k3
      have K3 := hK.trans0 k3
      clear hL hK k3
      go_wp2_with fail
      rw [HJ.out]
      refine (free_no gl 0 _ _ w3 j 500 hL3 HN.out).mono ?_
      rintro e w4 ⟨rfl, rfl⟩
      go_wp2_with fail
      refine (free_own gl 0 _ _ w3 j _ hj8 hL3 HO.out).mono ?_
      rintro e w4 ⟨rfl, hL4, k4⟩
      have K4 := K3.trans k4 (fun x hx => by simp at hx; subst hx; exact .inr hgl)
      clear hL3 K3
      go_wp2_with fail
      refine (claim_first gl 0 _ _ w4 500 j r (by omega) hL4 HR.out).mono ?_
      rintro e w5 ⟨rfl, hL5, k5⟩
      have K5 := K4.trans k5 (fun x hx => by simp at hx; subst hx; exact .inr hgl)
      clear hL4 K4
      go_wp2_with fail
      refine (claim_nobody gl 0 _ _ w5 0 hL5 (by omega)).mono ?_
      rintro e w6 ⟨rfl, k6⟩
      have K6 := K5.trans0 k6
      clear hL5 K5
      go_wp2_with fail
      refine (is_same 15 _).mono ?_
      rintro e w7 ⟨rfl, rfl⟩
      go_wp2_with fail
      refine (is_same 18 _).mono ?_
      rintro e w7 ⟨rfl, rfl⟩
      go_wp2_with fail
      refine (is_same 15 _).mono ?_
      rintro e w7 ⟨rfl, rfl⟩
      go_wp2
      go_ret
      exact ⟨rfl, K6⟩
end Go.Proofs.Ythifbmopfcfokaa
