/- The rows that the statements on pack hold against the program first: they are met.
   Conditions: none. -/
import Derived.Test.YthifbmopfcfokaaPackText
import Derived.Test.YthifbmopfcfokaaPackSum
import Derived.Test.YthifbmopfcfokaaPackCutTextR
import Derived.Test.YthifbmopfcfokaaErrs
namespace Go.Proofs.Ythifbmopfcfokaa
open Go.RowKit

theorem k_num258 : numS 258 = ⟨#[2, 1, 0, 0, 0, 0, 0, 0]⟩ := by decide +kernel
theorem k_num1 : numS 1 = ⟨#[1, 0, 0, 0, 0, 0, 0, 0]⟩ := by decide +kernel
theorem k_textab : textS ⟨#[97, 98]⟩ = ⟨#[2, 0, 97, 98]⟩ := by decide +kernel
theorem k_sum : sumS ⟨#[]⟩ = 5381 := by decide +kernel
theorem k_n1 : cutN ⟨#[2, 1, 0, 0, 0, 0, 0, 0, 2, 0, 97, 98, 120]⟩ false = 258 := by decide +kernel
theorem k_s1 : takeS ⟨#[2, 1, 0, 0, 0, 0, 0, 0, 2, 0, 97, 98, 120]⟩ false 8 = ⟨#[2, 0, 97, 98, 120]⟩ := by decide +kernel
theorem k_b1 : takeB ⟨#[2, 1, 0, 0, 0, 0, 0, 0, 2, 0, 97, 98, 120]⟩ false 8 = false := by decide +kernel
theorem k_v2 : ctV ⟨#[2, 0, 97, 98, 120]⟩ false = ⟨#[97, 98]⟩ := by decide +kernel
theorem k_s2 : ctS ⟨#[2, 0, 97, 98, 120]⟩ false = ⟨#[120]⟩ := by decide +kernel
theorem k_b2 : ctB ⟨#[2, 0, 97, 98, 120]⟩ false = false := by decide +kernel
theorem k_n3 : cutN ⟨#[120]⟩ false = 0 := by decide +kernel
theorem k_s3 : takeS ⟨#[120]⟩ false 8 = ⟨#[120]⟩ := by decide +kernel
theorem k_b3 : takeB ⟨#[120]⟩ false 8 = true := by decide +kernel

theorem k_cat : (⟨#[2, 1, 0, 0, 0, 0, 0, 0]⟩ : ByteArray) ++ ⟨#[2, 0, 97, 98]⟩ ++ ⟨#[120]⟩ = ⟨#[2, 1, 0, 0, 0, 0, 0, 0, 2, 0, 97, 98, 120]⟩ := by decide +kernel

theorem errV_f : errV false = .nilIface := rfl
theorem errV_t : errV true = .iface 46 (.int .i64 11) := rfl
/-- A new cut, wherever it lies. -/
theorem new_ex (s : ByteArray) (w : World) : Calls Try.prog 21 #[.string s] w fun e w' => ∃ g, e = .returned (.pointer (some ⟨g, 0, none⟩)) ∧ CutAt w' g s false ∧ Kept [] w w' ∧ w.heap.size ≤ g :=
  (new_any s w).mono fun e w' ⟨he, hw⟩ => ⟨w.heap.size, he, by subst hw; exact Blk.new _ _ _, by subst hw; exact (Kept.refl _ _).alloc _, Nat.le_refl _⟩

set_option maxRecDepth 100000 in
theorem known1_any (w : World) : Calls Try.prog 14 #[] w fun e w' => e = .returned (.bool true) ∧ Kept [] w w' := by
  go_enter Try.func14, Try.ntmps14
  go_wp2_with fail
  refine (num_any 258 (by omega) (by omega) _).mono ?_
  rintro e w1 ⟨rfl, k1⟩
  rw [k_num258]
  go_wp2_with fail
  refine (text_any _ (by decide) _).mono ?_
  rintro e w2 ⟨rfl, k2⟩
  rw [k_textab]
  go_wp2_with fail
  rw [k_cat]
  refine (new_ex _ _).mono ?_
  rintro e w3 ⟨g, rfl, c3, k3, hg⟩
  go_wp2_with fail
  refine (cutnum_any g _ false _ (by decide) c3).mono ?_
  rintro e w4 ⟨rfl, c4, k4⟩
  rw [k_s1, k_b1] at c4
  rw [k_n1]
  go_wp2_with fail
  refine (cuttext_any g _ _ false (by decide) c4).mono ?_
  rintro e w5 ⟨rfl, c5, k5⟩
  rw [k_s2, k_b2] at c5
  rw [k_v2]
  go_wp2_with fail
  refine (left_any g _ _ false c5).mono ?_
  rintro e w' ⟨rfl, rfl⟩
  go_wp2_with fail
  refine (err_any g _ _ false c5).mono ?_
  rintro e w' ⟨rfl, rfl⟩
  rw [errV_f]
  go_wp2_with fail
  refine (cutnum_any g _ false _ (by decide) c5).mono ?_
  rintro e w6 ⟨rfl, c6, k6⟩
  rw [k_s3, k_b3] at c6
  rw [k_n3]
  go_wp2_with fail
  refine (cuttext_any g _ _ true (by decide) c6).mono ?_
  rintro e w7 ⟨rfl, c7, k7⟩
  obtain ⟨b1, b2, b3⟩ := ct_bad ⟨#[120]⟩
  rw [b1, b3] at c7
  rw [b2]
  clear b1 b2 b3
  go_wp2_with fail
  refine (err_any g _ _ true c7).mono ?_
  rintro e w' ⟨rfl, rfl⟩
  rw [errV_t]
  go_wp2_with fail
  refine (is_same 11 _).mono ?_
  rintro e w' ⟨rfl, rfl⟩
  go_wp2_with fail
  refine (left_any g _ _ true c7).mono ?_
  rintro e w' ⟨rfl, rfl⟩
  go_wp2_with fail
  refine (sum_any _ (by decide) _).mono ?_
  rintro e w' ⟨rfl, rfl⟩
  rw [k_sum]
  go_wp2_with fail
  refine (num_any 1 (by omega) (by omega) _).mono ?_
  rintro e w8 ⟨rfl, k8⟩
  rw [k_num1]
  go_wp2_with fail
  go_ret
  have e3 : Kept [] w w3 := (k1.trans0 k2).trans0 k3
  have hw : w.heap.size ≤ g := Nat.le_trans (k1.trans0 k2).size hg
  refine ⟨rfl, e3.trans (((k4.trans k5 (by simp)).trans k6 (by simp)).trans k7 (by simp)) (by simpa using hw) |>.trans0 k8⟩
end Go.Proofs.Ythifbmopfcfokaa
