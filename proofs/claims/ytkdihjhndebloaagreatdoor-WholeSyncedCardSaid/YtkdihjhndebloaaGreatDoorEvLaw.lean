/- WholeSynced: whatever the two numbers are, whatever keep holds, true is returned. Conditions: the variable of errors holds the type error. -/
import Derived.Test.YtkdihjhndebloaaGreatDoorEvLast0
import Derived.Test.YtkdihjhndebloaaGreatDoorEvLast1
import Derived.Test.YtkdihjhndebloaaGreatDoorEvLast2
import Derived.Test.YtkdihjhndebloaaGreatDoorEvLast3
import Derived.Test.YtkdihjhndebloaaGreatDoorEvLast4
import Derived.Test.YtkdihjhndebloaaGreatDoorEvLast5
import Derived.Test.YtkdihjhndebloaaGreatDoorEvKnown
import Derived.Test.YtkdihjhndebloaaGreatDoorEvRounds
import Derived.Test.YtkdihjhndebloaaGreatDoorEvFirst
set_option linter.unusedSectionVars false
set_option linter.unusedVariables false
set_option linter.unusedSimpArgs false
namespace Go.Ev
open Go Go.Conc Go.Proofs.Tryz
variable [G : Given]
section
variable {ks : List Bool}
theorem ok3 (i : Nat) (h : okC X0 3 (at3 i) = true) : okC X0 3 (at3 i) = true := h
theorem okA3 : okC X0 3 (at3 3) = true := by kernel_rfl
theorem okA4 : okC X0 3 (at3 4) = true := by kernel_rfl
theorem okA5 : okC X0 3 (at3 5) = true := by kernel_rfl
theorem okA8 : okC X0 3 (at3 8) = true := by kernel_rfl
theorem okA9 : okC X0 3 (at3 9) = true := by kernel_rfl
theorem okA10 : okC X0 3 (at3 10) = true := by kernel_rfl
theorem okA12 : okC X0 3 (at3 12) = true := by kernel_rfl
theorem okR1 : okC X0 3 (sq2 LB1) = true := by kernel_rfl
theorem okR2 : okC X0 3 (sq2 LB2) = true := by kernel_rfl
theorem okZ (ks : List Bool) : okC (X1 ks) 3 (at3 13) = true := by kernel_rfl
theorem okF : okC X0 3 (sqn 14 B3) = true := by kernel_rfl
theorem sp3 : sqn 3 B3 = .seq (at3 3) (sqn 4 B3) := by kernel_rfl
theorem sp4 : sqn 4 B3 = .seq (at3 4) (sqn 5 B3) := by kernel_rfl
theorem sp5 : sqn 5 B3 = .seq (at3 5) (sqn 6 B3) := by kernel_rfl
theorem sp6 : sqn 6 B3 = .seq (at3 6) (sqn 7 B3) := by kernel_rfl
theorem sp7 : sqn 7 B3 = .seq (at3 7) (sqn 8 B3) := by kernel_rfl
theorem sp8 : sqn 8 B3 = .seq (at3 8) (sqn 9 B3) := by kernel_rfl
theorem sp9 : sqn 9 B3 = .seq (at3 9) (sqn 10 B3) := by kernel_rfl
theorem sp10 : sqn 10 B3 = .seq (at3 10) (sqn 11 B3) := by kernel_rfl
theorem sp11 : sqn 11 B3 = .seq (at3 11) (sqn 12 B3) := by kernel_rfl
theorem sp12 : sqn 12 B3 = .seq (at3 12) (sqn 13 B3) := by kernel_rfl
theorem sp13 : sqn 13 B3 = .seq (at3 13) (sqn 14 B3) := by kernel_rfl
theorem end_of (hE : EvOk prog X0 (ev prog X0 4000)) {s : Sta} {n c : Nat} (h : ckR 115 ⟨.cons 6 (.bool true) .nil, lA, n, c⟩ .ret ((ev prog X0 4000).code 3 (sqn 14 B3) (Sta.tm mk3 115 s) (Sta.h s)) = true) : Fin prog mk3 115 (sqn 14 B3) s :=
  fin_of_to (to_of_ck (mk := mk3) hE okF h) (by kernel_rfl) ⟨0, by kernel_rfl⟩ ⟨1, by kernel_rfl⟩
theorem z_of {ks : List Bool} (hE1 : EvOk prog (X1 ks) (ev prog (X1 ks) 4000)) {s s1 : Sta} {σ τ : List Nat} (h : ckN 115 s1 σ τ ((ev prog (X1 ks) 4000).code 3 (at3 13) (Sta.tm mk3 115 s) (Sta.h s)) = true) (h2 : Fin prog mk3 115 (sqn 14 B3) s1) : Fin prog mk3 115 (sqn 13 B3) s := by
  rw [sp13]; exact fin_ren hE1 (okZ ks) h h2
theorem y_of (hE : EvOk prog X0 (ev prog X0 4000)) {s s1 : Sta} (h : ckR 115 s1 .normal ((ev prog X0 4000).code 3 (at3 12) (Sta.tm mk3 115 s) (Sta.h s)) = true) (h2 : Fin prog mk3 115 (sqn 13 B3) s1) : Fin prog mk3 115 (sqn 12 B3) s := by
  rw [sp12]; exact (to_of_ck hE okA12 h).fin h2
theorem tail0_0_n (hE : EvOk prog X0 (ev prog X0 4000)) (t : List Bool) (h : EvOk prog (X1 t) (ev prog (X1 t) 4000)) : Fin prog mk3 115 (sqn 12 B3) ⟨vsE 0, LU0 0, NU0 0, CU0 0⟩ := y_of hE k_Y0_0 (z_of h (k_Z0_0_n t) (end_of hE k_C0_0))
theorem tail0_0 (hE : EvOk prog X0 (ev prog X0 4000)) (ks : List Bool) (h : EvOk prog (X1 ks) (ev prog (X1 ks) 4000)) : Fin prog mk3 115 (sqn 12 B3) ⟨vsE 0, LU0 0, NU0 0, CU0 0⟩ := by
  exact tail0_0_n hE ks h
theorem tail0_1_n (hE : EvOk prog X0 (ev prog X0 4000)) (t : List Bool) (h : EvOk prog (X1 t) (ev prog (X1 t) 4000)) : Fin prog mk3 115 (sqn 12 B3) ⟨vsE 0, LU0 1, NU0 1, CU0 1⟩ := y_of hE k_Y0_1 (z_of h (k_Z0_1_n t) (end_of hE k_C0_0))
theorem tail0_1 (hE : EvOk prog X0 (ev prog X0 4000)) (ks : List Bool) (h : EvOk prog (X1 ks) (ev prog (X1 ks) 4000)) : Fin prog mk3 115 (sqn 12 B3) ⟨vsE 0, LU0 1, NU0 1, CU0 1⟩ := by
  exact tail0_1_n hE ks h
theorem tail0_2_n (hE : EvOk prog X0 (ev prog X0 4000)) (h : EvOk prog (X1 []) (ev prog (X1 []) 4000)) : Fin prog mk3 115 (sqn 12 B3) ⟨vsE 0, LU0 2, NU0 2, CU0 2⟩ := y_of hE k_Y0_2 (z_of h (k_Z0_2_n) (end_of hE k_C0_0))
theorem tail0_2_nf (hE : EvOk prog X0 (ev prog X0 4000)) (t : List Bool) (h : EvOk prog (X1 (false :: t)) (ev prog (X1 (false :: t)) 4000)) : Fin prog mk3 115 (sqn 12 B3) ⟨vsE 0, LU0 2, NU0 2, CU0 2⟩ := y_of hE k_Y0_2 (z_of h (k_Z0_2_nf t) (end_of hE k_C0_0))
theorem tail0_2_nt (hE : EvOk prog X0 (ev prog X0 4000)) (t : List Bool) (h : EvOk prog (X1 (true :: t)) (ev prog (X1 (true :: t)) 4000)) : Fin prog mk3 115 (sqn 12 B3) ⟨vsE 0, LU0 2, NU0 2, CU0 2⟩ := y_of hE k_Y0_2 (z_of h (k_Z0_2_nt t) (end_of hE k_C0_1))
theorem tail0_2 (hE : EvOk prog X0 (ev prog X0 4000)) (ks : List Bool) (h : EvOk prog (X1 ks) (ev prog (X1 ks) 4000)) : Fin prog mk3 115 (sqn 12 B3) ⟨vsE 0, LU0 2, NU0 2, CU0 2⟩ := by
  cases ks with
  | nil => exact tail0_2_n hE h
  | cons b ks =>
    cases b with
    | false =>
      exact tail0_2_nf hE ks h
    | true =>
      exact tail0_2_nt hE ks h
theorem tail0_3_n (hE : EvOk prog X0 (ev prog X0 4000)) (t : List Bool) (h : EvOk prog (X1 t) (ev prog (X1 t) 4000)) : Fin prog mk3 115 (sqn 12 B3) ⟨vsE 0, LU0 3, NU0 3, CU0 3⟩ := y_of hE k_Y0_3 (z_of h (k_Z0_3_n t) (end_of hE k_C0_1))
theorem tail0_3 (hE : EvOk prog X0 (ev prog X0 4000)) (ks : List Bool) (h : EvOk prog (X1 ks) (ev prog (X1 ks) 4000)) : Fin prog mk3 115 (sqn 12 B3) ⟨vsE 0, LU0 3, NU0 3, CU0 3⟩ := by
  exact tail0_3_n hE ks h
theorem tail0_4_n (hE : EvOk prog X0 (ev prog X0 4000)) (h : EvOk prog (X1 []) (ev prog (X1 []) 4000)) : Fin prog mk3 115 (sqn 12 B3) ⟨vsE 0, LU0 4, NU0 4, CU0 4⟩ := y_of hE k_Y0_4 (z_of h (k_Z0_4_n) (end_of hE k_C0_2))
theorem tail0_4_nf (hE : EvOk prog X0 (ev prog X0 4000)) (t : List Bool) (h : EvOk prog (X1 (false :: t)) (ev prog (X1 (false :: t)) 4000)) : Fin prog mk3 115 (sqn 12 B3) ⟨vsE 0, LU0 4, NU0 4, CU0 4⟩ := y_of hE k_Y0_4 (z_of h (k_Z0_4_nf t) (end_of hE k_C0_2))
theorem tail0_4_nt (hE : EvOk prog X0 (ev prog X0 4000)) (t : List Bool) (h : EvOk prog (X1 (true :: t)) (ev prog (X1 (true :: t)) 4000)) : Fin prog mk3 115 (sqn 12 B3) ⟨vsE 0, LU0 4, NU0 4, CU0 4⟩ := y_of hE k_Y0_4 (z_of h (k_Z0_4_nt t) (end_of hE k_C0_3))
theorem tail0_4 (hE : EvOk prog X0 (ev prog X0 4000)) (ks : List Bool) (h : EvOk prog (X1 ks) (ev prog (X1 ks) 4000)) : Fin prog mk3 115 (sqn 12 B3) ⟨vsE 0, LU0 4, NU0 4, CU0 4⟩ := by
  cases ks with
  | nil => exact tail0_4_n hE h
  | cons b ks =>
    cases b with
    | false =>
      exact tail0_4_nf hE ks h
    | true =>
      exact tail0_4_nt hE ks h
theorem tail0_5_n (hE : EvOk prog X0 (ev prog X0 4000)) (h : EvOk prog (X1 []) (ev prog (X1 []) 4000)) : Fin prog mk3 115 (sqn 12 B3) ⟨vsE 0, LU0 5, NU0 5, CU0 5⟩ := y_of hE k_Y0_5 (z_of h (k_Z0_5_n) (end_of hE k_C0_2))
theorem tail0_5_nf (hE : EvOk prog X0 (ev prog X0 4000)) (t : List Bool) (h : EvOk prog (X1 (false :: t)) (ev prog (X1 (false :: t)) 4000)) : Fin prog mk3 115 (sqn 12 B3) ⟨vsE 0, LU0 5, NU0 5, CU0 5⟩ := y_of hE k_Y0_5 (z_of h (k_Z0_5_nf t) (end_of hE k_C0_2))
theorem tail0_5_nt (hE : EvOk prog X0 (ev prog X0 4000)) (t : List Bool) (h : EvOk prog (X1 (true :: t)) (ev prog (X1 (true :: t)) 4000)) : Fin prog mk3 115 (sqn 12 B3) ⟨vsE 0, LU0 5, NU0 5, CU0 5⟩ := y_of hE k_Y0_5 (z_of h (k_Z0_5_nt t) (end_of hE k_C0_3))
theorem tail0_5 (hE : EvOk prog X0 (ev prog X0 4000)) (ks : List Bool) (h : EvOk prog (X1 ks) (ev prog (X1 ks) 4000)) : Fin prog mk3 115 (sqn 12 B3) ⟨vsE 0, LU0 5, NU0 5, CU0 5⟩ := by
  cases ks with
  | nil => exact tail0_5_n hE h
  | cons b ks =>
    cases b with
    | false =>
      exact tail0_5_nf hE ks h
    | true =>
      exact tail0_5_nt hE ks h
theorem tail0_6_n (hE : EvOk prog X0 (ev prog X0 4000)) (h : EvOk prog (X1 []) (ev prog (X1 []) 4000)) : Fin prog mk3 115 (sqn 12 B3) ⟨vsE 0, LU0 6, NU0 6, CU0 6⟩ := y_of hE k_Y0_6 (z_of h (k_Z0_6_n) (end_of hE k_C0_2))
theorem tail0_6_nf (hE : EvOk prog X0 (ev prog X0 4000)) (t : List Bool) (h : EvOk prog (X1 (false :: t)) (ev prog (X1 (false :: t)) 4000)) : Fin prog mk3 115 (sqn 12 B3) ⟨vsE 0, LU0 6, NU0 6, CU0 6⟩ := y_of hE k_Y0_6 (z_of h (k_Z0_6_nf t) (end_of hE k_C0_2))
theorem tail0_6_nt (hE : EvOk prog X0 (ev prog X0 4000)) (t : List Bool) (h : EvOk prog (X1 (true :: t)) (ev prog (X1 (true :: t)) 4000)) : Fin prog mk3 115 (sqn 12 B3) ⟨vsE 0, LU0 6, NU0 6, CU0 6⟩ := y_of hE k_Y0_6 (z_of h (k_Z0_6_nt t) (end_of hE k_C0_3))
theorem tail0_6 (hE : EvOk prog X0 (ev prog X0 4000)) (ks : List Bool) (h : EvOk prog (X1 ks) (ev prog (X1 ks) 4000)) : Fin prog mk3 115 (sqn 12 B3) ⟨vsE 0, LU0 6, NU0 6, CU0 6⟩ := by
  cases ks with
  | nil => exact tail0_6_n hE h
  | cons b ks =>
    cases b with
    | false =>
      exact tail0_6_nf hE ks h
    | true =>
      exact tail0_6_nt hE ks h
theorem tail0_7_n (hE : EvOk prog X0 (ev prog X0 4000)) (h : EvOk prog (X1 []) (ev prog (X1 []) 4000)) : Fin prog mk3 115 (sqn 12 B3) ⟨vsE 0, LU0 7, NU0 7, CU0 7⟩ := y_of hE k_Y0_7 (z_of h (k_Z0_7_n) (end_of hE k_C0_2))
theorem tail0_7_nf (hE : EvOk prog X0 (ev prog X0 4000)) (t : List Bool) (h : EvOk prog (X1 (false :: t)) (ev prog (X1 (false :: t)) 4000)) : Fin prog mk3 115 (sqn 12 B3) ⟨vsE 0, LU0 7, NU0 7, CU0 7⟩ := y_of hE k_Y0_7 (z_of h (k_Z0_7_nf t) (end_of hE k_C0_2))
theorem tail0_7_nt (hE : EvOk prog X0 (ev prog X0 4000)) (t : List Bool) (h : EvOk prog (X1 (true :: t)) (ev prog (X1 (true :: t)) 4000)) : Fin prog mk3 115 (sqn 12 B3) ⟨vsE 0, LU0 7, NU0 7, CU0 7⟩ := y_of hE k_Y0_7 (z_of h (k_Z0_7_nt t) (end_of hE k_C0_3))
theorem tail0_7 (hE : EvOk prog X0 (ev prog X0 4000)) (ks : List Bool) (h : EvOk prog (X1 ks) (ev prog (X1 ks) 4000)) : Fin prog mk3 115 (sqn 12 B3) ⟨vsE 0, LU0 7, NU0 7, CU0 7⟩ := by
  cases ks with
  | nil => exact tail0_7_n hE h
  | cons b ks =>
    cases b with
    | false =>
      exact tail0_7_nf hE ks h
    | true =>
      exact tail0_7_nt hE ks h
theorem tail0_8_n (hE : EvOk prog X0 (ev prog X0 4000)) (h : EvOk prog (X1 []) (ev prog (X1 []) 4000)) : Fin prog mk3 115 (sqn 12 B3) ⟨vsE 0, LU0 8, NU0 8, CU0 8⟩ := y_of hE k_Y0_8 (z_of h (k_Z0_8_n) (end_of hE k_C0_2))
theorem tail0_8_nf (hE : EvOk prog X0 (ev prog X0 4000)) (t : List Bool) (h : EvOk prog (X1 (false :: t)) (ev prog (X1 (false :: t)) 4000)) : Fin prog mk3 115 (sqn 12 B3) ⟨vsE 0, LU0 8, NU0 8, CU0 8⟩ := y_of hE k_Y0_8 (z_of h (k_Z0_8_nf t) (end_of hE k_C0_2))
theorem tail0_8_nt (hE : EvOk prog X0 (ev prog X0 4000)) (t : List Bool) (h : EvOk prog (X1 (true :: t)) (ev prog (X1 (true :: t)) 4000)) : Fin prog mk3 115 (sqn 12 B3) ⟨vsE 0, LU0 8, NU0 8, CU0 8⟩ := y_of hE k_Y0_8 (z_of h (k_Z0_8_nt t) (end_of hE k_C0_3))
theorem tail0_8 (hE : EvOk prog X0 (ev prog X0 4000)) (ks : List Bool) (h : EvOk prog (X1 ks) (ev prog (X1 ks) 4000)) : Fin prog mk3 115 (sqn 12 B3) ⟨vsE 0, LU0 8, NU0 8, CU0 8⟩ := by
  cases ks with
  | nil => exact tail0_8_n hE h
  | cons b ks =>
    cases b with
    | false =>
      exact tail0_8_nf hE ks h
    | true =>
      exact tail0_8_nt hE ks h
theorem tail0_9_n (hE : EvOk prog X0 (ev prog X0 4000)) (h : EvOk prog (X1 []) (ev prog (X1 []) 4000)) : Fin prog mk3 115 (sqn 12 B3) ⟨vsE 0, LU0 9, NU0 9, CU0 9⟩ := y_of hE k_Y0_9 (z_of h (k_Z0_9_n) (end_of hE k_C0_2))
theorem tail0_9_nf (hE : EvOk prog X0 (ev prog X0 4000)) (t : List Bool) (h : EvOk prog (X1 (false :: t)) (ev prog (X1 (false :: t)) 4000)) : Fin prog mk3 115 (sqn 12 B3) ⟨vsE 0, LU0 9, NU0 9, CU0 9⟩ := y_of hE k_Y0_9 (z_of h (k_Z0_9_nf t) (end_of hE k_C0_2))
theorem tail0_9_nt (hE : EvOk prog X0 (ev prog X0 4000)) (t : List Bool) (h : EvOk prog (X1 (true :: t)) (ev prog (X1 (true :: t)) 4000)) : Fin prog mk3 115 (sqn 12 B3) ⟨vsE 0, LU0 9, NU0 9, CU0 9⟩ := y_of hE k_Y0_9 (z_of h (k_Z0_9_nt t) (end_of hE k_C0_3))
theorem tail0_9 (hE : EvOk prog X0 (ev prog X0 4000)) (ks : List Bool) (h : EvOk prog (X1 ks) (ev prog (X1 ks) 4000)) : Fin prog mk3 115 (sqn 12 B3) ⟨vsE 0, LU0 9, NU0 9, CU0 9⟩ := by
  cases ks with
  | nil => exact tail0_9_n hE h
  | cons b ks =>
    cases b with
    | false =>
      exact tail0_9_nf hE ks h
    | true =>
      exact tail0_9_nt hE ks h
theorem tail0_10_n (hE : EvOk prog X0 (ev prog X0 4000)) (h : EvOk prog (X1 []) (ev prog (X1 []) 4000)) : Fin prog mk3 115 (sqn 12 B3) ⟨vsE 0, LU0 10, NU0 10, CU0 10⟩ := y_of hE k_Y0_10 (z_of h (k_Z0_10_n) (end_of hE k_C0_2))
theorem tail0_10_nf (hE : EvOk prog X0 (ev prog X0 4000)) (t : List Bool) (h : EvOk prog (X1 (false :: t)) (ev prog (X1 (false :: t)) 4000)) : Fin prog mk3 115 (sqn 12 B3) ⟨vsE 0, LU0 10, NU0 10, CU0 10⟩ := y_of hE k_Y0_10 (z_of h (k_Z0_10_nf t) (end_of hE k_C0_2))
theorem tail0_10_nt (hE : EvOk prog X0 (ev prog X0 4000)) (t : List Bool) (h : EvOk prog (X1 (true :: t)) (ev prog (X1 (true :: t)) 4000)) : Fin prog mk3 115 (sqn 12 B3) ⟨vsE 0, LU0 10, NU0 10, CU0 10⟩ := y_of hE k_Y0_10 (z_of h (k_Z0_10_nt t) (end_of hE k_C0_3))
theorem tail0_10 (hE : EvOk prog X0 (ev prog X0 4000)) (ks : List Bool) (h : EvOk prog (X1 ks) (ev prog (X1 ks) 4000)) : Fin prog mk3 115 (sqn 12 B3) ⟨vsE 0, LU0 10, NU0 10, CU0 10⟩ := by
  cases ks with
  | nil => exact tail0_10_n hE h
  | cons b ks =>
    cases b with
    | false =>
      exact tail0_10_nf hE ks h
    | true =>
      exact tail0_10_nt hE ks h
theorem tail0_11_n (hE : EvOk prog X0 (ev prog X0 4000)) (h : EvOk prog (X1 []) (ev prog (X1 []) 4000)) : Fin prog mk3 115 (sqn 12 B3) ⟨vsE 0, LU0 11, NU0 11, CU0 11⟩ := y_of hE k_Y0_11 (z_of h (k_Z0_11_n) (end_of hE k_C0_2))
theorem tail0_11_nf (hE : EvOk prog X0 (ev prog X0 4000)) (t : List Bool) (h : EvOk prog (X1 (false :: t)) (ev prog (X1 (false :: t)) 4000)) : Fin prog mk3 115 (sqn 12 B3) ⟨vsE 0, LU0 11, NU0 11, CU0 11⟩ := y_of hE k_Y0_11 (z_of h (k_Z0_11_nf t) (end_of hE k_C0_2))
theorem tail0_11_nt (hE : EvOk prog X0 (ev prog X0 4000)) (t : List Bool) (h : EvOk prog (X1 (true :: t)) (ev prog (X1 (true :: t)) 4000)) : Fin prog mk3 115 (sqn 12 B3) ⟨vsE 0, LU0 11, NU0 11, CU0 11⟩ := y_of hE k_Y0_11 (z_of h (k_Z0_11_nt t) (end_of hE k_C0_3))
theorem tail0_11 (hE : EvOk prog X0 (ev prog X0 4000)) (ks : List Bool) (h : EvOk prog (X1 ks) (ev prog (X1 ks) 4000)) : Fin prog mk3 115 (sqn 12 B3) ⟨vsE 0, LU0 11, NU0 11, CU0 11⟩ := by
  cases ks with
  | nil => exact tail0_11_n hE h
  | cons b ks =>
    cases b with
    | false =>
      exact tail0_11_nf hE ks h
    | true =>
      exact tail0_11_nt hE ks h
theorem tail0 (hE : EvOk prog X0 (ev prog X0 4000)) (ks : List Bool) (h : EvOk prog (X1 ks) (ev prog (X1 ks) 4000)) (st : Nat) (hst : st < 12) : Fin prog mk3 115 (sqn 12 B3) ⟨vsE 0, LU0 st, NU0 st, CU0 st⟩ := by
  have : st = 0 ∨ st = 1 ∨ st = 2 ∨ st = 3 ∨ st = 4 ∨ st = 5 ∨ st = 6 ∨ st = 7 ∨ st = 8 ∨ st = 9 ∨ st = 10 ∨ st = 11 := by omega
  rcases this with rfl | rfl | rfl | rfl | rfl | rfl | rfl | rfl | rfl | rfl | rfl | rfl
  · exact tail0_0 hE ks h
  · exact tail0_1 hE ks h
  · exact tail0_2 hE ks h
  · exact tail0_3 hE ks h
  · exact tail0_4 hE ks h
  · exact tail0_5 hE ks h
  · exact tail0_6 hE ks h
  · exact tail0_7 hE ks h
  · exact tail0_8 hE ks h
  · exact tail0_9 hE ks h
  · exact tail0_10 hE ks h
  · exact tail0_11 hE ks h
theorem rounds0 (hE : EvOk prog X0 (ev prog X0 4000)) (i : Nat) (hi : i < 11) : To prog mk3 115 (sq2 LB2) .normal ⟨vsT i, LU0 i, NU0 i, CU0 i⟩ ⟨vsT (i + 1), LU0 (i + 1), NU0 (i + 1), CU0 (i + 1)⟩ := by
  have : i = 0 ∨ i = 1 ∨ i = 2 ∨ i = 3 ∨ i = 4 ∨ i = 5 ∨ i = 6 ∨ i = 7 ∨ i = 8 ∨ i = 9 ∨ i = 10 := by omega
  rcases this with rfl | rfl | rfl | rfl | rfl | rfl | rfl | rfl | rfl | rfl | rfl
  · exact to_of_ck hE okR2 k_U0_0
  · exact to_of_ck hE okR2 k_U0_1
  · exact to_of_ck hE okR2 k_U0_2
  · exact to_of_ck hE okR2 k_U0_3
  · exact to_of_ck hE okR2 k_U0_4
  · exact to_of_ck hE okR2 k_U0_5
  · exact to_of_ck hE okR2 k_U0_6
  · exact to_of_ck hE okR2 k_U0_7
  · exact to_of_ck hE okR2 k_U0_8
  · exact to_of_ck hE okR2 k_U0_9
  · exact to_of_ck hE okR2 k_U0_10
theorem tail1_0_n (hE : EvOk prog X0 (ev prog X0 4000)) (h : EvOk prog (X1 []) (ev prog (X1 []) 4000)) : Fin prog mk3 115 (sqn 12 B3) ⟨vsE 1, LU1 0, NU1 0, CU1 0⟩ := y_of hE k_Y1_0 (z_of h (k_Z1_0_n) (end_of hE k_C1_0))
theorem tail1_0_nf (hE : EvOk prog X0 (ev prog X0 4000)) (t : List Bool) (h : EvOk prog (X1 (false :: t)) (ev prog (X1 (false :: t)) 4000)) : Fin prog mk3 115 (sqn 12 B3) ⟨vsE 1, LU1 0, NU1 0, CU1 0⟩ := y_of hE k_Y1_0 (z_of h (k_Z1_0_nf t) (end_of hE k_C1_0))
theorem tail1_0_nt (hE : EvOk prog X0 (ev prog X0 4000)) (t : List Bool) (h : EvOk prog (X1 (true :: t)) (ev prog (X1 (true :: t)) 4000)) : Fin prog mk3 115 (sqn 12 B3) ⟨vsE 1, LU1 0, NU1 0, CU1 0⟩ := y_of hE k_Y1_0 (z_of h (k_Z1_0_nt t) (end_of hE k_C1_1))
theorem tail1_0 (hE : EvOk prog X0 (ev prog X0 4000)) (ks : List Bool) (h : EvOk prog (X1 ks) (ev prog (X1 ks) 4000)) : Fin prog mk3 115 (sqn 12 B3) ⟨vsE 1, LU1 0, NU1 0, CU1 0⟩ := by
  cases ks with
  | nil => exact tail1_0_n hE h
  | cons b ks =>
    cases b with
    | false =>
      exact tail1_0_nf hE ks h
    | true =>
      exact tail1_0_nt hE ks h
theorem tail1_1_n (hE : EvOk prog X0 (ev prog X0 4000)) (h : EvOk prog (X1 []) (ev prog (X1 []) 4000)) : Fin prog mk3 115 (sqn 12 B3) ⟨vsE 1, LU1 1, NU1 1, CU1 1⟩ := y_of hE k_Y1_1 (z_of h (k_Z1_1_n) (end_of hE k_C1_0))
theorem tail1_1_nf (hE : EvOk prog X0 (ev prog X0 4000)) (t : List Bool) (h : EvOk prog (X1 (false :: t)) (ev prog (X1 (false :: t)) 4000)) : Fin prog mk3 115 (sqn 12 B3) ⟨vsE 1, LU1 1, NU1 1, CU1 1⟩ := y_of hE k_Y1_1 (z_of h (k_Z1_1_nf t) (end_of hE k_C1_0))
theorem tail1_1_nt (hE : EvOk prog X0 (ev prog X0 4000)) (t : List Bool) (h : EvOk prog (X1 (true :: t)) (ev prog (X1 (true :: t)) 4000)) : Fin prog mk3 115 (sqn 12 B3) ⟨vsE 1, LU1 1, NU1 1, CU1 1⟩ := y_of hE k_Y1_1 (z_of h (k_Z1_1_nt t) (end_of hE k_C1_1))
theorem tail1_1 (hE : EvOk prog X0 (ev prog X0 4000)) (ks : List Bool) (h : EvOk prog (X1 ks) (ev prog (X1 ks) 4000)) : Fin prog mk3 115 (sqn 12 B3) ⟨vsE 1, LU1 1, NU1 1, CU1 1⟩ := by
  cases ks with
  | nil => exact tail1_1_n hE h
  | cons b ks =>
    cases b with
    | false =>
      exact tail1_1_nf hE ks h
    | true =>
      exact tail1_1_nt hE ks h
theorem tail1_2_n (hE : EvOk prog X0 (ev prog X0 4000)) (h : EvOk prog (X1 []) (ev prog (X1 []) 4000)) : Fin prog mk3 115 (sqn 12 B3) ⟨vsE 1, LU1 2, NU1 2, CU1 2⟩ := y_of hE k_Y1_2 (z_of h (k_Z1_2_n) (end_of hE k_C1_0))
theorem tail1_2_nf (hE : EvOk prog X0 (ev prog X0 4000)) (h : EvOk prog (X1 [false]) (ev prog (X1 [false]) 4000)) : Fin prog mk3 115 (sqn 12 B3) ⟨vsE 1, LU1 2, NU1 2, CU1 2⟩ := y_of hE k_Y1_2 (z_of h (k_Z1_2_nf) (end_of hE k_C1_0))
theorem tail1_2_nt (hE : EvOk prog X0 (ev prog X0 4000)) (h : EvOk prog (X1 [true]) (ev prog (X1 [true]) 4000)) : Fin prog mk3 115 (sqn 12 B3) ⟨vsE 1, LU1 2, NU1 2, CU1 2⟩ := y_of hE k_Y1_2 (z_of h (k_Z1_2_nt) (end_of hE k_C1_1))
theorem tail1_2_nff (hE : EvOk prog X0 (ev prog X0 4000)) (t : List Bool) (h : EvOk prog (X1 (false :: false :: t)) (ev prog (X1 (false :: false :: t)) 4000)) : Fin prog mk3 115 (sqn 12 B3) ⟨vsE 1, LU1 2, NU1 2, CU1 2⟩ := y_of hE k_Y1_2 (z_of h (k_Z1_2_nff t) (end_of hE k_C1_0))
theorem tail1_2_nft (hE : EvOk prog X0 (ev prog X0 4000)) (t : List Bool) (h : EvOk prog (X1 (false :: true :: t)) (ev prog (X1 (false :: true :: t)) 4000)) : Fin prog mk3 115 (sqn 12 B3) ⟨vsE 1, LU1 2, NU1 2, CU1 2⟩ := y_of hE k_Y1_2 (z_of h (k_Z1_2_nft t) (end_of hE k_C1_2))
theorem tail1_2_ntf (hE : EvOk prog X0 (ev prog X0 4000)) (t : List Bool) (h : EvOk prog (X1 (true :: false :: t)) (ev prog (X1 (true :: false :: t)) 4000)) : Fin prog mk3 115 (sqn 12 B3) ⟨vsE 1, LU1 2, NU1 2, CU1 2⟩ := y_of hE k_Y1_2 (z_of h (k_Z1_2_ntf t) (end_of hE k_C1_1))
theorem tail1_2_ntt (hE : EvOk prog X0 (ev prog X0 4000)) (t : List Bool) (h : EvOk prog (X1 (true :: true :: t)) (ev prog (X1 (true :: true :: t)) 4000)) : Fin prog mk3 115 (sqn 12 B3) ⟨vsE 1, LU1 2, NU1 2, CU1 2⟩ := y_of hE k_Y1_2 (z_of h (k_Z1_2_ntt t) (end_of hE k_C1_3))
theorem tail1_2 (hE : EvOk prog X0 (ev prog X0 4000)) (ks : List Bool) (h : EvOk prog (X1 ks) (ev prog (X1 ks) 4000)) : Fin prog mk3 115 (sqn 12 B3) ⟨vsE 1, LU1 2, NU1 2, CU1 2⟩ := by
  cases ks with
  | nil => exact tail1_2_n hE h
  | cons b ks =>
    cases b with
    | false =>
      cases ks with
      | nil => exact tail1_2_nf hE h
      | cons b ks =>
        cases b with
        | false =>
          exact tail1_2_nff hE ks h
        | true =>
          exact tail1_2_nft hE ks h
    | true =>
      cases ks with
      | nil => exact tail1_2_nt hE h
      | cons b ks =>
        cases b with
        | false =>
          exact tail1_2_ntf hE ks h
        | true =>
          exact tail1_2_ntt hE ks h
theorem tail1_3_n (hE : EvOk prog X0 (ev prog X0 4000)) (h : EvOk prog (X1 []) (ev prog (X1 []) 4000)) : Fin prog mk3 115 (sqn 12 B3) ⟨vsE 1, LU1 3, NU1 3, CU1 3⟩ := y_of hE k_Y1_3 (z_of h (k_Z1_3_n) (end_of hE k_C1_0))
theorem tail1_3_nf (hE : EvOk prog X0 (ev prog X0 4000)) (h : EvOk prog (X1 [false]) (ev prog (X1 [false]) 4000)) : Fin prog mk3 115 (sqn 12 B3) ⟨vsE 1, LU1 3, NU1 3, CU1 3⟩ := y_of hE k_Y1_3 (z_of h (k_Z1_3_nf) (end_of hE k_C1_0))
theorem tail1_3_nt (hE : EvOk prog X0 (ev prog X0 4000)) (h : EvOk prog (X1 [true]) (ev prog (X1 [true]) 4000)) : Fin prog mk3 115 (sqn 12 B3) ⟨vsE 1, LU1 3, NU1 3, CU1 3⟩ := y_of hE k_Y1_3 (z_of h (k_Z1_3_nt) (end_of hE k_C1_1))
theorem tail1_3_nff (hE : EvOk prog X0 (ev prog X0 4000)) (h : EvOk prog (X1 [false, false]) (ev prog (X1 [false, false]) 4000)) : Fin prog mk3 115 (sqn 12 B3) ⟨vsE 1, LU1 3, NU1 3, CU1 3⟩ := y_of hE k_Y1_3 (z_of h (k_Z1_3_nff) (end_of hE k_C1_0))
theorem tail1_3_nft (hE : EvOk prog X0 (ev prog X0 4000)) (h : EvOk prog (X1 [false, true]) (ev prog (X1 [false, true]) 4000)) : Fin prog mk3 115 (sqn 12 B3) ⟨vsE 1, LU1 3, NU1 3, CU1 3⟩ := y_of hE k_Y1_3 (z_of h (k_Z1_3_nft) (end_of hE k_C1_2))
theorem tail1_3_ntf (hE : EvOk prog X0 (ev prog X0 4000)) (h : EvOk prog (X1 [true, false]) (ev prog (X1 [true, false]) 4000)) : Fin prog mk3 115 (sqn 12 B3) ⟨vsE 1, LU1 3, NU1 3, CU1 3⟩ := y_of hE k_Y1_3 (z_of h (k_Z1_3_ntf) (end_of hE k_C1_1))
theorem tail1_3_ntt (hE : EvOk prog X0 (ev prog X0 4000)) (h : EvOk prog (X1 [true, true]) (ev prog (X1 [true, true]) 4000)) : Fin prog mk3 115 (sqn 12 B3) ⟨vsE 1, LU1 3, NU1 3, CU1 3⟩ := y_of hE k_Y1_3 (z_of h (k_Z1_3_ntt) (end_of hE k_C1_3))
theorem tail1_3_nfff (hE : EvOk prog X0 (ev prog X0 4000)) (t : List Bool) (h : EvOk prog (X1 (false :: false :: false :: t)) (ev prog (X1 (false :: false :: false :: t)) 4000)) : Fin prog mk3 115 (sqn 12 B3) ⟨vsE 1, LU1 3, NU1 3, CU1 3⟩ := y_of hE k_Y1_3 (z_of h (k_Z1_3_nfff t) (end_of hE k_C1_0))
theorem tail1_3_nfft (hE : EvOk prog X0 (ev prog X0 4000)) (t : List Bool) (h : EvOk prog (X1 (false :: false :: true :: t)) (ev prog (X1 (false :: false :: true :: t)) 4000)) : Fin prog mk3 115 (sqn 12 B3) ⟨vsE 1, LU1 3, NU1 3, CU1 3⟩ := y_of hE k_Y1_3 (z_of h (k_Z1_3_nfft t) (end_of hE k_C1_4))
theorem tail1_3_nftf (hE : EvOk prog X0 (ev prog X0 4000)) (t : List Bool) (h : EvOk prog (X1 (false :: true :: false :: t)) (ev prog (X1 (false :: true :: false :: t)) 4000)) : Fin prog mk3 115 (sqn 12 B3) ⟨vsE 1, LU1 3, NU1 3, CU1 3⟩ := y_of hE k_Y1_3 (z_of h (k_Z1_3_nftf t) (end_of hE k_C1_2))
theorem tail1_3_nftt (hE : EvOk prog X0 (ev prog X0 4000)) (t : List Bool) (h : EvOk prog (X1 (false :: true :: true :: t)) (ev prog (X1 (false :: true :: true :: t)) 4000)) : Fin prog mk3 115 (sqn 12 B3) ⟨vsE 1, LU1 3, NU1 3, CU1 3⟩ := y_of hE k_Y1_3 (z_of h (k_Z1_3_nftt t) (end_of hE k_C1_5))
theorem tail1_3_ntff (hE : EvOk prog X0 (ev prog X0 4000)) (t : List Bool) (h : EvOk prog (X1 (true :: false :: false :: t)) (ev prog (X1 (true :: false :: false :: t)) 4000)) : Fin prog mk3 115 (sqn 12 B3) ⟨vsE 1, LU1 3, NU1 3, CU1 3⟩ := y_of hE k_Y1_3 (z_of h (k_Z1_3_ntff t) (end_of hE k_C1_1))
theorem tail1_3_ntft (hE : EvOk prog X0 (ev prog X0 4000)) (t : List Bool) (h : EvOk prog (X1 (true :: false :: true :: t)) (ev prog (X1 (true :: false :: true :: t)) 4000)) : Fin prog mk3 115 (sqn 12 B3) ⟨vsE 1, LU1 3, NU1 3, CU1 3⟩ := y_of hE k_Y1_3 (z_of h (k_Z1_3_ntft t) (end_of hE k_C1_6))
theorem tail1_3_nttf (hE : EvOk prog X0 (ev prog X0 4000)) (t : List Bool) (h : EvOk prog (X1 (true :: true :: false :: t)) (ev prog (X1 (true :: true :: false :: t)) 4000)) : Fin prog mk3 115 (sqn 12 B3) ⟨vsE 1, LU1 3, NU1 3, CU1 3⟩ := y_of hE k_Y1_3 (z_of h (k_Z1_3_nttf t) (end_of hE k_C1_3))
theorem tail1_3_nttt (hE : EvOk prog X0 (ev prog X0 4000)) (t : List Bool) (h : EvOk prog (X1 (true :: true :: true :: t)) (ev prog (X1 (true :: true :: true :: t)) 4000)) : Fin prog mk3 115 (sqn 12 B3) ⟨vsE 1, LU1 3, NU1 3, CU1 3⟩ := y_of hE k_Y1_3 (z_of h (k_Z1_3_nttt t) (end_of hE k_C1_7))
theorem tail1_3 (hE : EvOk prog X0 (ev prog X0 4000)) (ks : List Bool) (h : EvOk prog (X1 ks) (ev prog (X1 ks) 4000)) : Fin prog mk3 115 (sqn 12 B3) ⟨vsE 1, LU1 3, NU1 3, CU1 3⟩ := by
  cases ks with
  | nil => exact tail1_3_n hE h
  | cons b ks =>
    cases b with
    | false =>
      cases ks with
      | nil => exact tail1_3_nf hE h
      | cons b ks =>
        cases b with
        | false =>
          cases ks with
          | nil => exact tail1_3_nff hE h
          | cons b ks =>
            cases b with
            | false =>
              exact tail1_3_nfff hE ks h
            | true =>
              exact tail1_3_nfft hE ks h
        | true =>
          cases ks with
          | nil => exact tail1_3_nft hE h
          | cons b ks =>
            cases b with
            | false =>
              exact tail1_3_nftf hE ks h
            | true =>
              exact tail1_3_nftt hE ks h
    | true =>
      cases ks with
      | nil => exact tail1_3_nt hE h
      | cons b ks =>
        cases b with
        | false =>
          cases ks with
          | nil => exact tail1_3_ntf hE h
          | cons b ks =>
            cases b with
            | false =>
              exact tail1_3_ntff hE ks h
            | true =>
              exact tail1_3_ntft hE ks h
        | true =>
          cases ks with
          | nil => exact tail1_3_ntt hE h
          | cons b ks =>
            cases b with
            | false =>
              exact tail1_3_nttf hE ks h
            | true =>
              exact tail1_3_nttt hE ks h
theorem tail1_4_n (hE : EvOk prog X0 (ev prog X0 4000)) (t : List Bool) (h : EvOk prog (X1 t) (ev prog (X1 t) 4000)) : Fin prog mk3 115 (sqn 12 B3) ⟨vsE 1, LU1 4, NU1 4, CU1 4⟩ := y_of hE k_Y1_4 (z_of h (k_Z1_4_n t) (end_of hE k_C1_7))
theorem tail1_4 (hE : EvOk prog X0 (ev prog X0 4000)) (ks : List Bool) (h : EvOk prog (X1 ks) (ev prog (X1 ks) 4000)) : Fin prog mk3 115 (sqn 12 B3) ⟨vsE 1, LU1 4, NU1 4, CU1 4⟩ := by
  exact tail1_4_n hE ks h
theorem tail1_5_n (hE : EvOk prog X0 (ev prog X0 4000)) (h : EvOk prog (X1 []) (ev prog (X1 []) 4000)) : Fin prog mk3 115 (sqn 12 B3) ⟨vsE 1, LU1 5, NU1 5, CU1 5⟩ := y_of hE k_Y1_5 (z_of h (k_Z1_5_n) (end_of hE k_C1_8))
theorem tail1_5_nf (hE : EvOk prog X0 (ev prog X0 4000)) (t : List Bool) (h : EvOk prog (X1 (false :: t)) (ev prog (X1 (false :: t)) 4000)) : Fin prog mk3 115 (sqn 12 B3) ⟨vsE 1, LU1 5, NU1 5, CU1 5⟩ := y_of hE k_Y1_5 (z_of h (k_Z1_5_nf t) (end_of hE k_C1_8))
theorem tail1_5_nt (hE : EvOk prog X0 (ev prog X0 4000)) (t : List Bool) (h : EvOk prog (X1 (true :: t)) (ev prog (X1 (true :: t)) 4000)) : Fin prog mk3 115 (sqn 12 B3) ⟨vsE 1, LU1 5, NU1 5, CU1 5⟩ := y_of hE k_Y1_5 (z_of h (k_Z1_5_nt t) (end_of hE k_C1_9))
theorem tail1_5 (hE : EvOk prog X0 (ev prog X0 4000)) (ks : List Bool) (h : EvOk prog (X1 ks) (ev prog (X1 ks) 4000)) : Fin prog mk3 115 (sqn 12 B3) ⟨vsE 1, LU1 5, NU1 5, CU1 5⟩ := by
  cases ks with
  | nil => exact tail1_5_n hE h
  | cons b ks =>
    cases b with
    | false =>
      exact tail1_5_nf hE ks h
    | true =>
      exact tail1_5_nt hE ks h
theorem tail1_6_n (hE : EvOk prog X0 (ev prog X0 4000)) (h : EvOk prog (X1 []) (ev prog (X1 []) 4000)) : Fin prog mk3 115 (sqn 12 B3) ⟨vsE 1, LU1 6, NU1 6, CU1 6⟩ := y_of hE k_Y1_6 (z_of h (k_Z1_6_n) (end_of hE k_C1_8))
theorem tail1_6_nf (hE : EvOk prog X0 (ev prog X0 4000)) (t : List Bool) (h : EvOk prog (X1 (false :: t)) (ev prog (X1 (false :: t)) 4000)) : Fin prog mk3 115 (sqn 12 B3) ⟨vsE 1, LU1 6, NU1 6, CU1 6⟩ := y_of hE k_Y1_6 (z_of h (k_Z1_6_nf t) (end_of hE k_C1_8))
theorem tail1_6_nt (hE : EvOk prog X0 (ev prog X0 4000)) (t : List Bool) (h : EvOk prog (X1 (true :: t)) (ev prog (X1 (true :: t)) 4000)) : Fin prog mk3 115 (sqn 12 B3) ⟨vsE 1, LU1 6, NU1 6, CU1 6⟩ := y_of hE k_Y1_6 (z_of h (k_Z1_6_nt t) (end_of hE k_C1_9))
theorem tail1_6 (hE : EvOk prog X0 (ev prog X0 4000)) (ks : List Bool) (h : EvOk prog (X1 ks) (ev prog (X1 ks) 4000)) : Fin prog mk3 115 (sqn 12 B3) ⟨vsE 1, LU1 6, NU1 6, CU1 6⟩ := by
  cases ks with
  | nil => exact tail1_6_n hE h
  | cons b ks =>
    cases b with
    | false =>
      exact tail1_6_nf hE ks h
    | true =>
      exact tail1_6_nt hE ks h
theorem tail1_7_n (hE : EvOk prog X0 (ev prog X0 4000)) (h : EvOk prog (X1 []) (ev prog (X1 []) 4000)) : Fin prog mk3 115 (sqn 12 B3) ⟨vsE 1, LU1 7, NU1 7, CU1 7⟩ := y_of hE k_Y1_7 (z_of h (k_Z1_7_n) (end_of hE k_C1_8))
theorem tail1_7_nf (hE : EvOk prog X0 (ev prog X0 4000)) (t : List Bool) (h : EvOk prog (X1 (false :: t)) (ev prog (X1 (false :: t)) 4000)) : Fin prog mk3 115 (sqn 12 B3) ⟨vsE 1, LU1 7, NU1 7, CU1 7⟩ := y_of hE k_Y1_7 (z_of h (k_Z1_7_nf t) (end_of hE k_C1_8))
theorem tail1_7_nt (hE : EvOk prog X0 (ev prog X0 4000)) (t : List Bool) (h : EvOk prog (X1 (true :: t)) (ev prog (X1 (true :: t)) 4000)) : Fin prog mk3 115 (sqn 12 B3) ⟨vsE 1, LU1 7, NU1 7, CU1 7⟩ := y_of hE k_Y1_7 (z_of h (k_Z1_7_nt t) (end_of hE k_C1_9))
theorem tail1_7 (hE : EvOk prog X0 (ev prog X0 4000)) (ks : List Bool) (h : EvOk prog (X1 ks) (ev prog (X1 ks) 4000)) : Fin prog mk3 115 (sqn 12 B3) ⟨vsE 1, LU1 7, NU1 7, CU1 7⟩ := by
  cases ks with
  | nil => exact tail1_7_n hE h
  | cons b ks =>
    cases b with
    | false =>
      exact tail1_7_nf hE ks h
    | true =>
      exact tail1_7_nt hE ks h
theorem tail1_8_n (hE : EvOk prog X0 (ev prog X0 4000)) (h : EvOk prog (X1 []) (ev prog (X1 []) 4000)) : Fin prog mk3 115 (sqn 12 B3) ⟨vsE 1, LU1 8, NU1 8, CU1 8⟩ := y_of hE k_Y1_8 (z_of h (k_Z1_8_n) (end_of hE k_C1_8))
theorem tail1_8_nf (hE : EvOk prog X0 (ev prog X0 4000)) (t : List Bool) (h : EvOk prog (X1 (false :: t)) (ev prog (X1 (false :: t)) 4000)) : Fin prog mk3 115 (sqn 12 B3) ⟨vsE 1, LU1 8, NU1 8, CU1 8⟩ := y_of hE k_Y1_8 (z_of h (k_Z1_8_nf t) (end_of hE k_C1_8))
theorem tail1_8_nt (hE : EvOk prog X0 (ev prog X0 4000)) (t : List Bool) (h : EvOk prog (X1 (true :: t)) (ev prog (X1 (true :: t)) 4000)) : Fin prog mk3 115 (sqn 12 B3) ⟨vsE 1, LU1 8, NU1 8, CU1 8⟩ := y_of hE k_Y1_8 (z_of h (k_Z1_8_nt t) (end_of hE k_C1_9))
theorem tail1_8 (hE : EvOk prog X0 (ev prog X0 4000)) (ks : List Bool) (h : EvOk prog (X1 ks) (ev prog (X1 ks) 4000)) : Fin prog mk3 115 (sqn 12 B3) ⟨vsE 1, LU1 8, NU1 8, CU1 8⟩ := by
  cases ks with
  | nil => exact tail1_8_n hE h
  | cons b ks =>
    cases b with
    | false =>
      exact tail1_8_nf hE ks h
    | true =>
      exact tail1_8_nt hE ks h
theorem tail1_9_n (hE : EvOk prog X0 (ev prog X0 4000)) (h : EvOk prog (X1 []) (ev prog (X1 []) 4000)) : Fin prog mk3 115 (sqn 12 B3) ⟨vsE 1, LU1 9, NU1 9, CU1 9⟩ := y_of hE k_Y1_9 (z_of h (k_Z1_9_n) (end_of hE k_C1_8))
theorem tail1_9_nf (hE : EvOk prog X0 (ev prog X0 4000)) (t : List Bool) (h : EvOk prog (X1 (false :: t)) (ev prog (X1 (false :: t)) 4000)) : Fin prog mk3 115 (sqn 12 B3) ⟨vsE 1, LU1 9, NU1 9, CU1 9⟩ := y_of hE k_Y1_9 (z_of h (k_Z1_9_nf t) (end_of hE k_C1_8))
theorem tail1_9_nt (hE : EvOk prog X0 (ev prog X0 4000)) (t : List Bool) (h : EvOk prog (X1 (true :: t)) (ev prog (X1 (true :: t)) 4000)) : Fin prog mk3 115 (sqn 12 B3) ⟨vsE 1, LU1 9, NU1 9, CU1 9⟩ := y_of hE k_Y1_9 (z_of h (k_Z1_9_nt t) (end_of hE k_C1_9))
theorem tail1_9 (hE : EvOk prog X0 (ev prog X0 4000)) (ks : List Bool) (h : EvOk prog (X1 ks) (ev prog (X1 ks) 4000)) : Fin prog mk3 115 (sqn 12 B3) ⟨vsE 1, LU1 9, NU1 9, CU1 9⟩ := by
  cases ks with
  | nil => exact tail1_9_n hE h
  | cons b ks =>
    cases b with
    | false =>
      exact tail1_9_nf hE ks h
    | true =>
      exact tail1_9_nt hE ks h
theorem tail1_10_n (hE : EvOk prog X0 (ev prog X0 4000)) (h : EvOk prog (X1 []) (ev prog (X1 []) 4000)) : Fin prog mk3 115 (sqn 12 B3) ⟨vsE 1, LU1 10, NU1 10, CU1 10⟩ := y_of hE k_Y1_10 (z_of h (k_Z1_10_n) (end_of hE k_C1_8))
theorem tail1_10_nf (hE : EvOk prog X0 (ev prog X0 4000)) (t : List Bool) (h : EvOk prog (X1 (false :: t)) (ev prog (X1 (false :: t)) 4000)) : Fin prog mk3 115 (sqn 12 B3) ⟨vsE 1, LU1 10, NU1 10, CU1 10⟩ := y_of hE k_Y1_10 (z_of h (k_Z1_10_nf t) (end_of hE k_C1_8))
theorem tail1_10_nt (hE : EvOk prog X0 (ev prog X0 4000)) (t : List Bool) (h : EvOk prog (X1 (true :: t)) (ev prog (X1 (true :: t)) 4000)) : Fin prog mk3 115 (sqn 12 B3) ⟨vsE 1, LU1 10, NU1 10, CU1 10⟩ := y_of hE k_Y1_10 (z_of h (k_Z1_10_nt t) (end_of hE k_C1_9))
theorem tail1_10 (hE : EvOk prog X0 (ev prog X0 4000)) (ks : List Bool) (h : EvOk prog (X1 ks) (ev prog (X1 ks) 4000)) : Fin prog mk3 115 (sqn 12 B3) ⟨vsE 1, LU1 10, NU1 10, CU1 10⟩ := by
  cases ks with
  | nil => exact tail1_10_n hE h
  | cons b ks =>
    cases b with
    | false =>
      exact tail1_10_nf hE ks h
    | true =>
      exact tail1_10_nt hE ks h
theorem tail1_11_n (hE : EvOk prog X0 (ev prog X0 4000)) (h : EvOk prog (X1 []) (ev prog (X1 []) 4000)) : Fin prog mk3 115 (sqn 12 B3) ⟨vsE 1, LU1 11, NU1 11, CU1 11⟩ := y_of hE k_Y1_11 (z_of h (k_Z1_11_n) (end_of hE k_C1_8))
theorem tail1_11_nf (hE : EvOk prog X0 (ev prog X0 4000)) (t : List Bool) (h : EvOk prog (X1 (false :: t)) (ev prog (X1 (false :: t)) 4000)) : Fin prog mk3 115 (sqn 12 B3) ⟨vsE 1, LU1 11, NU1 11, CU1 11⟩ := y_of hE k_Y1_11 (z_of h (k_Z1_11_nf t) (end_of hE k_C1_8))
theorem tail1_11_nt (hE : EvOk prog X0 (ev prog X0 4000)) (t : List Bool) (h : EvOk prog (X1 (true :: t)) (ev prog (X1 (true :: t)) 4000)) : Fin prog mk3 115 (sqn 12 B3) ⟨vsE 1, LU1 11, NU1 11, CU1 11⟩ := y_of hE k_Y1_11 (z_of h (k_Z1_11_nt t) (end_of hE k_C1_9))
theorem tail1_11 (hE : EvOk prog X0 (ev prog X0 4000)) (ks : List Bool) (h : EvOk prog (X1 ks) (ev prog (X1 ks) 4000)) : Fin prog mk3 115 (sqn 12 B3) ⟨vsE 1, LU1 11, NU1 11, CU1 11⟩ := by
  cases ks with
  | nil => exact tail1_11_n hE h
  | cons b ks =>
    cases b with
    | false =>
      exact tail1_11_nf hE ks h
    | true =>
      exact tail1_11_nt hE ks h
theorem tail1 (hE : EvOk prog X0 (ev prog X0 4000)) (ks : List Bool) (h : EvOk prog (X1 ks) (ev prog (X1 ks) 4000)) (st : Nat) (hst : st < 12) : Fin prog mk3 115 (sqn 12 B3) ⟨vsE 1, LU1 st, NU1 st, CU1 st⟩ := by
  have : st = 0 ∨ st = 1 ∨ st = 2 ∨ st = 3 ∨ st = 4 ∨ st = 5 ∨ st = 6 ∨ st = 7 ∨ st = 8 ∨ st = 9 ∨ st = 10 ∨ st = 11 := by omega
  rcases this with rfl | rfl | rfl | rfl | rfl | rfl | rfl | rfl | rfl | rfl | rfl | rfl
  · exact tail1_0 hE ks h
  · exact tail1_1 hE ks h
  · exact tail1_2 hE ks h
  · exact tail1_3 hE ks h
  · exact tail1_4 hE ks h
  · exact tail1_5 hE ks h
  · exact tail1_6 hE ks h
  · exact tail1_7 hE ks h
  · exact tail1_8 hE ks h
  · exact tail1_9 hE ks h
  · exact tail1_10 hE ks h
  · exact tail1_11 hE ks h
theorem rounds1 (hE : EvOk prog X0 (ev prog X0 4000)) (i : Nat) (hi : i < 11) : To prog mk3 115 (sq2 LB2) .normal ⟨vsT i, LU1 i, NU1 i, CU1 i⟩ ⟨vsT (i + 1), LU1 (i + 1), NU1 (i + 1), CU1 (i + 1)⟩ := by
  have : i = 0 ∨ i = 1 ∨ i = 2 ∨ i = 3 ∨ i = 4 ∨ i = 5 ∨ i = 6 ∨ i = 7 ∨ i = 8 ∨ i = 9 ∨ i = 10 := by omega
  rcases this with rfl | rfl | rfl | rfl | rfl | rfl | rfl | rfl | rfl | rfl | rfl
  · exact to_of_ck hE okR2 k_U1_0
  · exact to_of_ck hE okR2 k_U1_1
  · exact to_of_ck hE okR2 k_U1_2
  · exact to_of_ck hE okR2 k_U1_3
  · exact to_of_ck hE okR2 k_U1_4
  · exact to_of_ck hE okR2 k_U1_5
  · exact to_of_ck hE okR2 k_U1_6
  · exact to_of_ck hE okR2 k_U1_7
  · exact to_of_ck hE okR2 k_U1_8
  · exact to_of_ck hE okR2 k_U1_9
  · exact to_of_ck hE okR2 k_U1_10
theorem tail2_0_n (hE : EvOk prog X0 (ev prog X0 4000)) (h : EvOk prog (X1 []) (ev prog (X1 []) 4000)) : Fin prog mk3 115 (sqn 12 B3) ⟨vsE 2, LU2 0, NU2 0, CU2 0⟩ := y_of hE k_Y2_0 (z_of h (k_Z2_0_n) (end_of hE k_C2_0))
theorem tail2_0_nf (hE : EvOk prog X0 (ev prog X0 4000)) (t : List Bool) (h : EvOk prog (X1 (false :: t)) (ev prog (X1 (false :: t)) 4000)) : Fin prog mk3 115 (sqn 12 B3) ⟨vsE 2, LU2 0, NU2 0, CU2 0⟩ := y_of hE k_Y2_0 (z_of h (k_Z2_0_nf t) (end_of hE k_C2_0))
theorem tail2_0_nt (hE : EvOk prog X0 (ev prog X0 4000)) (t : List Bool) (h : EvOk prog (X1 (true :: t)) (ev prog (X1 (true :: t)) 4000)) : Fin prog mk3 115 (sqn 12 B3) ⟨vsE 2, LU2 0, NU2 0, CU2 0⟩ := y_of hE k_Y2_0 (z_of h (k_Z2_0_nt t) (end_of hE k_C2_1))
theorem tail2_0 (hE : EvOk prog X0 (ev prog X0 4000)) (ks : List Bool) (h : EvOk prog (X1 ks) (ev prog (X1 ks) 4000)) : Fin prog mk3 115 (sqn 12 B3) ⟨vsE 2, LU2 0, NU2 0, CU2 0⟩ := by
  cases ks with
  | nil => exact tail2_0_n hE h
  | cons b ks =>
    cases b with
    | false =>
      exact tail2_0_nf hE ks h
    | true =>
      exact tail2_0_nt hE ks h
theorem tail2_1_n (hE : EvOk prog X0 (ev prog X0 4000)) (h : EvOk prog (X1 []) (ev prog (X1 []) 4000)) : Fin prog mk3 115 (sqn 12 B3) ⟨vsE 2, LU2 1, NU2 1, CU2 1⟩ := y_of hE k_Y2_1 (z_of h (k_Z2_1_n) (end_of hE k_C2_0))
theorem tail2_1_nf (hE : EvOk prog X0 (ev prog X0 4000)) (t : List Bool) (h : EvOk prog (X1 (false :: t)) (ev prog (X1 (false :: t)) 4000)) : Fin prog mk3 115 (sqn 12 B3) ⟨vsE 2, LU2 1, NU2 1, CU2 1⟩ := y_of hE k_Y2_1 (z_of h (k_Z2_1_nf t) (end_of hE k_C2_0))
theorem tail2_1_nt (hE : EvOk prog X0 (ev prog X0 4000)) (t : List Bool) (h : EvOk prog (X1 (true :: t)) (ev prog (X1 (true :: t)) 4000)) : Fin prog mk3 115 (sqn 12 B3) ⟨vsE 2, LU2 1, NU2 1, CU2 1⟩ := y_of hE k_Y2_1 (z_of h (k_Z2_1_nt t) (end_of hE k_C2_1))
theorem tail2_1 (hE : EvOk prog X0 (ev prog X0 4000)) (ks : List Bool) (h : EvOk prog (X1 ks) (ev prog (X1 ks) 4000)) : Fin prog mk3 115 (sqn 12 B3) ⟨vsE 2, LU2 1, NU2 1, CU2 1⟩ := by
  cases ks with
  | nil => exact tail2_1_n hE h
  | cons b ks =>
    cases b with
    | false =>
      exact tail2_1_nf hE ks h
    | true =>
      exact tail2_1_nt hE ks h
theorem tail2_2_n (hE : EvOk prog X0 (ev prog X0 4000)) (h : EvOk prog (X1 []) (ev prog (X1 []) 4000)) : Fin prog mk3 115 (sqn 12 B3) ⟨vsE 2, LU2 2, NU2 2, CU2 2⟩ := y_of hE k_Y2_2 (z_of h (k_Z2_2_n) (end_of hE k_C2_0))
theorem tail2_2_nf (hE : EvOk prog X0 (ev prog X0 4000)) (h : EvOk prog (X1 [false]) (ev prog (X1 [false]) 4000)) : Fin prog mk3 115 (sqn 12 B3) ⟨vsE 2, LU2 2, NU2 2, CU2 2⟩ := y_of hE k_Y2_2 (z_of h (k_Z2_2_nf) (end_of hE k_C2_0))
theorem tail2_2_nt (hE : EvOk prog X0 (ev prog X0 4000)) (h : EvOk prog (X1 [true]) (ev prog (X1 [true]) 4000)) : Fin prog mk3 115 (sqn 12 B3) ⟨vsE 2, LU2 2, NU2 2, CU2 2⟩ := y_of hE k_Y2_2 (z_of h (k_Z2_2_nt) (end_of hE k_C2_1))
theorem tail2_2_nff (hE : EvOk prog X0 (ev prog X0 4000)) (t : List Bool) (h : EvOk prog (X1 (false :: false :: t)) (ev prog (X1 (false :: false :: t)) 4000)) : Fin prog mk3 115 (sqn 12 B3) ⟨vsE 2, LU2 2, NU2 2, CU2 2⟩ := y_of hE k_Y2_2 (z_of h (k_Z2_2_nff t) (end_of hE k_C2_0))
theorem tail2_2_nft (hE : EvOk prog X0 (ev prog X0 4000)) (t : List Bool) (h : EvOk prog (X1 (false :: true :: t)) (ev prog (X1 (false :: true :: t)) 4000)) : Fin prog mk3 115 (sqn 12 B3) ⟨vsE 2, LU2 2, NU2 2, CU2 2⟩ := y_of hE k_Y2_2 (z_of h (k_Z2_2_nft t) (end_of hE k_C2_2))
theorem tail2_2_ntf (hE : EvOk prog X0 (ev prog X0 4000)) (t : List Bool) (h : EvOk prog (X1 (true :: false :: t)) (ev prog (X1 (true :: false :: t)) 4000)) : Fin prog mk3 115 (sqn 12 B3) ⟨vsE 2, LU2 2, NU2 2, CU2 2⟩ := y_of hE k_Y2_2 (z_of h (k_Z2_2_ntf t) (end_of hE k_C2_1))
theorem tail2_2_ntt (hE : EvOk prog X0 (ev prog X0 4000)) (t : List Bool) (h : EvOk prog (X1 (true :: true :: t)) (ev prog (X1 (true :: true :: t)) 4000)) : Fin prog mk3 115 (sqn 12 B3) ⟨vsE 2, LU2 2, NU2 2, CU2 2⟩ := y_of hE k_Y2_2 (z_of h (k_Z2_2_ntt t) (end_of hE k_C2_3))
theorem tail2_2 (hE : EvOk prog X0 (ev prog X0 4000)) (ks : List Bool) (h : EvOk prog (X1 ks) (ev prog (X1 ks) 4000)) : Fin prog mk3 115 (sqn 12 B3) ⟨vsE 2, LU2 2, NU2 2, CU2 2⟩ := by
  cases ks with
  | nil => exact tail2_2_n hE h
  | cons b ks =>
    cases b with
    | false =>
      cases ks with
      | nil => exact tail2_2_nf hE h
      | cons b ks =>
        cases b with
        | false =>
          exact tail2_2_nff hE ks h
        | true =>
          exact tail2_2_nft hE ks h
    | true =>
      cases ks with
      | nil => exact tail2_2_nt hE h
      | cons b ks =>
        cases b with
        | false =>
          exact tail2_2_ntf hE ks h
        | true =>
          exact tail2_2_ntt hE ks h
theorem tail2_3_n (hE : EvOk prog X0 (ev prog X0 4000)) (h : EvOk prog (X1 []) (ev prog (X1 []) 4000)) : Fin prog mk3 115 (sqn 12 B3) ⟨vsE 2, LU2 3, NU2 3, CU2 3⟩ := y_of hE k_Y2_3 (z_of h (k_Z2_3_n) (end_of hE k_C2_0))
theorem tail2_3_nf (hE : EvOk prog X0 (ev prog X0 4000)) (h : EvOk prog (X1 [false]) (ev prog (X1 [false]) 4000)) : Fin prog mk3 115 (sqn 12 B3) ⟨vsE 2, LU2 3, NU2 3, CU2 3⟩ := y_of hE k_Y2_3 (z_of h (k_Z2_3_nf) (end_of hE k_C2_0))
theorem tail2_3_nt (hE : EvOk prog X0 (ev prog X0 4000)) (h : EvOk prog (X1 [true]) (ev prog (X1 [true]) 4000)) : Fin prog mk3 115 (sqn 12 B3) ⟨vsE 2, LU2 3, NU2 3, CU2 3⟩ := y_of hE k_Y2_3 (z_of h (k_Z2_3_nt) (end_of hE k_C2_1))
theorem tail2_3_nff (hE : EvOk prog X0 (ev prog X0 4000)) (h : EvOk prog (X1 [false, false]) (ev prog (X1 [false, false]) 4000)) : Fin prog mk3 115 (sqn 12 B3) ⟨vsE 2, LU2 3, NU2 3, CU2 3⟩ := y_of hE k_Y2_3 (z_of h (k_Z2_3_nff) (end_of hE k_C2_0))
theorem tail2_3_nft (hE : EvOk prog X0 (ev prog X0 4000)) (h : EvOk prog (X1 [false, true]) (ev prog (X1 [false, true]) 4000)) : Fin prog mk3 115 (sqn 12 B3) ⟨vsE 2, LU2 3, NU2 3, CU2 3⟩ := y_of hE k_Y2_3 (z_of h (k_Z2_3_nft) (end_of hE k_C2_2))
theorem tail2_3_ntf (hE : EvOk prog X0 (ev prog X0 4000)) (h : EvOk prog (X1 [true, false]) (ev prog (X1 [true, false]) 4000)) : Fin prog mk3 115 (sqn 12 B3) ⟨vsE 2, LU2 3, NU2 3, CU2 3⟩ := y_of hE k_Y2_3 (z_of h (k_Z2_3_ntf) (end_of hE k_C2_1))
theorem tail2_3_ntt (hE : EvOk prog X0 (ev prog X0 4000)) (h : EvOk prog (X1 [true, true]) (ev prog (X1 [true, true]) 4000)) : Fin prog mk3 115 (sqn 12 B3) ⟨vsE 2, LU2 3, NU2 3, CU2 3⟩ := y_of hE k_Y2_3 (z_of h (k_Z2_3_ntt) (end_of hE k_C2_3))
theorem tail2_3_nfff (hE : EvOk prog X0 (ev prog X0 4000)) (t : List Bool) (h : EvOk prog (X1 (false :: false :: false :: t)) (ev prog (X1 (false :: false :: false :: t)) 4000)) : Fin prog mk3 115 (sqn 12 B3) ⟨vsE 2, LU2 3, NU2 3, CU2 3⟩ := y_of hE k_Y2_3 (z_of h (k_Z2_3_nfff t) (end_of hE k_C2_0))
theorem tail2_3_nfft (hE : EvOk prog X0 (ev prog X0 4000)) (t : List Bool) (h : EvOk prog (X1 (false :: false :: true :: t)) (ev prog (X1 (false :: false :: true :: t)) 4000)) : Fin prog mk3 115 (sqn 12 B3) ⟨vsE 2, LU2 3, NU2 3, CU2 3⟩ := y_of hE k_Y2_3 (z_of h (k_Z2_3_nfft t) (end_of hE k_C2_4))
theorem tail2_3_nftf (hE : EvOk prog X0 (ev prog X0 4000)) (t : List Bool) (h : EvOk prog (X1 (false :: true :: false :: t)) (ev prog (X1 (false :: true :: false :: t)) 4000)) : Fin prog mk3 115 (sqn 12 B3) ⟨vsE 2, LU2 3, NU2 3, CU2 3⟩ := y_of hE k_Y2_3 (z_of h (k_Z2_3_nftf t) (end_of hE k_C2_2))
theorem tail2_3_nftt (hE : EvOk prog X0 (ev prog X0 4000)) (t : List Bool) (h : EvOk prog (X1 (false :: true :: true :: t)) (ev prog (X1 (false :: true :: true :: t)) 4000)) : Fin prog mk3 115 (sqn 12 B3) ⟨vsE 2, LU2 3, NU2 3, CU2 3⟩ := y_of hE k_Y2_3 (z_of h (k_Z2_3_nftt t) (end_of hE k_C2_5))
theorem tail2_3_ntff (hE : EvOk prog X0 (ev prog X0 4000)) (t : List Bool) (h : EvOk prog (X1 (true :: false :: false :: t)) (ev prog (X1 (true :: false :: false :: t)) 4000)) : Fin prog mk3 115 (sqn 12 B3) ⟨vsE 2, LU2 3, NU2 3, CU2 3⟩ := y_of hE k_Y2_3 (z_of h (k_Z2_3_ntff t) (end_of hE k_C2_1))
theorem tail2_3_ntft (hE : EvOk prog X0 (ev prog X0 4000)) (t : List Bool) (h : EvOk prog (X1 (true :: false :: true :: t)) (ev prog (X1 (true :: false :: true :: t)) 4000)) : Fin prog mk3 115 (sqn 12 B3) ⟨vsE 2, LU2 3, NU2 3, CU2 3⟩ := y_of hE k_Y2_3 (z_of h (k_Z2_3_ntft t) (end_of hE k_C2_6))
theorem tail2_3_nttf (hE : EvOk prog X0 (ev prog X0 4000)) (t : List Bool) (h : EvOk prog (X1 (true :: true :: false :: t)) (ev prog (X1 (true :: true :: false :: t)) 4000)) : Fin prog mk3 115 (sqn 12 B3) ⟨vsE 2, LU2 3, NU2 3, CU2 3⟩ := y_of hE k_Y2_3 (z_of h (k_Z2_3_nttf t) (end_of hE k_C2_3))
theorem tail2_3_nttt (hE : EvOk prog X0 (ev prog X0 4000)) (t : List Bool) (h : EvOk prog (X1 (true :: true :: true :: t)) (ev prog (X1 (true :: true :: true :: t)) 4000)) : Fin prog mk3 115 (sqn 12 B3) ⟨vsE 2, LU2 3, NU2 3, CU2 3⟩ := y_of hE k_Y2_3 (z_of h (k_Z2_3_nttt t) (end_of hE k_C2_7))
theorem tail2_3 (hE : EvOk prog X0 (ev prog X0 4000)) (ks : List Bool) (h : EvOk prog (X1 ks) (ev prog (X1 ks) 4000)) : Fin prog mk3 115 (sqn 12 B3) ⟨vsE 2, LU2 3, NU2 3, CU2 3⟩ := by
  cases ks with
  | nil => exact tail2_3_n hE h
  | cons b ks =>
    cases b with
    | false =>
      cases ks with
      | nil => exact tail2_3_nf hE h
      | cons b ks =>
        cases b with
        | false =>
          cases ks with
          | nil => exact tail2_3_nff hE h
          | cons b ks =>
            cases b with
            | false =>
              exact tail2_3_nfff hE ks h
            | true =>
              exact tail2_3_nfft hE ks h
        | true =>
          cases ks with
          | nil => exact tail2_3_nft hE h
          | cons b ks =>
            cases b with
            | false =>
              exact tail2_3_nftf hE ks h
            | true =>
              exact tail2_3_nftt hE ks h
    | true =>
      cases ks with
      | nil => exact tail2_3_nt hE h
      | cons b ks =>
        cases b with
        | false =>
          cases ks with
          | nil => exact tail2_3_ntf hE h
          | cons b ks =>
            cases b with
            | false =>
              exact tail2_3_ntff hE ks h
            | true =>
              exact tail2_3_ntft hE ks h
        | true =>
          cases ks with
          | nil => exact tail2_3_ntt hE h
          | cons b ks =>
            cases b with
            | false =>
              exact tail2_3_nttf hE ks h
            | true =>
              exact tail2_3_nttt hE ks h
theorem tail2_4_n (hE : EvOk prog X0 (ev prog X0 4000)) (t : List Bool) (h : EvOk prog (X1 t) (ev prog (X1 t) 4000)) : Fin prog mk3 115 (sqn 12 B3) ⟨vsE 2, LU2 4, NU2 4, CU2 4⟩ := y_of hE k_Y2_4 (z_of h (k_Z2_4_n t) (end_of hE k_C2_7))
theorem tail2_4 (hE : EvOk prog X0 (ev prog X0 4000)) (ks : List Bool) (h : EvOk prog (X1 ks) (ev prog (X1 ks) 4000)) : Fin prog mk3 115 (sqn 12 B3) ⟨vsE 2, LU2 4, NU2 4, CU2 4⟩ := by
  exact tail2_4_n hE ks h
theorem tail2_5_n (hE : EvOk prog X0 (ev prog X0 4000)) (h : EvOk prog (X1 []) (ev prog (X1 []) 4000)) : Fin prog mk3 115 (sqn 12 B3) ⟨vsE 2, LU2 5, NU2 5, CU2 5⟩ := y_of hE k_Y2_5 (z_of h (k_Z2_5_n) (end_of hE k_C2_8))
theorem tail2_5_nf (hE : EvOk prog X0 (ev prog X0 4000)) (t : List Bool) (h : EvOk prog (X1 (false :: t)) (ev prog (X1 (false :: t)) 4000)) : Fin prog mk3 115 (sqn 12 B3) ⟨vsE 2, LU2 5, NU2 5, CU2 5⟩ := y_of hE k_Y2_5 (z_of h (k_Z2_5_nf t) (end_of hE k_C2_8))
theorem tail2_5_nt (hE : EvOk prog X0 (ev prog X0 4000)) (t : List Bool) (h : EvOk prog (X1 (true :: t)) (ev prog (X1 (true :: t)) 4000)) : Fin prog mk3 115 (sqn 12 B3) ⟨vsE 2, LU2 5, NU2 5, CU2 5⟩ := y_of hE k_Y2_5 (z_of h (k_Z2_5_nt t) (end_of hE k_C2_9))
theorem tail2_5 (hE : EvOk prog X0 (ev prog X0 4000)) (ks : List Bool) (h : EvOk prog (X1 ks) (ev prog (X1 ks) 4000)) : Fin prog mk3 115 (sqn 12 B3) ⟨vsE 2, LU2 5, NU2 5, CU2 5⟩ := by
  cases ks with
  | nil => exact tail2_5_n hE h
  | cons b ks =>
    cases b with
    | false =>
      exact tail2_5_nf hE ks h
    | true =>
      exact tail2_5_nt hE ks h
theorem tail2_6_n (hE : EvOk prog X0 (ev prog X0 4000)) (h : EvOk prog (X1 []) (ev prog (X1 []) 4000)) : Fin prog mk3 115 (sqn 12 B3) ⟨vsE 2, LU2 6, NU2 6, CU2 6⟩ := y_of hE k_Y2_6 (z_of h (k_Z2_6_n) (end_of hE k_C2_8))
theorem tail2_6_nf (hE : EvOk prog X0 (ev prog X0 4000)) (t : List Bool) (h : EvOk prog (X1 (false :: t)) (ev prog (X1 (false :: t)) 4000)) : Fin prog mk3 115 (sqn 12 B3) ⟨vsE 2, LU2 6, NU2 6, CU2 6⟩ := y_of hE k_Y2_6 (z_of h (k_Z2_6_nf t) (end_of hE k_C2_8))
theorem tail2_6_nt (hE : EvOk prog X0 (ev prog X0 4000)) (t : List Bool) (h : EvOk prog (X1 (true :: t)) (ev prog (X1 (true :: t)) 4000)) : Fin prog mk3 115 (sqn 12 B3) ⟨vsE 2, LU2 6, NU2 6, CU2 6⟩ := y_of hE k_Y2_6 (z_of h (k_Z2_6_nt t) (end_of hE k_C2_9))
theorem tail2_6 (hE : EvOk prog X0 (ev prog X0 4000)) (ks : List Bool) (h : EvOk prog (X1 ks) (ev prog (X1 ks) 4000)) : Fin prog mk3 115 (sqn 12 B3) ⟨vsE 2, LU2 6, NU2 6, CU2 6⟩ := by
  cases ks with
  | nil => exact tail2_6_n hE h
  | cons b ks =>
    cases b with
    | false =>
      exact tail2_6_nf hE ks h
    | true =>
      exact tail2_6_nt hE ks h
theorem tail2_7_n (hE : EvOk prog X0 (ev prog X0 4000)) (h : EvOk prog (X1 []) (ev prog (X1 []) 4000)) : Fin prog mk3 115 (sqn 12 B3) ⟨vsE 2, LU2 7, NU2 7, CU2 7⟩ := y_of hE k_Y2_7 (z_of h (k_Z2_7_n) (end_of hE k_C2_8))
theorem tail2_7_nf (hE : EvOk prog X0 (ev prog X0 4000)) (t : List Bool) (h : EvOk prog (X1 (false :: t)) (ev prog (X1 (false :: t)) 4000)) : Fin prog mk3 115 (sqn 12 B3) ⟨vsE 2, LU2 7, NU2 7, CU2 7⟩ := y_of hE k_Y2_7 (z_of h (k_Z2_7_nf t) (end_of hE k_C2_8))
theorem tail2_7_nt (hE : EvOk prog X0 (ev prog X0 4000)) (t : List Bool) (h : EvOk prog (X1 (true :: t)) (ev prog (X1 (true :: t)) 4000)) : Fin prog mk3 115 (sqn 12 B3) ⟨vsE 2, LU2 7, NU2 7, CU2 7⟩ := y_of hE k_Y2_7 (z_of h (k_Z2_7_nt t) (end_of hE k_C2_9))
theorem tail2_7 (hE : EvOk prog X0 (ev prog X0 4000)) (ks : List Bool) (h : EvOk prog (X1 ks) (ev prog (X1 ks) 4000)) : Fin prog mk3 115 (sqn 12 B3) ⟨vsE 2, LU2 7, NU2 7, CU2 7⟩ := by
  cases ks with
  | nil => exact tail2_7_n hE h
  | cons b ks =>
    cases b with
    | false =>
      exact tail2_7_nf hE ks h
    | true =>
      exact tail2_7_nt hE ks h
theorem tail2_8_n (hE : EvOk prog X0 (ev prog X0 4000)) (h : EvOk prog (X1 []) (ev prog (X1 []) 4000)) : Fin prog mk3 115 (sqn 12 B3) ⟨vsE 2, LU2 8, NU2 8, CU2 8⟩ := y_of hE k_Y2_8 (z_of h (k_Z2_8_n) (end_of hE k_C2_8))
theorem tail2_8_nf (hE : EvOk prog X0 (ev prog X0 4000)) (t : List Bool) (h : EvOk prog (X1 (false :: t)) (ev prog (X1 (false :: t)) 4000)) : Fin prog mk3 115 (sqn 12 B3) ⟨vsE 2, LU2 8, NU2 8, CU2 8⟩ := y_of hE k_Y2_8 (z_of h (k_Z2_8_nf t) (end_of hE k_C2_8))
theorem tail2_8_nt (hE : EvOk prog X0 (ev prog X0 4000)) (t : List Bool) (h : EvOk prog (X1 (true :: t)) (ev prog (X1 (true :: t)) 4000)) : Fin prog mk3 115 (sqn 12 B3) ⟨vsE 2, LU2 8, NU2 8, CU2 8⟩ := y_of hE k_Y2_8 (z_of h (k_Z2_8_nt t) (end_of hE k_C2_9))
theorem tail2_8 (hE : EvOk prog X0 (ev prog X0 4000)) (ks : List Bool) (h : EvOk prog (X1 ks) (ev prog (X1 ks) 4000)) : Fin prog mk3 115 (sqn 12 B3) ⟨vsE 2, LU2 8, NU2 8, CU2 8⟩ := by
  cases ks with
  | nil => exact tail2_8_n hE h
  | cons b ks =>
    cases b with
    | false =>
      exact tail2_8_nf hE ks h
    | true =>
      exact tail2_8_nt hE ks h
theorem tail2_9_n (hE : EvOk prog X0 (ev prog X0 4000)) (h : EvOk prog (X1 []) (ev prog (X1 []) 4000)) : Fin prog mk3 115 (sqn 12 B3) ⟨vsE 2, LU2 9, NU2 9, CU2 9⟩ := y_of hE k_Y2_9 (z_of h (k_Z2_9_n) (end_of hE k_C2_8))
theorem tail2_9_nf (hE : EvOk prog X0 (ev prog X0 4000)) (t : List Bool) (h : EvOk prog (X1 (false :: t)) (ev prog (X1 (false :: t)) 4000)) : Fin prog mk3 115 (sqn 12 B3) ⟨vsE 2, LU2 9, NU2 9, CU2 9⟩ := y_of hE k_Y2_9 (z_of h (k_Z2_9_nf t) (end_of hE k_C2_8))
theorem tail2_9_nt (hE : EvOk prog X0 (ev prog X0 4000)) (t : List Bool) (h : EvOk prog (X1 (true :: t)) (ev prog (X1 (true :: t)) 4000)) : Fin prog mk3 115 (sqn 12 B3) ⟨vsE 2, LU2 9, NU2 9, CU2 9⟩ := y_of hE k_Y2_9 (z_of h (k_Z2_9_nt t) (end_of hE k_C2_9))
theorem tail2_9 (hE : EvOk prog X0 (ev prog X0 4000)) (ks : List Bool) (h : EvOk prog (X1 ks) (ev prog (X1 ks) 4000)) : Fin prog mk3 115 (sqn 12 B3) ⟨vsE 2, LU2 9, NU2 9, CU2 9⟩ := by
  cases ks with
  | nil => exact tail2_9_n hE h
  | cons b ks =>
    cases b with
    | false =>
      exact tail2_9_nf hE ks h
    | true =>
      exact tail2_9_nt hE ks h
theorem tail2_10_n (hE : EvOk prog X0 (ev prog X0 4000)) (h : EvOk prog (X1 []) (ev prog (X1 []) 4000)) : Fin prog mk3 115 (sqn 12 B3) ⟨vsE 2, LU2 10, NU2 10, CU2 10⟩ := y_of hE k_Y2_10 (z_of h (k_Z2_10_n) (end_of hE k_C2_8))
theorem tail2_10_nf (hE : EvOk prog X0 (ev prog X0 4000)) (t : List Bool) (h : EvOk prog (X1 (false :: t)) (ev prog (X1 (false :: t)) 4000)) : Fin prog mk3 115 (sqn 12 B3) ⟨vsE 2, LU2 10, NU2 10, CU2 10⟩ := y_of hE k_Y2_10 (z_of h (k_Z2_10_nf t) (end_of hE k_C2_8))
theorem tail2_10_nt (hE : EvOk prog X0 (ev prog X0 4000)) (t : List Bool) (h : EvOk prog (X1 (true :: t)) (ev prog (X1 (true :: t)) 4000)) : Fin prog mk3 115 (sqn 12 B3) ⟨vsE 2, LU2 10, NU2 10, CU2 10⟩ := y_of hE k_Y2_10 (z_of h (k_Z2_10_nt t) (end_of hE k_C2_9))
theorem tail2_10 (hE : EvOk prog X0 (ev prog X0 4000)) (ks : List Bool) (h : EvOk prog (X1 ks) (ev prog (X1 ks) 4000)) : Fin prog mk3 115 (sqn 12 B3) ⟨vsE 2, LU2 10, NU2 10, CU2 10⟩ := by
  cases ks with
  | nil => exact tail2_10_n hE h
  | cons b ks =>
    cases b with
    | false =>
      exact tail2_10_nf hE ks h
    | true =>
      exact tail2_10_nt hE ks h
theorem tail2_11_n (hE : EvOk prog X0 (ev prog X0 4000)) (h : EvOk prog (X1 []) (ev prog (X1 []) 4000)) : Fin prog mk3 115 (sqn 12 B3) ⟨vsE 2, LU2 11, NU2 11, CU2 11⟩ := y_of hE k_Y2_11 (z_of h (k_Z2_11_n) (end_of hE k_C2_8))
theorem tail2_11_nf (hE : EvOk prog X0 (ev prog X0 4000)) (t : List Bool) (h : EvOk prog (X1 (false :: t)) (ev prog (X1 (false :: t)) 4000)) : Fin prog mk3 115 (sqn 12 B3) ⟨vsE 2, LU2 11, NU2 11, CU2 11⟩ := y_of hE k_Y2_11 (z_of h (k_Z2_11_nf t) (end_of hE k_C2_8))
theorem tail2_11_nt (hE : EvOk prog X0 (ev prog X0 4000)) (t : List Bool) (h : EvOk prog (X1 (true :: t)) (ev prog (X1 (true :: t)) 4000)) : Fin prog mk3 115 (sqn 12 B3) ⟨vsE 2, LU2 11, NU2 11, CU2 11⟩ := y_of hE k_Y2_11 (z_of h (k_Z2_11_nt t) (end_of hE k_C2_9))
theorem tail2_11 (hE : EvOk prog X0 (ev prog X0 4000)) (ks : List Bool) (h : EvOk prog (X1 ks) (ev prog (X1 ks) 4000)) : Fin prog mk3 115 (sqn 12 B3) ⟨vsE 2, LU2 11, NU2 11, CU2 11⟩ := by
  cases ks with
  | nil => exact tail2_11_n hE h
  | cons b ks =>
    cases b with
    | false =>
      exact tail2_11_nf hE ks h
    | true =>
      exact tail2_11_nt hE ks h
theorem tail2 (hE : EvOk prog X0 (ev prog X0 4000)) (ks : List Bool) (h : EvOk prog (X1 ks) (ev prog (X1 ks) 4000)) (st : Nat) (hst : st < 12) : Fin prog mk3 115 (sqn 12 B3) ⟨vsE 2, LU2 st, NU2 st, CU2 st⟩ := by
  have : st = 0 ∨ st = 1 ∨ st = 2 ∨ st = 3 ∨ st = 4 ∨ st = 5 ∨ st = 6 ∨ st = 7 ∨ st = 8 ∨ st = 9 ∨ st = 10 ∨ st = 11 := by omega
  rcases this with rfl | rfl | rfl | rfl | rfl | rfl | rfl | rfl | rfl | rfl | rfl | rfl
  · exact tail2_0 hE ks h
  · exact tail2_1 hE ks h
  · exact tail2_2 hE ks h
  · exact tail2_3 hE ks h
  · exact tail2_4 hE ks h
  · exact tail2_5 hE ks h
  · exact tail2_6 hE ks h
  · exact tail2_7 hE ks h
  · exact tail2_8 hE ks h
  · exact tail2_9 hE ks h
  · exact tail2_10 hE ks h
  · exact tail2_11 hE ks h
theorem rounds2 (hE : EvOk prog X0 (ev prog X0 4000)) (i : Nat) (hi : i < 11) : To prog mk3 115 (sq2 LB2) .normal ⟨vsT i, LU2 i, NU2 i, CU2 i⟩ ⟨vsT (i + 1), LU2 (i + 1), NU2 (i + 1), CU2 (i + 1)⟩ := by
  have : i = 0 ∨ i = 1 ∨ i = 2 ∨ i = 3 ∨ i = 4 ∨ i = 5 ∨ i = 6 ∨ i = 7 ∨ i = 8 ∨ i = 9 ∨ i = 10 := by omega
  rcases this with rfl | rfl | rfl | rfl | rfl | rfl | rfl | rfl | rfl | rfl | rfl
  · exact to_of_ck hE okR2 k_U2_0
  · exact to_of_ck hE okR2 k_U2_1
  · exact to_of_ck hE okR2 k_U2_2
  · exact to_of_ck hE okR2 k_U2_3
  · exact to_of_ck hE okR2 k_U2_4
  · exact to_of_ck hE okR2 k_U2_5
  · exact to_of_ck hE okR2 k_U2_6
  · exact to_of_ck hE okR2 k_U2_7
  · exact to_of_ck hE okR2 k_U2_8
  · exact to_of_ck hE okR2 k_U2_9
  · exact to_of_ck hE okR2 k_U2_10
theorem tail3_0_n (hE : EvOk prog X0 (ev prog X0 4000)) (h : EvOk prog (X1 []) (ev prog (X1 []) 4000)) : Fin prog mk3 115 (sqn 12 B3) ⟨vsE 3, LU3 0, NU3 0, CU3 0⟩ := y_of hE k_Y3_0 (z_of h (k_Z3_0_n) (end_of hE k_C3_0))
theorem tail3_0_nf (hE : EvOk prog X0 (ev prog X0 4000)) (t : List Bool) (h : EvOk prog (X1 (false :: t)) (ev prog (X1 (false :: t)) 4000)) : Fin prog mk3 115 (sqn 12 B3) ⟨vsE 3, LU3 0, NU3 0, CU3 0⟩ := y_of hE k_Y3_0 (z_of h (k_Z3_0_nf t) (end_of hE k_C3_0))
theorem tail3_0_nt (hE : EvOk prog X0 (ev prog X0 4000)) (t : List Bool) (h : EvOk prog (X1 (true :: t)) (ev prog (X1 (true :: t)) 4000)) : Fin prog mk3 115 (sqn 12 B3) ⟨vsE 3, LU3 0, NU3 0, CU3 0⟩ := y_of hE k_Y3_0 (z_of h (k_Z3_0_nt t) (end_of hE k_C3_1))
theorem tail3_0 (hE : EvOk prog X0 (ev prog X0 4000)) (ks : List Bool) (h : EvOk prog (X1 ks) (ev prog (X1 ks) 4000)) : Fin prog mk3 115 (sqn 12 B3) ⟨vsE 3, LU3 0, NU3 0, CU3 0⟩ := by
  cases ks with
  | nil => exact tail3_0_n hE h
  | cons b ks =>
    cases b with
    | false =>
      exact tail3_0_nf hE ks h
    | true =>
      exact tail3_0_nt hE ks h
theorem tail3_1_n (hE : EvOk prog X0 (ev prog X0 4000)) (h : EvOk prog (X1 []) (ev prog (X1 []) 4000)) : Fin prog mk3 115 (sqn 12 B3) ⟨vsE 3, LU3 1, NU3 1, CU3 1⟩ := y_of hE k_Y3_1 (z_of h (k_Z3_1_n) (end_of hE k_C3_0))
theorem tail3_1_nf (hE : EvOk prog X0 (ev prog X0 4000)) (t : List Bool) (h : EvOk prog (X1 (false :: t)) (ev prog (X1 (false :: t)) 4000)) : Fin prog mk3 115 (sqn 12 B3) ⟨vsE 3, LU3 1, NU3 1, CU3 1⟩ := y_of hE k_Y3_1 (z_of h (k_Z3_1_nf t) (end_of hE k_C3_0))
theorem tail3_1_nt (hE : EvOk prog X0 (ev prog X0 4000)) (t : List Bool) (h : EvOk prog (X1 (true :: t)) (ev prog (X1 (true :: t)) 4000)) : Fin prog mk3 115 (sqn 12 B3) ⟨vsE 3, LU3 1, NU3 1, CU3 1⟩ := y_of hE k_Y3_1 (z_of h (k_Z3_1_nt t) (end_of hE k_C3_1))
theorem tail3_1 (hE : EvOk prog X0 (ev prog X0 4000)) (ks : List Bool) (h : EvOk prog (X1 ks) (ev prog (X1 ks) 4000)) : Fin prog mk3 115 (sqn 12 B3) ⟨vsE 3, LU3 1, NU3 1, CU3 1⟩ := by
  cases ks with
  | nil => exact tail3_1_n hE h
  | cons b ks =>
    cases b with
    | false =>
      exact tail3_1_nf hE ks h
    | true =>
      exact tail3_1_nt hE ks h
theorem tail3_2_n (hE : EvOk prog X0 (ev prog X0 4000)) (h : EvOk prog (X1 []) (ev prog (X1 []) 4000)) : Fin prog mk3 115 (sqn 12 B3) ⟨vsE 3, LU3 2, NU3 2, CU3 2⟩ := y_of hE k_Y3_2 (z_of h (k_Z3_2_n) (end_of hE k_C3_0))
theorem tail3_2_nf (hE : EvOk prog X0 (ev prog X0 4000)) (h : EvOk prog (X1 [false]) (ev prog (X1 [false]) 4000)) : Fin prog mk3 115 (sqn 12 B3) ⟨vsE 3, LU3 2, NU3 2, CU3 2⟩ := y_of hE k_Y3_2 (z_of h (k_Z3_2_nf) (end_of hE k_C3_0))
theorem tail3_2_nt (hE : EvOk prog X0 (ev prog X0 4000)) (h : EvOk prog (X1 [true]) (ev prog (X1 [true]) 4000)) : Fin prog mk3 115 (sqn 12 B3) ⟨vsE 3, LU3 2, NU3 2, CU3 2⟩ := y_of hE k_Y3_2 (z_of h (k_Z3_2_nt) (end_of hE k_C3_1))
theorem tail3_2_nff (hE : EvOk prog X0 (ev prog X0 4000)) (t : List Bool) (h : EvOk prog (X1 (false :: false :: t)) (ev prog (X1 (false :: false :: t)) 4000)) : Fin prog mk3 115 (sqn 12 B3) ⟨vsE 3, LU3 2, NU3 2, CU3 2⟩ := y_of hE k_Y3_2 (z_of h (k_Z3_2_nff t) (end_of hE k_C3_0))
theorem tail3_2_nft (hE : EvOk prog X0 (ev prog X0 4000)) (t : List Bool) (h : EvOk prog (X1 (false :: true :: t)) (ev prog (X1 (false :: true :: t)) 4000)) : Fin prog mk3 115 (sqn 12 B3) ⟨vsE 3, LU3 2, NU3 2, CU3 2⟩ := y_of hE k_Y3_2 (z_of h (k_Z3_2_nft t) (end_of hE k_C3_2))
theorem tail3_2_ntf (hE : EvOk prog X0 (ev prog X0 4000)) (t : List Bool) (h : EvOk prog (X1 (true :: false :: t)) (ev prog (X1 (true :: false :: t)) 4000)) : Fin prog mk3 115 (sqn 12 B3) ⟨vsE 3, LU3 2, NU3 2, CU3 2⟩ := y_of hE k_Y3_2 (z_of h (k_Z3_2_ntf t) (end_of hE k_C3_1))
theorem tail3_2_ntt (hE : EvOk prog X0 (ev prog X0 4000)) (t : List Bool) (h : EvOk prog (X1 (true :: true :: t)) (ev prog (X1 (true :: true :: t)) 4000)) : Fin prog mk3 115 (sqn 12 B3) ⟨vsE 3, LU3 2, NU3 2, CU3 2⟩ := y_of hE k_Y3_2 (z_of h (k_Z3_2_ntt t) (end_of hE k_C3_3))
theorem tail3_2 (hE : EvOk prog X0 (ev prog X0 4000)) (ks : List Bool) (h : EvOk prog (X1 ks) (ev prog (X1 ks) 4000)) : Fin prog mk3 115 (sqn 12 B3) ⟨vsE 3, LU3 2, NU3 2, CU3 2⟩ := by
  cases ks with
  | nil => exact tail3_2_n hE h
  | cons b ks =>
    cases b with
    | false =>
      cases ks with
      | nil => exact tail3_2_nf hE h
      | cons b ks =>
        cases b with
        | false =>
          exact tail3_2_nff hE ks h
        | true =>
          exact tail3_2_nft hE ks h
    | true =>
      cases ks with
      | nil => exact tail3_2_nt hE h
      | cons b ks =>
        cases b with
        | false =>
          exact tail3_2_ntf hE ks h
        | true =>
          exact tail3_2_ntt hE ks h
theorem tail3_3_n (hE : EvOk prog X0 (ev prog X0 4000)) (h : EvOk prog (X1 []) (ev prog (X1 []) 4000)) : Fin prog mk3 115 (sqn 12 B3) ⟨vsE 3, LU3 3, NU3 3, CU3 3⟩ := y_of hE k_Y3_3 (z_of h (k_Z3_3_n) (end_of hE k_C3_0))
theorem tail3_3_nf (hE : EvOk prog X0 (ev prog X0 4000)) (h : EvOk prog (X1 [false]) (ev prog (X1 [false]) 4000)) : Fin prog mk3 115 (sqn 12 B3) ⟨vsE 3, LU3 3, NU3 3, CU3 3⟩ := y_of hE k_Y3_3 (z_of h (k_Z3_3_nf) (end_of hE k_C3_0))
theorem tail3_3_nt (hE : EvOk prog X0 (ev prog X0 4000)) (h : EvOk prog (X1 [true]) (ev prog (X1 [true]) 4000)) : Fin prog mk3 115 (sqn 12 B3) ⟨vsE 3, LU3 3, NU3 3, CU3 3⟩ := y_of hE k_Y3_3 (z_of h (k_Z3_3_nt) (end_of hE k_C3_1))
theorem tail3_3_nff (hE : EvOk prog X0 (ev prog X0 4000)) (h : EvOk prog (X1 [false, false]) (ev prog (X1 [false, false]) 4000)) : Fin prog mk3 115 (sqn 12 B3) ⟨vsE 3, LU3 3, NU3 3, CU3 3⟩ := y_of hE k_Y3_3 (z_of h (k_Z3_3_nff) (end_of hE k_C3_0))
theorem tail3_3_nft (hE : EvOk prog X0 (ev prog X0 4000)) (h : EvOk prog (X1 [false, true]) (ev prog (X1 [false, true]) 4000)) : Fin prog mk3 115 (sqn 12 B3) ⟨vsE 3, LU3 3, NU3 3, CU3 3⟩ := y_of hE k_Y3_3 (z_of h (k_Z3_3_nft) (end_of hE k_C3_2))
theorem tail3_3_ntf (hE : EvOk prog X0 (ev prog X0 4000)) (h : EvOk prog (X1 [true, false]) (ev prog (X1 [true, false]) 4000)) : Fin prog mk3 115 (sqn 12 B3) ⟨vsE 3, LU3 3, NU3 3, CU3 3⟩ := y_of hE k_Y3_3 (z_of h (k_Z3_3_ntf) (end_of hE k_C3_1))
theorem tail3_3_ntt (hE : EvOk prog X0 (ev prog X0 4000)) (h : EvOk prog (X1 [true, true]) (ev prog (X1 [true, true]) 4000)) : Fin prog mk3 115 (sqn 12 B3) ⟨vsE 3, LU3 3, NU3 3, CU3 3⟩ := y_of hE k_Y3_3 (z_of h (k_Z3_3_ntt) (end_of hE k_C3_3))
theorem tail3_3_nfff (hE : EvOk prog X0 (ev prog X0 4000)) (t : List Bool) (h : EvOk prog (X1 (false :: false :: false :: t)) (ev prog (X1 (false :: false :: false :: t)) 4000)) : Fin prog mk3 115 (sqn 12 B3) ⟨vsE 3, LU3 3, NU3 3, CU3 3⟩ := y_of hE k_Y3_3 (z_of h (k_Z3_3_nfff t) (end_of hE k_C3_0))
theorem tail3_3_nfft (hE : EvOk prog X0 (ev prog X0 4000)) (t : List Bool) (h : EvOk prog (X1 (false :: false :: true :: t)) (ev prog (X1 (false :: false :: true :: t)) 4000)) : Fin prog mk3 115 (sqn 12 B3) ⟨vsE 3, LU3 3, NU3 3, CU3 3⟩ := y_of hE k_Y3_3 (z_of h (k_Z3_3_nfft t) (end_of hE k_C3_4))
theorem tail3_3_nftf (hE : EvOk prog X0 (ev prog X0 4000)) (t : List Bool) (h : EvOk prog (X1 (false :: true :: false :: t)) (ev prog (X1 (false :: true :: false :: t)) 4000)) : Fin prog mk3 115 (sqn 12 B3) ⟨vsE 3, LU3 3, NU3 3, CU3 3⟩ := y_of hE k_Y3_3 (z_of h (k_Z3_3_nftf t) (end_of hE k_C3_2))
theorem tail3_3_nftt (hE : EvOk prog X0 (ev prog X0 4000)) (t : List Bool) (h : EvOk prog (X1 (false :: true :: true :: t)) (ev prog (X1 (false :: true :: true :: t)) 4000)) : Fin prog mk3 115 (sqn 12 B3) ⟨vsE 3, LU3 3, NU3 3, CU3 3⟩ := y_of hE k_Y3_3 (z_of h (k_Z3_3_nftt t) (end_of hE k_C3_5))
theorem tail3_3_ntff (hE : EvOk prog X0 (ev prog X0 4000)) (t : List Bool) (h : EvOk prog (X1 (true :: false :: false :: t)) (ev prog (X1 (true :: false :: false :: t)) 4000)) : Fin prog mk3 115 (sqn 12 B3) ⟨vsE 3, LU3 3, NU3 3, CU3 3⟩ := y_of hE k_Y3_3 (z_of h (k_Z3_3_ntff t) (end_of hE k_C3_1))
theorem tail3_3_ntft (hE : EvOk prog X0 (ev prog X0 4000)) (t : List Bool) (h : EvOk prog (X1 (true :: false :: true :: t)) (ev prog (X1 (true :: false :: true :: t)) 4000)) : Fin prog mk3 115 (sqn 12 B3) ⟨vsE 3, LU3 3, NU3 3, CU3 3⟩ := y_of hE k_Y3_3 (z_of h (k_Z3_3_ntft t) (end_of hE k_C3_6))
theorem tail3_3_nttf (hE : EvOk prog X0 (ev prog X0 4000)) (t : List Bool) (h : EvOk prog (X1 (true :: true :: false :: t)) (ev prog (X1 (true :: true :: false :: t)) 4000)) : Fin prog mk3 115 (sqn 12 B3) ⟨vsE 3, LU3 3, NU3 3, CU3 3⟩ := y_of hE k_Y3_3 (z_of h (k_Z3_3_nttf t) (end_of hE k_C3_3))
theorem tail3_3_nttt (hE : EvOk prog X0 (ev prog X0 4000)) (t : List Bool) (h : EvOk prog (X1 (true :: true :: true :: t)) (ev prog (X1 (true :: true :: true :: t)) 4000)) : Fin prog mk3 115 (sqn 12 B3) ⟨vsE 3, LU3 3, NU3 3, CU3 3⟩ := y_of hE k_Y3_3 (z_of h (k_Z3_3_nttt t) (end_of hE k_C3_7))
theorem tail3_3 (hE : EvOk prog X0 (ev prog X0 4000)) (ks : List Bool) (h : EvOk prog (X1 ks) (ev prog (X1 ks) 4000)) : Fin prog mk3 115 (sqn 12 B3) ⟨vsE 3, LU3 3, NU3 3, CU3 3⟩ := by
  cases ks with
  | nil => exact tail3_3_n hE h
  | cons b ks =>
    cases b with
    | false =>
      cases ks with
      | nil => exact tail3_3_nf hE h
      | cons b ks =>
        cases b with
        | false =>
          cases ks with
          | nil => exact tail3_3_nff hE h
          | cons b ks =>
            cases b with
            | false =>
              exact tail3_3_nfff hE ks h
            | true =>
              exact tail3_3_nfft hE ks h
        | true =>
          cases ks with
          | nil => exact tail3_3_nft hE h
          | cons b ks =>
            cases b with
            | false =>
              exact tail3_3_nftf hE ks h
            | true =>
              exact tail3_3_nftt hE ks h
    | true =>
      cases ks with
      | nil => exact tail3_3_nt hE h
      | cons b ks =>
        cases b with
        | false =>
          cases ks with
          | nil => exact tail3_3_ntf hE h
          | cons b ks =>
            cases b with
            | false =>
              exact tail3_3_ntff hE ks h
            | true =>
              exact tail3_3_ntft hE ks h
        | true =>
          cases ks with
          | nil => exact tail3_3_ntt hE h
          | cons b ks =>
            cases b with
            | false =>
              exact tail3_3_nttf hE ks h
            | true =>
              exact tail3_3_nttt hE ks h
theorem tail3_4_n (hE : EvOk prog X0 (ev prog X0 4000)) (t : List Bool) (h : EvOk prog (X1 t) (ev prog (X1 t) 4000)) : Fin prog mk3 115 (sqn 12 B3) ⟨vsE 3, LU3 4, NU3 4, CU3 4⟩ := y_of hE k_Y3_4 (z_of h (k_Z3_4_n t) (end_of hE k_C3_7))
theorem tail3_4 (hE : EvOk prog X0 (ev prog X0 4000)) (ks : List Bool) (h : EvOk prog (X1 ks) (ev prog (X1 ks) 4000)) : Fin prog mk3 115 (sqn 12 B3) ⟨vsE 3, LU3 4, NU3 4, CU3 4⟩ := by
  exact tail3_4_n hE ks h
theorem tail3_5_n (hE : EvOk prog X0 (ev prog X0 4000)) (h : EvOk prog (X1 []) (ev prog (X1 []) 4000)) : Fin prog mk3 115 (sqn 12 B3) ⟨vsE 3, LU3 5, NU3 5, CU3 5⟩ := y_of hE k_Y3_5 (z_of h (k_Z3_5_n) (end_of hE k_C3_8))
theorem tail3_5_nf (hE : EvOk prog X0 (ev prog X0 4000)) (t : List Bool) (h : EvOk prog (X1 (false :: t)) (ev prog (X1 (false :: t)) 4000)) : Fin prog mk3 115 (sqn 12 B3) ⟨vsE 3, LU3 5, NU3 5, CU3 5⟩ := y_of hE k_Y3_5 (z_of h (k_Z3_5_nf t) (end_of hE k_C3_8))
theorem tail3_5_nt (hE : EvOk prog X0 (ev prog X0 4000)) (t : List Bool) (h : EvOk prog (X1 (true :: t)) (ev prog (X1 (true :: t)) 4000)) : Fin prog mk3 115 (sqn 12 B3) ⟨vsE 3, LU3 5, NU3 5, CU3 5⟩ := y_of hE k_Y3_5 (z_of h (k_Z3_5_nt t) (end_of hE k_C3_9))
theorem tail3_5 (hE : EvOk prog X0 (ev prog X0 4000)) (ks : List Bool) (h : EvOk prog (X1 ks) (ev prog (X1 ks) 4000)) : Fin prog mk3 115 (sqn 12 B3) ⟨vsE 3, LU3 5, NU3 5, CU3 5⟩ := by
  cases ks with
  | nil => exact tail3_5_n hE h
  | cons b ks =>
    cases b with
    | false =>
      exact tail3_5_nf hE ks h
    | true =>
      exact tail3_5_nt hE ks h
theorem tail3_6_n (hE : EvOk prog X0 (ev prog X0 4000)) (h : EvOk prog (X1 []) (ev prog (X1 []) 4000)) : Fin prog mk3 115 (sqn 12 B3) ⟨vsE 3, LU3 6, NU3 6, CU3 6⟩ := y_of hE k_Y3_6 (z_of h (k_Z3_6_n) (end_of hE k_C3_8))
theorem tail3_6_nf (hE : EvOk prog X0 (ev prog X0 4000)) (t : List Bool) (h : EvOk prog (X1 (false :: t)) (ev prog (X1 (false :: t)) 4000)) : Fin prog mk3 115 (sqn 12 B3) ⟨vsE 3, LU3 6, NU3 6, CU3 6⟩ := y_of hE k_Y3_6 (z_of h (k_Z3_6_nf t) (end_of hE k_C3_8))
theorem tail3_6_nt (hE : EvOk prog X0 (ev prog X0 4000)) (t : List Bool) (h : EvOk prog (X1 (true :: t)) (ev prog (X1 (true :: t)) 4000)) : Fin prog mk3 115 (sqn 12 B3) ⟨vsE 3, LU3 6, NU3 6, CU3 6⟩ := y_of hE k_Y3_6 (z_of h (k_Z3_6_nt t) (end_of hE k_C3_9))
theorem tail3_6 (hE : EvOk prog X0 (ev prog X0 4000)) (ks : List Bool) (h : EvOk prog (X1 ks) (ev prog (X1 ks) 4000)) : Fin prog mk3 115 (sqn 12 B3) ⟨vsE 3, LU3 6, NU3 6, CU3 6⟩ := by
  cases ks with
  | nil => exact tail3_6_n hE h
  | cons b ks =>
    cases b with
    | false =>
      exact tail3_6_nf hE ks h
    | true =>
      exact tail3_6_nt hE ks h
theorem tail3_7_n (hE : EvOk prog X0 (ev prog X0 4000)) (h : EvOk prog (X1 []) (ev prog (X1 []) 4000)) : Fin prog mk3 115 (sqn 12 B3) ⟨vsE 3, LU3 7, NU3 7, CU3 7⟩ := y_of hE k_Y3_7 (z_of h (k_Z3_7_n) (end_of hE k_C3_8))
theorem tail3_7_nf (hE : EvOk prog X0 (ev prog X0 4000)) (t : List Bool) (h : EvOk prog (X1 (false :: t)) (ev prog (X1 (false :: t)) 4000)) : Fin prog mk3 115 (sqn 12 B3) ⟨vsE 3, LU3 7, NU3 7, CU3 7⟩ := y_of hE k_Y3_7 (z_of h (k_Z3_7_nf t) (end_of hE k_C3_8))
theorem tail3_7_nt (hE : EvOk prog X0 (ev prog X0 4000)) (t : List Bool) (h : EvOk prog (X1 (true :: t)) (ev prog (X1 (true :: t)) 4000)) : Fin prog mk3 115 (sqn 12 B3) ⟨vsE 3, LU3 7, NU3 7, CU3 7⟩ := y_of hE k_Y3_7 (z_of h (k_Z3_7_nt t) (end_of hE k_C3_9))
theorem tail3_7 (hE : EvOk prog X0 (ev prog X0 4000)) (ks : List Bool) (h : EvOk prog (X1 ks) (ev prog (X1 ks) 4000)) : Fin prog mk3 115 (sqn 12 B3) ⟨vsE 3, LU3 7, NU3 7, CU3 7⟩ := by
  cases ks with
  | nil => exact tail3_7_n hE h
  | cons b ks =>
    cases b with
    | false =>
      exact tail3_7_nf hE ks h
    | true =>
      exact tail3_7_nt hE ks h
theorem tail3_8_n (hE : EvOk prog X0 (ev prog X0 4000)) (h : EvOk prog (X1 []) (ev prog (X1 []) 4000)) : Fin prog mk3 115 (sqn 12 B3) ⟨vsE 3, LU3 8, NU3 8, CU3 8⟩ := y_of hE k_Y3_8 (z_of h (k_Z3_8_n) (end_of hE k_C3_8))
theorem tail3_8_nf (hE : EvOk prog X0 (ev prog X0 4000)) (t : List Bool) (h : EvOk prog (X1 (false :: t)) (ev prog (X1 (false :: t)) 4000)) : Fin prog mk3 115 (sqn 12 B3) ⟨vsE 3, LU3 8, NU3 8, CU3 8⟩ := y_of hE k_Y3_8 (z_of h (k_Z3_8_nf t) (end_of hE k_C3_8))
theorem tail3_8_nt (hE : EvOk prog X0 (ev prog X0 4000)) (t : List Bool) (h : EvOk prog (X1 (true :: t)) (ev prog (X1 (true :: t)) 4000)) : Fin prog mk3 115 (sqn 12 B3) ⟨vsE 3, LU3 8, NU3 8, CU3 8⟩ := y_of hE k_Y3_8 (z_of h (k_Z3_8_nt t) (end_of hE k_C3_9))
theorem tail3_8 (hE : EvOk prog X0 (ev prog X0 4000)) (ks : List Bool) (h : EvOk prog (X1 ks) (ev prog (X1 ks) 4000)) : Fin prog mk3 115 (sqn 12 B3) ⟨vsE 3, LU3 8, NU3 8, CU3 8⟩ := by
  cases ks with
  | nil => exact tail3_8_n hE h
  | cons b ks =>
    cases b with
    | false =>
      exact tail3_8_nf hE ks h
    | true =>
      exact tail3_8_nt hE ks h
theorem tail3_9_n (hE : EvOk prog X0 (ev prog X0 4000)) (h : EvOk prog (X1 []) (ev prog (X1 []) 4000)) : Fin prog mk3 115 (sqn 12 B3) ⟨vsE 3, LU3 9, NU3 9, CU3 9⟩ := y_of hE k_Y3_9 (z_of h (k_Z3_9_n) (end_of hE k_C3_8))
theorem tail3_9_nf (hE : EvOk prog X0 (ev prog X0 4000)) (t : List Bool) (h : EvOk prog (X1 (false :: t)) (ev prog (X1 (false :: t)) 4000)) : Fin prog mk3 115 (sqn 12 B3) ⟨vsE 3, LU3 9, NU3 9, CU3 9⟩ := y_of hE k_Y3_9 (z_of h (k_Z3_9_nf t) (end_of hE k_C3_8))
theorem tail3_9_nt (hE : EvOk prog X0 (ev prog X0 4000)) (t : List Bool) (h : EvOk prog (X1 (true :: t)) (ev prog (X1 (true :: t)) 4000)) : Fin prog mk3 115 (sqn 12 B3) ⟨vsE 3, LU3 9, NU3 9, CU3 9⟩ := y_of hE k_Y3_9 (z_of h (k_Z3_9_nt t) (end_of hE k_C3_9))
theorem tail3_9 (hE : EvOk prog X0 (ev prog X0 4000)) (ks : List Bool) (h : EvOk prog (X1 ks) (ev prog (X1 ks) 4000)) : Fin prog mk3 115 (sqn 12 B3) ⟨vsE 3, LU3 9, NU3 9, CU3 9⟩ := by
  cases ks with
  | nil => exact tail3_9_n hE h
  | cons b ks =>
    cases b with
    | false =>
      exact tail3_9_nf hE ks h
    | true =>
      exact tail3_9_nt hE ks h
theorem tail3_10_n (hE : EvOk prog X0 (ev prog X0 4000)) (h : EvOk prog (X1 []) (ev prog (X1 []) 4000)) : Fin prog mk3 115 (sqn 12 B3) ⟨vsE 3, LU3 10, NU3 10, CU3 10⟩ := y_of hE k_Y3_10 (z_of h (k_Z3_10_n) (end_of hE k_C3_8))
theorem tail3_10_nf (hE : EvOk prog X0 (ev prog X0 4000)) (t : List Bool) (h : EvOk prog (X1 (false :: t)) (ev prog (X1 (false :: t)) 4000)) : Fin prog mk3 115 (sqn 12 B3) ⟨vsE 3, LU3 10, NU3 10, CU3 10⟩ := y_of hE k_Y3_10 (z_of h (k_Z3_10_nf t) (end_of hE k_C3_8))
theorem tail3_10_nt (hE : EvOk prog X0 (ev prog X0 4000)) (t : List Bool) (h : EvOk prog (X1 (true :: t)) (ev prog (X1 (true :: t)) 4000)) : Fin prog mk3 115 (sqn 12 B3) ⟨vsE 3, LU3 10, NU3 10, CU3 10⟩ := y_of hE k_Y3_10 (z_of h (k_Z3_10_nt t) (end_of hE k_C3_9))
theorem tail3_10 (hE : EvOk prog X0 (ev prog X0 4000)) (ks : List Bool) (h : EvOk prog (X1 ks) (ev prog (X1 ks) 4000)) : Fin prog mk3 115 (sqn 12 B3) ⟨vsE 3, LU3 10, NU3 10, CU3 10⟩ := by
  cases ks with
  | nil => exact tail3_10_n hE h
  | cons b ks =>
    cases b with
    | false =>
      exact tail3_10_nf hE ks h
    | true =>
      exact tail3_10_nt hE ks h
theorem tail3_11_n (hE : EvOk prog X0 (ev prog X0 4000)) (h : EvOk prog (X1 []) (ev prog (X1 []) 4000)) : Fin prog mk3 115 (sqn 12 B3) ⟨vsE 3, LU3 11, NU3 11, CU3 11⟩ := y_of hE k_Y3_11 (z_of h (k_Z3_11_n) (end_of hE k_C3_8))
theorem tail3_11_nf (hE : EvOk prog X0 (ev prog X0 4000)) (t : List Bool) (h : EvOk prog (X1 (false :: t)) (ev prog (X1 (false :: t)) 4000)) : Fin prog mk3 115 (sqn 12 B3) ⟨vsE 3, LU3 11, NU3 11, CU3 11⟩ := y_of hE k_Y3_11 (z_of h (k_Z3_11_nf t) (end_of hE k_C3_8))
theorem tail3_11_nt (hE : EvOk prog X0 (ev prog X0 4000)) (t : List Bool) (h : EvOk prog (X1 (true :: t)) (ev prog (X1 (true :: t)) 4000)) : Fin prog mk3 115 (sqn 12 B3) ⟨vsE 3, LU3 11, NU3 11, CU3 11⟩ := y_of hE k_Y3_11 (z_of h (k_Z3_11_nt t) (end_of hE k_C3_9))
theorem tail3_11 (hE : EvOk prog X0 (ev prog X0 4000)) (ks : List Bool) (h : EvOk prog (X1 ks) (ev prog (X1 ks) 4000)) : Fin prog mk3 115 (sqn 12 B3) ⟨vsE 3, LU3 11, NU3 11, CU3 11⟩ := by
  cases ks with
  | nil => exact tail3_11_n hE h
  | cons b ks =>
    cases b with
    | false =>
      exact tail3_11_nf hE ks h
    | true =>
      exact tail3_11_nt hE ks h
theorem tail3 (hE : EvOk prog X0 (ev prog X0 4000)) (ks : List Bool) (h : EvOk prog (X1 ks) (ev prog (X1 ks) 4000)) (st : Nat) (hst : st < 12) : Fin prog mk3 115 (sqn 12 B3) ⟨vsE 3, LU3 st, NU3 st, CU3 st⟩ := by
  have : st = 0 ∨ st = 1 ∨ st = 2 ∨ st = 3 ∨ st = 4 ∨ st = 5 ∨ st = 6 ∨ st = 7 ∨ st = 8 ∨ st = 9 ∨ st = 10 ∨ st = 11 := by omega
  rcases this with rfl | rfl | rfl | rfl | rfl | rfl | rfl | rfl | rfl | rfl | rfl | rfl
  · exact tail3_0 hE ks h
  · exact tail3_1 hE ks h
  · exact tail3_2 hE ks h
  · exact tail3_3 hE ks h
  · exact tail3_4 hE ks h
  · exact tail3_5 hE ks h
  · exact tail3_6 hE ks h
  · exact tail3_7 hE ks h
  · exact tail3_8 hE ks h
  · exact tail3_9 hE ks h
  · exact tail3_10 hE ks h
  · exact tail3_11 hE ks h
theorem rounds3 (hE : EvOk prog X0 (ev prog X0 4000)) (i : Nat) (hi : i < 11) : To prog mk3 115 (sq2 LB2) .normal ⟨vsT i, LU3 i, NU3 i, CU3 i⟩ ⟨vsT (i + 1), LU3 (i + 1), NU3 (i + 1), CU3 (i + 1)⟩ := by
  have : i = 0 ∨ i = 1 ∨ i = 2 ∨ i = 3 ∨ i = 4 ∨ i = 5 ∨ i = 6 ∨ i = 7 ∨ i = 8 ∨ i = 9 ∨ i = 10 := by omega
  rcases this with rfl | rfl | rfl | rfl | rfl | rfl | rfl | rfl | rfl | rfl | rfl
  · exact to_of_ck hE okR2 k_U3_0
  · exact to_of_ck hE okR2 k_U3_1
  · exact to_of_ck hE okR2 k_U3_2
  · exact to_of_ck hE okR2 k_U3_3
  · exact to_of_ck hE okR2 k_U3_4
  · exact to_of_ck hE okR2 k_U3_5
  · exact to_of_ck hE okR2 k_U3_6
  · exact to_of_ck hE okR2 k_U3_7
  · exact to_of_ck hE okR2 k_U3_8
  · exact to_of_ck hE okR2 k_U3_9
  · exact to_of_ck hE okR2 k_U3_10
theorem tail4_0_n (hE : EvOk prog X0 (ev prog X0 4000)) (h : EvOk prog (X1 []) (ev prog (X1 []) 4000)) : Fin prog mk3 115 (sqn 12 B3) ⟨vsE 4, LU4 0, NU4 0, CU4 0⟩ := y_of hE k_Y4_0 (z_of h (k_Z4_0_n) (end_of hE k_C4_0))
theorem tail4_0_nf (hE : EvOk prog X0 (ev prog X0 4000)) (t : List Bool) (h : EvOk prog (X1 (false :: t)) (ev prog (X1 (false :: t)) 4000)) : Fin prog mk3 115 (sqn 12 B3) ⟨vsE 4, LU4 0, NU4 0, CU4 0⟩ := y_of hE k_Y4_0 (z_of h (k_Z4_0_nf t) (end_of hE k_C4_0))
theorem tail4_0_nt (hE : EvOk prog X0 (ev prog X0 4000)) (t : List Bool) (h : EvOk prog (X1 (true :: t)) (ev prog (X1 (true :: t)) 4000)) : Fin prog mk3 115 (sqn 12 B3) ⟨vsE 4, LU4 0, NU4 0, CU4 0⟩ := y_of hE k_Y4_0 (z_of h (k_Z4_0_nt t) (end_of hE k_C4_1))
theorem tail4_0 (hE : EvOk prog X0 (ev prog X0 4000)) (ks : List Bool) (h : EvOk prog (X1 ks) (ev prog (X1 ks) 4000)) : Fin prog mk3 115 (sqn 12 B3) ⟨vsE 4, LU4 0, NU4 0, CU4 0⟩ := by
  cases ks with
  | nil => exact tail4_0_n hE h
  | cons b ks =>
    cases b with
    | false =>
      exact tail4_0_nf hE ks h
    | true =>
      exact tail4_0_nt hE ks h
theorem tail4_1_n (hE : EvOk prog X0 (ev prog X0 4000)) (h : EvOk prog (X1 []) (ev prog (X1 []) 4000)) : Fin prog mk3 115 (sqn 12 B3) ⟨vsE 4, LU4 1, NU4 1, CU4 1⟩ := y_of hE k_Y4_1 (z_of h (k_Z4_1_n) (end_of hE k_C4_0))
theorem tail4_1_nf (hE : EvOk prog X0 (ev prog X0 4000)) (t : List Bool) (h : EvOk prog (X1 (false :: t)) (ev prog (X1 (false :: t)) 4000)) : Fin prog mk3 115 (sqn 12 B3) ⟨vsE 4, LU4 1, NU4 1, CU4 1⟩ := y_of hE k_Y4_1 (z_of h (k_Z4_1_nf t) (end_of hE k_C4_0))
theorem tail4_1_nt (hE : EvOk prog X0 (ev prog X0 4000)) (t : List Bool) (h : EvOk prog (X1 (true :: t)) (ev prog (X1 (true :: t)) 4000)) : Fin prog mk3 115 (sqn 12 B3) ⟨vsE 4, LU4 1, NU4 1, CU4 1⟩ := y_of hE k_Y4_1 (z_of h (k_Z4_1_nt t) (end_of hE k_C4_1))
theorem tail4_1 (hE : EvOk prog X0 (ev prog X0 4000)) (ks : List Bool) (h : EvOk prog (X1 ks) (ev prog (X1 ks) 4000)) : Fin prog mk3 115 (sqn 12 B3) ⟨vsE 4, LU4 1, NU4 1, CU4 1⟩ := by
  cases ks with
  | nil => exact tail4_1_n hE h
  | cons b ks =>
    cases b with
    | false =>
      exact tail4_1_nf hE ks h
    | true =>
      exact tail4_1_nt hE ks h
theorem tail4_2_n (hE : EvOk prog X0 (ev prog X0 4000)) (h : EvOk prog (X1 []) (ev prog (X1 []) 4000)) : Fin prog mk3 115 (sqn 12 B3) ⟨vsE 4, LU4 2, NU4 2, CU4 2⟩ := y_of hE k_Y4_2 (z_of h (k_Z4_2_n) (end_of hE k_C4_0))
theorem tail4_2_nf (hE : EvOk prog X0 (ev prog X0 4000)) (h : EvOk prog (X1 [false]) (ev prog (X1 [false]) 4000)) : Fin prog mk3 115 (sqn 12 B3) ⟨vsE 4, LU4 2, NU4 2, CU4 2⟩ := y_of hE k_Y4_2 (z_of h (k_Z4_2_nf) (end_of hE k_C4_0))
theorem tail4_2_nt (hE : EvOk prog X0 (ev prog X0 4000)) (h : EvOk prog (X1 [true]) (ev prog (X1 [true]) 4000)) : Fin prog mk3 115 (sqn 12 B3) ⟨vsE 4, LU4 2, NU4 2, CU4 2⟩ := y_of hE k_Y4_2 (z_of h (k_Z4_2_nt) (end_of hE k_C4_1))
theorem tail4_2_nff (hE : EvOk prog X0 (ev prog X0 4000)) (t : List Bool) (h : EvOk prog (X1 (false :: false :: t)) (ev prog (X1 (false :: false :: t)) 4000)) : Fin prog mk3 115 (sqn 12 B3) ⟨vsE 4, LU4 2, NU4 2, CU4 2⟩ := y_of hE k_Y4_2 (z_of h (k_Z4_2_nff t) (end_of hE k_C4_0))
theorem tail4_2_nft (hE : EvOk prog X0 (ev prog X0 4000)) (t : List Bool) (h : EvOk prog (X1 (false :: true :: t)) (ev prog (X1 (false :: true :: t)) 4000)) : Fin prog mk3 115 (sqn 12 B3) ⟨vsE 4, LU4 2, NU4 2, CU4 2⟩ := y_of hE k_Y4_2 (z_of h (k_Z4_2_nft t) (end_of hE k_C4_2))
theorem tail4_2_ntf (hE : EvOk prog X0 (ev prog X0 4000)) (t : List Bool) (h : EvOk prog (X1 (true :: false :: t)) (ev prog (X1 (true :: false :: t)) 4000)) : Fin prog mk3 115 (sqn 12 B3) ⟨vsE 4, LU4 2, NU4 2, CU4 2⟩ := y_of hE k_Y4_2 (z_of h (k_Z4_2_ntf t) (end_of hE k_C4_1))
theorem tail4_2_ntt (hE : EvOk prog X0 (ev prog X0 4000)) (t : List Bool) (h : EvOk prog (X1 (true :: true :: t)) (ev prog (X1 (true :: true :: t)) 4000)) : Fin prog mk3 115 (sqn 12 B3) ⟨vsE 4, LU4 2, NU4 2, CU4 2⟩ := y_of hE k_Y4_2 (z_of h (k_Z4_2_ntt t) (end_of hE k_C4_3))
theorem tail4_2 (hE : EvOk prog X0 (ev prog X0 4000)) (ks : List Bool) (h : EvOk prog (X1 ks) (ev prog (X1 ks) 4000)) : Fin prog mk3 115 (sqn 12 B3) ⟨vsE 4, LU4 2, NU4 2, CU4 2⟩ := by
  cases ks with
  | nil => exact tail4_2_n hE h
  | cons b ks =>
    cases b with
    | false =>
      cases ks with
      | nil => exact tail4_2_nf hE h
      | cons b ks =>
        cases b with
        | false =>
          exact tail4_2_nff hE ks h
        | true =>
          exact tail4_2_nft hE ks h
    | true =>
      cases ks with
      | nil => exact tail4_2_nt hE h
      | cons b ks =>
        cases b with
        | false =>
          exact tail4_2_ntf hE ks h
        | true =>
          exact tail4_2_ntt hE ks h
theorem tail4_3_n (hE : EvOk prog X0 (ev prog X0 4000)) (h : EvOk prog (X1 []) (ev prog (X1 []) 4000)) : Fin prog mk3 115 (sqn 12 B3) ⟨vsE 4, LU4 3, NU4 3, CU4 3⟩ := y_of hE k_Y4_3 (z_of h (k_Z4_3_n) (end_of hE k_C4_0))
theorem tail4_3_nf (hE : EvOk prog X0 (ev prog X0 4000)) (h : EvOk prog (X1 [false]) (ev prog (X1 [false]) 4000)) : Fin prog mk3 115 (sqn 12 B3) ⟨vsE 4, LU4 3, NU4 3, CU4 3⟩ := y_of hE k_Y4_3 (z_of h (k_Z4_3_nf) (end_of hE k_C4_0))
theorem tail4_3_nt (hE : EvOk prog X0 (ev prog X0 4000)) (h : EvOk prog (X1 [true]) (ev prog (X1 [true]) 4000)) : Fin prog mk3 115 (sqn 12 B3) ⟨vsE 4, LU4 3, NU4 3, CU4 3⟩ := y_of hE k_Y4_3 (z_of h (k_Z4_3_nt) (end_of hE k_C4_1))
theorem tail4_3_nff (hE : EvOk prog X0 (ev prog X0 4000)) (h : EvOk prog (X1 [false, false]) (ev prog (X1 [false, false]) 4000)) : Fin prog mk3 115 (sqn 12 B3) ⟨vsE 4, LU4 3, NU4 3, CU4 3⟩ := y_of hE k_Y4_3 (z_of h (k_Z4_3_nff) (end_of hE k_C4_0))
theorem tail4_3_nft (hE : EvOk prog X0 (ev prog X0 4000)) (h : EvOk prog (X1 [false, true]) (ev prog (X1 [false, true]) 4000)) : Fin prog mk3 115 (sqn 12 B3) ⟨vsE 4, LU4 3, NU4 3, CU4 3⟩ := y_of hE k_Y4_3 (z_of h (k_Z4_3_nft) (end_of hE k_C4_2))
theorem tail4_3_ntf (hE : EvOk prog X0 (ev prog X0 4000)) (h : EvOk prog (X1 [true, false]) (ev prog (X1 [true, false]) 4000)) : Fin prog mk3 115 (sqn 12 B3) ⟨vsE 4, LU4 3, NU4 3, CU4 3⟩ := y_of hE k_Y4_3 (z_of h (k_Z4_3_ntf) (end_of hE k_C4_1))
theorem tail4_3_ntt (hE : EvOk prog X0 (ev prog X0 4000)) (h : EvOk prog (X1 [true, true]) (ev prog (X1 [true, true]) 4000)) : Fin prog mk3 115 (sqn 12 B3) ⟨vsE 4, LU4 3, NU4 3, CU4 3⟩ := y_of hE k_Y4_3 (z_of h (k_Z4_3_ntt) (end_of hE k_C4_3))
theorem tail4_3_nfff (hE : EvOk prog X0 (ev prog X0 4000)) (t : List Bool) (h : EvOk prog (X1 (false :: false :: false :: t)) (ev prog (X1 (false :: false :: false :: t)) 4000)) : Fin prog mk3 115 (sqn 12 B3) ⟨vsE 4, LU4 3, NU4 3, CU4 3⟩ := y_of hE k_Y4_3 (z_of h (k_Z4_3_nfff t) (end_of hE k_C4_0))
theorem tail4_3_nfft (hE : EvOk prog X0 (ev prog X0 4000)) (t : List Bool) (h : EvOk prog (X1 (false :: false :: true :: t)) (ev prog (X1 (false :: false :: true :: t)) 4000)) : Fin prog mk3 115 (sqn 12 B3) ⟨vsE 4, LU4 3, NU4 3, CU4 3⟩ := y_of hE k_Y4_3 (z_of h (k_Z4_3_nfft t) (end_of hE k_C4_4))
theorem tail4_3_nftf (hE : EvOk prog X0 (ev prog X0 4000)) (t : List Bool) (h : EvOk prog (X1 (false :: true :: false :: t)) (ev prog (X1 (false :: true :: false :: t)) 4000)) : Fin prog mk3 115 (sqn 12 B3) ⟨vsE 4, LU4 3, NU4 3, CU4 3⟩ := y_of hE k_Y4_3 (z_of h (k_Z4_3_nftf t) (end_of hE k_C4_2))
theorem tail4_3_nftt (hE : EvOk prog X0 (ev prog X0 4000)) (t : List Bool) (h : EvOk prog (X1 (false :: true :: true :: t)) (ev prog (X1 (false :: true :: true :: t)) 4000)) : Fin prog mk3 115 (sqn 12 B3) ⟨vsE 4, LU4 3, NU4 3, CU4 3⟩ := y_of hE k_Y4_3 (z_of h (k_Z4_3_nftt t) (end_of hE k_C4_5))
theorem tail4_3_ntff (hE : EvOk prog X0 (ev prog X0 4000)) (t : List Bool) (h : EvOk prog (X1 (true :: false :: false :: t)) (ev prog (X1 (true :: false :: false :: t)) 4000)) : Fin prog mk3 115 (sqn 12 B3) ⟨vsE 4, LU4 3, NU4 3, CU4 3⟩ := y_of hE k_Y4_3 (z_of h (k_Z4_3_ntff t) (end_of hE k_C4_1))
theorem tail4_3_ntft (hE : EvOk prog X0 (ev prog X0 4000)) (t : List Bool) (h : EvOk prog (X1 (true :: false :: true :: t)) (ev prog (X1 (true :: false :: true :: t)) 4000)) : Fin prog mk3 115 (sqn 12 B3) ⟨vsE 4, LU4 3, NU4 3, CU4 3⟩ := y_of hE k_Y4_3 (z_of h (k_Z4_3_ntft t) (end_of hE k_C4_6))
theorem tail4_3_nttf (hE : EvOk prog X0 (ev prog X0 4000)) (t : List Bool) (h : EvOk prog (X1 (true :: true :: false :: t)) (ev prog (X1 (true :: true :: false :: t)) 4000)) : Fin prog mk3 115 (sqn 12 B3) ⟨vsE 4, LU4 3, NU4 3, CU4 3⟩ := y_of hE k_Y4_3 (z_of h (k_Z4_3_nttf t) (end_of hE k_C4_3))
theorem tail4_3_nttt (hE : EvOk prog X0 (ev prog X0 4000)) (t : List Bool) (h : EvOk prog (X1 (true :: true :: true :: t)) (ev prog (X1 (true :: true :: true :: t)) 4000)) : Fin prog mk3 115 (sqn 12 B3) ⟨vsE 4, LU4 3, NU4 3, CU4 3⟩ := y_of hE k_Y4_3 (z_of h (k_Z4_3_nttt t) (end_of hE k_C4_7))
theorem tail4_3 (hE : EvOk prog X0 (ev prog X0 4000)) (ks : List Bool) (h : EvOk prog (X1 ks) (ev prog (X1 ks) 4000)) : Fin prog mk3 115 (sqn 12 B3) ⟨vsE 4, LU4 3, NU4 3, CU4 3⟩ := by
  cases ks with
  | nil => exact tail4_3_n hE h
  | cons b ks =>
    cases b with
    | false =>
      cases ks with
      | nil => exact tail4_3_nf hE h
      | cons b ks =>
        cases b with
        | false =>
          cases ks with
          | nil => exact tail4_3_nff hE h
          | cons b ks =>
            cases b with
            | false =>
              exact tail4_3_nfff hE ks h
            | true =>
              exact tail4_3_nfft hE ks h
        | true =>
          cases ks with
          | nil => exact tail4_3_nft hE h
          | cons b ks =>
            cases b with
            | false =>
              exact tail4_3_nftf hE ks h
            | true =>
              exact tail4_3_nftt hE ks h
    | true =>
      cases ks with
      | nil => exact tail4_3_nt hE h
      | cons b ks =>
        cases b with
        | false =>
          cases ks with
          | nil => exact tail4_3_ntf hE h
          | cons b ks =>
            cases b with
            | false =>
              exact tail4_3_ntff hE ks h
            | true =>
              exact tail4_3_ntft hE ks h
        | true =>
          cases ks with
          | nil => exact tail4_3_ntt hE h
          | cons b ks =>
            cases b with
            | false =>
              exact tail4_3_nttf hE ks h
            | true =>
              exact tail4_3_nttt hE ks h
theorem tail4_4_n (hE : EvOk prog X0 (ev prog X0 4000)) (t : List Bool) (h : EvOk prog (X1 t) (ev prog (X1 t) 4000)) : Fin prog mk3 115 (sqn 12 B3) ⟨vsE 4, LU4 4, NU4 4, CU4 4⟩ := y_of hE k_Y4_4 (z_of h (k_Z4_4_n t) (end_of hE k_C4_7))
theorem tail4_4 (hE : EvOk prog X0 (ev prog X0 4000)) (ks : List Bool) (h : EvOk prog (X1 ks) (ev prog (X1 ks) 4000)) : Fin prog mk3 115 (sqn 12 B3) ⟨vsE 4, LU4 4, NU4 4, CU4 4⟩ := by
  exact tail4_4_n hE ks h
theorem tail4_5_n (hE : EvOk prog X0 (ev prog X0 4000)) (h : EvOk prog (X1 []) (ev prog (X1 []) 4000)) : Fin prog mk3 115 (sqn 12 B3) ⟨vsE 4, LU4 5, NU4 5, CU4 5⟩ := y_of hE k_Y4_5 (z_of h (k_Z4_5_n) (end_of hE k_C4_8))
theorem tail4_5_nf (hE : EvOk prog X0 (ev prog X0 4000)) (t : List Bool) (h : EvOk prog (X1 (false :: t)) (ev prog (X1 (false :: t)) 4000)) : Fin prog mk3 115 (sqn 12 B3) ⟨vsE 4, LU4 5, NU4 5, CU4 5⟩ := y_of hE k_Y4_5 (z_of h (k_Z4_5_nf t) (end_of hE k_C4_8))
theorem tail4_5_nt (hE : EvOk prog X0 (ev prog X0 4000)) (t : List Bool) (h : EvOk prog (X1 (true :: t)) (ev prog (X1 (true :: t)) 4000)) : Fin prog mk3 115 (sqn 12 B3) ⟨vsE 4, LU4 5, NU4 5, CU4 5⟩ := y_of hE k_Y4_5 (z_of h (k_Z4_5_nt t) (end_of hE k_C4_9))
theorem tail4_5 (hE : EvOk prog X0 (ev prog X0 4000)) (ks : List Bool) (h : EvOk prog (X1 ks) (ev prog (X1 ks) 4000)) : Fin prog mk3 115 (sqn 12 B3) ⟨vsE 4, LU4 5, NU4 5, CU4 5⟩ := by
  cases ks with
  | nil => exact tail4_5_n hE h
  | cons b ks =>
    cases b with
    | false =>
      exact tail4_5_nf hE ks h
    | true =>
      exact tail4_5_nt hE ks h
theorem tail4_6_n (hE : EvOk prog X0 (ev prog X0 4000)) (h : EvOk prog (X1 []) (ev prog (X1 []) 4000)) : Fin prog mk3 115 (sqn 12 B3) ⟨vsE 4, LU4 6, NU4 6, CU4 6⟩ := y_of hE k_Y4_6 (z_of h (k_Z4_6_n) (end_of hE k_C4_8))
theorem tail4_6_nf (hE : EvOk prog X0 (ev prog X0 4000)) (t : List Bool) (h : EvOk prog (X1 (false :: t)) (ev prog (X1 (false :: t)) 4000)) : Fin prog mk3 115 (sqn 12 B3) ⟨vsE 4, LU4 6, NU4 6, CU4 6⟩ := y_of hE k_Y4_6 (z_of h (k_Z4_6_nf t) (end_of hE k_C4_8))
theorem tail4_6_nt (hE : EvOk prog X0 (ev prog X0 4000)) (t : List Bool) (h : EvOk prog (X1 (true :: t)) (ev prog (X1 (true :: t)) 4000)) : Fin prog mk3 115 (sqn 12 B3) ⟨vsE 4, LU4 6, NU4 6, CU4 6⟩ := y_of hE k_Y4_6 (z_of h (k_Z4_6_nt t) (end_of hE k_C4_9))
theorem tail4_6 (hE : EvOk prog X0 (ev prog X0 4000)) (ks : List Bool) (h : EvOk prog (X1 ks) (ev prog (X1 ks) 4000)) : Fin prog mk3 115 (sqn 12 B3) ⟨vsE 4, LU4 6, NU4 6, CU4 6⟩ := by
  cases ks with
  | nil => exact tail4_6_n hE h
  | cons b ks =>
    cases b with
    | false =>
      exact tail4_6_nf hE ks h
    | true =>
      exact tail4_6_nt hE ks h
theorem tail4_7_n (hE : EvOk prog X0 (ev prog X0 4000)) (h : EvOk prog (X1 []) (ev prog (X1 []) 4000)) : Fin prog mk3 115 (sqn 12 B3) ⟨vsE 4, LU4 7, NU4 7, CU4 7⟩ := y_of hE k_Y4_7 (z_of h (k_Z4_7_n) (end_of hE k_C4_8))
theorem tail4_7_nf (hE : EvOk prog X0 (ev prog X0 4000)) (t : List Bool) (h : EvOk prog (X1 (false :: t)) (ev prog (X1 (false :: t)) 4000)) : Fin prog mk3 115 (sqn 12 B3) ⟨vsE 4, LU4 7, NU4 7, CU4 7⟩ := y_of hE k_Y4_7 (z_of h (k_Z4_7_nf t) (end_of hE k_C4_8))
theorem tail4_7_nt (hE : EvOk prog X0 (ev prog X0 4000)) (t : List Bool) (h : EvOk prog (X1 (true :: t)) (ev prog (X1 (true :: t)) 4000)) : Fin prog mk3 115 (sqn 12 B3) ⟨vsE 4, LU4 7, NU4 7, CU4 7⟩ := y_of hE k_Y4_7 (z_of h (k_Z4_7_nt t) (end_of hE k_C4_9))
theorem tail4_7 (hE : EvOk prog X0 (ev prog X0 4000)) (ks : List Bool) (h : EvOk prog (X1 ks) (ev prog (X1 ks) 4000)) : Fin prog mk3 115 (sqn 12 B3) ⟨vsE 4, LU4 7, NU4 7, CU4 7⟩ := by
  cases ks with
  | nil => exact tail4_7_n hE h
  | cons b ks =>
    cases b with
    | false =>
      exact tail4_7_nf hE ks h
    | true =>
      exact tail4_7_nt hE ks h
theorem tail4_8_n (hE : EvOk prog X0 (ev prog X0 4000)) (h : EvOk prog (X1 []) (ev prog (X1 []) 4000)) : Fin prog mk3 115 (sqn 12 B3) ⟨vsE 4, LU4 8, NU4 8, CU4 8⟩ := y_of hE k_Y4_8 (z_of h (k_Z4_8_n) (end_of hE k_C4_8))
theorem tail4_8_nf (hE : EvOk prog X0 (ev prog X0 4000)) (t : List Bool) (h : EvOk prog (X1 (false :: t)) (ev prog (X1 (false :: t)) 4000)) : Fin prog mk3 115 (sqn 12 B3) ⟨vsE 4, LU4 8, NU4 8, CU4 8⟩ := y_of hE k_Y4_8 (z_of h (k_Z4_8_nf t) (end_of hE k_C4_8))
theorem tail4_8_nt (hE : EvOk prog X0 (ev prog X0 4000)) (t : List Bool) (h : EvOk prog (X1 (true :: t)) (ev prog (X1 (true :: t)) 4000)) : Fin prog mk3 115 (sqn 12 B3) ⟨vsE 4, LU4 8, NU4 8, CU4 8⟩ := y_of hE k_Y4_8 (z_of h (k_Z4_8_nt t) (end_of hE k_C4_9))
theorem tail4_8 (hE : EvOk prog X0 (ev prog X0 4000)) (ks : List Bool) (h : EvOk prog (X1 ks) (ev prog (X1 ks) 4000)) : Fin prog mk3 115 (sqn 12 B3) ⟨vsE 4, LU4 8, NU4 8, CU4 8⟩ := by
  cases ks with
  | nil => exact tail4_8_n hE h
  | cons b ks =>
    cases b with
    | false =>
      exact tail4_8_nf hE ks h
    | true =>
      exact tail4_8_nt hE ks h
theorem tail4_9_n (hE : EvOk prog X0 (ev prog X0 4000)) (h : EvOk prog (X1 []) (ev prog (X1 []) 4000)) : Fin prog mk3 115 (sqn 12 B3) ⟨vsE 4, LU4 9, NU4 9, CU4 9⟩ := y_of hE k_Y4_9 (z_of h (k_Z4_9_n) (end_of hE k_C4_8))
theorem tail4_9_nf (hE : EvOk prog X0 (ev prog X0 4000)) (t : List Bool) (h : EvOk prog (X1 (false :: t)) (ev prog (X1 (false :: t)) 4000)) : Fin prog mk3 115 (sqn 12 B3) ⟨vsE 4, LU4 9, NU4 9, CU4 9⟩ := y_of hE k_Y4_9 (z_of h (k_Z4_9_nf t) (end_of hE k_C4_8))
theorem tail4_9_nt (hE : EvOk prog X0 (ev prog X0 4000)) (t : List Bool) (h : EvOk prog (X1 (true :: t)) (ev prog (X1 (true :: t)) 4000)) : Fin prog mk3 115 (sqn 12 B3) ⟨vsE 4, LU4 9, NU4 9, CU4 9⟩ := y_of hE k_Y4_9 (z_of h (k_Z4_9_nt t) (end_of hE k_C4_9))
theorem tail4_9 (hE : EvOk prog X0 (ev prog X0 4000)) (ks : List Bool) (h : EvOk prog (X1 ks) (ev prog (X1 ks) 4000)) : Fin prog mk3 115 (sqn 12 B3) ⟨vsE 4, LU4 9, NU4 9, CU4 9⟩ := by
  cases ks with
  | nil => exact tail4_9_n hE h
  | cons b ks =>
    cases b with
    | false =>
      exact tail4_9_nf hE ks h
    | true =>
      exact tail4_9_nt hE ks h
theorem tail4_10_n (hE : EvOk prog X0 (ev prog X0 4000)) (h : EvOk prog (X1 []) (ev prog (X1 []) 4000)) : Fin prog mk3 115 (sqn 12 B3) ⟨vsE 4, LU4 10, NU4 10, CU4 10⟩ := y_of hE k_Y4_10 (z_of h (k_Z4_10_n) (end_of hE k_C4_8))
theorem tail4_10_nf (hE : EvOk prog X0 (ev prog X0 4000)) (t : List Bool) (h : EvOk prog (X1 (false :: t)) (ev prog (X1 (false :: t)) 4000)) : Fin prog mk3 115 (sqn 12 B3) ⟨vsE 4, LU4 10, NU4 10, CU4 10⟩ := y_of hE k_Y4_10 (z_of h (k_Z4_10_nf t) (end_of hE k_C4_8))
theorem tail4_10_nt (hE : EvOk prog X0 (ev prog X0 4000)) (t : List Bool) (h : EvOk prog (X1 (true :: t)) (ev prog (X1 (true :: t)) 4000)) : Fin prog mk3 115 (sqn 12 B3) ⟨vsE 4, LU4 10, NU4 10, CU4 10⟩ := y_of hE k_Y4_10 (z_of h (k_Z4_10_nt t) (end_of hE k_C4_9))
theorem tail4_10 (hE : EvOk prog X0 (ev prog X0 4000)) (ks : List Bool) (h : EvOk prog (X1 ks) (ev prog (X1 ks) 4000)) : Fin prog mk3 115 (sqn 12 B3) ⟨vsE 4, LU4 10, NU4 10, CU4 10⟩ := by
  cases ks with
  | nil => exact tail4_10_n hE h
  | cons b ks =>
    cases b with
    | false =>
      exact tail4_10_nf hE ks h
    | true =>
      exact tail4_10_nt hE ks h
theorem tail4_11_n (hE : EvOk prog X0 (ev prog X0 4000)) (h : EvOk prog (X1 []) (ev prog (X1 []) 4000)) : Fin prog mk3 115 (sqn 12 B3) ⟨vsE 4, LU4 11, NU4 11, CU4 11⟩ := y_of hE k_Y4_11 (z_of h (k_Z4_11_n) (end_of hE k_C4_8))
theorem tail4_11_nf (hE : EvOk prog X0 (ev prog X0 4000)) (t : List Bool) (h : EvOk prog (X1 (false :: t)) (ev prog (X1 (false :: t)) 4000)) : Fin prog mk3 115 (sqn 12 B3) ⟨vsE 4, LU4 11, NU4 11, CU4 11⟩ := y_of hE k_Y4_11 (z_of h (k_Z4_11_nf t) (end_of hE k_C4_8))
theorem tail4_11_nt (hE : EvOk prog X0 (ev prog X0 4000)) (t : List Bool) (h : EvOk prog (X1 (true :: t)) (ev prog (X1 (true :: t)) 4000)) : Fin prog mk3 115 (sqn 12 B3) ⟨vsE 4, LU4 11, NU4 11, CU4 11⟩ := y_of hE k_Y4_11 (z_of h (k_Z4_11_nt t) (end_of hE k_C4_9))
theorem tail4_11 (hE : EvOk prog X0 (ev prog X0 4000)) (ks : List Bool) (h : EvOk prog (X1 ks) (ev prog (X1 ks) 4000)) : Fin prog mk3 115 (sqn 12 B3) ⟨vsE 4, LU4 11, NU4 11, CU4 11⟩ := by
  cases ks with
  | nil => exact tail4_11_n hE h
  | cons b ks =>
    cases b with
    | false =>
      exact tail4_11_nf hE ks h
    | true =>
      exact tail4_11_nt hE ks h
theorem tail4 (hE : EvOk prog X0 (ev prog X0 4000)) (ks : List Bool) (h : EvOk prog (X1 ks) (ev prog (X1 ks) 4000)) (st : Nat) (hst : st < 12) : Fin prog mk3 115 (sqn 12 B3) ⟨vsE 4, LU4 st, NU4 st, CU4 st⟩ := by
  have : st = 0 ∨ st = 1 ∨ st = 2 ∨ st = 3 ∨ st = 4 ∨ st = 5 ∨ st = 6 ∨ st = 7 ∨ st = 8 ∨ st = 9 ∨ st = 10 ∨ st = 11 := by omega
  rcases this with rfl | rfl | rfl | rfl | rfl | rfl | rfl | rfl | rfl | rfl | rfl | rfl
  · exact tail4_0 hE ks h
  · exact tail4_1 hE ks h
  · exact tail4_2 hE ks h
  · exact tail4_3 hE ks h
  · exact tail4_4 hE ks h
  · exact tail4_5 hE ks h
  · exact tail4_6 hE ks h
  · exact tail4_7 hE ks h
  · exact tail4_8 hE ks h
  · exact tail4_9 hE ks h
  · exact tail4_10 hE ks h
  · exact tail4_11 hE ks h
theorem rounds4 (hE : EvOk prog X0 (ev prog X0 4000)) (i : Nat) (hi : i < 11) : To prog mk3 115 (sq2 LB2) .normal ⟨vsT i, LU4 i, NU4 i, CU4 i⟩ ⟨vsT (i + 1), LU4 (i + 1), NU4 (i + 1), CU4 (i + 1)⟩ := by
  have : i = 0 ∨ i = 1 ∨ i = 2 ∨ i = 3 ∨ i = 4 ∨ i = 5 ∨ i = 6 ∨ i = 7 ∨ i = 8 ∨ i = 9 ∨ i = 10 := by omega
  rcases this with rfl | rfl | rfl | rfl | rfl | rfl | rfl | rfl | rfl | rfl | rfl
  · exact to_of_ck hE okR2 k_U4_0
  · exact to_of_ck hE okR2 k_U4_1
  · exact to_of_ck hE okR2 k_U4_2
  · exact to_of_ck hE okR2 k_U4_3
  · exact to_of_ck hE okR2 k_U4_4
  · exact to_of_ck hE okR2 k_U4_5
  · exact to_of_ck hE okR2 k_U4_6
  · exact to_of_ck hE okR2 k_U4_7
  · exact to_of_ck hE okR2 k_U4_8
  · exact to_of_ck hE okR2 k_U4_9
  · exact to_of_ck hE okR2 k_U4_10
theorem tail5_0_n (hE : EvOk prog X0 (ev prog X0 4000)) (h : EvOk prog (X1 []) (ev prog (X1 []) 4000)) : Fin prog mk3 115 (sqn 12 B3) ⟨vsE 5, LU5 0, NU5 0, CU5 0⟩ := y_of hE k_Y5_0 (z_of h (k_Z5_0_n) (end_of hE k_C5_0))
theorem tail5_0_nf (hE : EvOk prog X0 (ev prog X0 4000)) (t : List Bool) (h : EvOk prog (X1 (false :: t)) (ev prog (X1 (false :: t)) 4000)) : Fin prog mk3 115 (sqn 12 B3) ⟨vsE 5, LU5 0, NU5 0, CU5 0⟩ := y_of hE k_Y5_0 (z_of h (k_Z5_0_nf t) (end_of hE k_C5_0))
theorem tail5_0_nt (hE : EvOk prog X0 (ev prog X0 4000)) (t : List Bool) (h : EvOk prog (X1 (true :: t)) (ev prog (X1 (true :: t)) 4000)) : Fin prog mk3 115 (sqn 12 B3) ⟨vsE 5, LU5 0, NU5 0, CU5 0⟩ := y_of hE k_Y5_0 (z_of h (k_Z5_0_nt t) (end_of hE k_C5_1))
theorem tail5_0 (hE : EvOk prog X0 (ev prog X0 4000)) (ks : List Bool) (h : EvOk prog (X1 ks) (ev prog (X1 ks) 4000)) : Fin prog mk3 115 (sqn 12 B3) ⟨vsE 5, LU5 0, NU5 0, CU5 0⟩ := by
  cases ks with
  | nil => exact tail5_0_n hE h
  | cons b ks =>
    cases b with
    | false =>
      exact tail5_0_nf hE ks h
    | true =>
      exact tail5_0_nt hE ks h
theorem tail5_1_n (hE : EvOk prog X0 (ev prog X0 4000)) (h : EvOk prog (X1 []) (ev prog (X1 []) 4000)) : Fin prog mk3 115 (sqn 12 B3) ⟨vsE 5, LU5 1, NU5 1, CU5 1⟩ := y_of hE k_Y5_1 (z_of h (k_Z5_1_n) (end_of hE k_C5_0))
theorem tail5_1_nf (hE : EvOk prog X0 (ev prog X0 4000)) (t : List Bool) (h : EvOk prog (X1 (false :: t)) (ev prog (X1 (false :: t)) 4000)) : Fin prog mk3 115 (sqn 12 B3) ⟨vsE 5, LU5 1, NU5 1, CU5 1⟩ := y_of hE k_Y5_1 (z_of h (k_Z5_1_nf t) (end_of hE k_C5_0))
theorem tail5_1_nt (hE : EvOk prog X0 (ev prog X0 4000)) (t : List Bool) (h : EvOk prog (X1 (true :: t)) (ev prog (X1 (true :: t)) 4000)) : Fin prog mk3 115 (sqn 12 B3) ⟨vsE 5, LU5 1, NU5 1, CU5 1⟩ := y_of hE k_Y5_1 (z_of h (k_Z5_1_nt t) (end_of hE k_C5_1))
theorem tail5_1 (hE : EvOk prog X0 (ev prog X0 4000)) (ks : List Bool) (h : EvOk prog (X1 ks) (ev prog (X1 ks) 4000)) : Fin prog mk3 115 (sqn 12 B3) ⟨vsE 5, LU5 1, NU5 1, CU5 1⟩ := by
  cases ks with
  | nil => exact tail5_1_n hE h
  | cons b ks =>
    cases b with
    | false =>
      exact tail5_1_nf hE ks h
    | true =>
      exact tail5_1_nt hE ks h
theorem tail5_2_n (hE : EvOk prog X0 (ev prog X0 4000)) (h : EvOk prog (X1 []) (ev prog (X1 []) 4000)) : Fin prog mk3 115 (sqn 12 B3) ⟨vsE 5, LU5 2, NU5 2, CU5 2⟩ := y_of hE k_Y5_2 (z_of h (k_Z5_2_n) (end_of hE k_C5_0))
theorem tail5_2_nf (hE : EvOk prog X0 (ev prog X0 4000)) (h : EvOk prog (X1 [false]) (ev prog (X1 [false]) 4000)) : Fin prog mk3 115 (sqn 12 B3) ⟨vsE 5, LU5 2, NU5 2, CU5 2⟩ := y_of hE k_Y5_2 (z_of h (k_Z5_2_nf) (end_of hE k_C5_0))
theorem tail5_2_nt (hE : EvOk prog X0 (ev prog X0 4000)) (h : EvOk prog (X1 [true]) (ev prog (X1 [true]) 4000)) : Fin prog mk3 115 (sqn 12 B3) ⟨vsE 5, LU5 2, NU5 2, CU5 2⟩ := y_of hE k_Y5_2 (z_of h (k_Z5_2_nt) (end_of hE k_C5_1))
theorem tail5_2_nff (hE : EvOk prog X0 (ev prog X0 4000)) (t : List Bool) (h : EvOk prog (X1 (false :: false :: t)) (ev prog (X1 (false :: false :: t)) 4000)) : Fin prog mk3 115 (sqn 12 B3) ⟨vsE 5, LU5 2, NU5 2, CU5 2⟩ := y_of hE k_Y5_2 (z_of h (k_Z5_2_nff t) (end_of hE k_C5_0))
theorem tail5_2_nft (hE : EvOk prog X0 (ev prog X0 4000)) (t : List Bool) (h : EvOk prog (X1 (false :: true :: t)) (ev prog (X1 (false :: true :: t)) 4000)) : Fin prog mk3 115 (sqn 12 B3) ⟨vsE 5, LU5 2, NU5 2, CU5 2⟩ := y_of hE k_Y5_2 (z_of h (k_Z5_2_nft t) (end_of hE k_C5_2))
theorem tail5_2_ntf (hE : EvOk prog X0 (ev prog X0 4000)) (t : List Bool) (h : EvOk prog (X1 (true :: false :: t)) (ev prog (X1 (true :: false :: t)) 4000)) : Fin prog mk3 115 (sqn 12 B3) ⟨vsE 5, LU5 2, NU5 2, CU5 2⟩ := y_of hE k_Y5_2 (z_of h (k_Z5_2_ntf t) (end_of hE k_C5_1))
theorem tail5_2_ntt (hE : EvOk prog X0 (ev prog X0 4000)) (t : List Bool) (h : EvOk prog (X1 (true :: true :: t)) (ev prog (X1 (true :: true :: t)) 4000)) : Fin prog mk3 115 (sqn 12 B3) ⟨vsE 5, LU5 2, NU5 2, CU5 2⟩ := y_of hE k_Y5_2 (z_of h (k_Z5_2_ntt t) (end_of hE k_C5_3))
theorem tail5_2 (hE : EvOk prog X0 (ev prog X0 4000)) (ks : List Bool) (h : EvOk prog (X1 ks) (ev prog (X1 ks) 4000)) : Fin prog mk3 115 (sqn 12 B3) ⟨vsE 5, LU5 2, NU5 2, CU5 2⟩ := by
  cases ks with
  | nil => exact tail5_2_n hE h
  | cons b ks =>
    cases b with
    | false =>
      cases ks with
      | nil => exact tail5_2_nf hE h
      | cons b ks =>
        cases b with
        | false =>
          exact tail5_2_nff hE ks h
        | true =>
          exact tail5_2_nft hE ks h
    | true =>
      cases ks with
      | nil => exact tail5_2_nt hE h
      | cons b ks =>
        cases b with
        | false =>
          exact tail5_2_ntf hE ks h
        | true =>
          exact tail5_2_ntt hE ks h
theorem tail5_3_n (hE : EvOk prog X0 (ev prog X0 4000)) (h : EvOk prog (X1 []) (ev prog (X1 []) 4000)) : Fin prog mk3 115 (sqn 12 B3) ⟨vsE 5, LU5 3, NU5 3, CU5 3⟩ := y_of hE k_Y5_3 (z_of h (k_Z5_3_n) (end_of hE k_C5_0))
theorem tail5_3_nf (hE : EvOk prog X0 (ev prog X0 4000)) (h : EvOk prog (X1 [false]) (ev prog (X1 [false]) 4000)) : Fin prog mk3 115 (sqn 12 B3) ⟨vsE 5, LU5 3, NU5 3, CU5 3⟩ := y_of hE k_Y5_3 (z_of h (k_Z5_3_nf) (end_of hE k_C5_0))
theorem tail5_3_nt (hE : EvOk prog X0 (ev prog X0 4000)) (h : EvOk prog (X1 [true]) (ev prog (X1 [true]) 4000)) : Fin prog mk3 115 (sqn 12 B3) ⟨vsE 5, LU5 3, NU5 3, CU5 3⟩ := y_of hE k_Y5_3 (z_of h (k_Z5_3_nt) (end_of hE k_C5_1))
theorem tail5_3_nff (hE : EvOk prog X0 (ev prog X0 4000)) (h : EvOk prog (X1 [false, false]) (ev prog (X1 [false, false]) 4000)) : Fin prog mk3 115 (sqn 12 B3) ⟨vsE 5, LU5 3, NU5 3, CU5 3⟩ := y_of hE k_Y5_3 (z_of h (k_Z5_3_nff) (end_of hE k_C5_0))
theorem tail5_3_nft (hE : EvOk prog X0 (ev prog X0 4000)) (h : EvOk prog (X1 [false, true]) (ev prog (X1 [false, true]) 4000)) : Fin prog mk3 115 (sqn 12 B3) ⟨vsE 5, LU5 3, NU5 3, CU5 3⟩ := y_of hE k_Y5_3 (z_of h (k_Z5_3_nft) (end_of hE k_C5_2))
theorem tail5_3_ntf (hE : EvOk prog X0 (ev prog X0 4000)) (h : EvOk prog (X1 [true, false]) (ev prog (X1 [true, false]) 4000)) : Fin prog mk3 115 (sqn 12 B3) ⟨vsE 5, LU5 3, NU5 3, CU5 3⟩ := y_of hE k_Y5_3 (z_of h (k_Z5_3_ntf) (end_of hE k_C5_1))
theorem tail5_3_ntt (hE : EvOk prog X0 (ev prog X0 4000)) (h : EvOk prog (X1 [true, true]) (ev prog (X1 [true, true]) 4000)) : Fin prog mk3 115 (sqn 12 B3) ⟨vsE 5, LU5 3, NU5 3, CU5 3⟩ := y_of hE k_Y5_3 (z_of h (k_Z5_3_ntt) (end_of hE k_C5_3))
theorem tail5_3_nfff (hE : EvOk prog X0 (ev prog X0 4000)) (t : List Bool) (h : EvOk prog (X1 (false :: false :: false :: t)) (ev prog (X1 (false :: false :: false :: t)) 4000)) : Fin prog mk3 115 (sqn 12 B3) ⟨vsE 5, LU5 3, NU5 3, CU5 3⟩ := y_of hE k_Y5_3 (z_of h (k_Z5_3_nfff t) (end_of hE k_C5_0))
theorem tail5_3_nfft (hE : EvOk prog X0 (ev prog X0 4000)) (t : List Bool) (h : EvOk prog (X1 (false :: false :: true :: t)) (ev prog (X1 (false :: false :: true :: t)) 4000)) : Fin prog mk3 115 (sqn 12 B3) ⟨vsE 5, LU5 3, NU5 3, CU5 3⟩ := y_of hE k_Y5_3 (z_of h (k_Z5_3_nfft t) (end_of hE k_C5_4))
theorem tail5_3_nftf (hE : EvOk prog X0 (ev prog X0 4000)) (t : List Bool) (h : EvOk prog (X1 (false :: true :: false :: t)) (ev prog (X1 (false :: true :: false :: t)) 4000)) : Fin prog mk3 115 (sqn 12 B3) ⟨vsE 5, LU5 3, NU5 3, CU5 3⟩ := y_of hE k_Y5_3 (z_of h (k_Z5_3_nftf t) (end_of hE k_C5_2))
theorem tail5_3_nftt (hE : EvOk prog X0 (ev prog X0 4000)) (t : List Bool) (h : EvOk prog (X1 (false :: true :: true :: t)) (ev prog (X1 (false :: true :: true :: t)) 4000)) : Fin prog mk3 115 (sqn 12 B3) ⟨vsE 5, LU5 3, NU5 3, CU5 3⟩ := y_of hE k_Y5_3 (z_of h (k_Z5_3_nftt t) (end_of hE k_C5_5))
theorem tail5_3_ntff (hE : EvOk prog X0 (ev prog X0 4000)) (t : List Bool) (h : EvOk prog (X1 (true :: false :: false :: t)) (ev prog (X1 (true :: false :: false :: t)) 4000)) : Fin prog mk3 115 (sqn 12 B3) ⟨vsE 5, LU5 3, NU5 3, CU5 3⟩ := y_of hE k_Y5_3 (z_of h (k_Z5_3_ntff t) (end_of hE k_C5_1))
theorem tail5_3_ntft (hE : EvOk prog X0 (ev prog X0 4000)) (t : List Bool) (h : EvOk prog (X1 (true :: false :: true :: t)) (ev prog (X1 (true :: false :: true :: t)) 4000)) : Fin prog mk3 115 (sqn 12 B3) ⟨vsE 5, LU5 3, NU5 3, CU5 3⟩ := y_of hE k_Y5_3 (z_of h (k_Z5_3_ntft t) (end_of hE k_C5_6))
theorem tail5_3_nttf (hE : EvOk prog X0 (ev prog X0 4000)) (t : List Bool) (h : EvOk prog (X1 (true :: true :: false :: t)) (ev prog (X1 (true :: true :: false :: t)) 4000)) : Fin prog mk3 115 (sqn 12 B3) ⟨vsE 5, LU5 3, NU5 3, CU5 3⟩ := y_of hE k_Y5_3 (z_of h (k_Z5_3_nttf t) (end_of hE k_C5_3))
theorem tail5_3_nttt (hE : EvOk prog X0 (ev prog X0 4000)) (t : List Bool) (h : EvOk prog (X1 (true :: true :: true :: t)) (ev prog (X1 (true :: true :: true :: t)) 4000)) : Fin prog mk3 115 (sqn 12 B3) ⟨vsE 5, LU5 3, NU5 3, CU5 3⟩ := y_of hE k_Y5_3 (z_of h (k_Z5_3_nttt t) (end_of hE k_C5_7))
theorem tail5_3 (hE : EvOk prog X0 (ev prog X0 4000)) (ks : List Bool) (h : EvOk prog (X1 ks) (ev prog (X1 ks) 4000)) : Fin prog mk3 115 (sqn 12 B3) ⟨vsE 5, LU5 3, NU5 3, CU5 3⟩ := by
  cases ks with
  | nil => exact tail5_3_n hE h
  | cons b ks =>
    cases b with
    | false =>
      cases ks with
      | nil => exact tail5_3_nf hE h
      | cons b ks =>
        cases b with
        | false =>
          cases ks with
          | nil => exact tail5_3_nff hE h
          | cons b ks =>
            cases b with
            | false =>
              exact tail5_3_nfff hE ks h
            | true =>
              exact tail5_3_nfft hE ks h
        | true =>
          cases ks with
          | nil => exact tail5_3_nft hE h
          | cons b ks =>
            cases b with
            | false =>
              exact tail5_3_nftf hE ks h
            | true =>
              exact tail5_3_nftt hE ks h
    | true =>
      cases ks with
      | nil => exact tail5_3_nt hE h
      | cons b ks =>
        cases b with
        | false =>
          cases ks with
          | nil => exact tail5_3_ntf hE h
          | cons b ks =>
            cases b with
            | false =>
              exact tail5_3_ntff hE ks h
            | true =>
              exact tail5_3_ntft hE ks h
        | true =>
          cases ks with
          | nil => exact tail5_3_ntt hE h
          | cons b ks =>
            cases b with
            | false =>
              exact tail5_3_nttf hE ks h
            | true =>
              exact tail5_3_nttt hE ks h
theorem tail5_4_n (hE : EvOk prog X0 (ev prog X0 4000)) (t : List Bool) (h : EvOk prog (X1 t) (ev prog (X1 t) 4000)) : Fin prog mk3 115 (sqn 12 B3) ⟨vsE 5, LU5 4, NU5 4, CU5 4⟩ := y_of hE k_Y5_4 (z_of h (k_Z5_4_n t) (end_of hE k_C5_7))
theorem tail5_4 (hE : EvOk prog X0 (ev prog X0 4000)) (ks : List Bool) (h : EvOk prog (X1 ks) (ev prog (X1 ks) 4000)) : Fin prog mk3 115 (sqn 12 B3) ⟨vsE 5, LU5 4, NU5 4, CU5 4⟩ := by
  exact tail5_4_n hE ks h
theorem tail5_5_n (hE : EvOk prog X0 (ev prog X0 4000)) (h : EvOk prog (X1 []) (ev prog (X1 []) 4000)) : Fin prog mk3 115 (sqn 12 B3) ⟨vsE 5, LU5 5, NU5 5, CU5 5⟩ := y_of hE k_Y5_5 (z_of h (k_Z5_5_n) (end_of hE k_C5_8))
theorem tail5_5_nf (hE : EvOk prog X0 (ev prog X0 4000)) (t : List Bool) (h : EvOk prog (X1 (false :: t)) (ev prog (X1 (false :: t)) 4000)) : Fin prog mk3 115 (sqn 12 B3) ⟨vsE 5, LU5 5, NU5 5, CU5 5⟩ := y_of hE k_Y5_5 (z_of h (k_Z5_5_nf t) (end_of hE k_C5_8))
theorem tail5_5_nt (hE : EvOk prog X0 (ev prog X0 4000)) (t : List Bool) (h : EvOk prog (X1 (true :: t)) (ev prog (X1 (true :: t)) 4000)) : Fin prog mk3 115 (sqn 12 B3) ⟨vsE 5, LU5 5, NU5 5, CU5 5⟩ := y_of hE k_Y5_5 (z_of h (k_Z5_5_nt t) (end_of hE k_C5_9))
theorem tail5_5 (hE : EvOk prog X0 (ev prog X0 4000)) (ks : List Bool) (h : EvOk prog (X1 ks) (ev prog (X1 ks) 4000)) : Fin prog mk3 115 (sqn 12 B3) ⟨vsE 5, LU5 5, NU5 5, CU5 5⟩ := by
  cases ks with
  | nil => exact tail5_5_n hE h
  | cons b ks =>
    cases b with
    | false =>
      exact tail5_5_nf hE ks h
    | true =>
      exact tail5_5_nt hE ks h
theorem tail5_6_n (hE : EvOk prog X0 (ev prog X0 4000)) (h : EvOk prog (X1 []) (ev prog (X1 []) 4000)) : Fin prog mk3 115 (sqn 12 B3) ⟨vsE 5, LU5 6, NU5 6, CU5 6⟩ := y_of hE k_Y5_6 (z_of h (k_Z5_6_n) (end_of hE k_C5_8))
theorem tail5_6_nf (hE : EvOk prog X0 (ev prog X0 4000)) (t : List Bool) (h : EvOk prog (X1 (false :: t)) (ev prog (X1 (false :: t)) 4000)) : Fin prog mk3 115 (sqn 12 B3) ⟨vsE 5, LU5 6, NU5 6, CU5 6⟩ := y_of hE k_Y5_6 (z_of h (k_Z5_6_nf t) (end_of hE k_C5_8))
theorem tail5_6_nt (hE : EvOk prog X0 (ev prog X0 4000)) (t : List Bool) (h : EvOk prog (X1 (true :: t)) (ev prog (X1 (true :: t)) 4000)) : Fin prog mk3 115 (sqn 12 B3) ⟨vsE 5, LU5 6, NU5 6, CU5 6⟩ := y_of hE k_Y5_6 (z_of h (k_Z5_6_nt t) (end_of hE k_C5_9))
theorem tail5_6 (hE : EvOk prog X0 (ev prog X0 4000)) (ks : List Bool) (h : EvOk prog (X1 ks) (ev prog (X1 ks) 4000)) : Fin prog mk3 115 (sqn 12 B3) ⟨vsE 5, LU5 6, NU5 6, CU5 6⟩ := by
  cases ks with
  | nil => exact tail5_6_n hE h
  | cons b ks =>
    cases b with
    | false =>
      exact tail5_6_nf hE ks h
    | true =>
      exact tail5_6_nt hE ks h
theorem tail5_7_n (hE : EvOk prog X0 (ev prog X0 4000)) (h : EvOk prog (X1 []) (ev prog (X1 []) 4000)) : Fin prog mk3 115 (sqn 12 B3) ⟨vsE 5, LU5 7, NU5 7, CU5 7⟩ := y_of hE k_Y5_7 (z_of h (k_Z5_7_n) (end_of hE k_C5_8))
theorem tail5_7_nf (hE : EvOk prog X0 (ev prog X0 4000)) (t : List Bool) (h : EvOk prog (X1 (false :: t)) (ev prog (X1 (false :: t)) 4000)) : Fin prog mk3 115 (sqn 12 B3) ⟨vsE 5, LU5 7, NU5 7, CU5 7⟩ := y_of hE k_Y5_7 (z_of h (k_Z5_7_nf t) (end_of hE k_C5_8))
theorem tail5_7_nt (hE : EvOk prog X0 (ev prog X0 4000)) (t : List Bool) (h : EvOk prog (X1 (true :: t)) (ev prog (X1 (true :: t)) 4000)) : Fin prog mk3 115 (sqn 12 B3) ⟨vsE 5, LU5 7, NU5 7, CU5 7⟩ := y_of hE k_Y5_7 (z_of h (k_Z5_7_nt t) (end_of hE k_C5_9))
theorem tail5_7 (hE : EvOk prog X0 (ev prog X0 4000)) (ks : List Bool) (h : EvOk prog (X1 ks) (ev prog (X1 ks) 4000)) : Fin prog mk3 115 (sqn 12 B3) ⟨vsE 5, LU5 7, NU5 7, CU5 7⟩ := by
  cases ks with
  | nil => exact tail5_7_n hE h
  | cons b ks =>
    cases b with
    | false =>
      exact tail5_7_nf hE ks h
    | true =>
      exact tail5_7_nt hE ks h
theorem tail5_8_n (hE : EvOk prog X0 (ev prog X0 4000)) (h : EvOk prog (X1 []) (ev prog (X1 []) 4000)) : Fin prog mk3 115 (sqn 12 B3) ⟨vsE 5, LU5 8, NU5 8, CU5 8⟩ := y_of hE k_Y5_8 (z_of h (k_Z5_8_n) (end_of hE k_C5_8))
theorem tail5_8_nf (hE : EvOk prog X0 (ev prog X0 4000)) (t : List Bool) (h : EvOk prog (X1 (false :: t)) (ev prog (X1 (false :: t)) 4000)) : Fin prog mk3 115 (sqn 12 B3) ⟨vsE 5, LU5 8, NU5 8, CU5 8⟩ := y_of hE k_Y5_8 (z_of h (k_Z5_8_nf t) (end_of hE k_C5_8))
theorem tail5_8_nt (hE : EvOk prog X0 (ev prog X0 4000)) (t : List Bool) (h : EvOk prog (X1 (true :: t)) (ev prog (X1 (true :: t)) 4000)) : Fin prog mk3 115 (sqn 12 B3) ⟨vsE 5, LU5 8, NU5 8, CU5 8⟩ := y_of hE k_Y5_8 (z_of h (k_Z5_8_nt t) (end_of hE k_C5_9))
theorem tail5_8 (hE : EvOk prog X0 (ev prog X0 4000)) (ks : List Bool) (h : EvOk prog (X1 ks) (ev prog (X1 ks) 4000)) : Fin prog mk3 115 (sqn 12 B3) ⟨vsE 5, LU5 8, NU5 8, CU5 8⟩ := by
  cases ks with
  | nil => exact tail5_8_n hE h
  | cons b ks =>
    cases b with
    | false =>
      exact tail5_8_nf hE ks h
    | true =>
      exact tail5_8_nt hE ks h
theorem tail5_9_n (hE : EvOk prog X0 (ev prog X0 4000)) (h : EvOk prog (X1 []) (ev prog (X1 []) 4000)) : Fin prog mk3 115 (sqn 12 B3) ⟨vsE 5, LU5 9, NU5 9, CU5 9⟩ := y_of hE k_Y5_9 (z_of h (k_Z5_9_n) (end_of hE k_C5_8))
theorem tail5_9_nf (hE : EvOk prog X0 (ev prog X0 4000)) (t : List Bool) (h : EvOk prog (X1 (false :: t)) (ev prog (X1 (false :: t)) 4000)) : Fin prog mk3 115 (sqn 12 B3) ⟨vsE 5, LU5 9, NU5 9, CU5 9⟩ := y_of hE k_Y5_9 (z_of h (k_Z5_9_nf t) (end_of hE k_C5_8))
theorem tail5_9_nt (hE : EvOk prog X0 (ev prog X0 4000)) (t : List Bool) (h : EvOk prog (X1 (true :: t)) (ev prog (X1 (true :: t)) 4000)) : Fin prog mk3 115 (sqn 12 B3) ⟨vsE 5, LU5 9, NU5 9, CU5 9⟩ := y_of hE k_Y5_9 (z_of h (k_Z5_9_nt t) (end_of hE k_C5_9))
theorem tail5_9 (hE : EvOk prog X0 (ev prog X0 4000)) (ks : List Bool) (h : EvOk prog (X1 ks) (ev prog (X1 ks) 4000)) : Fin prog mk3 115 (sqn 12 B3) ⟨vsE 5, LU5 9, NU5 9, CU5 9⟩ := by
  cases ks with
  | nil => exact tail5_9_n hE h
  | cons b ks =>
    cases b with
    | false =>
      exact tail5_9_nf hE ks h
    | true =>
      exact tail5_9_nt hE ks h
theorem tail5_10_n (hE : EvOk prog X0 (ev prog X0 4000)) (h : EvOk prog (X1 []) (ev prog (X1 []) 4000)) : Fin prog mk3 115 (sqn 12 B3) ⟨vsE 5, LU5 10, NU5 10, CU5 10⟩ := y_of hE k_Y5_10 (z_of h (k_Z5_10_n) (end_of hE k_C5_8))
theorem tail5_10_nf (hE : EvOk prog X0 (ev prog X0 4000)) (t : List Bool) (h : EvOk prog (X1 (false :: t)) (ev prog (X1 (false :: t)) 4000)) : Fin prog mk3 115 (sqn 12 B3) ⟨vsE 5, LU5 10, NU5 10, CU5 10⟩ := y_of hE k_Y5_10 (z_of h (k_Z5_10_nf t) (end_of hE k_C5_8))
theorem tail5_10_nt (hE : EvOk prog X0 (ev prog X0 4000)) (t : List Bool) (h : EvOk prog (X1 (true :: t)) (ev prog (X1 (true :: t)) 4000)) : Fin prog mk3 115 (sqn 12 B3) ⟨vsE 5, LU5 10, NU5 10, CU5 10⟩ := y_of hE k_Y5_10 (z_of h (k_Z5_10_nt t) (end_of hE k_C5_9))
theorem tail5_10 (hE : EvOk prog X0 (ev prog X0 4000)) (ks : List Bool) (h : EvOk prog (X1 ks) (ev prog (X1 ks) 4000)) : Fin prog mk3 115 (sqn 12 B3) ⟨vsE 5, LU5 10, NU5 10, CU5 10⟩ := by
  cases ks with
  | nil => exact tail5_10_n hE h
  | cons b ks =>
    cases b with
    | false =>
      exact tail5_10_nf hE ks h
    | true =>
      exact tail5_10_nt hE ks h
theorem tail5_11_n (hE : EvOk prog X0 (ev prog X0 4000)) (h : EvOk prog (X1 []) (ev prog (X1 []) 4000)) : Fin prog mk3 115 (sqn 12 B3) ⟨vsE 5, LU5 11, NU5 11, CU5 11⟩ := y_of hE k_Y5_11 (z_of h (k_Z5_11_n) (end_of hE k_C5_8))
theorem tail5_11_nf (hE : EvOk prog X0 (ev prog X0 4000)) (t : List Bool) (h : EvOk prog (X1 (false :: t)) (ev prog (X1 (false :: t)) 4000)) : Fin prog mk3 115 (sqn 12 B3) ⟨vsE 5, LU5 11, NU5 11, CU5 11⟩ := y_of hE k_Y5_11 (z_of h (k_Z5_11_nf t) (end_of hE k_C5_8))
theorem tail5_11_nt (hE : EvOk prog X0 (ev prog X0 4000)) (t : List Bool) (h : EvOk prog (X1 (true :: t)) (ev prog (X1 (true :: t)) 4000)) : Fin prog mk3 115 (sqn 12 B3) ⟨vsE 5, LU5 11, NU5 11, CU5 11⟩ := y_of hE k_Y5_11 (z_of h (k_Z5_11_nt t) (end_of hE k_C5_9))
theorem tail5_11 (hE : EvOk prog X0 (ev prog X0 4000)) (ks : List Bool) (h : EvOk prog (X1 ks) (ev prog (X1 ks) 4000)) : Fin prog mk3 115 (sqn 12 B3) ⟨vsE 5, LU5 11, NU5 11, CU5 11⟩ := by
  cases ks with
  | nil => exact tail5_11_n hE h
  | cons b ks =>
    cases b with
    | false =>
      exact tail5_11_nf hE ks h
    | true =>
      exact tail5_11_nt hE ks h
theorem tail5 (hE : EvOk prog X0 (ev prog X0 4000)) (ks : List Bool) (h : EvOk prog (X1 ks) (ev prog (X1 ks) 4000)) (st : Nat) (hst : st < 12) : Fin prog mk3 115 (sqn 12 B3) ⟨vsE 5, LU5 st, NU5 st, CU5 st⟩ := by
  have : st = 0 ∨ st = 1 ∨ st = 2 ∨ st = 3 ∨ st = 4 ∨ st = 5 ∨ st = 6 ∨ st = 7 ∨ st = 8 ∨ st = 9 ∨ st = 10 ∨ st = 11 := by omega
  rcases this with rfl | rfl | rfl | rfl | rfl | rfl | rfl | rfl | rfl | rfl | rfl | rfl
  · exact tail5_0 hE ks h
  · exact tail5_1 hE ks h
  · exact tail5_2 hE ks h
  · exact tail5_3 hE ks h
  · exact tail5_4 hE ks h
  · exact tail5_5 hE ks h
  · exact tail5_6 hE ks h
  · exact tail5_7 hE ks h
  · exact tail5_8 hE ks h
  · exact tail5_9 hE ks h
  · exact tail5_10 hE ks h
  · exact tail5_11 hE ks h
theorem rounds5 (hE : EvOk prog X0 (ev prog X0 4000)) (i : Nat) (hi : i < 11) : To prog mk3 115 (sq2 LB2) .normal ⟨vsT i, LU5 i, NU5 i, CU5 i⟩ ⟨vsT (i + 1), LU5 (i + 1), NU5 (i + 1), CU5 (i + 1)⟩ := by
  have : i = 0 ∨ i = 1 ∨ i = 2 ∨ i = 3 ∨ i = 4 ∨ i = 5 ∨ i = 6 ∨ i = 7 ∨ i = 8 ∨ i = 9 ∨ i = 10 := by omega
  rcases this with rfl | rfl | rfl | rfl | rfl | rfl | rfl | rfl | rfl | rfl | rfl
  · exact to_of_ck hE okR2 k_U5_0
  · exact to_of_ck hE okR2 k_U5_1
  · exact to_of_ck hE okR2 k_U5_2
  · exact to_of_ck hE okR2 k_U5_3
  · exact to_of_ck hE okR2 k_U5_4
  · exact to_of_ck hE okR2 k_U5_5
  · exact to_of_ck hE okR2 k_U5_6
  · exact to_of_ck hE okR2 k_U5_7
  · exact to_of_ck hE okR2 k_U5_8
  · exact to_of_ck hE okR2 k_U5_9
  · exact to_of_ck hE okR2 k_U5_10
theorem commits (hE : EvOk prog X0 (ev prog X0 4000)) (i : Nat) (hi : i < 5) : To prog mk3 115 (sq2 LB1) .normal ⟨vs9 i, LR i, NR i, CR i⟩ ⟨vs9 (i + 1), LR (i + 1), NR (i + 1), CR (i + 1)⟩ := by
  have : i = 0 ∨ i = 1 ∨ i = 2 ∨ i = 3 ∨ i = 4 := by omega
  rcases this with rfl | rfl | rfl | rfl | rfl
  · exact to_of_ck hE okR1 k_R0
  · exact to_of_ck hE okR1 k_R1
  · exact to_of_ck hE okR1 k_R2
  · exact to_of_ck hE okR1 k_R3
  · exact to_of_ck hE okR1 k_R4
theorem body0 (hE : EvOk prog X0 (ev prog X0 4000)) (ks : List Bool) (h : EvOk prog (X1 ks) (ev prog (X1 ks) 4000)) (x n : Nat) (h0 : G.val 0 = .int .u8 (n : Int)) (h1 : G.val 1 = .int .u8 (x : Int)) (h8 : G.val 8 = .int .i64 ((0 : Nat) : Int)) (hn : n % 6 = 0) : Fin prog mk3 115 (sqn 3 B3) sA := by
  have e0 : ∀ i, i < x % 12 → To prog mk3 115 (sq2 LB2) .normal ⟨vsT i, LU0 i, NU0 i, CU0 i⟩ ⟨vsT (i + 1), LU0 (i + 1), NU0 (i + 1), CU0 (i + 1)⟩ := fun i hi => rounds0 hE i (by omega)
  have e1 : ∀ i, i < 0 → To prog mk3 115 (sq2 LB1) .normal ⟨vs9 i, LR i, NR i, CR i⟩ ⟨vs9 (i + 1), LR (i + 1), NR (i + 1), CR (i + 1)⟩ := fun i hi => commits hE i (by omega)
  rw [sp3]; refine (to_of_ck hE okA3 k_A5).fin ?_
  rw [sp4]; refine (to_of_ck hE okA4 k_A6).fin ?_
  rw [sp5]; refine (to_of_ck hE okA5 k_A7).fin ?_
  rw [sp6]; refine (r8_run hE n 0 h0 h8 hn).fin ?_
  rw [sp7]; refine (loop1 hE 0 h8 (by omega) LR NR CR e1).fin ?_
  rw [sp8]; refine (to_of_ck hE okA8 k_W0).fin ?_
  rw [sp9]; refine (to_of_ck hE okA9 k_Q0).fin ?_
  rw [sp10]; refine (to_of_ck hE okA10 k_P0).fin ?_
  rw [sp11]; exact (loop2 hE x _ 0 h1 h8 rfl LU0 NU0 CU0 e0).fin (tail0 hE ks h _ (Nat.mod_lt _ (by omega)))
theorem body1 (hE : EvOk prog X0 (ev prog X0 4000)) (ks : List Bool) (h : EvOk prog (X1 ks) (ev prog (X1 ks) 4000)) (x n : Nat) (h0 : G.val 0 = .int .u8 (n : Int)) (h1 : G.val 1 = .int .u8 (x : Int)) (h8 : G.val 8 = .int .i64 ((1 : Nat) : Int)) (hn : n % 6 = 1) : Fin prog mk3 115 (sqn 3 B3) sA := by
  have e0 : ∀ i, i < x % 12 → To prog mk3 115 (sq2 LB2) .normal ⟨vsT i, LU1 i, NU1 i, CU1 i⟩ ⟨vsT (i + 1), LU1 (i + 1), NU1 (i + 1), CU1 (i + 1)⟩ := fun i hi => rounds1 hE i (by omega)
  have e1 : ∀ i, i < 1 → To prog mk3 115 (sq2 LB1) .normal ⟨vs9 i, LR i, NR i, CR i⟩ ⟨vs9 (i + 1), LR (i + 1), NR (i + 1), CR (i + 1)⟩ := fun i hi => commits hE i (by omega)
  rw [sp3]; refine (to_of_ck hE okA3 k_A5).fin ?_
  rw [sp4]; refine (to_of_ck hE okA4 k_A6).fin ?_
  rw [sp5]; refine (to_of_ck hE okA5 k_A7).fin ?_
  rw [sp6]; refine (r8_run hE n 1 h0 h8 hn).fin ?_
  rw [sp7]; refine (loop1 hE 1 h8 (by omega) LR NR CR e1).fin ?_
  rw [sp8]; refine (to_of_ck hE okA8 k_W1).fin ?_
  rw [sp9]; refine (to_of_ck hE okA9 k_Q1).fin ?_
  rw [sp10]; refine (to_of_ck hE okA10 k_P1).fin ?_
  rw [sp11]; exact (loop2 hE x _ 1 h1 h8 rfl LU1 NU1 CU1 e0).fin (tail1 hE ks h _ (Nat.mod_lt _ (by omega)))
theorem body2 (hE : EvOk prog X0 (ev prog X0 4000)) (ks : List Bool) (h : EvOk prog (X1 ks) (ev prog (X1 ks) 4000)) (x n : Nat) (h0 : G.val 0 = .int .u8 (n : Int)) (h1 : G.val 1 = .int .u8 (x : Int)) (h8 : G.val 8 = .int .i64 ((2 : Nat) : Int)) (hn : n % 6 = 2) : Fin prog mk3 115 (sqn 3 B3) sA := by
  have e0 : ∀ i, i < x % 12 → To prog mk3 115 (sq2 LB2) .normal ⟨vsT i, LU2 i, NU2 i, CU2 i⟩ ⟨vsT (i + 1), LU2 (i + 1), NU2 (i + 1), CU2 (i + 1)⟩ := fun i hi => rounds2 hE i (by omega)
  have e1 : ∀ i, i < 2 → To prog mk3 115 (sq2 LB1) .normal ⟨vs9 i, LR i, NR i, CR i⟩ ⟨vs9 (i + 1), LR (i + 1), NR (i + 1), CR (i + 1)⟩ := fun i hi => commits hE i (by omega)
  rw [sp3]; refine (to_of_ck hE okA3 k_A5).fin ?_
  rw [sp4]; refine (to_of_ck hE okA4 k_A6).fin ?_
  rw [sp5]; refine (to_of_ck hE okA5 k_A7).fin ?_
  rw [sp6]; refine (r8_run hE n 2 h0 h8 hn).fin ?_
  rw [sp7]; refine (loop1 hE 2 h8 (by omega) LR NR CR e1).fin ?_
  rw [sp8]; refine (to_of_ck hE okA8 k_W2).fin ?_
  rw [sp9]; refine (to_of_ck hE okA9 k_Q2).fin ?_
  rw [sp10]; refine (to_of_ck hE okA10 k_P2).fin ?_
  rw [sp11]; exact (loop2 hE x _ 2 h1 h8 rfl LU2 NU2 CU2 e0).fin (tail2 hE ks h _ (Nat.mod_lt _ (by omega)))
theorem body3 (hE : EvOk prog X0 (ev prog X0 4000)) (ks : List Bool) (h : EvOk prog (X1 ks) (ev prog (X1 ks) 4000)) (x n : Nat) (h0 : G.val 0 = .int .u8 (n : Int)) (h1 : G.val 1 = .int .u8 (x : Int)) (h8 : G.val 8 = .int .i64 ((3 : Nat) : Int)) (hn : n % 6 = 3) : Fin prog mk3 115 (sqn 3 B3) sA := by
  have e0 : ∀ i, i < x % 12 → To prog mk3 115 (sq2 LB2) .normal ⟨vsT i, LU3 i, NU3 i, CU3 i⟩ ⟨vsT (i + 1), LU3 (i + 1), NU3 (i + 1), CU3 (i + 1)⟩ := fun i hi => rounds3 hE i (by omega)
  have e1 : ∀ i, i < 3 → To prog mk3 115 (sq2 LB1) .normal ⟨vs9 i, LR i, NR i, CR i⟩ ⟨vs9 (i + 1), LR (i + 1), NR (i + 1), CR (i + 1)⟩ := fun i hi => commits hE i (by omega)
  rw [sp3]; refine (to_of_ck hE okA3 k_A5).fin ?_
  rw [sp4]; refine (to_of_ck hE okA4 k_A6).fin ?_
  rw [sp5]; refine (to_of_ck hE okA5 k_A7).fin ?_
  rw [sp6]; refine (r8_run hE n 3 h0 h8 hn).fin ?_
  rw [sp7]; refine (loop1 hE 3 h8 (by omega) LR NR CR e1).fin ?_
  rw [sp8]; refine (to_of_ck hE okA8 k_W3).fin ?_
  rw [sp9]; refine (to_of_ck hE okA9 k_Q3).fin ?_
  rw [sp10]; refine (to_of_ck hE okA10 k_P3).fin ?_
  rw [sp11]; exact (loop2 hE x _ 3 h1 h8 rfl LU3 NU3 CU3 e0).fin (tail3 hE ks h _ (Nat.mod_lt _ (by omega)))
theorem body4 (hE : EvOk prog X0 (ev prog X0 4000)) (ks : List Bool) (h : EvOk prog (X1 ks) (ev prog (X1 ks) 4000)) (x n : Nat) (h0 : G.val 0 = .int .u8 (n : Int)) (h1 : G.val 1 = .int .u8 (x : Int)) (h8 : G.val 8 = .int .i64 ((4 : Nat) : Int)) (hn : n % 6 = 4) : Fin prog mk3 115 (sqn 3 B3) sA := by
  have e0 : ∀ i, i < x % 12 → To prog mk3 115 (sq2 LB2) .normal ⟨vsT i, LU4 i, NU4 i, CU4 i⟩ ⟨vsT (i + 1), LU4 (i + 1), NU4 (i + 1), CU4 (i + 1)⟩ := fun i hi => rounds4 hE i (by omega)
  have e1 : ∀ i, i < 4 → To prog mk3 115 (sq2 LB1) .normal ⟨vs9 i, LR i, NR i, CR i⟩ ⟨vs9 (i + 1), LR (i + 1), NR (i + 1), CR (i + 1)⟩ := fun i hi => commits hE i (by omega)
  rw [sp3]; refine (to_of_ck hE okA3 k_A5).fin ?_
  rw [sp4]; refine (to_of_ck hE okA4 k_A6).fin ?_
  rw [sp5]; refine (to_of_ck hE okA5 k_A7).fin ?_
  rw [sp6]; refine (r8_run hE n 4 h0 h8 hn).fin ?_
  rw [sp7]; refine (loop1 hE 4 h8 (by omega) LR NR CR e1).fin ?_
  rw [sp8]; refine (to_of_ck hE okA8 k_W4).fin ?_
  rw [sp9]; refine (to_of_ck hE okA9 k_Q4).fin ?_
  rw [sp10]; refine (to_of_ck hE okA10 k_P4).fin ?_
  rw [sp11]; exact (loop2 hE x _ 4 h1 h8 rfl LU4 NU4 CU4 e0).fin (tail4 hE ks h _ (Nat.mod_lt _ (by omega)))
theorem body5 (hE : EvOk prog X0 (ev prog X0 4000)) (ks : List Bool) (h : EvOk prog (X1 ks) (ev prog (X1 ks) 4000)) (x n : Nat) (h0 : G.val 0 = .int .u8 (n : Int)) (h1 : G.val 1 = .int .u8 (x : Int)) (h8 : G.val 8 = .int .i64 ((5 : Nat) : Int)) (hn : n % 6 = 5) : Fin prog mk3 115 (sqn 3 B3) sA := by
  have e0 : ∀ i, i < x % 12 → To prog mk3 115 (sq2 LB2) .normal ⟨vsT i, LU5 i, NU5 i, CU5 i⟩ ⟨vsT (i + 1), LU5 (i + 1), NU5 (i + 1), CU5 (i + 1)⟩ := fun i hi => rounds5 hE i (by omega)
  have e1 : ∀ i, i < 5 → To prog mk3 115 (sq2 LB1) .normal ⟨vs9 i, LR i, NR i, CR i⟩ ⟨vs9 (i + 1), LR (i + 1), NR (i + 1), CR (i + 1)⟩ := fun i hi => commits hE i (by omega)
  rw [sp3]; refine (to_of_ck hE okA3 k_A5).fin ?_
  rw [sp4]; refine (to_of_ck hE okA4 k_A6).fin ?_
  rw [sp5]; refine (to_of_ck hE okA5 k_A7).fin ?_
  rw [sp6]; refine (r8_run hE n 5 h0 h8 hn).fin ?_
  rw [sp7]; refine (loop1 hE 5 h8 (by omega) LR NR CR e1).fin ?_
  rw [sp8]; refine (to_of_ck hE okA8 k_W5).fin ?_
  rw [sp9]; refine (to_of_ck hE okA9 k_Q5).fin ?_
  rw [sp10]; refine (to_of_ck hE okA10 k_P5).fin ?_
  rw [sp11]; exact (loop2 hE x _ 5 h1 h8 rfl LU5 NU5 CU5 e0).fin (tail5 hE ks h _ (Nat.mod_lt _ (by omega)))
theorem law_fin (hE : EvOk prog X0 (ev prog X0 4000)) (ks : List Bool) (h : EvOk prog (X1 ks) (ev prog (X1 ks) 4000)) (x n : Nat) (h0 : G.val 0 = .int .u8 (n : Int)) (h1 : G.val 1 = .int .u8 (x : Int)) (h8 : G.val 8 = .int .i64 ((n % 6 : Nat) : Int)) : Fin prog mk3 115 (sqn 3 B3) sA := by
  have : n % 6 = 0 ∨ n % 6 = 1 ∨ n % 6 = 2 ∨ n % 6 = 3 ∨ n % 6 = 4 ∨ n % 6 = 5 := by omega
  rcases this with e | e | e | e | e | e <;> rw [e] at h8
  · exact body0 hE ks h x n h0 h1 h8 e
  · exact body1 hE ks h x n h0 h1 h8 e
  · exact body2 hE ks h x n h0 h1 h8 e
  · exact body3 hE ks h x n h0 h1 h8 e
  · exact body4 hE ks h x n h0 h1 h8 e
  · exact body5 hE ks h x n h0 h1 h8 e
end
end Go.Ev
namespace Go.Ev
open Go Go.Conc Go.RowKit Go.Proofs Go.Proofs.YtkdihjhndebloaaGreatDoor Go.Proofs.Tryz

section
variable [G : Given]
theorem known_any (hE : EvOk prog X0 (ev prog X0 4000)) {m : M} {w : World} (hr : Rel m sS.h w) : Calls prog 4 #[] w fun e w' => e = .returned (.bool true) ∧ ∃ m', Tr m sS.h w m' sA.h w' ∧ Rel m' sA.h w' := by
  have hk := k_known
  generalize he : (ev prog X0 4000).call 4 [] sS.h = r at hk
  unfold ckV at hk
  split at hk <;> try (cases hk; done)
  rename_i h'
  refine ((hE.call 4 [] sS.h _ h' he).2 m w [] hr rfl).mono ?_
  intro e w' hg
  cases e <;> first | exact hg.elim | skip
  obtain ⟨m', t1, r1, hc⟩ := hg
  simp only [conc, Option.some.injEq] at hc
  subst hc
  rw [sel_ite] at hk
  split at hk <;> try (cases hk; done)
  rename_i h1
  simp only [Bool.and_eq_true] at h1
  obtain ⟨x1, x2⟩ := r1.less (h' := sA.h) (fun {b o} hg => subH_get hk (mkT_get (by rw [H.get_eq] at hg; exact hg))) (Nat.eq_of_beq_eq_true h1.1).symm (Nat.eq_of_beq_eq_true h1.2).symm
  exact ⟨rfl, m', t1.trans x2, x1⟩
theorem start_rel {w : World} {s0 s1 : Nat} (h0 : w.heap[G.blk]? = some G.obj) (h1 : w.heap[G.kblk]? = some G.kobj) (hne : G.blk ≠ G.kblk) : Rel ⟨[(G.blk, s0), (G.kblk, s1)], []⟩ sS.h w := by
  have key : ∀ {b : Nat} {o : O}, sS.h.get b = some o → (b = 0 ∧ o = .raw) ∨ (b = 1 ∧ o = .kept) := by
    intro b o hg
    have := mkT_get (l := lA) (by rw [H.get_eq] at hg; exact hg)
    simp only [lA, List.mem_cons, Prod.mk.injEq, List.not_mem_nil, or_false] at this
    exact this
  refine ⟨rfl, ⟨rfl, fun c hc => by cases hc⟩, fun {b o} hg => ?_, fun {b b' o o' p p'} g1 g2 q1 q2 hq => ?_⟩
  · rcases key hg with ⟨rfl, rfl⟩ | ⟨rfl, rfl⟩
    · exact ⟨_, rfl, rfl, h0⟩
    · exact ⟨_, rfl, rfl, h1⟩
  · rcases key g1 with ⟨rfl, rfl⟩ | ⟨rfl, rfl⟩ <;> rcases key g2 with ⟨rfl, rfl⟩ | ⟨rfl, rfl⟩
    · rfl
    · obtain rfl := Option.some.inj q1
      obtain rfl := Option.some.inj q2
      exact absurd hq hne
    · obtain rfl := Option.some.inj q1
      obtain rfl := Option.some.inj q2
      exact absurd hq.symm hne
    · rfl
theorem live_start {s0 s1 k : Nat} (h : live ⟨[(G.blk, s0), (G.kblk, s1)], []⟩ sS.h k) : k = G.blk ∨ k = G.kblk := by
  obtain ⟨b, o, p, hg, hp, rfl⟩ := h
  have := mkT_get (l := lA) (by rw [H.get_eq] at hg; exact hg)
  simp only [lA, List.mem_cons, Prod.mk.injEq, List.not_mem_nil, or_false] at this
  rcases this with ⟨rfl, rfl⟩ | ⟨rfl, rfl⟩
  · obtain rfl := Option.some.inj hp; exact .inl rfl
  · obtain rfl := Option.some.inj hp; exact .inr rfl
theorem kept_of {w w' : World} {s0 s1 : Nat} (h0 : w.heap[G.blk]? = some G.obj) (h1 : w.heap[G.kblk]? = some G.kobj) (os : w'.os = w.os) (tape : w'.tape = w.tape) (output : w'.output = w.output) (size : w.heap.size ≤ w'.heap.size)
    (block : ∀ k, k < w.heap.size → ¬ live ⟨[(G.blk, s0), (G.kblk, s1)], []⟩ sS.h k → w'.heap[k]? = w.heap[k]?) (raw : w'.heap[G.blk]? = some G.obj) (kept : w'.heap[G.kblk]? = some G.kobj) : Kept [] w w' := by
  refine ⟨os, tape, output, size, fun k hk _ => ?_⟩
  by_cases hl : live ⟨[(G.blk, s0), (G.kblk, s1)], []⟩ sS.h k
  · rcases live_start hl with rfl | rfl
    · rw [raw, h0]
    · rw [kept, h1]
  · exact block k hk hl
end
theorem okP : okC X0 24 pwRest = true := by kernel_rfl
theorem whole_any (w : World) (n x : Nat) (A : Option Addr) (K cc : Nat) (kf : Nat → Bool) (hev : ErrVar w) {cs0 : Array Value} {t0 : TypeId} {fz : Nat × Nat} (h0 : w.heap[0]? = some (.cells cs0 t0 fz)) (hsz : cs0.size = 1) (h1 : ∃ o, w.heap[1]? = some o) (hr : RdB w A K kf) :
    Calls prog 3 #[.int .u8 (n : Int), .int .u8 (x : Int), .slice A K cc] w fun e w' => e = .returned (.bool true) ∧ Kept [] w w' := by
  obtain ⟨kb, o, hkb0, hko, hkA⟩ : ∃ kb o, kb ≠ 0 ∧ w.heap[kb]? = some o ∧ (0 < K → ∃ off, A = some ⟨kb, off, none⟩) := by
    by_cases hK : 0 < K
    · obtain ⟨bl, off, hA, hlt, hc⟩ := hr 0 hK
      have hb : ∃ o, w.heap[bl]? = some o := ⟨_, Array.getElem?_eq_getElem hlt⟩
      obtain ⟨o, ho⟩ := hb
      refine ⟨bl, o, ?_, ho, fun _ => ⟨off, hA⟩⟩
      rintro rfl
      have h2 : ∀ i, w.cell? ⟨0, i, none⟩ = cs0[i]? := fun i => by simp [World.cell?, h0]
      have hev' := hev
      unfold ErrVar at hev'
      rw [h2] at hev' hc
      have hoff : off + 0 = 0 := by
        have := (Array.getElem?_eq_some_iff.1 hc).1
        omega
      rw [hoff, hev'] at hc
      cases hc
    · obtain ⟨o, ho⟩ := h1
      exact ⟨1, o, by decide, ho, fun h => absurd h hK⟩
  letI G : Given := { blk := 0, obj := .cells cs0 t0 fz, kblk := kb, kobj := o, val := fun j => if j = 0 then .int .u8 (n : Int) else if j = 1 then .int .u8 (x : Int) else if j = 8 then .int .i64 ((n % 6 : Nat) : Int) else .slice A K cc, one := fun j => by split <;> (try split) <;> (try split) <;> rfl }
  have hx0 : Xok prog X0 := x0_ok fun w' h' => (World.cell?_of_block (w := w) (h'.trans h0.symm)).trans hev
  have hE := ev_ok hx0 4000
  have g0 : w.heap[G.blk]? = some G.obj := h0
  have g1 : w.heap[G.kblk]? = some G.kobj := hko
  have hrel : Rel ⟨[(G.blk, 0), (G.kblk, 0)], []⟩ sS.h w := start_rel g0 g1 (Ne.symm hkb0)
  have hraw : ∀ {m' : M} {s : Sta} {w' : World}, Rel m' s.h w' → s.h.get 0 = some .raw → s.h.get 1 = some .kept → w'.heap[G.blk]? = some G.obj ∧ w'.heap[G.kblk]? = some G.kobj := by
    intro m' s w' r1 e1 e2
    obtain ⟨p, _, p1, p2⟩ := r1.obj e1
    obtain ⟨q, _, q1, q2⟩ := r1.obj e2
    exact ⟨p1 ▸ p2, q1 ▸ q2⟩
  refine head_any w _ _ A K cc _ (fun w' => ∃ m', Tr ⟨[(G.blk, 0), (G.kblk, 0)], []⟩ sS.h w m' sA.h w' ∧ Rel m' sA.h w') (known_any hE hrel) ?_ ?_
  · rintro _ w' ⟨m', t1, r1⟩
    obtain ⟨e1, e2⟩ := hraw r1 (by kernel_rfl) (by kernel_rfl)
    exact ⟨rfl, kept_of g0 g1 t1.os t1.tape t1.output t1.size t1.block e1 e2⟩
  · rintro hK a' w' ⟨m', t1, r1⟩ s1 s2 s3 s4 s5
    have hp : FnOk prog 24 (xPower ((List.range K).map kf)) := power_fn hx0 okP (A := A) (K := K) (cc := cc) (kf := kf) rfl rfl hK fun w' hw i hi => by
      obtain ⟨off, hA⟩ := hkA (by omega)
      obtain ⟨bl, off', hA', hlt, hc⟩ := hr i hi
      rw [hA] at hA'
      injection hA' with hA'
      injection hA' with e1 e2
      subst e1 e2
      refine ⟨kb, off, hA, (Array.getElem?_eq_some_iff.1 hw).1, (World.cell?_of_block (w := w) ?_).trans hc⟩
      exact (show w'.heap[kb]? = some o from hw).trans hko.symm
    have hE1 := ev_ok (x1_ok hx0 hp) 4000
    have ht : TmR m' (sA.tm mk3 115) a' := by
      refine ⟨s1, s2, fun {t v} hg => ?_⟩
      have hg' : vsA.get t none = some v := by
        rw [Sta.tm, getTm_mk] at hg
        split at hg
        · exact hg
        · cases hg
      unfold vsA at hg'
      rw [Ts.get_cons, Ts.get_cons, Ts.get_cons] at hg'
      split at hg'
      · rename_i ht; subst ht; injection hg' with hg'; subst hg'; exact ⟨_, s3, rfl⟩
      · split at hg'
        · rename_i ht; subst ht; injection hg' with hg'; subst hg'; exact ⟨_, s4, rfl⟩
        · split at hg'
          · rename_i ht; subst ht; injection hg' with hg'; subst hg'; exact ⟨_, s5, rfl⟩
          · cases hg'
    refine wp_mono (law_fin hE _ hE1 x n rfl rfl rfl m' w' a' r1 ht) ?_
    rintro e a2 w2 ⟨rfl, f⟩
    have f' := FinW.trans t1 (fun k => hrel.live_lt) f
    exact ⟨f'.defers, _, results3 _ f'.res, rfl, kept_of g0 g1 f'.os f'.tape f'.output f'.size f'.block f'.raw f'.kept⟩
end Go.Ev
