/- The law's first questions: known, how long keep is. Conditions: what known answers is given. -/
import Derived.Test.YtkdihjhndebloaaGreatDoorEvHeads
set_option linter.unusedSectionVars false
set_option linter.unusedVariables false
set_option linter.unusedSimpArgs false
namespace Go.Ev
open Go Go.Conc Go.RowKit Go.Proofs Go.Proofs.YtkdihjhndebloaaGreatDoor Go.Proofs.Tryz

variable [G : Given]
theorem res3 : f3.results = #[.tmp 6] := by kernel_rfl
theorem results3 {tmps : Array Value} {v : Value} (w : World) (h : tmps[6]? = some v) : (results f3 tmps).run prog w = .ok v w := by
  rw [results_eq, res3]
  simp [oneR, h]
set_option maxRecDepth 100000 in
set_option maxHeartbeats 2000000 in
theorem head_any (w : World) (vn vs : Value) (A : Option Addr) (K cc : Nat) (Q : Ending → World → Prop) (KP : World → Prop) (hk : Calls prog 4 #[] w fun e w' => e = .returned (.bool true) ∧ KP w')
    (hbig : 200 < K → ∀ w', KP w' → Q (.returned (.bool true)) w')
    (hrest : K ≤ 200 → ∀ a' w', KP w' → a'.tmps.size = 115 → a'.defers = [] → a'.tmps[0]? = some vn → a'.tmps[1]? = some vs → a'.tmps[2]? = some (.slice A K cc) → Code.wp prog (sqn 3 B3) (bodyPost prog f3 Q) a' w') :
    Calls prog 3 #[vn, vs, .slice A K cc] w Q := by
  have HB := hide hbig
  have HR := hide hrest
  have HK := hide hk
  clear hbig hrest hk
  go_enter func3, ntmps3
  refine wp_seq (wp_mono (Q := fun e a' w' => e = .normal ∧ a' = { tmps := #[vn, vs, .slice A K cc, undef, undef, undef, .bool false, undef, undef, undef, undef, undef, undef, undef, undef, undef, undef, undef, undef, undef, undef, undef, undef, undef, undef, undef, undef, undef, undef, undef, undef, undef, undef, undef, undef, undef, undef, undef, undef, undef, undef, undef, undef, undef, undef, undef, undef, undef, undef, undef, undef, undef, undef, undef, undef, undef, undef, undef, undef, undef, undef, undef, undef, undef, undef, undef, undef, undef, undef, undef, undef, undef, undef, undef, undef, undef, undef, undef, undef, undef, undef, undef, undef, undef, undef, undef, undef, undef, undef, undef, undef, undef, undef, undef, undef, undef, undef, undef, undef, undef, undef, undef, undef, undef, undef, undef, undef, undef, undef, undef, undef, undef, undef, undef, undef], defers := [] } ∧ w' = w) ?_ ?_)
  case refine_1 => go_wp2
  rintro e a' w' ⟨rfl, rfl, rfl⟩
  refine wp_seq (wp_mono (Q := fun e a' w' => e = .normal ∧ a' = { tmps := #[vn, vs, .slice A K cc, undef, undef, undef, .bool false, undef, undef, undef, undef, undef, undef, undef, undef, undef, .bool true, .bool false, undef, undef, undef, undef, undef, undef, undef, undef, undef, undef, undef, undef, undef, undef, undef, undef, undef, undef, undef, undef, undef, undef, undef, undef, undef, undef, undef, undef, undef, undef, undef, undef, undef, undef, undef, undef, undef, undef, undef, undef, undef, undef, undef, undef, undef, undef, undef, undef, undef, undef, undef, undef, undef, undef, undef, undef, undef, undef, undef, undef, undef, undef, undef, undef, undef, undef, undef, undef, undef, undef, undef, undef, undef, undef, undef, undef, undef, undef, undef, undef, undef, undef, undef, undef, undef, undef, undef, undef, undef, undef, undef, undef, undef, undef, undef, undef, undef], defers := [] } ∧ KP w') ?_ ?_)
  case refine_1 =>
    go_wp2_with (refine HK.out.mono ?_; rintro e w1 ⟨rfl, hkp⟩)
    exact hkp
  rintro e a' w' ⟨rfl, rfl, hkp⟩
  refine wp_seq (wp_mono (Q := fun e a'' w'' => w'' = w' ∧ ((200 < K ∧ e = .ret ∧ a''.defers = [] ∧ a''.tmps[6]? = some (.bool true)) ∨ (K ≤ 200 ∧ e = .normal ∧ a''.tmps.size = 115 ∧ a''.defers = [] ∧ a''.tmps[0]? = some vn ∧ a''.tmps[1]? = some vs ∧ a''.tmps[2]? = some (.slice A K cc)))) ?_ ?_)
  case refine_1 =>
    by_cases hlt : 200 < K
    · have hd : decide ((200 : Int) < (K : Int)) = true := by simp; omega
      go_wp2
      all_goals omega
    · have hd : decide ((200 : Int) < (K : Int)) = false := by simp; omega
      go_wp2
      all_goals omega
  rintro e a2 w2 ⟨rfl, ⟨h1, rfl, h2, h3⟩ | ⟨h1, rfl, h2, h3, h4, h5, h6⟩⟩
  · exact ⟨h2, _, results3 _ h3, HB.out h1 _ hkp⟩
  · exact HR.out h1 _ _ hkp h2 h3 h4 h5 h6
end Go.Ev
