/- Parts of the law's body, a loss of power in the evaluator's words. Conditions: none. -/
import Derived.Test.YtkdihjhndebloaaGreatDoorEvSeat
import Derived.Test.YtkdihjhndebloaaGreatDoorEvTo
set_option linter.unusedSectionVars false
set_option linter.unusedVariables false
set_option linter.unusedSimpArgs false
namespace Go.Ev
open Go
noncomputable def sq1 (c : Code) : Code := match c with | .seq a _ => a | _ => .skip
noncomputable def sq2 (c : Code) : Code := match c with | .seq _ a => a | _ => .skip
noncomputable def inn (c : Code) : Code := match c with | .block _ a => a | .loop a => a | _ => .skip
noncomputable def bodyOf (f : Nat) : Code := match codeOf Go.Proofs.Tryz.prog f with | some (_, c) => c | none => .skip
noncomputable def sqn (n : Nat) (c : Code) : Code := Nat.rec c (fun _ ih => sq2 ih) n
noncomputable def mk3 : Nat := 65479
end Go.Ev
namespace Go.Ev
open Go
noncomputable def pwRest : Code := sq2 (sq2 (bodyOf 24))
noncomputable def mk24 : Nat := 58778451
noncomputable def xPower (ks : List Bool) (l : List V) (h : H) : RV := match l with
  | [.ptr f 0, .raw 2] => some? (h.get 1) fun k => match k with
    | .kept => h.new (.chan ks.length (ks.map V.bool)) fun b h => match codeOf Go.Proofs.Tryz.prog 24 with
      | some (fn, _) => bodyV Go.Proofs.Tryz.prog fn ((ev Go.Proofs.Tryz.prog X0 4000).code 24 pwRest ⟨mk24, 86, .cons 0 (.ptr f 0) (.cons 4 (.chan b) .nil), .nil⟩ h)
      | none => .fail
    | _ => .fail
  | _ => .fail
noncomputable def X1 (ks : List Bool) : Ex := ⟨fun f => sel (Nat.beq f 24) (some (xPower ks)) (xf f), X0.mask, X0.plan⟩
end Go.Ev
