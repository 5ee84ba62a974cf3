/- No body of the translation starts a goroutine: so the card's cell 'goes' is off, without a reckoning of the road. -/
import Derived.Test.YtkdihjhndebloaaGreatDoorChecked
import Derived.KernelRfl
import GoSem.ClaimGoes
namespace Go.Proofs.YtkdihjhndebloaaGreatDoor
open Go

theorem goes_all : Tryz.prog.funcs.any Func.goes = false := by kernel_rfl
theorem goes_none (P : Program) (h : P.funcs.any Func.goes = false) (func : String) : P.goesAt .entering func = false := by
  have hall : ∀ g : Nat, (P.funcs[g]?).any Func.goes = false := fun g => by
    cases hg : P.funcs[g]? with
    | none => rfl
    | some fn =>
      have := Array.any_eq_false'.1 h fn (Array.mem_of_getElem? hg)
      simpa using this
  simp only [Program.goesAt, Program.goesFrom, Bool.or_false]
  cases P.funcNamed func with
  | none => rfl
  | some f => simp [Program.goes, hall, h]
end Go.Proofs.YtkdihjhndebloaaGreatDoor
