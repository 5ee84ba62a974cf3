/- errors.Is of two equal errors of the type api.Errno answers true.
   Conditions: none. -/
import Derived.Test.YtkdihjhndebloaaGreatDoorBase
import Derived.Test.YtkdihjhndebloaaGreatDoorChecked
import Derived.LaidEql
import Derived.RowKitTokens
import Derived.KernelRfl
namespace Go.Proofs.YtkdihjhndebloaaGreatDoor
open Go.RowKit Go.Extern

section
variable {P : Program} (w : World)
theorem eqlIn_errno (d : Nat) {ti tn : TypeId} {ms : Array (String × TypeId)} {i : TypeInfo} {k : IntKind} (a b : Int)
    (hi : P.underlying ti = some (.interface ms)) (hn : P.underlying tn = some (.int k)) (hinfo : P.info? tn = some i) (hcomp : i.comparable = true) :
    (Op.equalIn (d + 2) ti (.iface tn (.int k a)) (.iface tn (.int k b))).run P w = .ok (a == b) w := by
  simp [Op.equalIn, run_underlying hi, run_underlying hn, typeInfo, hinfo, hcomp]
/-- Two interface values of one integer type are held against each other as their numbers are. -/
theorem eql_errno {ti tn : TypeId} {ms : Array (String × TypeId)} {i : TypeInfo} {k : IntKind} (a b : Int)
    (hi : P.underlying ti = some (.interface ms)) (hn : P.underlying tn = some (.int k)) (hinfo : P.info? tn = some i) (hcomp : i.comparable = true) :
    (binOp .eql ti (.iface tn (.int k a)) (.iface tn (.int k b))).run P w = .ok (.bool (a == b)) w := by
  simp only [binOp]
  simp [Op.equal, Op.maxDepth, eqlIn_errno w 9998 a b hi hn hinfo hcomp]
end

theorem ty_of (v : Value) (w : World) : (Extern.ReflectliteType.typeOf #[.iface 74 v]).run Tryz.prog w = .ok (.iface 386 (.agg #[.pointer (some ⟨1, 74, none⟩)])) w := by kernel_rfl
theorem call_ty (v : Value) (w : World) : (callFunc 277 #[.iface 74 v]).run Tryz.prog w = .ok (.value (.iface 386 (.agg #[.pointer (some ⟨1, 74, none⟩)]))) w := by
  rw [@run_callFunc_extern Tryz.prog 277 _ Extern.ReflectliteType.typeOf Tryz.func277 (by kernel_rfl) (by kernel_rfl) (by kernel_rfl) (by kernel_rfl), ty_of]
  rfl
theorem call_cmp (w : World) : (callFunc 492 #[.agg #[.pointer (some ⟨1, 74, none⟩)]]).run Tryz.prog w = .ok (.value (.bool true)) w := by kernel_rfl
theorem meth_cmp (v : Value) (w : World) : (Go.method 673 386 v "Comparable").run Tryz.prog w = .ok (492, v) w := by kernel_rfl
theorem errno_comp : (Tryz.prog.info? 74).map (·.comparable) = some true := by kernel_rfl

end Go.Proofs.YtkdihjhndebloaaGreatDoor
