/- errors.Is of two equal errors of the type api.Errno answers true.
   Conditions: none. -/
import Derived.Test.YthifbmopfcfokaaDoorBase
import Derived.Test.YthifbmopfcfokaaDoorChecked
import Derived.LaidEql
import Derived.RowKitTokens
import Derived.KernelRfl
namespace Go.Proofs.YthifbmopfcfokaaDoor
open Go.RowKit Go.Extern

section
variable {P : Program} (w : World)
theorem eqlIn_errno (d : Nat) {ti tn : TypeId} {ms : Array (String × TypeId)} {i : TypeInfo} {k : IntKind} (a b : Int)
    (hi : P.underlying ti = some (.interface ms)) (hn : P.underlying tn = some (.int k)) (hinfo : P.info? tn = some i) (hcomp : i.comparable = true) :
    (Op.equalIn (d + 2) ti (.iface tn (.int k a)) (.iface tn (.int k b))).run P w = .ok (a == b) w := by
  simp [Op.equalIn, run_underlying hi, run_underlying hn, typeInfo, hinfo, hcomp]
/-- Two interface values of one integer type are held against each other as their numbers are. -/
theorem eql_errno {ti tn : TypeId} {ms : Array (String × TypeId)} {i : TypeInfo} {k : IntKind} (a b : Int)
    (hi : P.underlying ti = some (.interface ms)) (hn : P.underlying tn = some (.int k)) (hinfo : P.info? tn = some i) (hcomp : i.comparable = true) :
    (binOp .eql ti (.iface tn (.int k a)) (.iface tn (.int k b))).run P w = .ok (.bool (a == b)) w := by
  simp only [binOp]
  simp [Op.equal, Op.maxDepth, eqlIn_errno w 9998 a b hi hn hinfo hcomp]
end

theorem ty_of (v : Value) (w : World) : (Extern.ReflectliteType.typeOf #[.iface 69 v]).run Tryd.prog w = .ok (.iface 113 (.agg #[.pointer (some ⟨1, 69, none⟩)])) w := by kernel_rfl
theorem call_ty (v : Value) (w : World) : (callFunc 49 #[.iface 69 v]).run Tryd.prog w = .ok (.value (.iface 113 (.agg #[.pointer (some ⟨1, 69, none⟩)]))) w := by
  rw [@run_callFunc_extern Tryd.prog 49 _ Extern.ReflectliteType.typeOf Tryd.func49 (by kernel_rfl) (by kernel_rfl) (by kernel_rfl) (by kernel_rfl), ty_of]
  rfl
theorem call_cmp (w : World) : (callFunc 86 #[.agg #[.pointer (some ⟨1, 69, none⟩)]]).run Tryd.prog w = .ok (.value (.bool true)) w := by kernel_rfl
theorem meth_cmp (v : Value) (w : World) : (Go.method 256 113 v "Comparable").run Tryd.prog w = .ok (86, v) w := by kernel_rfl
theorem errno_comp : (Tryd.prog.info? 69).map (·.comparable) = some true := by kernel_rfl

set_option maxRecDepth 100000 in
/-- errors.Is(x, x), x an api.Errno. -/
theorem is_same (n : Int) (w : World) :
    Calls Tryd.prog 31 #[.iface 69 (.int .i64 n), .iface 69 (.int .i64 n)] w fun e w' => e = .returned (.bool true) ∧ w = w' := by
  obtain ⟨i, hi, hcmp⟩ := Option.map_eq_some_iff.1 errno_comp
  have h8 := call_ty
  have h32 := call_cmp
  have mR := meth_cmp
  have heq := eql_errno (P := Tryd.prog) w n n Tryd.underlying45 Tryd.underlying69 hi hcmp
  simp only [beq_self_eq_true] at heq
  go_enter Tryd.func31, Tryd.ntmps31
  go_wp2
  refine wp_loop_rounds 1 ?_
  rw [rounds_succ]
  go_wp2
  go_ret
  exact ⟨rfl, rfl⟩
end Go.Proofs.YthifbmopfcfokaaDoor
