/- What some functions give, said outright. Conditions: none; the contracts stand in later texts. -/
import Derived.Test.YtkdihjhndebloaaGreatDoorEvBase
set_option linter.unusedSectionVars false
set_option linter.unusedVariables false
set_option linter.unusedSimpArgs false
namespace Go.Ev
open Go
noncomputable def le8 (n : Nat) (k : Nat) : List Nat := Nat.rec (motive := fun _ => Nat → List Nat) (fun _ => []) (fun _ ih n => force (Nat.mod n 256) fun b => b :: ih (Nat.div n 256)) k n
noncomputable def xNum (l : List V) (h : H) : RV := match l with
  | [.int .u64 (.ofNat n)] => okIf (Nat.blt n 18446744073709551616) (.ok (.str (le8 n 8)) h)
  | _ => .fail
noncomputable def sumN (s : List Nat) : Nat → Nat := List.rec (motive := fun _ => Nat → Nat) (fun n => n) (fun c _ ih n => force (Nat.mod (Nat.add (Nat.mul n 33) c) 18446744073709551616) fun n => ih n) s
noncomputable def xSum (l : List V) (h : H) : RV := match l with
  | [.str s] => okIf (Nat.blt (lenN s) 1000000) (force (sumN s 5381) fun n => .ok (.int .u64 (Int.ofNat n)) h)
  | _ => .fail
noncomputable def ofLe (l : List Nat) : Nat := List.rec 0 (fun c _ ih => Nat.add c (Nat.mul 256 ih)) l
noncomputable def xCut (t0 : TypeId) (short okv : V) (l : List V) (h : H) : RV := match l with
  | [.ptr b 0] => some? (h.get b) fun o => match o with
    | .cells t [.str s, e] => okIf (Nat.beq t t0 && Nat.blt (lenN s) 1000000) (sel (sameV e okv)
        (sel (Nat.ble 8 (lenN s)) (force (ofLe (takeN s 8)) fun n => .ok (.int .u64 (Int.ofNat n)) (h.set b (.cells t [.str (dropN s 8), e]))) (.ok (.int .u64 0) (h.set b (.cells t [.str s, short]))))
        (okIf (sameV e short) (.ok (.int .u64 0) (h.set b (.cells t [.str s, short])))))
    | _ => .fail
  | _ => .fail
noncomputable def xAs (te tp : TypeId) (l : List V) (h : H) : RV := match l with
  | [.inil, _] => .ok (.bool false) h
  | [.ifc t (.int .i64 n), .ifc u (.ptr b 0)] => okIf (Nat.beq t te && Nat.beq u tp) (some? (h.get 0) fun g => match g with
    | .raw => some? (h.get b) fun o => match o with
      | .cells u [_] => .ok (.bool true) (h.set b (.cells u [.int .i64 n]))
      | _ => .fail
    | _ => .fail)
  | _ => .fail
noncomputable def xClone (l : List V) (h : H) : RV := match l with
  | [.mnil] => .ok .mnil h
  | [.map b] => some? (h.get b) fun o => match o with
    | .map es c => h.new (.map es c) fun b h => .ok (.map b) h
    | _ => .fail
  | _ => .fail
end Go.Ev
namespace Go.Ev
open Go
/-- The keys of a map in their order: one or two ints; none or one string. -/
noncomputable def xSortI (g : Nat) (l : List V) (h : H) : RV := match l with
  | [.fn f [] [.ptr c 0]] => okIf (Nat.beq f g) (some? (h.get c) fun o => match o with
    | .cells _ [.map b] => some? (h.get b) fun o => match o with
      | .map [(.int .i64 (.ofNat x), _, p)] clk => okIf (Nat.blt x 9223372036854775808 && Nat.blt p clk) (h.row 3 [.int .i64 (.ofNat x)] 1 1)
      | .map [(.int .i64 (.ofNat x), _, p), (.int .i64 (.ofNat y), _, q)] clk =>
        okIf (Nat.blt x 9223372036854775808 && Nat.blt y 9223372036854775808 && Nat.blt p clk && Nat.blt q clk && (!Nat.beq p q))
          (sel (Nat.blt x y) (h.row 3 [.int .i64 (.ofNat x), .int .i64 (.ofNat y)] 2 1) (sel (Nat.blt y x) (h.row 3 [.int .i64 (.ofNat y), .int .i64 (.ofNat x)] 2 1) .fail))
      | _ => .fail
    | _ => .fail)
  | _ => .fail
noncomputable def xSortS (g1 g2 : Nat) (l : List V) (h : H) : RV := match l with
  | [.fn f [] [.ptr c 0]] => okIf (Nat.beq f g1 || Nat.beq f g2) (some? (h.get c) fun o => match o with
    | .cells _ [.map b] => some? (h.get b) fun o => match o with
      | .map [] _ => .ok .snil h
      | .map [(.str s, _, p)] clk => okIf (Nat.blt (lenN s) 1000000 && Nat.blt p clk) (h.row 9 [.str s] 1 1)
      | _ => .fail
    | _ => .fail)
  | _ => .fail
end Go.Ev
