/- The program's lock held against the reference's: the same. Conditions: both lie whole in a block. -/
import Derived.Test.YthifbmopfcfokaaDoorRLock2
import Derived.LaidEql
import Derived.BigQuiet
namespace Go.Proofs.YthifbmopfcfokaaDoor
open Go.RowKit

theorem eq_int (x : Int) (w : World) (d : Nat) : (Op.equalIn (d + 1) 3 (.int .i64 x) (.int .i64 x)).run Tryd.prog w = .ok true w := by
  simp [Op.equalIn, run_underlying Tryd.underlying3]
theorem eq_u64 (x : Int) (w : World) (d : Nat) : (Op.equalIn (d + 1) 23 (.int .u64 x) (.int .u64 x)).run Tryd.prog w = .ok true w := by
  simp [Op.equalIn, run_underlying Tryd.underlying23]
theorem slot_in (x y : Int) (w : World) (d : Nat) : (Op.equalIn (d + 2) 31 (.agg #[.int .i64 x, .int .u64 y]) (.agg #[.int .i64 x, .int .u64 y])).run Tryd.prog w = .ok true w := by
  have h1 : Tryd.prog.stoodInHeld 31 = false := by kernel_rfl
  have s1 : (part 3 #[Value.int IntKind.i64 x, Value.int IntKind.u64 y] 0).run Tryd.prog w = .ok (.int .i64 x) w := by kernel_rfl
  have s2 : (part 23 #[Value.int IntKind.i64 x, Value.int IntKind.u64 y] 1).run Tryd.prog w = .ok (.int .u64 y) w := by kernel_rfl
  have e1 := eq_int x w d
  have e2 := eq_u64 y w d
  rw [Op.equalIn]
  simp [run_underlying Tryd.underlying31, h1, s1, s2, e1, e2]
theorem slot_neq (x y : Int) (w : World) : (binOp .neq 31 (.agg #[.int .i64 x, .int .u64 y]) (.agg #[.int .i64 x, .int .u64 y])).run Tryd.prog w = .ok (.bool false) w := by
  simp only [binOp]
  simp [Op.equal, Op.maxDepth, slot_in x y w 9998]
theorem quiet_sameL {P : Program} {f : FuncId} {args : Array Value} {w : World} {n : Nat} {v : Value}
    (h : Calls P f args (w.drewN n) fun e w' => e = .returned v ∧ w.drewN n = w') : Calls P f args (w.drewN n) fun e w'' => e = .returned v ∧ ∃ m, w'' = w.drewN m :=
  h.mono fun _ _ ⟨he, hm⟩ => ⟨he, n, hm.symm⟩

section
variable (gl rl : Nat) (p t : Nat → Int) (w : World)
set_option maxRecDepth 100000 in
theorem sameL_any (ow : Int) (h : LockAt w gl ow p t) (hr : RLockAt w rl ow p t) : Calls Tryd.prog 24 #[.pointer (some ⟨gl, 0, none⟩), .pointer (some ⟨rl, 0, none⟩)] w fun e w' => e = .returned (.bool true) ∧ Kept [] w w' := by
  have HL := hide h
  have HR := hide hr
  clear h hr
  go_enter Tryd.func24, Tryd.ntmps24
  go_wp2_with fail
  refine (slots_any gl ow p t w HL.out).mono ?_
  rintro e w1 ⟨b, c, rfl, hS, k1⟩
  have hL1 : LockAt w1 gl ow p t := Blk.kept0 HL.out k1
  have hR1 : RLockAt w1 rl ow p t := Blk.kept0 HR.out k1
  have c0 : w1.cell? ⟨rl, 0, none⟩ = some (.int .i64 ow) := Blk.cell hR1 0
  have HS := hide hS
  have HL1 := hide hL1
  have HR1 := hide hR1
  have HK := hide k1
  clear hS hL1 hR1 k1
  have hne : (ow != ow) = false := by simp
  go_upto_region 2 with (fail)
  go_quiet ((first | (go_at_call 30; exact quiet_sameL (writer_any gl ow p t _ (Blk.drewN HL1.out _)))))
  clear c0 hne
  go_wp2
  go_loopw [6] (fun i wz => ∃ k : Nat, k ≤ 8 ∧ i = .int .i64 k ∧ Kept [] w1 wz) (fun i _ => 8 - (intOf i).toNat)
  case atStart => exact ⟨0, Nat.zero_le _, rfl, (Kept.refl _ _).drewN _⟩
  case round =>
    obtain ⟨k, hk, rfl, hK⟩ := hrel
    by_cases hlt : k < 8
    · have hS := HS.out.kept0 hK
      have hR : RLockAt wr rl ow p t := Blk.kept0 HR1.out hK
      have a0 := hS.pid hlt
      have a1 := hS.txn hlt
      have b0 := hR.pid hlt
      have b1 := hR.txn hlt
      clear hS hR
      generalize p k = x at a0 b0
      generalize t k = y at a1 b1
      have hq := slot_neq x y
      go_upto_region 7 with (fail)
      go_quiet (fail)
      go_wp2
      go_roundw
      case rel => exact ⟨k + 1, hlt, by go_num, hK.drewN _⟩
      case measure => simp [intOf]; omega
    · obtain rfl : k = 8 := by omega
      go_wp2
      go_ret
      exact ⟨rfl, HK.out.trans0 hK⟩
end
end Go.Proofs.YthifbmopfcfokaaDoor
