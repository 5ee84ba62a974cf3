/- The lock read from one byte alone: it is told that the bytes are none of a lock. Conditions: none. -/
import Derived.Test.YthifbmopfcfokaaDoorLRead
namespace Go.Proofs.YthifbmopfcfokaaDoor
open Go.RowKit Go.Conc

theorem x_n : cutN ⟨#[120]⟩ false = 0 := by decide +kernel
theorem x_s : takeS ⟨#[120]⟩ false 8 = ⟨#[120]⟩ := by decide +kernel
theorem x_b : takeB ⟨#[120]⟩ false 8 = true := by decide +kernel
theorem x_nb : cutN ⟨#[120]⟩ true = 0 := by decide +kernel
theorem x_sb : takeS ⟨#[120]⟩ true 8 = ⟨#[120]⟩ := by decide +kernel
theorem x_bb : takeB ⟨#[120]⟩ true 8 = true := by decide +kernel
theorem upd_zero (k : Nat) : upd (fun _ => 0) k 0 = fun _ => 0 := by
  funext i
  simp [upd]

set_option maxRecDepth 100000 in
theorem read_x (w : World) : Calls Tryd.prog 29 #[.string ⟨#[120]⟩] w fun e w' => e = .returned (.tuple #[.pointer none, .iface 69 (.int .i64 12)]) ∧ Kept [] w w' := by
  go_enter Tryd.func29, Tryd.ntmps29
  go_wp2_with fail
  go_step3
  go_wp2_with fail
  refine (new_any _ _).mono ?_
  rintro e w1 ⟨rfl, hw1'⟩
  have hC1 : CutAt w1 w.heap.size ⟨#[120]⟩ false := by rw [hw1']; exact Blk.new _ _ _
  have K1 : Kept [] w w1 := by rw [hw1']; exact (Kept.refl _ _).alloc _
  clear hw1'
  generalize hg : w.heap.size = g at hC1
  have HG := hide hg
  clear hg
  go_wp2_with fail
  refine (cutnum_any g _ false w1 (by decide) hC1).mono ?_
  rintro e w2 ⟨rfl, hC2, K2⟩
  rw [x_n]
  rw [x_s, x_b] at hC2
  have K2 := K1.trans K2 (by simp [HG.out])
  go_wp2_with fail
  refine (cutnum_any g _ true w2 (by decide) hC2).mono ?_
  rintro e w3 ⟨rfl, hC3, K3⟩
  rw [x_nb]
  rw [x_sb, x_bb] at hC3
  have K3 := K2.trans K3 (by simp [HG.out])
  go_wp2_with fail
  refine (newl_any w3).mono ?_
  rintro e w4 ⟨gl, rfl, hL4, K4, hgl⟩
  have hne : gl ≠ g := Blk.ne hL4 (Blk.kept0 hC3 K4) (by decide)
  have hC4 : CutAt w4 g ⟨#[120]⟩ true := Blk.kept0 hC3 K4
  have K4 := K3.trans0 K4
  have hgl : w.heap.size ≤ gl := Nat.le_trans K3.size hgl
  clear hC1 hC2 hC3 K1 K2 K3
  go_wp2_with fail
  refine (pid_any g _ w4 true (by decide) hC4 (by rw [x_nb]; decide) (by rw [x_nb]; decide)).mono ?_
  rintro e w5 ⟨rfl, hC5, K5⟩
  rw [x_nb]
  rw [x_sb, x_bb] at hC5
  have hL5 : LockAt w5 gl 0 (fun _ => 0) (fun _ => 0) := Blk.kept hL4 K5 (by simpa using hne)
  have K5 := K4.trans K5 (by simp [HG.out])
  clear hC4 hL4 K4
  have c0 : w5.cell? ⟨gl, 0, none⟩ = some (.int .i64 0) := Blk.cell hL5 0
  have f0 := Blk.free hL5 0
  have hL6 := hL5.setWr 0
  have hC6 : CutAt (w5.setCell ⟨gl, 0, none⟩ (.int .i64 0)) g ⟨#[120]⟩ true := Blk.far hC5 (p := ⟨gl, 0, none⟩) (Ne.symm hne) _
  have K6 : Kept [] w (w5.setCell ⟨gl, 0, none⟩ (.int .i64 0)) := K5.setCell (p := ⟨gl, 0, none⟩) (.inr hgl) _
  have HC6 := hide hC6
  clear hC5 hC6
  go_wp2
  go_step3
  go_wp2
  go_loopw [5, 10, 11, 12, 34] (fun rt _ _ _ i wz => ∃ k : Nat, k ≤ 8 ∧ rt = .bool false ∧ i = .int .i64 k ∧ CutAt wz g ⟨#[120]⟩ true ∧ LockAt wz gl 0 (fun _ => 0) (fun _ => 0) ∧ Kept [] w wz) (fun _ _ _ _ i _ => 8 - (intOf i).toNat)
  case atStart => exact ⟨0, Nat.zero_le _, rfl, rfl, HC6.out, hL6, K6⟩
  case round =>
    obtain ⟨k, hk, rfl, rfl, hC, hL, hK⟩ := hrel
    clear HC6 hL6 K6 hL5 K5 c0 f0
    by_cases hlt : k < 8
    · go_wp2_with fail
      refine (pid_any g _ wr true (by decide) hC (by rw [x_nb]; decide) (by rw [x_nb]; decide)).mono ?_
      rintro e w7 ⟨rfl, hC7, K7⟩
      rw [x_nb]
      rw [x_sb, x_bb] at hC7
      have hL7 : LockAt w7 gl 0 (fun _ => 0) (fun _ => 0) := Blk.kept hL K7 (by simpa using hne)
      have K7 := hK.trans K7 (by simp [HG.out])
      clear hC hL hK
      go_upto_region 12 with (fail)
      have hC7d : CutAt w7.drew g _ true := Blk.drew hC7
      have hL7d : LockAt w7.drew gl 0 (fun _ => 0) (fun _ => 0) := Blk.drew hL7
      have K7d : Kept [] w w7.drew := K7.drew
      go_region_held3 (fun _ : World => True) (trivial) (first | (go_at_call 45; refine (cutnum_any g _ true _ (by decide) hC7d).mono ?_; rintro e w8 ⟨rfl, hC8, K8⟩; rw [x_nb]; rw [x_sb, x_bb] at hC8; have hL8 : LockAt w8 gl 0 (fun _ => 0) (fun _ => 0) := Blk.kept hL7d K8 (by simpa using hne); have K8 := K7d.trans K8 (by simp [HG.out]); have d0 := hL8.pid hlt; have d1 := hL8.txn hlt; have f0 := Blk.free hL8 (1 + k * 2); have f1 := Blk.free hL8 (1 + k * 2 + 1)))
      have hL9 := (hL8.setPid hlt 0).setTxn hlt 0
      have hC9 : CutAt ((w8.setCell ⟨gl, 1 + k * 2, none⟩ (.int .i64 0)).setCell ⟨gl, 1 + k * 2 + 1, none⟩ (.int .u64 0)) g ⟨#[120]⟩ true := Blk.far (Blk.far hC8 (p := ⟨gl, 1 + k * 2, none⟩) (Ne.symm hne) _) (p := ⟨gl, 1 + k * 2 + 1, none⟩) (Ne.symm hne) _
      have K9 := (K8.setCell (p := ⟨gl, 1 + k * 2, none⟩) (.inr hgl) (.int .i64 0)).setCell (p := ⟨gl, 1 + k * 2 + 1, none⟩) (.inr hgl) (.int .u64 0)
      rw [upd_zero] at hL9
      generalize (w8.setCell ⟨gl, 1 + k * 2, none⟩ (.int .i64 0)).setCell ⟨gl, 1 + k * 2 + 1, none⟩ (.int .u64 0) = w9 at hL9 hC9 K9 ⊢
      have e1 := hL9.txn hlt
      clear d0 d1 f0 f1 hL8 hC8 hL7 hC7 hC7d hL7d
      have HC9 := hide hC9
      clear hC9
      go_wp2
      go_roundw
      case rel => exact ⟨k + 1, hlt, rfl, by go_num, HC9.out, hL9, K9⟩
      case measure => simp [intOf]; omega
    · obtain rfl : k = 8 := by omega
      clear hC hL
      go_upto_region 16 with (fail)
      go_quiet (fail)
      go_wp2
      rw [Exit.noGoto_ret]
      go_ret2
      exact ⟨rfl, hK.drewN _⟩
end Go.Proofs.YthifbmopfcfokaaDoor
