/- The lock as bytes. Conditions: the lock lies whole in a block; its numbers fit. -/
import Derived.Test.YthifbmopfcfokaaDoorLTake
import Derived.Test.YthifbmopfcfokaaDoorPackCutNum
import Derived.Deep.RegionHeld3
import Derived.IntWalk
namespace Go.Proofs.YthifbmopfcfokaaDoor
open Go.RowKit Go.Conc

/-- The bytes of a lock up to slot k. -/
def lockB (ow : Int) (p t : Nat → Int) : Nat → ByteArray
  | 0 => numS 4242 ++ numS 1 ++ numS ow
  | k + 1 => lockB ow p t k ++ (numS (p k) ++ numS (t k))
theorem lockB_size (ow : Int) (p t : Nat → Int) : ∀ k, (lockB ow p t k).size = 24 + 16 * k
  | 0 => by simp [lockB, ByteArray.size_append, numS_size]
  | k + 1 => by simp [lockB, ByteArray.size_append, numS_size, lockB_size ow p t k]; omega

section
variable (g : Nat) (ow : Int) (p t : Nat → Int) (w : World)
set_option maxRecDepth 100000 in
theorem bytes_any (h : LockAt w g ow p t) (hw0 : 0 ≤ ow) (hw1 : ow < 18446744073709551616) (hb : ∀ k, k < 8 → 0 ≤ p k ∧ p k < 18446744073709551616 ∧ 0 ≤ t k ∧ t k < 18446744073709551616) :
    Calls Tryd.prog 27 #[.pointer (some ⟨g, 0, none⟩)] w fun e w' => e = .returned (.string (lockB ow p t 8)) ∧ Kept [] w w' := by
  have HB := hide hb
  have hgl := Blk.lt h
  have HL := hide h
  clear h hb
  have hcell : ∀ W, Kept [] w W → W.cell? ⟨g, 0, none⟩ = some (.int .i64 ow) := fun W hW => (Blk.kept0 HL.out hW).cell 0
  have HC := hide hcell
  clear hcell
  go_enter Tryd.func27, Tryd.ntmps27
  have hz := numS_size
  go_upto_region 1 with (fail)
  have K0 : Kept [] w w.drew := (Kept.refl _ _).drew
  have hu : IntKind.u64.wrap ow = ow := IntWalk.u64_in _ (by omega)
  go_region_held3 (fun W : World => W.cell? ⟨g, 0, none⟩ = some (.int .i64 ow)) (exact HC.out _ K0) (first | (go_at_call 41; refine (num_any _ (by omega) (by omega) _).mono ?_; rintro e w' ⟨rfl, k8⟩; have K0 := K0.trans0 k8))
  clear hz hu
  rw [show numS 4242 ++ numS 1 ++ numS ow = lockB ow p t 0 from rfl]
  have HL2 : LockAt w' g ow p t := Blk.kept0 HL.out K0
  have hgl2 := Blk.lt HL2
  obtain ⟨c1, c2, c3, c4, c5, c6, c7, c8, c9, c10, c11, c12, c13, c14, c15, c16⟩ := HL2.cells
  clear HL2
  go_wp2
  clear c1 c2 c3 c4 c5 c6 c7 c8 c9 c10 c11 c12 c13 c14 c15 c16
  have HI := hide (idx_all p t)
  generalize hsv : slotsV p t = sv at HI
  unfold slotsV at hsv
  rw [hsv]
  clear hsv
  go_loopw [3, 5, 20] (fun s _ i wz => ∃ k : Nat, k ≤ 8 ∧ i = .int .i64 k ∧ s = .string (lockB ow p t k) ∧ Kept [] w wz) (fun _ _ i _ => 8 - (intOf i).toNat)
  case atStart => exact ⟨0, Nat.zero_le _, rfl, rfl, K0⟩
  case round =>
    obtain ⟨k, hk, rfl, rfl, hK⟩ := hrel
    by_cases hlt : k < 8
    · have hi := HI.out k hlt
      have hb := HB.out k hlt
      have hsz := lockB_size ow p t k
      have HS := hide (show lockB ow p t (k + 1) = lockB ow p t k ++ (numS (p k) ++ numS (t k)) from rfl)
      generalize lockB ow p t k = s at HS hsz
      generalize p k = x at hi hb HS
      generalize t k = y at hi hb HS
      obtain ⟨x0, x1, y0, y1⟩ := hb
      go_upto_region 5 with (fail)
      have hx : IntKind.u64.wrap x = x := IntWalk.u64_in _ (by omega)
      have hz := numS_size
      have hq : ¬ (9223372036854775807 < s.size + 16) := by omega
      clear hsz
      have K1 : Kept [] w (wr.alloc (.cells #[.int .i64 x, .int .u64 y] 31)).drew := (hK.alloc _).drew
      have K2 : Kept [] (wr.alloc (.cells #[.int .i64 x, .int .u64 y] 31)).drew (wr.alloc (.cells #[.int .i64 x, .int .u64 y] 31)).drew := Kept.refl _ _
      have hbk : Blk (wr.alloc (.cells #[.int .i64 x, .int .u64 y] 31)).drew wr.heap.size 31 #[.int .i64 x, .int .u64 y] := Blk.drew (Blk.new _ _ _)
      have hcell2 : ∀ W, Kept [] (wr.alloc (.cells #[.int .i64 x, .int .u64 y] 31)).drew W → W.cell? ⟨wr.heap.size, 0, none⟩ = some (.int .i64 x) ∧ W.cell? ⟨wr.heap.size, 1, none⟩ = some (.int .u64 y) := fun W hW => ⟨(hbk.kept0 hW).cell 0, (hbk.kept0 hW).cell 1⟩
      have HC2 := hide hcell2
      clear hcell2 hbk
      go_region_held3 (fun W : World => W.cell? ⟨wr.heap.size, 0, none⟩ = some (.int .i64 x) ∧ W.cell? ⟨wr.heap.size, 1, none⟩ = some (.int .u64 y)) (exact HC2.out _ K2) (first | (go_at_call 41; refine (num_any _ (by omega) (by omega) _).mono ?_; rintro e w' ⟨rfl, k8⟩; have K1 := K1.trans0 k8; have K2 := K2.trans0 k8))
      all_goals
        clear hz hx hq
        go_wp2
        go_roundw
        case rel => exact ⟨k + 1, hlt, by go_num, by rw [HS.out], K1⟩
        case measure => simp [intOf]; omega
    · obtain rfl : k = 8 := by omega
      go_wp2
      go_ret
      exact ⟨rfl, hK⟩
end
end Go.Proofs.YthifbmopfcfokaaDoor
