/- The reference's lock: Sweep, its bytes; the program's lock held against it. Conditions: the lock lies whole in a block; numbers fit their types. -/
import Derived.Test.YthifbmopfcfokaaDoorRLock
import Derived.Test.YthifbmopfcfokaaDoorLSweep
import Derived.Test.YthifbmopfcfokaaDoorLSlots
import Derived.Test.YthifbmopfcfokaaDoorLBytes
import Derived.IntWalk
namespace Go.Proofs.YthifbmopfcfokaaDoor
open Go.RowKit

theorem swp_at (p f : Nat → Int) (l : List Int) (k : Nat) : swp p f l k k = f k := by simp [swp]
theorem rp_ne {w : World} {base g : Nat} {v : Value} {l : List Int} {b : Nat} {t : TypeId} {cs : Array Value} (h : Own w base v l) (hb : Blk w b t cs) (hne : 3 ≠ t) (hg : v.ownBlock = some g) : g ≠ b := by
  rcases h.2 with ⟨rfl, _⟩ | ⟨g', cap, cur, rfl, _, hh, _⟩
  · simp [Value.ownBlock] at hg
  · have : g' = g := by simpa [Value.ownBlock] using hg
    subst this
    exact Blk.ne (t := 3) (cs := cur) hh hb hne
theorem RefProcs.far {w w' : World} {base g b : Nat} {v : Value} {l : List Int} {last : Int} {cs : Array Value} {t : TypeId} (h : RefProcs w base g v l last) (hb : Blk w b t cs) (h1 : 38 ≠ t) (h2 : 3 ≠ t) (k : Kept [b] w w') : RefProcs w' base g v l last :=
  ⟨Blk.kept h.1 k (by simpa using Blk.ne (show Blk w g 38 _ from h.1) hb h1), h.2.kept k (fun x hx => by simpa using rp_ne h.2 hb h2 hx)⟩

section
variable (g : Nat) (wr : Int) (p t : Nat → Int) (w : World) (base rp : Nat) (v : Value) (l : List Int) (last : Int)
set_option maxRecDepth 100000 in
theorem rsweep_any (h : RLockAt w g wr p t) (hp : RefProcs w base rp v l last) (h0 : ∀ k, k < 8 → 0 ≤ p k) : Calls Tryd.prog 19 #[.pointer (some ⟨g, 0, none⟩), .pointer (some ⟨rp, 0, none⟩)] w fun e w' => e = .returned (.int .i64 (cnt p l 8)) ∧ RLockAt w' g wr (swp p p l 8) (swp p t l 8) ∧ Kept [g] w w' := by
  have HL := hide h
  have HP := hide hp
  have HN := hide h0
  clear h hp h0
  go_enter Tryd.func19, Tryd.ntmps19
  go_wp2
  go_loopw [5, 6] (fun n i wz => ∃ k : Nat, k ≤ 8 ∧ i = .int .i64 k ∧ n = .int .i64 (cnt p l k) ∧ Hid (RLockAt wz g wr (swp p p l k) (swp p t l k)) ∧ Hid (Kept [g] w wz)) (fun _ i _ => 8 - (intOf i).toNat)
  case atStart => exact ⟨0, Nat.zero_le _, rfl, rfl, hide (by rw [swp_zero, swp_zero]; exact HL.out), hide (Kept.refl _ _)⟩
  case round =>
    obtain ⟨k, hk, rfl, rfl, hL, hK⟩ := hrel
    by_cases hlt : k < 8
    · have hc := cnt_bd p l k
      have c0 := hL.out.pid hlt
      have c1 := hL.out.txn hlt
      have f0 := Blk.free hL.out (1 + k * 2)
      have f1 := Blk.free hL.out (1 + k * 2 + 1)
      rw [swp_at] at c0 c1
      have HPW := hide (HP.out.far HL.out (by decide) (by decide) hK.out)
      have hx0 := HN.out k hlt
      by_cases h0 : p k = 0
      · have hd : dead p l k = false := by simp [dead, h0]
        have HX : Hid (swp p p l (k + 1) = swp p p l k ∧ swp p t l (k + 1) = swp p t l k ∧ cnt p l (k + 1) = cnt p l k) := hide ⟨swp_live hd, swp_live hd, if_neg (by simp [hd])⟩
        rw [h0] at c0
        clear hd h0 hx0
        generalize cnt p l k = n at hc HX
        go_wp2
        go_roundw
        case rel => exact ⟨k + 1, hlt, by go_num, by rw [HX.out.2.2], by rw [HX.out.1, HX.out.2.1]; exact hL, hK⟩
        case measure => simp [intOf]; omega
      · have hb : (p k != 0) = true := by simp [h0]
        by_cases hm : p k ∈ l
        · have hd : dead p l k = false := by simp [dead, hm]
          have HX : Hid (swp p p l (k + 1) = swp p p l k ∧ swp p t l (k + 1) = swp p t l k ∧ cnt p l (k + 1) = cnt p l k) := hide ⟨swp_live hd, swp_live hd, if_neg (by simp [hd])⟩
          have HM := hide (decide_eq_true hm)
          clear hd hm h0 hx0
          generalize p k = x at c0 hb HM
          generalize cnt p l k = n at hc HX
          go_wp2_with fail
          refine (livesr_any base rp v l last _ x HPW.out).mono ?_
          rintro e w' ⟨rfl, rfl⟩
          rw [HM.out]
          go_wp2
          go_roundw
          case rel => exact ⟨k + 1, hlt, by go_num, by rw [HX.out.2.2], by rw [HX.out.1, HX.out.2.1]; exact hL, hK⟩
          case measure => simp [intOf]; omega
        · have hd : dead p l k = true := by simp [dead, hm]; omega
          have HX : Hid (swp p p l (k + 1) = upd (swp p p l k) k 0 ∧ swp p t l (k + 1) = upd (swp p t l k) k 0 ∧ cnt p l (k + 1) = cnt p l k + 1) := hide ⟨swp_dead hd, swp_dead hd, if_pos hd⟩
          have HM := hide (decide_eq_false hm)
          clear hd hm h0 hx0
          generalize p k = x at c0 hb HM
          generalize t k = y at c1
          generalize cnt p l k = n at hc HX
          go_wp2_with fail
          refine (livesr_any base rp v l last _ x HPW.out).mono ?_
          rintro e w' ⟨rfl, rfl⟩
          rw [HM.out]
          go_wp2
          go_roundw
          case rel => exact ⟨k + 1, hlt, by go_num, by rw [HX.out.2.2], by rw [HX.out.1, HX.out.2.1]; exact hide ((hL.out.setPid hlt 0).setTxn hlt 0), hide ((hK.out.setCell (by simp) _).setCell (by simp) _)⟩
          case measure => simp [intOf]; omega
    · obtain rfl : k = 8 := by omega
      go_wp2
      go_ret
      exact ⟨rfl, hL.out, hK.out⟩

set_option maxRecDepth 100000 in
theorem rnum_any (n : Int) (h0 : 0 ≤ n) (h1 : n < 18446744073709551616) (w : World) : Calls Tryd.prog 43 #[.int .i64 n] w fun e w' => e = .returned (.string (numS n)) ∧ Kept [] w w' := by
  have hu : IntKind.u64.wrap n = n := IntWalk.u64_in _ (by omega)
  go_enter Tryd.func43, Tryd.ntmps43
  go_wp2_with fail
  refine (numr_any n h0 h1 w).mono ?_
  rintro e w' ⟨rfl, k⟩
  go_wp2
  go_ret
  exact ⟨rfl, k⟩

set_option maxRecDepth 100000 in
theorem rbytes_any (ow : Int) (h : RLockAt w g ow p t) (hw0 : 0 ≤ ow) (hw1 : ow < 18446744073709551616) (hb : ∀ k, k < 8 → 0 ≤ p k ∧ p k < 18446744073709551616 ∧ 0 ≤ t k ∧ t k < 18446744073709551616) :
    Calls Tryd.prog 28 #[.pointer (some ⟨g, 0, none⟩)] w fun e w' => e = .returned (.string (lockB ow p t 8)) ∧ Kept [] w w' := by
  have HB := hide hb
  have HL := hide h
  clear h hb
  have HC : Hid (∀ W, Kept [] w W → W.cell? ⟨g, 0, none⟩ = some (.int .i64 ow)) := hide fun W hW => (Blk.kept0 HL.out hW).cell 0
  go_enter Tryd.func28, Tryd.ntmps28
  have hz := numS_size
  go_upto_region 1 with (fail)
  have K0 : Kept [] w w.drew := (Kept.refl _ _).drew
  go_region_held3 (fun W : World => W.cell? ⟨g, 0, none⟩ = some (.int .i64 ow)) (exact HC.out _ K0) (first
    | (go_at_call 42; refine (numr_any _ (by omega) (by omega) _).mono ?_; rintro e w' ⟨rfl, k8⟩; have K0 := K0.trans0 k8)
    | (go_at_call 43; refine (rnum_any _ (by omega) (by omega) _).mono ?_; rintro e w' ⟨rfl, k8⟩; have K0 := K0.trans0 k8))
  all_goals
    clear hz
    rw [show numS 4242 ++ numS 1 ++ numS ow = lockB ow p t 0 from rfl]
    go_wp2
    go_loopw [3, 4] (fun s i wz => ∃ k : Nat, k ≤ 8 ∧ i = .int .i64 k ∧ s = .string (lockB ow p t k) ∧ Kept [] w wz) (fun _ i _ => 8 - (intOf i).toNat)
    case atStart => exact ⟨0, Nat.zero_le _, rfl, rfl, K0⟩
    case round =>
      obtain ⟨k, hk, rfl, rfl, hK⟩ := hrel
      by_cases hlt : k < 8
      · have hb := HB.out k hlt
        have hsz := lockB_size ow p t k
        have HS := hide (show lockB ow p t (k + 1) = lockB ow p t k ++ (numS (p k) ++ numS (t k)) from rfl)
        have HCC : Hid (∀ W, Kept [] w W → W.cell? ⟨g, 1 + k * 2, none⟩ = some (.int .i64 (p k)) ∧ W.cell? ⟨g, 1 + k * 2 + 1, none⟩ = some (.int .u64 (t k))) := hide fun W hW => ⟨RLockAt.pid (Blk.kept0 HL.out hW) hlt, RLockAt.txn (Blk.kept0 HL.out hW) hlt⟩
        generalize lockB ow p t k = s at HS hsz
        generalize p k = x at hb HS HCC
        generalize t k = y at hb HS HCC
        obtain ⟨x0, x1, y0, y1⟩ := hb
        go_upto_region 5 with (fail)
        have hz := numS_size
        have hq : ¬ (9223372036854775807 < s.size + 16) := by omega
        have hq1 : ¬ (9223372036854775807 < s.size + 8) := by omega
        have hq2 : ¬ (9223372036854775807 < s.size + 8 + 8) := by omega
        clear hsz
        have K1 : Kept [] w wr.drew := hK.drew
        go_region_held3 (fun W : World => W.cell? ⟨g, 1 + k * 2, none⟩ = some (.int .i64 x) ∧ W.cell? ⟨g, 1 + k * 2 + 1, none⟩ = some (.int .u64 y)) (exact HCC.out _ K1) (first
          | (go_at_call 42; refine (numr_any _ (by omega) (by omega) _).mono ?_; rintro e w' ⟨rfl, k8⟩; have K1 := K1.trans0 k8)
          | (go_at_call 43; refine (rnum_any _ (by omega) (by omega) _).mono ?_; rintro e w' ⟨rfl, k8⟩; have K1 := K1.trans0 k8))
        all_goals
          clear hz hq
          go_wp2
          go_roundw
          case rel => exact ⟨k + 1, hlt, by go_num, by rw [HS.out, ByteArray.append_assoc], K1⟩
          case measure => simp [intOf]; omega
      · obtain rfl : k = 8 := by omega
        go_wp2
        go_ret
        exact ⟨rfl, hK⟩
end
end Go.Proofs.YthifbmopfcfokaaDoor
