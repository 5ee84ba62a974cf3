/- The lock: Sweep frees the slots of the dead. Conditions: the lock lies whole in a block, beside processes. -/
import Derived.Test.YthifbmopfcfokaaDoorLTake
namespace Go.Proofs.YthifbmopfcfokaaDoor
open Go.RowKit Go.Conc

/-- Whether a slot's process is dead. -/
def dead (p : Nat → Int) (l : List Int) (i : Nat) : Bool := decide (0 < p i) && !decide (p i ∈ l)
/-- What is left of f when the first k slots are swept. -/
def swp (p f : Nat → Int) (l : List Int) (k : Nat) : Nat → Int := fun i => if i < k ∧ dead p l i = true then 0 else f i
/-- How many dead there are among the first k. -/
def cnt (p : Nat → Int) (l : List Int) : Nat → Int
  | 0 => 0
  | k + 1 => if dead p l k = true then cnt p l k + 1 else cnt p l k
theorem swp_zero (p f : Nat → Int) (l : List Int) : swp p f l 0 = f := by
  funext i
  simp [swp]
theorem swp_dead {p f : Nat → Int} {l : List Int} {k : Nat} (h : dead p l k = true) : swp p f l (k + 1) = upd (swp p f l k) k 0 := by
  funext i
  unfold swp upd
  by_cases hi : i = k
  · subst hi
    simp [h]
  · have e : i < k + 1 ↔ i < k := by omega
    simp [hi, e]
theorem swp_live {p f : Nat → Int} {l : List Int} {k : Nat} (h : dead p l k = false) : swp p f l (k + 1) = swp p f l k := by
  funext i
  unfold swp
  by_cases hi : i = k
  · subst hi
    simp [h]
  · have e : i < k + 1 ↔ i < k := by omega
    simp [e]
theorem cnt_bd (p : Nat → Int) (l : List Int) : ∀ k, 0 ≤ cnt p l k ∧ cnt p l k ≤ k
  | 0 => ⟨Int.le_refl _, Int.le_refl _⟩
  | k + 1 => by
    have := cnt_bd p l k
    unfold cnt
    split <;> omega

section
variable (a : World) (gl g : Nat) (wr : Int) (p t : Nat → Int) (l : List Int) (last : Int) (w : World)
set_option maxRecDepth 100000 in
theorem sweep_P (h : LP a w gl g wr p t l last) : Calls Tryd.prog 18 #[.pointer (some ⟨gl, 0, none⟩), .pointer (some ⟨g, 0, none⟩)] w fun e w' => e = .returned (.int .i64 (cnt p l 8)) ∧ LP a w' gl g wr (swp p p l 8) (swp p t l 8) l last := by
  have hgl := Blk.lt h.1
  obtain ⟨c1, c2, c3, c4, c5, c6, c7, c8, c9, c10, c11, c12, c13, c14, c15, c16⟩ := h.1.cells
  have HL := hide h
  clear h
  go_enter Tryd.func18, Tryd.ntmps18
  go_wp2
  clear c1 c2 c3 c4 c5 c6 c7 c8 c9 c10 c11 c12 c13 c14 c15 c16
  have HI := hide (idx_all p t)
  generalize hsv : slotsV p t = sv at HI
  unfold slotsV at hsv
  rw [hsv]
  clear hsv
  go_loopw [5, 6, 7, 12] (fun n _ _ i wz => ∃ k : Nat, k ≤ 8 ∧ i = .int .i64 k ∧ n = .int .i64 (cnt p l k) ∧ LP a wz gl g wr (swp p p l k) (swp p t l k) l last) (fun _ _ _ i _ => 8 - (intOf i).toNat)
  case atStart => exact ⟨0, Nat.zero_le _, rfl, rfl, by rw [swp_zero, swp_zero]; exact HL.out⟩
  case round =>
    obtain ⟨k, hk, rfl, rfl, hP⟩ := hrel
    by_cases hlt : k < 8
    · have hi := HI.out k hlt
      have hc := cnt_bd p l k
      have hP2 := hP.kept0 ((Kept.refl _ _).alloc (.cells #[.int .i64 (p k), .int .u64 (t k)] 31))
      by_cases h0 : 0 < p k
      · by_cases hm : p k ∈ l
        · have hd : dead p l k = false := by simp [dead, hm]
          have HX : Hid (swp p p l (k + 1) = swp p p l k ∧ swp p t l (k + 1) = swp p t l k ∧ cnt p l (k + 1) = cnt p l k) := hide ⟨swp_live hd, swp_live hd, if_neg (by simp [hd])⟩
          have HM := hide (decide_eq_true hm)
          clear hd hm hP
          have HQ := hide hP2
          clear hP2
          generalize t k = y at hi HQ
          generalize p k = x at hi h0 HM HQ
          generalize cnt p l k = n at hc HX
          go_wp2_with fail
          refine (lives_L a g l last _ _ x HQ.out.2.2).mono ?_
          rintro e w' ⟨rfl, rfl⟩
          rw [HM.out]
          go_wp2
          go_roundw
          case rel => exact ⟨k + 1, hlt, by go_num, by rw [HX.out.2.2], by rw [HX.out.1, HX.out.2.1]; exact HQ.out⟩
          case measure => simp [intOf]; omega
        · have hd : dead p l k = true := by simp [dead, hm, h0]
          have HX : Hid (swp p p l (k + 1) = upd (swp p p l k) k 0 ∧ swp p t l (k + 1) = upd (swp p t l k) k 0 ∧ cnt p l (k + 1) = cnt p l k + 1) := hide ⟨swp_dead hd, swp_dead hd, if_pos hd⟩
          have HM := hide (decide_eq_false hm)
          clear hd hm hP
          have d0 := hP2.1.pid hlt
          have d1 := hP2.1.txn hlt
          have f0 := Blk.free hP2.1 (1 + k * 2)
          have f1 := Blk.free hP2.1 (1 + k * 2 + 1)
          have HQ := hide hP2
          clear hP2
          generalize t k = y at hi HQ d0 d1 f0 f1
          generalize p k = x at hi h0 HM HQ d0 d1 f0 f1
          generalize cnt p l k = n at hc HX
          go_wp2_with fail
          refine (lives_L a g l last _ _ x HQ.out.2.2).mono ?_
          rintro e w' ⟨rfl, rfl⟩
          rw [HM.out]
          go_wp2
          go_roundw
          case rel => exact ⟨k + 1, hlt, by go_num, by rw [HX.out.2.2], by rw [HX.out.1, HX.out.2.1]; exact HQ.out.stepL ((HQ.out.1.setPid hlt 0).setTxn hlt 0) (((Kept.refl _ _).setCell (by simp) _).setCell (by simp) _)⟩
          case measure => simp [intOf]; omega
      · have hd : dead p l k = false := by simp [dead, h0]
        have HX : Hid (swp p p l (k + 1) = swp p p l k ∧ swp p t l (k + 1) = swp p t l k ∧ cnt p l (k + 1) = cnt p l k) := hide ⟨swp_live hd, swp_live hd, if_neg (by simp [hd])⟩
        clear hd hP
        have HQ := hide hP2
        clear hP2
        generalize t k = y at hi HQ
        generalize p k = x at hi h0 HQ
        generalize cnt p l k = n at hc HX
        go_wp2
        go_roundw
        case rel => exact ⟨k + 1, hlt, by go_num, by rw [HX.out.2.2], by rw [HX.out.1, HX.out.2.1]; exact HQ.out⟩
        case measure => simp [intOf]; omega
    · obtain rfl : k = 8 := by omega
      go_wp2
      go_ret
      exact ⟨rfl, hP⟩
end
end Go.Proofs.YthifbmopfcfokaaDoor
