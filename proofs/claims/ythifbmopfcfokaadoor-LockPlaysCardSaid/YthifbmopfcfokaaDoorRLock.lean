/- The reference's lock: Take, Release, Claim, owns, Publish, Free, Oldest. Conditions: the lock lies whole in a block; numbers fit their types. -/
import Derived.Test.YthifbmopfcfokaaDoorLTake
import Derived.Test.YthifbmopfcfokaaDoorDuo
namespace Go.Proofs.YthifbmopfcfokaaDoor
open Go.RowKit

/-- The reference's lock at g. -/
def RLockAt (w : World) (g : Nat) (wr : Int) (p t : Nat → Int) : Prop := Blk w g 34 (lockC wr p t)
section
variable {w w' : World} {g : Nat} {wr : Int} {p t : Nat → Int}
theorem RLockAt.pid (h : RLockAt w g wr p t) {k : Nat} (hk : k < 8) : w.cell? ⟨g, 1 + k * 2, none⟩ = some (.int .i64 (p k)) := by
  rw [Blk.cell h]
  match k, hk with
  | 0, _ | 1, _ | 2, _ | 3, _ | 4, _ | 5, _ | 6, _ | 7, _ => rfl
theorem RLockAt.txn (h : RLockAt w g wr p t) {k : Nat} (hk : k < 8) : w.cell? ⟨g, 1 + k * 2 + 1, none⟩ = some (.int .u64 (t k)) := by
  rw [Blk.cell h]
  match k, hk with
  | 0, _ | 1, _ | 2, _ | 3, _ | 4, _ | 5, _ | 6, _ | 7, _ => rfl
theorem RLockAt.setPid (h : RLockAt w g wr p t) {k : Nat} (hk : k < 8) (x : Int) : RLockAt (w.setCell ⟨g, 1 + k * 2, none⟩ (.int .i64 x)) g wr (upd p k x) t := by
  have h1 := Blk.set h (1 + k * 2) (.int .i64 x)
  match k, hk with
  | 0, _ | 1, _ | 2, _ | 3, _ | 4, _ | 5, _ | 6, _ | 7, _ => exact h1
theorem RLockAt.setTxn (h : RLockAt w g wr p t) {k : Nat} (hk : k < 8) (x : Int) : RLockAt (w.setCell ⟨g, 1 + k * 2 + 1, none⟩ (.int .u64 x)) g wr p (upd t k x) := by
  have h1 := Blk.set h (1 + k * 2 + 1) (.int .u64 x)
  match k, hk with
  | 0, _ | 1, _ | 2, _ | 3, _ | 4, _ | 5, _ | 6, _ | 7, _ => exact h1
theorem RLockAt.setWr (h : RLockAt w g wr p t) (x : Int) : RLockAt (w.setCell ⟨g, 0, none⟩ (.int .i64 x)) g x p t := Blk.set h 0 _
end
theorem fl_head {p : Nat → Int} {j : Nat} {r : List Nat} (h : fl p 8 = j :: r) : j < 8 ∧ p j = 0 ∧ ∀ i, i < j → p i ≠ 0 := by
  have hj := fl_mem.1 (by rw [h]; simp : j ∈ fl p 8)
  refine ⟨hj.1, hj.2, fun i hi h0 => ?_⟩
  have hs : (fl p 8).Pairwise (· < ·) := List.Pairwise.filter _ List.pairwise_lt_range
  have hm : i ∈ fl p 8 := fl_mem.2 ⟨by omega, h0⟩
  rw [h] at hs hm
  rcases List.mem_cons.1 hm with rfl | hm
  · omega
  · have := (List.pairwise_cons.1 hs).1 i hm
    omega
theorem fl_none {p : Nat → Int} (h : fl p 8 = []) : ∀ i, i < 8 → p i ≠ 0 := fun i hi h0 => by
  have := fl_mem.2 ⟨hi, h0⟩
  rw [h] at this
  exact absurd this (by simp)

section
variable (g : Nat) (wr : Int) (p t : Nat → Int) (w : World) (base rp : Nat) (v : Value) (l : List Int) (last : Int)
set_option maxRecDepth 100000 in
theorem rtake_no (q : Int) (h : RLockAt w g wr p t) (hp : RefProcs w base rp v l last) (hw : 0 ≤ wr) (ht : takes wr q l = false) : Calls Tryd.prog 8 #[.pointer (some ⟨g, 0, none⟩), .int .i64 q, .pointer (some ⟨rp, 0, none⟩)] w fun e w' => e = .returned (.bool false) ∧ w = w' := by
  have c0 : w.cell? ⟨g, 0, none⟩ = some (.int .i64 wr) := Blk.cell h 0
  have HP := hide hp
  clear h hp
  by_cases hq : q < 1
  · clear ht
    go_enter Tryd.func8, Tryd.ntmps8
    go_wp2
    go_ret
    exact ⟨rfl, rfl⟩
  · have h0 : wr ≠ 0 := fun e => by
      subst e
      have : takes 0 q l = true := by simp [takes]; omega
      rw [this] at ht
      cases ht
    have hb0 : (wr != 0) = true := by simp [h0]
    by_cases hl : wr ∈ l
    · have HM := hide (decide_eq_true hl)
      clear ht h0 hl
      go_enter Tryd.func8, Tryd.ntmps8
      go_wp2_with fail
      refine (livesr_any base rp v l last w wr HP.out).mono ?_
      rintro e w' ⟨rfl, rfl⟩
      rw [HM.out]
      go_wp2
      go_ret
      exact ⟨rfl, rfl⟩
    · have he : wr = q := by
        by_cases he : wr = q
        · exact he
        · have : takes wr q l = true := by simp [takes, he, hl]; omega
          rw [this] at ht
          cases ht
      subst he
      have HM := hide (decide_eq_false hl)
      clear ht h0 hl
      go_enter Tryd.func8, Tryd.ntmps8
      go_wp2_with fail
      refine (livesr_any base rp v l last w wr HP.out).mono ?_
      rintro e w' ⟨rfl, rfl⟩
      rw [HM.out]
      go_wp2
      go_ret
      exact ⟨rfl, rfl⟩
set_option maxRecDepth 100000 in
theorem rtake_yes (q : Int) (h : RLockAt w g wr p t) (hp : RefProcs w base rp v l last) (hw : 0 ≤ wr) (ht : takes wr q l = true) : Calls Tryd.prog 8 #[.pointer (some ⟨g, 0, none⟩), .int .i64 q, .pointer (some ⟨rp, 0, none⟩)] w fun e w' => e = .returned (.bool true) ∧ RLockAt w' g q p t ∧ Kept [g] w w' := by
  have c0 : w.cell? ⟨g, 0, none⟩ = some (.int .i64 wr) := Blk.cell h 0
  have f0 := Blk.free h 0
  have HP := hide hp
  have HL := hide h
  clear h hp
  simp [takes] at ht
  obtain ⟨⟨hq, hne⟩, hl⟩ := ht
  have hb : (wr == q) = false := by simp [hne]
  by_cases h0 : wr = 0
  · subst h0
    clear hl hne
    go_enter Tryd.func8, Tryd.ntmps8
    go_wp2
    go_ret
    exact ⟨rfl, HL.out.setWr q, (Kept.refl _ _).setCell (by simp) _⟩
  · have hb0 : (wr != 0) = true := by simp [h0]
    have HM : Hid (decide (wr ∈ l) = false) := hide (decide_eq_false (by
      rcases hl with h1 | h1
      · omega
      · exact h1))
    clear hl hne h0
    go_enter Tryd.func8, Tryd.ntmps8
    go_wp2_with fail
    refine (livesr_any base rp v l last w wr HP.out).mono ?_
    rintro e w' ⟨rfl, rfl⟩
    rw [HM.out]
    go_wp2
    go_ret
    exact ⟨rfl, HL.out.setWr q, (Kept.refl _ _).setCell (by simp) _⟩
set_option maxRecDepth 100000 in
theorem rrelease_no (q : Int) (h : RLockAt w g wr p t) (ho : q ≤ 0 ∨ wr ≠ q) : Calls Tryd.prog 10 #[.pointer (some ⟨g, 0, none⟩), .int .i64 q] w fun e w' => e = .returned (.bool false) ∧ w = w' := by
  have c0 : w.cell? ⟨g, 0, none⟩ = some (.int .i64 wr) := Blk.cell h 0
  clear h
  by_cases hq : q < 1
  · clear ho
    go_enter Tryd.func10, Tryd.ntmps10
    go_wp2
    go_ret
    exact ⟨rfl, rfl⟩
  · have hne : wr ≠ q := ho.resolve_left (by omega)
    have hb : (wr != q) = true := by simp [hne]
    clear ho hne
    go_enter Tryd.func10, Tryd.ntmps10
    go_wp2
    go_ret
    exact ⟨rfl, rfl⟩
set_option maxRecDepth 100000 in
theorem rrelease_own (h : RLockAt w g wr p t) (hq : 0 < wr) : Calls Tryd.prog 10 #[.pointer (some ⟨g, 0, none⟩), .int .i64 wr] w fun e w' => e = .returned (.bool true) ∧ RLockAt w' g 0 p t ∧ Kept [g] w w' := by
  have HL := hide h
  have c0 : w.cell? ⟨g, 0, none⟩ = some (.int .i64 wr) := Blk.cell h 0
  have f0 := Blk.free h 0
  have hq1 : ¬ wr < 1 := by omega
  clear h
  go_enter Tryd.func10, Tryd.ntmps10
  go_wp2
  go_ret
  exact ⟨rfl, HL.out.setWr 0, (Kept.refl _ _).setCell (by simp) _⟩

set_option maxRecDepth 100000 in
theorem rclaim_first (q : Int) (j : Nat) (r : List Nat) (hq : 0 < q) (h : RLockAt w g wr p t) (hf : fl p 8 = j :: r) : Calls Tryd.prog 12 #[.pointer (some ⟨g, 0, none⟩), .int .i64 q] w fun e w' => e = .returned (.tuple #[.int .i64 j, .int .i64 0]) ∧ RLockAt w' g wr (upd p j q) (upd t j 0) ∧ Kept [g] w w' := by
  obtain ⟨hj, hj0, hjn⟩ := fl_head hf
  have HL := hide h
  have HJ0 := hide hj0
  have HJN := hide hjn
  clear h hf hj0 hjn
  go_enter Tryd.func12, Tryd.ntmps12
  go_wp2
  go_loop [6] (fun i => ∃ k : Nat, k ≤ j ∧ i = .int .i64 k) (fun i => 8 - (intOf i).toNat)
  case atStart => exact ⟨0, Nat.zero_le _, rfl⟩
  case round =>
    obtain ⟨k, hk, rfl⟩ := hrel
    have hk8 : k < 8 := by omega
    have c0 := HL.out.pid hk8
    by_cases hlt : k < j
    · have hx := HJN.out k hlt
      generalize p k = x at c0 hx
      have hb : (x == 0) = false := by simp [hx]
      clear hx
      go_wp2
      go_round
      case rel => exact ⟨k + 1, hlt, by go_num⟩
      case measure => simp [intOf]; omega
    · obtain rfl : k = j := by omega
      rw [HJ0.out] at c0
      have c1 := HL.out.txn hk8
      have f0 := Blk.free HL.out (1 + k * 2)
      have f1 := Blk.free HL.out (1 + k * 2 + 1)
      go_wp2
      go_ret2
      exact ⟨rfl, (HL.out.setPid hj q).setTxn hj 0, ((Kept.refl _ _).setCell (by simp) _).setCell (by simp) _⟩
set_option maxRecDepth 100000 in
theorem rclaim_full (q : Int) (h : RLockAt w g wr p t) (hn : ∀ k, k < 8 → p k ≠ 0) (hq : 0 < q) : Calls Tryd.prog 12 #[.pointer (some ⟨g, 0, none⟩), .int .i64 q] w fun e w' => e = .returned (.tuple #[.int .i64 (-1), .int .i64 15]) ∧ w = w' := by
  have HL := hide h
  have HN := hide hn
  clear h hn
  go_enter Tryd.func12, Tryd.ntmps12
  go_wp2
  go_loop [6] (fun i => ∃ k : Nat, k ≤ 8 ∧ i = .int .i64 k) (fun i => 8 - (intOf i).toNat)
  case atStart => exact ⟨0, Nat.zero_le _, rfl⟩
  case round =>
    obtain ⟨k, hk, rfl⟩ := hrel
    by_cases hlt : k < 8
    · have c0 := HL.out.pid hlt
      have hx := HN.out k hlt
      generalize p k = x at c0 hx
      have hb : (x == 0) = false := by simp [hx]
      clear hx
      go_wp2
      go_round
      case rel => exact ⟨k + 1, hlt, by go_num⟩
      case measure => simp [intOf]; omega
    · obtain rfl : k = 8 := by omega
      go_wp2
      go_ret2
      exact ⟨rfl, rfl⟩
set_option maxRecDepth 100000 in
theorem rclaim_nobody (q : Int) (hq : q ≤ 0) : Calls Tryd.prog 12 #[.pointer (some ⟨g, 0, none⟩), .int .i64 q] w fun e w' => e = .returned (.tuple #[.int .i64 (-1), .int .i64 15]) ∧ w = w' := by
  go_enter Tryd.func12, Tryd.ntmps12
  go_wp2
  go_loop [6] (fun i => i = .int .i64 0) (fun i => 8 - (intOf i).toNat)
  case atStart => rfl
  case round =>
    obtain rfl := hrel
    go_wp2
    go_ret2
    exact ⟨rfl, rfl⟩

set_option maxRecDepth 100000 in
theorem rown_any (s q : Int) (h : RLockAt w g wr p t) : Calls Tryd.prog 37 #[.pointer (some ⟨g, 0, none⟩), .int .i64 s, .int .i64 q] w fun e w' => e = .returned (.bool (owns p s q)) ∧ w = w' := by
  by_cases h0 : 0 ≤ s ∧ s < 8
  · obtain ⟨h0, h1⟩ := h0
    obtain ⟨k, rfl⟩ := Int.eq_ofNat_of_zero_le h0
    have hk : k < 8 := by omega
    have c0 := h.pid hk
    clear h
    generalize hx : p k = x at c0
    have HX := hide hx
    clear hx
    go_enter Tryd.func37, Tryd.ntmps37
    go_wp2
    all_goals
      go_ret
      refine ⟨ret_bool' ?_, rfl⟩
    all_goals
      by_cases h2 : 0 < q <;> simp [owns, h0, h1, h2, HX.out] <;> first | rfl | omega
  · have ho : owns p s q = false := by
      unfold owns
      by_cases h1 : 0 ≤ s
      · have h2 : ¬ s < 8 := fun h2 => h0 ⟨h1, h2⟩
        simp [h2]
      · simp [h1]
    rw [ho]
    clear ho h
    by_cases h1 : 0 ≤ s
    · have h2 : ¬ s < 8 := fun h2 => h0 ⟨h1, h2⟩
      clear h0
      go_enter Tryd.func37, Tryd.ntmps37
      go_wp2
      go_ret
      exact ⟨rfl, rfl⟩
    · clear h0
      go_enter Tryd.func37, Tryd.ntmps37
      go_wp2
      go_ret
      exact ⟨rfl, rfl⟩

set_option maxRecDepth 100000 in
theorem rpublish_no (s q x : Int) (h : RLockAt w g wr p t) (ho : owns p s q = false) : Calls Tryd.prog 15 #[.pointer (some ⟨g, 0, none⟩), .int .i64 s, .int .i64 q, .int .u64 x] w fun e w' => e = .returned (.int .i64 18) ∧ w = w' := by
  have HL := hide h
  have HO := hide ho
  clear h ho
  go_enter Tryd.func15, Tryd.ntmps15
  go_wp2_with fail
  refine (rown_any g wr p t w s q HL.out).mono ?_
  rintro e w' ⟨rfl, rfl⟩
  rw [HO.out]
  go_wp2
  go_ret
  exact ⟨rfl, rfl⟩
set_option maxRecDepth 100000 in
theorem rpublish_own (k : Nat) (q x : Int) (hk : k < 8) (h : RLockAt w g wr p t) (ho : owns p k q = true) : Calls Tryd.prog 15 #[.pointer (some ⟨g, 0, none⟩), .int .i64 k, .int .i64 q, .int .u64 x] w fun e w' => e = .returned (.int .i64 0) ∧ RLockAt w' g wr p (upd t k x) ∧ Kept [g] w w' := by
  have HL := hide h
  have HO := hide ho
  have c0 := h.txn hk
  have f0 := Blk.free h (1 + k * 2 + 1)
  clear h ho
  go_enter Tryd.func15, Tryd.ntmps15
  go_wp2_with fail
  refine (rown_any g wr p t w k q HL.out).mono ?_
  rintro e w' ⟨rfl, rfl⟩
  rw [HO.out]
  go_wp2
  go_ret
  exact ⟨rfl, HL.out.setTxn hk x, (Kept.refl _ _).setCell (by simp) _⟩
set_option maxRecDepth 100000 in
theorem rfree_no (s q : Int) (h : RLockAt w g wr p t) (ho : owns p s q = false) : Calls Tryd.prog 17 #[.pointer (some ⟨g, 0, none⟩), .int .i64 s, .int .i64 q] w fun e w' => e = .returned (.int .i64 18) ∧ w = w' := by
  have HL := hide h
  have HO := hide ho
  clear h ho
  go_enter Tryd.func17, Tryd.ntmps17
  go_wp2_with fail
  refine (rown_any g wr p t w s q HL.out).mono ?_
  rintro e w' ⟨rfl, rfl⟩
  rw [HO.out]
  go_wp2
  go_ret
  exact ⟨rfl, rfl⟩
set_option maxRecDepth 100000 in
theorem rfree_own (k : Nat) (q : Int) (hk : k < 8) (h : RLockAt w g wr p t) (ho : owns p k q = true) : Calls Tryd.prog 17 #[.pointer (some ⟨g, 0, none⟩), .int .i64 k, .int .i64 q] w fun e w' => e = .returned (.int .i64 0) ∧ RLockAt w' g wr (upd p k 0) (upd t k 0) ∧ Kept [g] w w' := by
  have HL := hide h
  have HO := hide ho
  have c0 := h.pid hk
  have c1 := h.txn hk
  have f0 := Blk.free h (1 + k * 2)
  have f1 := Blk.free h (1 + k * 2 + 1)
  clear h ho
  go_enter Tryd.func17, Tryd.ntmps17
  go_wp2_with fail
  refine (rown_any g wr p t w k q HL.out).mono ?_
  rintro e w' ⟨rfl, rfl⟩
  rw [HO.out]
  go_wp2
  go_ret
  exact ⟨rfl, (HL.out.setPid hk 0).setTxn hk 0, ((Kept.refl _ _).setCell (by simp) _).setCell (by simp) _⟩

set_option maxRecDepth 100000 in
theorem roldest_any (x : Int) (h : RLockAt w g wr p t) (ht : ∀ k, k < 8 → 0 ≤ t k) : Calls Tryd.prog 26 #[.pointer (some ⟨g, 0, none⟩), .int .u64 x] w fun e w' => e = .returned (.int .u64 (old t x 8)) ∧ w = w' := by
  have HT := hide ht
  have HL := hide h
  clear h ht
  go_enter Tryd.func26, Tryd.ntmps26
  go_wp2
  go_loop [1, 5] (fun m i => ∃ k : Nat, k ≤ 8 ∧ i = .int .i64 k ∧ m = .int .u64 (old t x k)) (fun _ i => 8 - (intOf i).toNat)
  case atStart => exact ⟨0, Nat.zero_le _, rfl, rfl⟩
  case round =>
    obtain ⟨k, hk, rfl, rfl⟩ := hrel
    by_cases hlt : k < 8
    · have c0 := HL.out.txn hlt
      have hy := HT.out k hlt
      have HO := hide (old_succ t x k)
      generalize t k = y at c0 hy HO
      generalize old t x k = m at HO
      by_cases hy1 : 0 < y
      · by_cases hy2 : y < m
        · have HO2 := hide ((HO.out.trans (if_pos hy1)).trans (if_pos hy2))
          clear HO
          go_wp2
          go_round
          case rel => exact ⟨k + 1, hlt, by go_num, by rw [HO2.out]⟩
          case measure => simp [intOf]; omega
        · have HO2 := hide ((HO.out.trans (if_pos hy1)).trans (if_neg hy2))
          clear HO
          go_wp2
          go_round
          case rel => exact ⟨k + 1, hlt, by go_num, by rw [HO2.out]⟩
          case measure => simp [intOf]; omega
      · have HO2 := hide (HO.out.trans (if_neg hy1))
        clear HO
        go_wp2
        go_round
        case rel => exact ⟨k + 1, hlt, by go_num, by rw [HO2.out]⟩
        case measure => simp [intOf]; omega
    · obtain rfl : k = 8 := by omega
      go_wp2
      go_ret
      exact ⟨rfl, rfl⟩
end
end Go.Proofs.YthifbmopfcfokaaDoor
