/- What LockOldest answers: true, at every row of bytes and every last version. Conditions: the row reads as bytes. -/
import Derived.Test.YthifbmopfcfokaaLKnown
namespace Go.Proofs.Ythifbmopfcfokaa
open Go.RowKit Go.Conc

/-- Bytes that came in, by place. -/
def bytsL (f : Nat → Int) (k : Nat) : Value := .int .u8 (f k)
theorem fl_first {p : Nat → Int} {k : Nat} (hk : k < 8) (h : ∀ i, i < k → p i ≠ 0) (h0 : p k = 0) : ∃ r, fl p 8 = k :: r := by
  obtain ⟨m, hm⟩ : ∃ m, 8 = k + (m + 1) := ⟨7 - k, by omega⟩
  refine ⟨(List.range' (k + 1) m).filter fun i => decide (p i = 0), ?_⟩
  unfold fl
  rw [hm, List.range_eq_range', ← List.range'_append_1, Nat.zero_add, List.filter_append, List.range'_succ, List.filter_cons, if_pos (by simp [h0])]
  rw [List.filter_eq_nil_iff.2 (by intro i hi; simp at hi; simp [h i hi]), List.nil_append]
/-- Process i + 1 has slot i, for i < k. -/
def pk (k : Nat) : Nat → Int := part (fun i => (i : Int) + 1) k
theorem pk_first {k : Nat} (hk : k < 8) : ∃ r, fl (pk k) 8 = k :: r :=
  fl_first hk (fun i hi => by simp [pk, part, hi]; omega) (by simp [pk, part])
theorem pk_succ (k : Nat) : upd (pk k) k ((k : Int) + 1) = pk (k + 1) := part_succ _ k
theorem part_again (f : Nat → Int) (k : Nat) : upd (upd (part f k) k 0) k (f k) = part f (k + 1) := by
  rw [← part_succ]
  funext i
  unfold upd
  split <;> rfl
theorem pk_owns {k : Nat} (hk : k < 8) : owns (pk (k + 1)) k ((k : Int) + 1) = true := by
  simp [owns, pk, part]
  omega
theorem old_part (f : Nat → Int) (last : Int) (n : Nat) : ∀ m, old (part f n) last m = old f last (min n m)
  | 0 => by rw [Nat.min_zero]; rfl
  | m + 1 => by
    rw [old_succ, old_part f last n m]
    by_cases h : m < n
    · rw [Nat.min_eq_right (by omega : m ≤ n), Nat.min_eq_right (by omega : m + 1 ≤ n), old_succ]
      simp [part, h]
    · rw [Nat.min_eq_left (by omega : n ≤ m), Nat.min_eq_left (by omega : n ≤ m + 1)]
      simp [part, h]

set_option maxRecDepth 100000 in
set_option maxHeartbeats 1000000 in
theorem oldestl_any (A : Option Addr) (n c : Nat) (f : Nat → Int) (last : Int) (hm : n ≤ 9223372036854775807) (w : World) (hr : Rd w A n (bytsL f)) (hf : ∀ k, k < n → 0 ≤ f k ∧ f k < 256) (l0 : 0 ≤ last) (l1 : last < 256) :
    Calls Try.prog 10 #[.slice A n c, .int .u8 last] w fun e w' => e = .returned (.bool true) ∧ Kept [] w w' := by
  have HR := hide hr
  have HF := hide hf
  clear hr hf
  go_enter Try.func10, Try.ntmps10
  go_wp2_with fail
  refine (known6_any w).mono ?_
  rintro e w1 ⟨rfl, k1⟩
  go_wp2_with fail
  refine (newl_any w1).mono ?_
  rintro e w2 ⟨gl, rfl, hL2, k2, hgl⟩
  have K2 := k1.trans0 k2
  have hgl : w.heap.size ≤ gl := Nat.le_trans k1.size hgl
  clear k1 k2
  go_wp2
  go_loopw [6, 7, 8, 9] (fun m i _ _ wz => ∃ k : Nat, k ≤ n ∧ k ≤ 8 ∧ m = .int .u64 (old f last k) ∧ i = .int .i64 k ∧ LockAt wz gl 0 (pk k) (part f k) ∧ Kept [] w wz) (fun _ i _ _ _ => n - (intOf i).toNat)
  case atStart => exact ⟨0, Nat.zero_le _, Nat.zero_le _, rfl, rfl, by rw [pk, part_zero, part_zero]; exact hL2, K2⟩
  case round =>
    obtain ⟨k, hk, hk8, rfl, rfl, hL, hK⟩ := hrel
    clear hL2 K2
    by_cases hlt : k < n
    · by_cases hlt8 : k < 8
      · obtain ⟨y0, y1⟩ := HF.out k hlt
        obtain ⟨bl, off, hA, _⟩ := HR.out k hlt
        subst hA
        have hcell : ∀ W, Kept [] w W → W.cell? ⟨bl, off + k, none⟩ = some (.int .u8 (f k)) := fun W hW => by
          obtain ⟨bl', off', h1, _, h2⟩ := (HR.out.kept0 hW) k hlt
          injection h1 with h1
          injection h1 with h1 h3
          subst h1
          subst h3
          exact h2
        obtain ⟨r, hr⟩ := pk_first hlt8
        have HO := hide (old_succ f last k)
        have HP := hide (part_again f k)
        generalize f k = y at y0 y1 hcell HO HP
        have HC := hide hcell
        clear hcell
        go_wp2_with fail
        refine (claim_first gl 0 (pk k) (part f k) wr _ k r (by omega) hL hr).mono ?_
        rintro e w3 ⟨rfl, hL3, k3⟩
        rw [pk_succ] at hL3
        have K3 := hK.trans k3 (fun x hx => by simp at hx; subst hx; exact .inr hgl)
        have c3 := HC.out w3 K3
        clear hL hK hr
        go_wp2_with fail
        refine (publish_own gl 0 _ _ w3 k _ y hlt8 hL3 (pk_owns hlt8)).mono ?_
        rintro e w4 ⟨rfl, hL4, k4⟩
        rw [HP.out] at hL4
        have K4 := K3.trans k4 (fun x hx => by simp at hx; subst hx; exact .inr hgl)
        have c4 := HC.out w4 K4
        clear hL3 c3
        generalize old f last k = m at HO
        by_cases hy : 0 < y
        · have HO2 := hide (HO.out.trans (if_pos hy))
          clear HO
          go_wp2
          go_roundw
          case rel => exact ⟨k + 1, hlt, hlt8, by rw [HO2.out], by go_num, hL4, K4⟩
          case measure => simp [intOf]; omega
        · have HO2 := hide (HO.out.trans (if_neg hy))
          clear HO
          go_wp2
          go_roundw
          case rel => exact ⟨k + 1, hlt, hlt8, by rw [HO2.out], by go_num, hL4, K4⟩
          case measure => simp [intOf]; omega
      · obtain rfl : k = 8 := by omega
        have ht : ∀ k, k < 8 → 0 ≤ part f 8 k := fun i hi => by simp [part, hi]; exact (HF.out i (by omega)).1
        have HE : Hid (old (part f 8) last 8 = old f last 8) := hide (by rw [old_part, Nat.min_self])
        have hO := oldest_any gl 0 _ _ wr last hL ht
        rw [HE.out] at hO
        have HOO := hide hO
        clear ht hO
        go_wp2_with fail
        refine HOO.out.mono ?_
        rintro e w5 ⟨rfl, k5⟩
        go_wp2
        go_ret
        exact ⟨rfl, hK.trans0 k5⟩
    · obtain rfl : k = n := by omega
      have ht : ∀ i, i < 8 → 0 ≤ part f k i := fun i hi => by
        unfold part
        split
        · exact (HF.out i (by omega)).1
        · omega
      have HE : Hid (old (part f k) last 8 = old f last k) := hide (by rw [old_part, Nat.min_eq_left hk8])
      have hO := oldest_any gl 0 _ _ wr last hL ht
      rw [HE.out] at hO
      have HOO := hide hO
      clear ht hO
      go_wp2_with fail
      refine HOO.out.mono ?_
      rintro e w5 ⟨rfl, k5⟩
      go_wp2
      go_ret
      exact ⟨rfl, hK.trans0 k5⟩
end Go.Proofs.Ythifbmopfcfokaa
