/- What LockOne answers: true, at every row of bytes. Conditions: the row reads as bytes. -/
import Derived.Test.YthifbmopfcfokaaLOldest
namespace Go.Proofs.Ythifbmopfcfokaa
open Go.RowKit Go.Conc

/-- The numbers 1 .. k. -/
def ups (k : Nat) : List Int := (List.range k).map fun i : Nat => (i : Int) + 1
theorem ups_succ (k : Nat) : ups k ++ [(k : Int) + 1] = ups (k + 1) := by simp [ups, List.range_succ]
theorem ups_len (k : Nat) : (ups k).length = k := by simp [ups]
theorem ups_mem {k : Nat} {x : Int} : x ∈ ups k ↔ 1 ≤ x ∧ x ≤ k := by
  simp only [ups, List.mem_map, List.mem_range]
  constructor
  · rintro ⟨i, hi, rfl⟩
    omega
  · intro h
    exact ⟨(x - 1).toNat, by omega, by omega⟩

section
variable (a : World) (gl g : Nat) (wr : Int) (p t : Nat → Int) (l : List Int) (last : Int) (w : World)
theorem release_Py (q : Int) (h : LP a w gl g q p t l last) (hq : 0 < q) : Calls Try.prog 49 #[.pointer (some ⟨gl, 0, none⟩), .int .i64 q] w fun e w' => e = .returned (.bool true) ∧ LP a w' gl g 0 p t l last :=
  (release_own gl q p t w h.1 hq).mono fun _ _ ⟨he, h1, k⟩ => ⟨he, h.stepL h1 k⟩
theorem release_Pn (q : Int) (h : LP a w gl g wr p t l last) (hq : wr ≠ q) : Calls Try.prog 49 #[.pointer (some ⟨gl, 0, none⟩), .int .i64 q] w fun e w' => e = .returned (.bool false) ∧ LP a w' gl g wr p t l last :=
  (release_no gl wr p t w q h.1 (.inr hq)).mono fun _ _ ⟨he, h1⟩ => ⟨he, h1 ▸ h⟩
theorem writer_P (h : LP a w gl g wr p t l last) : Calls Try.prog 50 #[.pointer (some ⟨gl, 0, none⟩)] w fun e w' => e = .returned (.int .i64 wr) ∧ LP a w' gl g wr p t l last :=
  (writer_any gl wr p t w h.1).mono fun _ _ ⟨he, h1⟩ => ⟨he, h1 ▸ h⟩
end

set_option maxRecDepth 100000 in
set_option maxHeartbeats 2000000 in
theorem one_any (A : Option Addr) (n c : Nat) (f : Nat → Int) (hm : n ≤ 9223372036854775807) (w : World) (hr : Rd w A n (bytsL f)) (hf : ∀ k, k < n → 0 ≤ f k ∧ f k < 256) :
    Calls Try.prog 12 #[.slice A n c] w fun e w' => e = .returned (.bool true) ∧ Kept [] w w' := by
  have HR := hide hr
  have HF := hide hf
  clear hr hf
  go_enter Try.func12, Try.ntmps12
  go_wp2_with fail
  refine (known6_any w).mono ?_
  rintro e w1 ⟨rfl, k1⟩
  by_cases hn : 60 < n
  · go_wp2
    go_ret
    exact ⟨rfl, k1⟩
  go_wp2_with fail
  refine (newl_any w1).mono ?_
  rintro e w2 ⟨gl, rfl, hL2, k2, hgl⟩
  have K2 := k1.trans0 k2
  have hgl : w.heap.size ≤ gl := Nat.le_trans k1.size hgl
  clear k1 k2
  go_wp2_with fail
  refine (newp_P w gl _ _ _ _ hL2 hgl K2).mono ?_
  rintro e w3 ⟨g, rfl, h3, _, _⟩
  clear hL2 K2
  go_wp2
  go_loopw [5] (fun i wz => ∃ k : Nat, k ≤ 4 ∧ i = .int .i64 k ∧ LP w wz gl g 0 (fun _ => 0) (fun _ => 0) (ups k) k) (fun i _ => 4 - (intOf i).toNat)
  case atStart => exact ⟨0, Nat.zero_le _, rfl, h3⟩
  case round =>
    obtain ⟨k, hk, rfl, h⟩ := hrel
    clear h3
    by_cases hlt : k < 4
    · go_wp2_with fail
      refine (spawn_P w gl g _ _ _ _ _ _ h (by rw [ups_len]; omega) (by omega) (by omega)).mono ?_
      rintro e w4 ⟨rfl, h4⟩
      rw [ups_succ] at h4
      go_wp2
      go_roundw
      case rel => exact ⟨k + 1, hlt, by go_num, by simpa using h4⟩
      case measure => simp [intOf]; omega
    · obtain rfl : k = 4 := by omega
      go_wp2
      go_loopw [6, 7, 8, 9, 10, 52] (fun o i _ _ _ _ wz => ∃ (k : Nat) (q : Int), k ≤ n ∧ 0 ≤ q ∧ q ≤ 4 ∧ o = .int .i64 q ∧ i = .int .i64 k ∧ LP w wz gl g q (fun _ => 0) (fun _ => 0) (ups 4) 4) (fun _ i _ _ _ _ _ => n - (intOf i).toNat)
      case atStart => exact ⟨0, 0, Nat.zero_le _, by omega, by omega, rfl, rfl, h⟩
      case round =>
        clear h
        obtain ⟨k, q, hk, q0, q4, rfl, rfl, h⟩ := hrel
        by_cases hlt : k < n
        · obtain ⟨b0, b1⟩ := HF.out k hlt
          obtain ⟨bl, off, rfl, hb, hc⟩ := (HR.out.kept0 h.all) k hlt
          unfold bytsL at hc
          generalize f k = b at hc b0 b1
          have hb3 : b / 4 % 3 = 0 ∨ b / 4 % 3 = 1 ∨ b / 4 % 3 = 2 := by omega
          rcases hb3 with e3 | e3 | e3
          · by_cases hq : q = 0
            · subst hq
              have ht : takes 0 (b % 4 + 1) (ups 4) = true := by
                have h1 : 0 < b % 4 + 1 := by omega
                have h2 : ¬ 0 = b % 4 + 1 := by omega
                simp [takes, h1, h2]
              have HT := hide ht
              clear ht q0 q4
              go_wp2_with fail
              refine (take_Py w gl g _ _ _ _ _ wr _ h HT.out).mono ?_
              rintro e w5 ⟨rfl, h5⟩
              go_wp2_with fail
              refine (writer_P w gl g _ _ _ _ _ w5 h5).mono ?_
              rintro e w6 ⟨rfl, h6⟩
              go_wp2
              go_roundw
              case rel => exact ⟨k + 1, b % 4 + 1, hlt, by omega, by omega, rfl, by go_num, h6⟩
              case measure => simp [intOf]; omega
            · have ht : takes q (b % 4 + 1) (ups 4) = false := by
                have h1 : q ∈ ups 4 := ups_mem.2 (by omega)
                have h2 : 0 < q := by omega
                simp [takes, h1, h2]
              have hb1 : (q == 0) = false := by simp [hq]
              have HT := hide ht
              clear ht hq
              go_wp2_with fail
              refine (take_Pn w gl g _ _ _ _ _ wr _ h HT.out).mono ?_
              rintro e w5 ⟨rfl, h5⟩
              go_wp2_with fail
              refine (writer_P w gl g _ _ _ _ _ w5 h5).mono ?_
              rintro e w6 ⟨rfl, h6⟩
              go_wp2
              go_roundw
              case rel => exact ⟨k + 1, q, hlt, by omega, by omega, rfl, by go_num, h6⟩
              case measure => simp [intOf]; omega
          · by_cases hq : q = 0
            · subst hq
              have ht : takes 0 (b % 4 + 1) (ups 4) = true := by
                have h1 : 0 < b % 4 + 1 := by omega
                have h2 : ¬ 0 = b % 4 + 1 := by omega
                simp [takes, h1, h2]
              have HT := hide ht
              clear ht q0 q4
              go_wp2_with fail
              refine (take_Py w gl g _ _ _ _ _ wr _ h HT.out).mono ?_
              rintro e w5 ⟨rfl, h5⟩
              go_wp2_with fail
              refine (writer_P w gl g _ _ _ _ _ w5 h5).mono ?_
              rintro e w6 ⟨rfl, h6⟩
              go_wp2
              go_roundw
              case rel => exact ⟨k + 1, b % 4 + 1, hlt, by omega, by omega, rfl, by go_num, h6⟩
              case measure => simp [intOf]; omega
            · have ht : takes q (b % 4 + 1) (ups 4) = false := by
                have h1 : q ∈ ups 4 := ups_mem.2 (by omega)
                have h2 : 0 < q := by omega
                simp [takes, h1, h2]
              have hb1 : (q == 0) = false := by simp [hq]
              have HT := hide ht
              clear ht hq
              go_wp2_with fail
              refine (take_Pn w gl g _ _ _ _ _ wr _ h HT.out).mono ?_
              rintro e w5 ⟨rfl, h5⟩
              go_wp2_with fail
              refine (writer_P w gl g _ _ _ _ _ w5 h5).mono ?_
              rintro e w6 ⟨rfl, h6⟩
              go_wp2
              go_roundw
              case rel => exact ⟨k + 1, q, hlt, by omega, by omega, rfl, by go_num, h6⟩
              case measure => simp [intOf]; omega
          · by_cases hq : q = b % 4 + 1
            · subst hq
              go_wp2_with fail
              refine (release_Py w gl g _ _ _ _ wr _ h (by omega)).mono ?_
              rintro e w5 ⟨rfl, h5⟩
              go_wp2_with fail
              refine (writer_P w gl g _ _ _ _ _ w5 h5).mono ?_
              rintro e w6 ⟨rfl, h6⟩
              go_wp2
              go_roundw
              case rel => exact ⟨k + 1, 0, hlt, by omega, by omega, rfl, by go_num, h6⟩
              case measure => simp [intOf]; omega
            · have hb1 : (q == b % 4 + 1) = false := by simp [hq]
              have HQ := hide hq
              clear hq
              go_wp2_with fail
              refine (release_Pn w gl g _ _ _ _ _ wr _ h HQ.out).mono ?_
              rintro e w5 ⟨rfl, h5⟩
              go_wp2_with fail
              refine (writer_P w gl g _ _ _ _ _ w5 h5).mono ?_
              rintro e w6 ⟨rfl, h6⟩
              go_wp2
              go_roundw
              case rel => exact ⟨k + 1, q, hlt, by omega, by omega, rfl, by go_num, h6⟩
              case measure => simp [intOf]; omega
        · go_wp2
          go_ret
          exact ⟨rfl, h.all⟩
end Go.Proofs.Ythifbmopfcfokaa
