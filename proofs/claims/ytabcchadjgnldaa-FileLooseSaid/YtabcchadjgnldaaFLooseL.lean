/- What FileLoose answers: true, at every row of bytes and every place. Conditions: the row reads as bytes. -/
import Derived.Test.YtabcchadjgnldaaFLoosePlain
import Derived.Test.YtabcchadjgnldaaFCopies
import Derived.Deep.RegionHeld3
namespace Go.Proofs.Ytabcchadjgnldaa
open Go.RowKit

/-- Bytes that came in, by place. -/
def bytsL (f : Nat → Int) (k : Nat) : Value := .int .u8 (f k)

set_option maxRecDepth 100000 in
set_option maxHeartbeats 2000000 in
theorem loosel_any (A : Option Addr) (n c : Nat) (f : Nat → Int) (z : Int) (hn : n ≤ 9223372036854775807) (w : World) (hr : Rd w A n (bytsL f)) (hf : ∀ k, k < n → 0 ≤ f k ∧ f k < 256) (z0 : 0 ≤ z) (z1 : z < 256) :
    Calls Try.prog 7 #[.slice A n c, .int .u8 z] w fun e w' => e = .returned (.bool true) ∧ Kept [] w w' := by
  have HR := hide hr
  have HF := hide hf
  clear hr hf
  go_enter Try.func7, Try.ntmps7
  go_wp2_with fail
  refine (known4_any w).mono ?_
  rintro e w1 ⟨rfl, k1'⟩
  by_cases hn30 : 30 < n
  · go_wp2
    go_ret
    exact ⟨rfl, k1'⟩
  go_wp2_with fail
  refine (newS w w1 none 0 0 [] k1' (by omega) rfl (by omega) (Rd.zero _ _ _)).mono ?_
  rintro e w2 ⟨gf, F2, rfl, h2, _, _⟩
  have HI : LooI w w2 gf 0 [] [] (fun _ => false) F2 (.slice none 0 0) [] := ⟨h2, Own.nil _ _, fun x hx => absurd hx (by simp [blk, Value.ownBlock])⟩
  clear k1' h2
  go_wp2
  go_loopw [6, 7, 8, 9] (fun v nn i _ wz => ∃ (q m n' : Nat) (N S : List ByteArray) (L : Int → Bool) (F : List Nat), q ≤ n ∧ nn = .int .i64 m ∧ i = .int .i64 q ∧ n' ≤ 500 * q ∧ N.length = m ∧ m ≤ 40 ∧ LooI w wz gf n' N S L F v (looseL L m)) (fun _ _ i _ _ => n - (intOf i).toNat)
  case atStart => exact ⟨0, 0, 0, [], [], _, F2, Nat.zero_le _, rfl, rfl, Nat.le_refl _, rfl, Nat.zero_le _, HI⟩
  case round =>
    clear HI
    obtain ⟨q, m, n', N, S, L, F, hq, rfl, rfl, hn', hN, hm, hI⟩ := hrel
    by_cases hlt : q < n
    · obtain ⟨bl, off, hA, hbl, hc⟩ := (HR.out.kept0 hI.1.2) q hlt
      subst hA
      unfold bytsL at hc
      obtain ⟨y0, y1⟩ := HF.out q hlt
      generalize f q = y at hc y0 y1
      obtain ⟨k, hk⟩ : ∃ k : Nat, y % 40 = (k : Int) := ⟨(y % 40).toNat, (Int.toNat_of_nonneg (Int.emod_nonneg _ (by omega))).symm⟩
      have hk40 : k < 40 := by omega
      by_cases hz : (q : Int) = z % 40
      · have hzb : ((q : Int) == z % 40) = true := by simp [hz]
        clear hz
        go_wp2_with fail
        refine (sync_loo w wr gf n' N S L F _ _ hI (by omega)).mono ?_
        rintro e wr ⟨rfl, F3, h3⟩
        clear hI hc
        obtain ⟨n1, S1, L1, F1, hn1, hI⟩ : ∃ (n1 : Nat) (S1 : List ByteArray) (L1 : Int → Bool) (F1 : List Nat), n1 ≤ 500 * q ∧ LooI w wr gf n1 N S1 L1 F1 (.slice none 0 0) (looseL L1 m) := ⟨0, N, _, F3, Nat.zero_le _, by rw [show looseL (fun _ => false) m = [] from by simp [looseL]]; exact h3⟩
        clear h3
        go_upto_region 15 with (fail)
        try simp only [hk]
        generalize hd : k + 1 - N.length = d at *
        go_loopw [6, 7] (fun v nn wz => ∃ j : Nat, m ≤ j ∧ j ≤ max m k ∧ nn = .int .i64 j ∧ LooI w wz gf n1 N S1 L1 F1 v (looseL (padL N L1 d) j)) (fun _ nn _ => k - (intOf nn).toNat)
        case atStart => exact ⟨m, Nat.le_refl _, by omega, rfl, by rw [loose_congr (L' := L1) (fun i hi => padL_lt d (by omega))]; exact hI⟩
        case round =>
          clear hI
          obtain ⟨j, hj1, hj2, rfl, hI⟩ := hrel
          have hlen := loose_length (padL N L1 d) j
          by_cases hjk : j < k
          · go_wp2_with fail
            refine (with_loo w wr gf n1 N S1 L1 F1 _ _ (j : Int) hI (by omega)).mono ?_
            rintro e w7 ⟨v7, rfl, h7⟩
            rw [ins_next _ _ (padL_ge d (by omega) (by omega))] at h7
            go_wp2
            go_roundw
            case rel => exact ⟨j + 1, by omega, by omega, by go_num, h7⟩
            case measure => simp [intOf]; omega
          · have hmx : max (j : Int) ((k : Int) + 1) = ((max j (k + 1) : Nat) : Int) := by omega
            have hmax : looseL (add (padL N L1 d) k) (max j (k + 1)) = insL k (looseL (padL N L1 d) j) := (ins_both _ k j _ (by omega) rfl).symm
            rcases (by omega : (k : Int) + 1 ≤ j ∧ max j (k + 1) = j ∨ (j : Int) < k + 1 ∧ max j (k + 1) = k + 1) with ⟨hc1, hc2⟩ | ⟨hc1, hc2⟩
            all_goals
              go_wp2_with fail
              refine (with_loo w wr gf n1 N S1 L1 F1 _ _ (k : Int) hI (by omega)).mono ?_
              rintro e w7 ⟨v7, rfl, h7⟩
              rw [← hmax] at h7
              clear hI hmax
              go_wp2_with fail
              refine (write_loo w w7 gf n1 N S1 L1 F1 _ _ k _ h7 (by omega) (by omega) (by omega)).mono ?_
              rintro e w8 ⟨rfl, F8, h8⟩
              clear h7
              have hN8 := write_len N k ⟨#[120]⟩
              rw [show max N.length (k + 1) = max j (k + 1) from by omega] at hN8
              rw [hd] at h8 hN8
              rw [hc2] at h8 hN8
              generalize (padN N d).set k ⟨#[120]⟩ = N8 at h8 hN8
              generalize add (padL N L1 d) k = L8 at h8
              go_wp2_with fail
              refine (loose_loo w w8 gf (n1 + 500) N8 S1 L8 F8 v7 _ h8 (by omega)).mono ?_
              rintro e w9 ⟨A9, c9, rfl, h9, hr9⟩
              clear h8
              have hl9 := loose_length L8 N8.length
              generalize hg9 : looseL L8 N8.length = l9 at hr9 hl9 ⊢
              rw [hN8] at hg9
              have HG9 := hide hg9.symm
              clear hg9
              generalize hq9 : l9.length = q9 at *
              go_wp2_with fail
              have h10' := (same_loo w w9 gf (n1 + 500) N8 S1 L8 F8 v7 _ A9 c9 l9 h9 (by omega) (by rw [hq9]; exact hr9) HG9.out)
              rw [hq9] at h10'
              refine h10'.mono ?_
              rintro e w10 ⟨rfl, h10⟩
              clear h9 hr9 h10'
              go_wp2_with fail
              refine (lenf_any w.heap.size gf _ _ _ _ _ w10 h10.1.1).mono ?_
              rintro e w' ⟨rfl, rfl⟩
              rw [hN8]
              go_wp2
              go_roundw
              case rel => exact ⟨q + 1, _, n1 + 500, N8, S1, L8, F8, by omega, by go_num, by go_num, by omega, hN8, by omega, h10⟩
              case measure => simp [intOf]; omega
      · have hzb : ((q : Int) == z % 40) = false := by simp [hz]
        obtain ⟨n1, S1, L1, F1, hn1, hI⟩ : ∃ (n1 : Nat) (S1 : List ByteArray) (L1 : Int → Bool) (F1 : List Nat), n1 ≤ 500 * q ∧ LooI w wr gf n1 N S1 L1 F1 _ (looseL L1 m) := ⟨n', S, L, F, hn', hI⟩
        go_upto_region 15 with (fail)
        try simp only [hk]
        generalize hd : k + 1 - N.length = d at *
        go_loopw [6, 7] (fun v nn wz => ∃ j : Nat, m ≤ j ∧ j ≤ max m k ∧ nn = .int .i64 j ∧ LooI w wz gf n1 N S1 L1 F1 v (looseL (padL N L1 d) j)) (fun _ nn _ => k - (intOf nn).toNat)
        case atStart => exact ⟨m, Nat.le_refl _, by omega, rfl, by rw [loose_congr (L' := L1) (fun i hi => padL_lt d (by omega))]; exact hI⟩
        case round =>
          clear hI
          obtain ⟨j, hj1, hj2, rfl, hI⟩ := hrel
          have hlen := loose_length (padL N L1 d) j
          by_cases hjk : j < k
          · go_wp2_with fail
            refine (with_loo w wr gf n1 N S1 L1 F1 _ _ (j : Int) hI (by omega)).mono ?_
            rintro e w7 ⟨v7, rfl, h7⟩
            rw [ins_next _ _ (padL_ge d (by omega) (by omega))] at h7
            go_wp2
            go_roundw
            case rel => exact ⟨j + 1, by omega, by omega, by go_num, h7⟩
            case measure => simp [intOf]; omega
          · have hmx : max (j : Int) ((k : Int) + 1) = ((max j (k + 1) : Nat) : Int) := by omega
            have hmax : looseL (add (padL N L1 d) k) (max j (k + 1)) = insL k (looseL (padL N L1 d) j) := (ins_both _ k j _ (by omega) rfl).symm
            rcases (by omega : (k : Int) + 1 ≤ j ∧ max j (k + 1) = j ∨ (j : Int) < k + 1 ∧ max j (k + 1) = k + 1) with ⟨hc1, hc2⟩ | ⟨hc1, hc2⟩
            all_goals
              go_wp2_with fail
              refine (with_loo w wr gf n1 N S1 L1 F1 _ _ (k : Int) hI (by omega)).mono ?_
              rintro e w7 ⟨v7, rfl, h7⟩
              rw [← hmax] at h7
              clear hI hmax
              go_wp2_with fail
              refine (write_loo w w7 gf n1 N S1 L1 F1 _ _ k _ h7 (by omega) (by omega) (by omega)).mono ?_
              rintro e w8 ⟨rfl, F8, h8⟩
              clear h7
              have hN8 := write_len N k ⟨#[120]⟩
              rw [show max N.length (k + 1) = max j (k + 1) from by omega] at hN8
              rw [hd] at h8 hN8
              rw [hc2] at h8 hN8
              generalize (padN N d).set k ⟨#[120]⟩ = N8 at h8 hN8
              generalize add (padL N L1 d) k = L8 at h8
              go_wp2_with fail
              refine (loose_loo w w8 gf (n1 + 500) N8 S1 L8 F8 v7 _ h8 (by omega)).mono ?_
              rintro e w9 ⟨A9, c9, rfl, h9, hr9⟩
              clear h8
              have hl9 := loose_length L8 N8.length
              generalize hg9 : looseL L8 N8.length = l9 at hr9 hl9 ⊢
              rw [hN8] at hg9
              have HG9 := hide hg9.symm
              clear hg9
              generalize hq9 : l9.length = q9 at *
              go_wp2_with fail
              have h10' := (same_loo w w9 gf (n1 + 500) N8 S1 L8 F8 v7 _ A9 c9 l9 h9 (by omega) (by rw [hq9]; exact hr9) HG9.out)
              rw [hq9] at h10'
              refine h10'.mono ?_
              rintro e w10 ⟨rfl, h10⟩
              clear h9 hr9 h10'
              go_wp2_with fail
              refine (lenf_any w.heap.size gf _ _ _ _ _ w10 h10.1.1).mono ?_
              rintro e w' ⟨rfl, rfl⟩
              rw [hN8]
              go_wp2
              go_roundw
              case rel => exact ⟨q + 1, _, n1 + 500, N8, S1, L8, F8, by omega, by go_num, by go_num, by omega, hN8, by omega, h10⟩
              case measure => simp [intOf]; omega
    · obtain rfl : q = n := by omega
      go_wp2_with fail
      refine (sync_loo w wr gf n' N S L F _ _ hI (by omega)).mono ?_
      rintro e w5 ⟨rfl, F5, h5⟩
      go_wp2_with fail
      refine (loose_loo w w5 gf 0 N N _ F5 _ _ h5 (by omega)).mono ?_
      rintro e w6 ⟨A6, c6, rfl, h6, _⟩
      rw [show looseL (fun _ => false) N.length = [] from by simp [looseL]]
      go_wp2
      go_ret
      exact ⟨rfl, h6.1.2⟩
end Go.Proofs.Ytabcchadjgnldaa
