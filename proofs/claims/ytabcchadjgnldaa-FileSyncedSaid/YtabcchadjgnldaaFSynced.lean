/- What FileSynced answers: true, at every pages and every steps. Conditions: the pages read as texts, the steps as steps. -/
import Derived.Test.YtabcchadjgnldaaFSyncedPlain
import Derived.Test.YtabcchadjgnldaaFSteps
import Derived.Deep.RegionHeld3
namespace Go.Proofs.Ytabcchadjgnldaa
open Go.RowKit

/-- A page: a letter ahead of the text. -/
def pp (t : Nat → ByteArray) (i : Nat) : ByteArray := ⟨#[112]⟩ ++ t i
theorem pp_ne (t : Nat → ByteArray) (i : Nat) : pp t i ≠ ByteArray.empty := fun h => by
  have h1 : ((⟨#[112]⟩ : ByteArray) ++ t i).size = ByteArray.empty.size := congrArg ByteArray.size h
  rw [ByteArray.size_append] at h1
  have e1 : (⟨#[112]⟩ : ByteArray).size = 1 := rfl
  have e2 : ByteArray.empty.size = 0 := rfl
  omega
theorem byP_same (j : Nat) (f : Nat → ByteArray) : byP (j + 1) f = byP (j + 1) (fun i => if i = j then f j else f i) := byP_congr fun i _ => by
  by_cases e : i = j
  · rw [if_pos e, e]
  · rw [if_neg e]

set_option maxRecDepth 100000 in
set_option maxHeartbeats 2000000 in
theorem syncedl_any (A : Option Addr) (m c : Nat) (t : Nat → ByteArray) (B : Option Addr) (n d : Nat) (hm : m ≤ 9223372036854775807) (hn : n ≤ 9223372036854775807) (w : World) (hr : Rd w A m (txtF t)) (ht : ∀ k, k < m → (t k).size ≤ 140737488351232) (hs : StepsAt w B n) :
    Calls Try.prog 5 #[.slice A m c, .slice B n d] w fun e w' => e = .returned (.bool true) ∧ Kept [] w w' := by
  have HR := hide hr
  have HT := hide ht
  have HS := hide hs
  clear hr ht hs
  go_enter Try.func5, Try.ntmps5
  go_wp2_with fail
  refine (known4_any w).mono ?_
  rintro e w1 ⟨rfl, k1'⟩
  by_cases hm20 : 20 < m
  · go_wp2
    go_ret
    exact ⟨rfl, k1'⟩
  by_cases hn30 : 30 < n
  · go_wp2
    go_ret
    exact ⟨rfl, k1'⟩
  go_wp2_with fail
  refine (newS w w1 none 0 0 [] k1' (by omega) rfl (by omega) (Rd.zero _ _ _)).mono ?_
  rintro e w2 ⟨g, F2, rfl, h2, _, _⟩
  clear k1'
  go_wp2
  go_loopw [6] (fun i wz => ∃ (j n' : Nat) (F : List Nat) (S : List ByteArray) (L : Int → Bool), j ≤ m ∧ i = .int .i64 j ∧ n' ≤ 500 * j ∧ FileS w wz g (byP j (pp t)) S n' L F) (fun i _ => m - (intOf i).toNat)
  case atStart => exact ⟨0, 0, F2, [], _, Nat.zero_le _, rfl, by omega, h2⟩
  case round =>
    clear h2
    obtain ⟨j, n', F, S, L, hj, rfl, hn', h⟩ := hrel
    by_cases hlt : j < m
    · have HB := hide (byP_snoc j (pp t) (pp t j))
      obtain ⟨bl, off, hA, _, hc⟩ := (HR.out.kept0 h.2) j hlt
      subst hA
      have hsz := HT.out j hlt
      unfold txtF at hc
      have HP : Hid (pp t j = ⟨#[112]⟩ ++ t j) := hide rfl

      have hq : ¬ 9223372036854775807 < 1 + (t j).size := by omega
      generalize t j = x at hc HP hq
      clear hsz
      go_wp2_with fail
      refine (writeS w g n' _ S L F wr j _ h (by rw [byP_len]; omega) (by omega) (by omega)).mono ?_
      rintro e w3 ⟨rfl, F3, h3, _⟩
      rw [← HP.out, HB.out] at h3
      go_wp2
      go_roundw
      case rel => exact ⟨j + 1, n' + 500, F3, S, _, hlt, by go_num, by omega, by rw [byP_same]; exact h3⟩
      case measure => simp [intOf]; omega
    · obtain rfl : j = m := by omega
      go_wp2_with fail
      refine (syncS w g n' _ S L F wr h (by rw [byP_len]; omega)).mono ?_
      rintro e w3 ⟨rfl, F3, h3, _⟩
      clear h
      go_wp2
      go_loopw [7] (fun i wz => ∃ (q n' : Nat) (F : List Nat) (N : List ByteArray) (L : Int → Bool), q ≤ n ∧ i = .int .i64 q ∧ n' ≤ 500 * q ∧ N.length ≤ 61 ∧ Hid (Firm (byP j (pp t)) N L) ∧ FileS w wz g N (byP j (pp t)) n' L F) (fun i _ => n - (intOf i).toNat)
      case atStart => exact ⟨0, 0, F3, _, _, Nat.zero_le _, rfl, by omega, by rw [byP_len]; omega, hide (Firm.start _ _), h3⟩
      case round =>
        clear h3
        obtain ⟨q, n', F, N, L, hq, rfl, hn', hN, HF, h⟩ := hrel
        by_cases hlt : q < n
        · obtain ⟨bl, off, wh, pl, sx, kA, kn, kc, kf, hA, hblw, _, b1, b2, _, _, _, _⟩ := HS.out q hlt
          subst hA
          have hbl : bl < wr.heap.size := Nat.lt_of_lt_of_le hblw h.2.size
          have a1 : wr.cell? ⟨bl, off + q * 4 + 1, none⟩ = some (.int .i64 pl) := (World.cell?_of_block (h.2.block bl hblw (by simp))).trans b1
          have a2 : wr.cell? ⟨bl, off + q * 4 + 2, none⟩ = some (.string sx) := (World.cell?_of_block (h.2.block bl hblw (by simp))).trans b2
          by_cases h61 : 60 < pl ∧ pl < 1000000
          · obtain ⟨h61a, h61b⟩ := h61
            go_wp2
            go_ret
            exact ⟨rfl, h.2⟩
          · have HC : Hid (∀ W, Kept [] wr W → W.cell? ⟨bl, off + q * 4 + 1, none⟩ = some (.int .i64 pl) ∧ W.cell? ⟨bl, off + q * 4 + 2, none⟩ = some (.string sx)) := hide fun W k => ⟨(World.cell?_of_block (k.block bl hbl (by simp))).trans a1, (World.cell?_of_block (k.block bl hbl (by simp))).trans a2⟩
            have HCW : Hid (∀ W, Kept [] w W → W.cell? ⟨bl, off + q * 4 + 1, none⟩ = some (.int .i64 pl) ∧ W.cell? ⟨bl, off + q * 4 + 2, none⟩ = some (.string sx)) := hide fun W k => ⟨(World.cell?_of_block (k.block bl hblw (by simp))).trans b1, (World.cell?_of_block (k.block bl hblw (by simp))).trans b2⟩
            have hbd : pl < 0 ∨ 400 ≤ pl ∨ (0 ≤ pl ∧ pl ≤ 60) := by omega
            rcases hbd with hb0 | hb0 | ⟨hb0, hb1⟩
            · go_upto_region 16 with (fail)
              have K0 : Kept [] wr wr.drew := (Kept.refl _ _).drew
              go_region_held3 (fun W : World => W.cell? ⟨bl, off + q * 4 + 1, none⟩ = some (.int .i64 pl) ∧ W.cell? ⟨bl, off + q * 4 + 2, none⟩ = some (.string sx)) (exact HC.out _ K0) (first | (go_at_call 11; refine (writef_no g _ pl sx (.inl hb0)).mono ?_; rintro e w4 ⟨rfl, rfl⟩))
              go_wp2
              go_roundw
              case rel => exact ⟨q + 1, n', F, N, L, hlt, by go_num, by omega, hN, HF, h.kept0 K0⟩
              case measure => simp [intOf]; omega
            · go_upto_region 16 with (fail)
              have K0 : Kept [] wr wr.drew := (Kept.refl _ _).drew
              go_region_held3 (fun W : World => W.cell? ⟨bl, off + q * 4 + 1, none⟩ = some (.int .i64 pl) ∧ W.cell? ⟨bl, off + q * 4 + 2, none⟩ = some (.string sx)) (exact HC.out _ K0) (first | (go_at_call 11; refine (writef_no g _ pl sx (.inr hb0)).mono ?_; rintro e w4 ⟨rfl, rfl⟩))
              go_wp2
              go_roundw
              case rel => exact ⟨q + 1, n', F, N, L, hlt, by go_num, by omega, hN, HF, h.kept0 K0⟩
              case measure => simp [intOf]; omega
            · obtain ⟨p, rfl⟩ := Int.eq_ofNat_of_zero_le hb0
              have HF2 := hide (HF.out.write p sx)
              have HWL := hide (write_len N p sx)
              go_upto_region 16 with (fail)
              have K0 : Kept [] wr wr.drew := (Kept.refl _ _).drew
              have hd := h.kept0 K0
              go_region_held3 (fun W : World => W.cell? ⟨bl, off + q * 4 + 1, none⟩ = some (.int .i64 p) ∧ W.cell? ⟨bl, off + q * 4 + 2, none⟩ = some (.string sx)) (first | exact HC.out _ K0 | exact HW4.out) (first | (go_at_call 11; refine (writeS w g n' N _ L F _ p sx hd (by omega) (by omega) (by omega)).mono ?_; rintro e w4 ⟨rfl, F4, h4, t4⟩; have HW4 : Hid (w4.cell? ⟨bl, off + q * 4 + 1, none⟩ = some (.int .i64 p) ∧ w4.cell? ⟨bl, off + q * 4 + 2, none⟩ = some (.string sx)) := hide (HCW.out _ h4.2)))
              go_wp2
              go_roundw
              case rel => exact ⟨q + 1, n' + 500, F4, _, _, hlt, by go_num, by omega, by rw [HWL.out]; omega, HF2, h4⟩
              case measure => simp [intOf]; omega
        · obtain rfl : q = n := by omega
          have HLO := hide (HF.out.lost (fun x hx => by obtain ⟨i, _, rfl⟩ := List.mem_map.1 hx; exact pp_ne t i) (fun _ => false))
          go_wp2_with fail
          refine (powerS w g n' N _ L F wr none 0 0 (fun _ => false) h (by omega) (by omega) (Rd.zero _ _ _)).mono ?_
          rintro e w4 ⟨rfl, F4, h4, _⟩
          rw [HLO.out] at h4
          clear h
          go_wp2
          go_loopw [8] (fun i wz => ∃ k : Nat, k ≤ j ∧ i = .int .i64 k ∧ FileS w wz g (byP j (pp t)) (byP j (pp t)) 0 (fun _ => false) F4) (fun i _ => j - (intOf i).toNat)
          case atStart => exact ⟨0, Nat.zero_le _, rfl, h4⟩
          case round =>
            clear h4
            obtain ⟨k, hk, rfl, h⟩ := hrel
            by_cases hlt : k < j
            · obtain ⟨bl, off, hA, _, hc⟩ := (HR.out.kept0 h.2) k hlt
              subst hA
              have hsz := HT.out k hlt
              unfold txtF at hc

              have hq : ¬ 9223372036854775807 < 1 + (t k).size := by omega
              have HRD : Hid (∀ q, Calls Try.prog 20 #[.pointer (some ⟨g, 0, none⟩), .int .i64 (k : Int)] (wr.drewN q) fun e w' => e = .returned (.string (⟨#[112]⟩ ++ t k)) ∧ wr.drewN q = w') := hide fun q => by
                have h5 := readf_any w.heap.size g 0 _ _ _ F4 (wr.drewN q) (k : Int) (h.kept0 ((Kept.refl _ _).drewN q)).1
                rw [at_in, byP_get hlt] at h5
                exact h5
              generalize t k = x at hc hq HRD
              clear hsz
              go_upto_region 21 with (fail)
              go_quiet ((first | (go_at_call 20; exact quiet_sameF (HRD.out _))))
              go_wp2
              go_roundw
              case rel => exact ⟨k + 1, hlt, by go_num, h.kept0 ((Kept.refl _ _).drewN _)⟩
              case measure => simp [intOf]; omega
            · obtain rfl : k = j := by omega
              go_wp2_with fail
              refine (lenf_any w.heap.size g 0 _ _ _ F4 wr h.1).mono ?_
              rintro e w' ⟨rfl, rfl⟩
              rw [byP_len]
              go_wp2_with fail
              refine (looseS w g 0 _ _ _ F4 wr h (by rw [byP_len]; omega)).mono ?_
              rintro e w5 ⟨A5, c5, rfl, _, h5, _, _, _⟩
              rw [show looseL (fun _ => false) (byP k (pp t)).length = [] from by simp [looseL]]
              go_wp2
              go_ret
              exact ⟨rfl, h5.2⟩
end Go.Proofs.Ytabcchadjgnldaa
