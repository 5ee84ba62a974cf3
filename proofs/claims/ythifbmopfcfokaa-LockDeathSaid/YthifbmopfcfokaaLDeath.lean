/- What LockDeath answers: true, at every three bytes. Conditions: none. -/
import Derived.Test.YthifbmopfcfokaaLDeathPlain
namespace Go.Proofs.Ythifbmopfcfokaa
open Go.RowKit Go.Conc

set_option maxRecDepth 100000 in
set_option maxHeartbeats 2000000 in
theorem death_any (who dd n : Int) (h0 : 0 ≤ who) (h1 : who < 256) (n0 : 0 ≤ n) (n1 : n < 256) (w : World) :
    Calls Try.prog 13 #[.int .u8 who, .int .u8 dd, .int .u8 n] w fun e w' => e = .returned (.bool true) ∧ Kept [] w w' := by
  obtain ⟨m, hm⟩ : ∃ m : Nat, n % 8 = (m : Int) := ⟨(n % 8).toNat, (Int.toNat_of_nonneg (Int.emod_nonneg _ (by omega))).symm⟩
  have hm8 : m < 8 := by omega
  have hmz : ((m : Int) + 1 == 0) = false := by simp; omega
  go_enter Try.func13, Try.ntmps13
  go_wp2_with fail
  refine (known6_any w).mono ?_
  rintro e w1 ⟨rfl, k1⟩
  go_wp2_with fail
  refine (newl_any w1).mono ?_
  rintro e w2 ⟨gl, rfl, hL2, k2, hgl⟩
  have K2 := k1.trans0 k2
  have hgl : w.heap.size ≤ gl := Nat.le_trans k1.size hgl
  clear k1 k2
  go_wp2_with fail
  refine (newp_P w gl _ _ _ _ hL2 hgl K2).mono ?_
  rintro e w3 ⟨g, rfl, h3, _, _⟩
  clear hL2 K2
  go_wp2
  have HM := hide hm
  clear hm
  go_loopw [10, 11, 12] (fun i _ _ wz => ∃ j : Nat, j ≤ m + 2 ∧ i = .int .i64 (j + 1) ∧ LP w wz gl g 0 (pk (min j (m + 1))) (part txf (min j (m + 1))) (ups j) j) (fun i _ _ _ => m + 3 - (intOf i).toNat)
  case atStart => exact ⟨0, Nat.zero_le _, rfl, by rw [Nat.zero_min, pk, part_zero, part_zero]; exact h3⟩
  case round =>
    obtain ⟨j, hj, rfl, h⟩ := hrel
    clear h3
    by_cases hlt : j < m + 1
    · rw [Nat.min_eq_left (by omega)] at h
      have hj8 : j < 8 := by omega
      obtain ⟨r, hr⟩ := pk_first hj8
      have HR := hide hr
      have HP := hide (part_again txf j)
      have HT : Hid ((10 : Int) + (j + 1) = txf j) := hide (by unfold txf; omega)
      clear hr
      go_wp2_with fail
      refine (spawn_P w gl g _ _ _ _ _ _ h (by rw [ups_len]; omega) (by omega) (by omega)).mono ?_
      rintro e w4 ⟨rfl, h4⟩
      rw [ups_succ] at h4
      go_wp2_with fail
      refine (claim_P w gl g _ _ _ _ _ _ _ j r (by omega) h4 HR.out).mono ?_
      rintro e w5 ⟨rfl, h5⟩
      rw [pk_succ] at h5
      clear h h4
      go_wp2_with fail
      rw [HT.out]
      refine (publish_P w gl g _ _ _ _ _ _ j _ _ hj8 h5 (pk_owns hj8)).mono ?_
      rintro e w6 ⟨rfl, h6⟩
      rw [HP.out] at h6
      go_wp2
      go_roundw
      case rel => exact ⟨j + 1, by omega, by go_num, by rw [Nat.min_eq_left (by omega)]; simpa using h6⟩
      case measure => simp [intOf]; omega
    · rw [Nat.min_eq_right (by omega)] at h
      by_cases hlt2 : j < m + 2
      · obtain rfl : j = m + 1 := by omega
        go_wp2_with fail
        refine (spawn_P w gl g _ _ _ _ _ _ h (by rw [ups_len]; omega) (by omega) (by omega)).mono ?_
        rintro e w4 ⟨rfl, h4⟩
        rw [ups_succ] at h4
        go_wp2
        go_roundw
        case rel => exact ⟨m + 2, by omega, by go_num, by rw [Nat.min_eq_right (by omega), show ((m + 2 : Nat) : Int) = ((m + 1 : Nat) : Int) + 1 from by omega]; exact h4⟩
        case measure => simp [intOf]; omega
      · obtain rfl : j = m + 2 := by omega
        obtain ⟨v, hv⟩ : ∃ v : Nat, who % ((m : Int) + 1) = (v : Int) := ⟨(who % ((m : Int) + 1)).toNat, (Int.toNat_of_nonneg (Int.emod_nonneg _ (by omega))).symm⟩
        have hvm : v ≤ m := by
          have := Int.emod_lt_of_pos who (b := (m : Int) + 1) (by omega)
          omega
        have ht : takes 0 ((v : Int) + 1) (ups (m + 2)) = true := by
          have e1 : ¬ (0 : Int) = (v : Int) + 1 := by omega
          have e2 : (0 : Int) < (v : Int) + 1 := by omega
          simp [takes, e1, e2]
        have HT := hide ht
        clear ht
        go_wp2_with fail
        refine (take_Py w gl g _ _ _ _ _ wr _ h HT.out).mono ?_
        rintro e w4 ⟨rfl, h4⟩
        clear h
        have HV := hide hv
        clear hv
        go_wp2
        go_loopw [14, 15] (fun gn i wz => ∃ (j : Nat) (l : List Int), j ≤ m + 1 ∧ gn = .int .i64 (gc dd j) ∧ i = .int .i64 (j + 1) ∧ Hid (Left dd m j l) ∧ LP w wz gl g (v + 1) (pk (m + 1)) (part txf (m + 1)) l ((m + 2 : Nat) : Int)) (fun _ i _ => m + 2 - (intOf i).toNat)
        case atStart => exact ⟨0, _, Nat.zero_le _, rfl, rfl, hide Left.start, h4⟩
        case round =>
          clear h4
          obtain ⟨j, l, hj, rfl, rfl, HS, h⟩ := hrel
          by_cases hlt : j < m + 1
          · have hgb := gc_bd dd j
            by_cases hD : gone dd j = true
            · have hb : (bits BinOp.and IntKind.u8 (dd / 2 ^ ((j + 1) % 8)) 1 == 1) = true := hD
              have HG := hide (show gc dd (j + 1) = gc dd j + 1 from if_pos hD)
              have HS2 := hide (HS.out.kill hD)
              have HM := hide (HS.out.mem hlt)
              clear hD
              generalize gc dd j = q at HG hgb
              go_wp2_with fail
              refine (kill_P w gl g _ _ _ _ _ wr _ h HM.out).mono ?_
              rintro e w5 ⟨rfl, h5⟩
              go_wp2
              go_roundw
              case rel => exact ⟨j + 1, _, hlt, by rw [HG.out], by go_num, HS2, h5⟩
              case measure => simp [intOf]; omega
            · have hD' : gone dd j = false := by simpa using hD
              have hb : (bits BinOp.and IntKind.u8 (dd / 2 ^ ((j + 1) % 8)) 1 == 1) = false := hD'
              have HG := hide (show gc dd (j + 1) = gc dd j from if_neg hD)
              have HS2 := hide (HS.out.live hD')
              clear hD hD'
              generalize gc dd j = q at HG hgb
              go_wp2
              go_roundw
              case rel => exact ⟨j + 1, _, hlt, by rw [HG.out], by go_num, HS2, h⟩
              case measure => simp [intOf]; omega
          · obtain rfl : j = m + 1 := by omega
            have hC := HS.out.cnt 8
            rw [Nat.min_eq_right (by omega : m + 1 ≤ 8)] at hC
            have HC := hide hC
            have HTK := hide (HS.out.takes hvm)
            have HLV := hide (HS.out.at' (i := v) (by omega))
            clear hC
            generalize gone dd v = tk at HTK HLV
            have HQ := hide (Int.natCast_add m 2)
            generalize gc dd (m + 1) = cn at HC
            go_wp2_with fail
            refine (take_P w gl g _ _ _ _ _ wr ((m : Int) + 1 + 1) h).mono ?_
            rw [show (m : Int) + 1 + 1 = (m : Int) + 2 from by omega, HTK.out]
            rintro e w5 ⟨rfl, h5⟩
            generalize (if tk = true then (m : Int) + 2 else (v : Int) + 1) = ow at h5
            go_wp2_with fail
            refine (sweep_P w gl g _ _ _ _ _ w5 h5).mono ?_
            rintro e w6 ⟨rfl, h6⟩
            rw [HC.out]
            go_wp2_with fail
            refine (slots_any gl _ _ _ w6 h6.1).mono ?_
            rintro e w7 ⟨b, c, rfl, hsl, k7⟩
            have h7 := h6.kept0 k7
            clear h h5 h6
            go_wp2
            clear HTK HC HQ
            have HCC : Hid (∃ P T : Nat → Int, P = swp (pk (m + 1)) (pk (m + 1)) l 8 ∧ T = swp (pk (m + 1)) (part txf (m + 1)) l 8) := hide ⟨_, _, rfl, rfl⟩
            obtain ⟨P, T, hP, hT⟩ := HCC.out
            rw [← hP, ← hT] at h7 hsl
            have HP := hide hP
            have HTT := hide hT
            clear hP hT HCC
            go_loopw [19] (fun i wz => ∃ j : Nat, j ≤ m + 1 ∧ i = .int .i64 (j + 1) ∧ LP w wz gl g ow P T l ((m + 2 : Nat) : Int) ∧ SlotsAt wz b P T) (fun i _ => m + 2 - (intOf i).toNat)
            case atStart => exact ⟨0, Nat.zero_le _, rfl, h7, hsl⟩
            case round =>
              clear h7 hsl
              obtain ⟨j, hj, rfl, h7, hsl⟩ := hrel
              by_cases hlt : j < m + 1
              · have hj8 : j < 8 := by omega
                have c0 := hsl.pid hj8
                have c1 := hsl.txn hj8
                have HLJ := hide (HS.out.at' hlt)
                rw [HP.out, show swp (pk (m + 1)) (pk (m + 1)) l 8 j = if gone dd j = true then 0 else (j : Int) + 1 from HS.out.swp (fun i : Nat => (i : Int) + 1) hlt hj8] at c0
                rw [HTT.out, HS.out.swp txf hlt hj8] at c1
                have hi0 : (0 : Int) ≤ (j : Int) := by omega
                have hi8 : (j : Int) < 8 := by omega
                have hiw : IntKind.i64.wrap (j : Int) = (j : Int) := IntWalk.i64_in _ (by omega)
                by_cases hg : gone dd j = true
                · rw [hg] at c0 c1 HLJ
                  simp only [if_true] at c0 c1
                  clear hg
                  have HL2 : Hid (∀ k, Calls Try.prog 38 #[.pointer (some ⟨g, 0, none⟩), .int .i64 ((j : Int) + 1)] (wr.drewN k) fun e w' => e = .returned (.bool false) ∧ wr.drewN k = w') := hide fun k => by
                    have h := lives_L w g _ _ _ _ ((j : Int) + 1) (h7.2.2.drewN k)
                    rw [HLJ.out] at h
                    exact h
                  have hb : ((0 : Int) == (j : Int) + 1) = false := by simp; omega
                  go_upto_region 29 with (fail)
                  go_quiet ((first | (go_at_call 38; exact quiet_sameL (HL2.out _))))
                  go_wp2
                  go_roundw
                  case rel => exact ⟨j + 1, hlt, by go_num, h7.kept0 ((Kept.refl _ _).drewN _), hsl.kept0 ((Kept.refl _ _).drewN _)⟩
                  case measure => simp [intOf]; omega
                · have hg' : gone dd j = false := by simpa using hg
                  rw [hg'] at c0 c1 HLJ
                  simp only [if_false, Bool.false_eq_true] at c0 c1
                  clear hg hg'
                  have HL2 : Hid (∀ k, Calls Try.prog 38 #[.pointer (some ⟨g, 0, none⟩), .int .i64 ((j : Int) + 1)] (wr.drewN k) fun e w' => e = .returned (.bool true) ∧ wr.drewN k = w') := hide fun k => by
                    have h := lives_L w g _ _ _ _ ((j : Int) + 1) (h7.2.2.drewN k)
                    rw [HLJ.out] at h
                    exact h
                  have hb : ((j : Int) + 1 == (0 : Int)) = false := by simp; omega
                  go_upto_region 29 with (fail)
                  go_quiet ((first | (go_at_call 38; exact quiet_sameL (HL2.out _))))
                  go_wp2
                  go_roundw
                  case rel => exact ⟨j + 1, hlt, by go_num, h7.kept0 ((Kept.refl _ _).drewN _), hsl.kept0 ((Kept.refl _ _).drewN _)⟩
                  case measure => simp [intOf]; omega
              · obtain rfl : j = m + 1 := by omega
                have HL2 : Hid (Calls Try.prog 38 #[.pointer (some ⟨g, 0, none⟩), .int .i64 ((v : Int) + 1)] wr fun e w' => e = .returned (.bool !tk) ∧ wr = w') := hide (by
                  have h := lives_L w g _ _ _ _ ((v : Int) + 1) h7.2.2
                  rw [HLV.out] at h
                  exact h)
                go_wp2_with fail
                refine HL2.out.mono ?_
                rintro e w8 ⟨rfl, rfl⟩
                cases tk
                all_goals
                  go_wp2
                  go_ret
                  exact ⟨rfl, h7.all⟩
end Go.Proofs.Ythifbmopfcfokaa
