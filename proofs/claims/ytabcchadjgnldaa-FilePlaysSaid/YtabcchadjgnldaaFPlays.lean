/- What FilePlays answers: true, at every pages and every steps. Conditions: the pages read as texts, the steps as steps. -/
import Derived.Test.YtabcchadjgnldaaFDuo
import Derived.Test.YtabcchadjgnldaaFSteps
import Derived.Deep.RegionHeld3
namespace Go.Proofs.Ytabcchadjgnldaa
open Go.RowKit

theorem Pair.k0 {w wz : World} {g r n : Nat} {N S : List ByteArray} {L : Int → Bool} {V D : List ByteArray} {l : List Int} (_ : Pair w wz g r n N S L V D l) : Kept [] wz wz.drew := (Kept.refl _ _).drew

set_option maxHeartbeats 20000000 in
set_option maxRecDepth 100000 in
theorem fplays_any (A : Option Addr) (m c : Nat) (t : Nat → ByteArray) (B : Option Addr) (n d : Nat) (hmc : m ≤ c) (hc0 : A = none → c = 0) (hm : m ≤ 9223372036854775807) (hn : n ≤ 9223372036854775807) (w : World) (hr : Rd w A m (txtF t)) (hs : StepsAt w B n) :
    Calls Try.prog 3 #[.slice A m c, .slice B n d] w fun e w' => e = .returned (.bool true) ∧ Kept [] w w' := by
  have HR := hide hr
  have HS := hide hs
  have HC0 := hide hc0
  clear hr hs hc0
  go_enter Try.func3, Try.ntmps3
  go_wp2_with fail
  refine (known4_any w).mono ?_
  rintro e w1 ⟨rfl, k1'⟩
  by_cases hn60 : 60 < n
  · go_wp2
    go_ret
    exact ⟨rfl, k1'⟩
  by_cases hm20 : 20 < m
  · go_wp2
    go_ret
    exact ⟨rfl, k1'⟩
  go_wp2_with fail
  refine (newS w w1 A m c (byP m t) k1' hmc (byP_len _ _) (by omega) (rd_byP (HR.out.kept0 k1'))).mono ?_
  rintro e w2 ⟨g, F0, rfl, h2, _, _⟩
  clear k1'
  go_wp2_with fail
  refine (newr_any (byP m t) w2 A m c hmc HC0.out (byP_len _ _) (by omega) (rd_byP (HR.out.kept0 h2.2))).mono ?_
  rintro e w3 ⟨r, G0, rfl, h3, k3, hG3⟩
  have HD : Pair w w3 g r 0 (byP m t) (byP m t) (fun _ => false) (byP m t) (byP m t) (looseL (fun _ => false) (byP m t).length) := ⟨F0, G0, h2.kept0 k3, by rw [loose_none]; exact h3.low h2.size, fun x hx => ⟨(h3.lt x hx).2, fun hf => by
    have := (h2.1.lt x hf).2
    have := hG3 x hx
    omega⟩⟩
  have HL0 : (byP m t).length ≤ 61 := by rw [byP_len]; omega
  generalize hP : byP m t = P at HD HL0
  clear h2 h3 hG3 k3 hP
  go_wp2
  go_loopw [7, 8, 9] (fun i _ _ wz => ∃ (q : Nat) (N S : List ByteArray) (L : Int → Bool) (n' : Nat), q ≤ n ∧ i = .int .i64 q ∧ n' ≤ 500 * q ∧ N.length ≤ 61 ∧ ∃ D, D = S ∧ Pair w wz g r n' N S L N D (looseL L N.length)) (fun i _ _ _ => n - (intOf i).toNat)
  case atStart => exact ⟨0, P, P, _, 0, Nat.zero_le _, rfl, Nat.zero_le _, HL0, P, rfl, HD⟩
  case round =>
    clear HD HL0
    obtain ⟨q, N, S, L, n', hq, rfl, hn', hN, D, hDS, h⟩ := hrel
    by_cases hlt : q < n
    · obtain ⟨bl, off, wh, pl, sx, kA, kn, kc, kf, hA, hbl, a0', a1', a2', a3', hrk, _, _⟩ := HS.out q hlt
      subst hA
      have hb := h.all.block bl hbl (by simp)
      have a0 := (World.cell?_of_block hb).trans a0'
      have a1 := (World.cell?_of_block hb).trans a1'
      have a2 := (World.cell?_of_block hb).trans a2'
      have a3 := (World.cell?_of_block hb).trans a3'
      have HK := hide hrk
      have hx := h.made 31 #[.int .i64 wh, .int .i64 pl, .string sx, .slice kA kn kc]
      have HX := hide hx
      have HDS := hide hDS
      have hall := h.all.alloc (.cells #[.int .i64 wh, .int .i64 pl, .string sx, .slice kA kn kc] 31)
      clear hb a0' a1' a2' a3' hrk hx h hDS
      by_cases h5 : 500 < kn
      · go_wp2
        go_ret
        exact ⟨rfl, hall⟩
      by_cases h6 : 100 < sx.size
      · go_wp2
        go_ret
        exact ⟨rfl, hall⟩
      by_cases h61 : 60 < pl ∧ pl < 1000000
      · obtain ⟨h61a, h61b⟩ := h61
        go_wp2
        go_ret
        exact ⟨rfl, hall⟩
      have hbd : pl ≤ 60 ∨ 1000000 ≤ pl := by omega
      by_cases hw5 : wh ≤ 5
      · by_cases hin : 0 ≤ pl ∧ pl ≤ 60
        · obtain ⟨p, rfl⟩ := Int.eq_ofNat_of_zero_le hin.1
          have hp60 := hin.2
          clear hin h61 hbd
          go_upto_region 15 with (fail)
          have HXX := hide (HX.out.kept0 (Kept.refl _ _).drew)
          go_region_held3 (fun W : World => W.cell? ⟨wr.heap.size, 1, none⟩ = some (.int .i64 p) ∧ W.cell? ⟨wr.heap.size, 2, none⟩ = some (.string sx)) (exact ⟨HXX.out.blk.cell 1, HXX.out.blk.cell 2⟩) (first
            | (go_at_call 11; refine (write_P w _ g r _ _ _ _ _ _ _ _ _ _ p sx HXX.out (by omega) (by omega) (by omega)).mono ?_; rintro e w4 ⟨rfl, hx4⟩; have HXX := hide hx4; clear hx4)
            | (go_at_call 12; refine (writer_P w _ g r _ _ _ _ _ _ _ _ _ _ p sx HXX.out (by omega) (by have := loose_length L N.length; omega) (by omega)).mono ?_; rintro e w4 ⟨rfl, hx4⟩; have HXX := hide hx4; clear hx4))
          all_goals
            have hD := HXX.out.drop
            rw [ins_write, ← write_len N p sx] at hD
            obtain ⟨N6, S6, L6, n6, hD, hn6, hN6, hD6⟩ : ∃ N6 S6 L6 n6, Pair w _ g r n6 N6 S6 L6 N6 D (looseL L6 N6.length) ∧ n6 ≤ 500 * (q + 1) ∧ N6.length ≤ 61 ∧ D = S6 := ⟨_, S, _, _, hD, by omega, by rw [write_len]; omega, HDS.out⟩
            go_upto_region 20 with (fail)
            have hDk := hide hD
            obtain ⟨AV, cV, AL, cL, c0, c2, hrl, hrlt⟩ := hD.refs
            have hLl := loose_length L6 N6.length
            obtain ⟨nV, hnV⟩ : ∃ k, N6.length = k := ⟨_, rfl⟩
            obtain ⟨ql, hql⟩ : ∃ k, looseL L6 N6.length = k := ⟨_, rfl⟩
            obtain ⟨nl, hnl⟩ : ∃ k, ql.length = k := ⟨_, rfl⟩
            rw [hql, hnl] at c2 hrl hLl
            rw [hnV] at c0 hLl hN6
            have K := hD.k0
            have HC0 : Hid (∀ W, Kept [] _ W → W.cell? ⟨r, 0, none⟩ = some (.slice AV nV cV)) := hide fun W hW => (World.cell?_of_block (hW.block r hrlt (by simp))).trans c0
            have HC2 : Hid (∀ W, Kept [] _ W → W.cell? ⟨r, 2, none⟩ = some (.slice AL nl cL)) := hide fun W hW => (World.cell?_of_block (hW.block r hrlt (by simp))).trans c2
            have HRL := hide hrl
            have HNV := hide hnV
            have HQL := hide hql
            have HNL := hide hnl
            have HD6 := hide hD6
            clear c0 c2 hrl hnV hql hnl hD hD6
            go_region_held3 (fun W : World => W.cell? ⟨r, 0, none⟩ = some (.slice AV nV cV) ∧ W.cell? ⟨r, 2, none⟩ = some (.slice AL nl cL)) (exact ⟨HC0.out _ K, HC2.out _ K⟩) (first
              | (go_at_call 17; refine (len_P w _ g r _ _ _ _ _ _ _ nV HNV.out (hDk.out.kept0 K)).mono ?_; rintro e w' ⟨rfl, rfl⟩)
              | (go_at_call 19; refine (loose_P w _ g r _ _ _ _ _ _ _ ql nl HQL.out HNL.out (hDk.out.kept0 K) (by rw [HNV.out]; omega)).mono ?_; rintro e w' ⟨A5, c5, rfl, k5, hr5⟩; have K := K.trans0 k5; have HR5 := hide hr5; clear hr5)
              | (go_at_call 18; refine (same_P _ A5 AL nl c5 cL ql HNL.out (by omega) HR5.out (HRL.out.kept0 K)).mono ?_; rintro e w' ⟨rfl, zz, rfl⟩; have K := K.drewN zz))
            all_goals
              go_wp2
              have hD := hDk.out.kept0 K
              go_loopw [9] (fun i wz => ∃ k : Nat, k ≤ nV + 2 ∧ i = .int .i64 k ∧ Pair w wz g r n6 N6 S6 L6 N6 D (looseL L6 N6.length)) (fun i _ => nV + 2 - (intOf i).toNat)
              case atStart => exact ⟨0, Nat.zero_le _, rfl, hD⟩
              case round =>
                clear hD K
                obtain ⟨k, hk, rfl, h⟩ := hrel
                obtain ⟨AV, cV, AL, cL, c0, _, _, _⟩ := h.refs
                rw [HNV.out] at c0
                by_cases hlt2 : k < nV + 2
                · go_wp2_with fail
                  refine (read_P w _ g r _ _ _ _ _ _ _ k h).mono ?_
                  rintro e w8 ⟨rfl, rfl⟩
                  go_wp2_with fail
                  refine (readr_P w _ g r _ _ _ _ _ _ _ k h).mono ?_
                  rintro e w8 ⟨rfl, rfl⟩
                  generalize at' N6 k = y
                  go_wp2
                  go_roundw
                  case rel => exact ⟨k + 1, hlt2, by go_num, h⟩
                  case measure => simp [intOf]; omega
                · obtain rfl : k = nV + 2 := by omega
                  go_wp2
                  go_roundw
                  case rel => exact ⟨q + 1, N6, S6, L6, n6, hlt, by go_num, hn6, by rw [HNV.out]; exact hN6, _, HD6.out, h⟩
                  case measure => simp [intOf]; omega
        · have hbad : pl < 0 ∨ 400 ≤ pl := by omega
          have HBAD := hide hbad
          clear hin h61 hbad
          rcases hbd with hb | hb
          all_goals
            go_upto_region 15 with (fail)
            have HXX := hide (HX.out.kept0 (Kept.refl _ _).drew)
            go_region_held3 (fun W : World => W.cell? ⟨wr.heap.size, 1, none⟩ = some (.int .i64 pl) ∧ W.cell? ⟨wr.heap.size, 2, none⟩ = some (.string sx)) (exact ⟨HXX.out.blk.cell 1, HXX.out.blk.cell 2⟩) (first
              | (go_at_call 11; refine (write_Pf w _ g r _ _ _ _ _ _ _ _ _ _ pl sx HXX.out HBAD.out).mono ?_; rintro e w4 ⟨rfl, hx4⟩; have HXX := hide hx4; clear hx4)
              | (go_at_call 12; refine (writer_Pf w _ g r _ _ _ _ _ _ _ _ _ _ pl sx HXX.out HBAD.out).mono ?_; rintro e w4 ⟨rfl, hx4⟩; have HXX := hide hx4; clear hx4))
          all_goals
            obtain ⟨N6, S6, L6, n6, hD, hn6, hN6, hD6⟩ : ∃ N6 S6 L6 n6, Pair w _ g r n6 N6 S6 L6 N6 D (looseL L6 N6.length) ∧ n6 ≤ 500 * (q + 1) ∧ N6.length ≤ 61 ∧ D = S6 := ⟨_, S, _, _, HXX.out.drop, by omega, by omega, HDS.out⟩
            go_upto_region 20 with (fail)
            have hDk := hide hD
            obtain ⟨AV, cV, AL, cL, c0, c2, hrl, hrlt⟩ := hD.refs
            have hLl := loose_length L6 N6.length
            obtain ⟨nV, hnV⟩ : ∃ k, N6.length = k := ⟨_, rfl⟩
            obtain ⟨ql, hql⟩ : ∃ k, looseL L6 N6.length = k := ⟨_, rfl⟩
            obtain ⟨nl, hnl⟩ : ∃ k, ql.length = k := ⟨_, rfl⟩
            rw [hql, hnl] at c2 hrl hLl
            rw [hnV] at c0 hLl hN6
            have K := hD.k0
            have HC0 : Hid (∀ W, Kept [] _ W → W.cell? ⟨r, 0, none⟩ = some (.slice AV nV cV)) := hide fun W hW => (World.cell?_of_block (hW.block r hrlt (by simp))).trans c0
            have HC2 : Hid (∀ W, Kept [] _ W → W.cell? ⟨r, 2, none⟩ = some (.slice AL nl cL)) := hide fun W hW => (World.cell?_of_block (hW.block r hrlt (by simp))).trans c2
            have HRL := hide hrl
            have HNV := hide hnV
            have HQL := hide hql
            have HNL := hide hnl
            have HD6 := hide hD6
            clear c0 c2 hrl hnV hql hnl hD hD6
            go_region_held3 (fun W : World => W.cell? ⟨r, 0, none⟩ = some (.slice AV nV cV) ∧ W.cell? ⟨r, 2, none⟩ = some (.slice AL nl cL)) (exact ⟨HC0.out _ K, HC2.out _ K⟩) (first
              | (go_at_call 17; refine (len_P w _ g r _ _ _ _ _ _ _ nV HNV.out (hDk.out.kept0 K)).mono ?_; rintro e w' ⟨rfl, rfl⟩)
              | (go_at_call 19; refine (loose_P w _ g r _ _ _ _ _ _ _ ql nl HQL.out HNL.out (hDk.out.kept0 K) (by rw [HNV.out]; omega)).mono ?_; rintro e w' ⟨A5, c5, rfl, k5, hr5⟩; have K := K.trans0 k5; have HR5 := hide hr5; clear hr5)
              | (go_at_call 18; refine (same_P _ A5 AL nl c5 cL ql HNL.out (by omega) HR5.out (HRL.out.kept0 K)).mono ?_; rintro e w' ⟨rfl, zz, rfl⟩; have K := K.drewN zz))
            all_goals
              go_wp2
              have hD := hDk.out.kept0 K
              go_loopw [9] (fun i wz => ∃ k : Nat, k ≤ nV + 2 ∧ i = .int .i64 k ∧ Pair w wz g r n6 N6 S6 L6 N6 D (looseL L6 N6.length)) (fun i _ => nV + 2 - (intOf i).toNat)
              case atStart => exact ⟨0, Nat.zero_le _, rfl, hD⟩
              case round =>
                clear hD K
                obtain ⟨k, hk, rfl, h⟩ := hrel
                obtain ⟨AV, cV, AL, cL, c0, _, _, _⟩ := h.refs
                rw [HNV.out] at c0
                by_cases hlt2 : k < nV + 2
                · go_wp2_with fail
                  refine (read_P w _ g r _ _ _ _ _ _ _ k h).mono ?_
                  rintro e w8 ⟨rfl, rfl⟩
                  go_wp2_with fail
                  refine (readr_P w _ g r _ _ _ _ _ _ _ k h).mono ?_
                  rintro e w8 ⟨rfl, rfl⟩
                  generalize at' N6 k = y
                  go_wp2
                  go_roundw
                  case rel => exact ⟨k + 1, hlt2, by go_num, h⟩
                  case measure => simp [intOf]; omega
                · obtain rfl : k = nV + 2 := by omega
                  go_wp2
                  go_roundw
                  case rel => exact ⟨q + 1, N6, S6, L6, n6, hlt, by go_num, hn6, by rw [HNV.out]; exact hN6, _, HD6.out, h⟩
                  case measure => simp [intOf]; omega
      · by_cases hw6 : wh = 6
        · subst hw6
          rcases hbd with hb | hb
          all_goals
            clear h61
            go_wp2_with fail
            refine (sync_P w _ g r _ _ _ _ _ _ _ _ _ _ HX.out (by omega)).mono ?_
            rintro e w5 ⟨rfl, hx5⟩
            go_wp2_with fail
            refine (syncr_P w _ g r _ _ _ _ _ _ _ _ _ _ hx5 (by omega)).mono ?_
            rintro e w6 ⟨rfl, hx6⟩
            obtain ⟨N6, S6, L6, n6, hD, hn6, hN6, hD6⟩ : ∃ N6 S6 L6 n6, Pair w _ g r n6 N6 S6 L6 N6 N (looseL L6 N6.length) ∧ n6 ≤ 500 * (q + 1) ∧ N6.length ≤ 61 ∧ N = S6 := ⟨N, N, fun _ => false, 0, by rw [loose_none]; exact hx6.drop, by omega, hN, rfl⟩
            clear hx5 hx6
            go_upto_region 20 with (fail)
            have hDk := hide hD
            obtain ⟨AV, cV, AL, cL, c0, c2, hrl, hrlt⟩ := hD.refs
            have hLl := loose_length L6 N6.length
            obtain ⟨nV, hnV⟩ : ∃ k, N6.length = k := ⟨_, rfl⟩
            obtain ⟨ql, hql⟩ : ∃ k, looseL L6 N6.length = k := ⟨_, rfl⟩
            obtain ⟨nl, hnl⟩ : ∃ k, ql.length = k := ⟨_, rfl⟩
            rw [hql, hnl] at c2 hrl hLl
            rw [hnV] at c0 hLl hN6
            have K := hD.k0
            have HC0 : Hid (∀ W, Kept [] _ W → W.cell? ⟨r, 0, none⟩ = some (.slice AV nV cV)) := hide fun W hW => (World.cell?_of_block (hW.block r hrlt (by simp))).trans c0
            have HC2 : Hid (∀ W, Kept [] _ W → W.cell? ⟨r, 2, none⟩ = some (.slice AL nl cL)) := hide fun W hW => (World.cell?_of_block (hW.block r hrlt (by simp))).trans c2
            have HRL := hide hrl
            have HNV := hide hnV
            have HQL := hide hql
            have HNL := hide hnl
            have HD6 := hide hD6
            clear c0 c2 hrl hnV hql hnl hD hD6
            go_region_held3 (fun W : World => W.cell? ⟨r, 0, none⟩ = some (.slice AV nV cV) ∧ W.cell? ⟨r, 2, none⟩ = some (.slice AL nl cL)) (exact ⟨HC0.out _ K, HC2.out _ K⟩) (first
              | (go_at_call 17; refine (len_P w _ g r _ _ _ _ _ _ _ nV HNV.out (hDk.out.kept0 K)).mono ?_; rintro e w' ⟨rfl, rfl⟩)
              | (go_at_call 19; refine (loose_P w _ g r _ _ _ _ _ _ _ ql nl HQL.out HNL.out (hDk.out.kept0 K) (by rw [HNV.out]; omega)).mono ?_; rintro e w' ⟨A5, c5, rfl, k5, hr5⟩; have K := K.trans0 k5; have HR5 := hide hr5; clear hr5)
              | (go_at_call 18; refine (same_P _ A5 AL nl c5 cL ql HNL.out (by omega) HR5.out (HRL.out.kept0 K)).mono ?_; rintro e w' ⟨rfl, zz, rfl⟩; have K := K.drewN zz))
            all_goals
              go_wp2
              have hD := hDk.out.kept0 K
              go_loopw [9] (fun i wz => ∃ k : Nat, k ≤ nV + 2 ∧ i = .int .i64 k ∧ Pair w wz g r n6 N6 S6 L6 N6 N (looseL L6 N6.length)) (fun i _ => nV + 2 - (intOf i).toNat)
              case atStart => exact ⟨0, Nat.zero_le _, rfl, hD⟩
              case round =>
                clear hD K
                obtain ⟨k, hk, rfl, h⟩ := hrel
                obtain ⟨AV, cV, AL, cL, c0, _, _, _⟩ := h.refs
                rw [HNV.out] at c0
                by_cases hlt2 : k < nV + 2
                · go_wp2_with fail
                  refine (read_P w _ g r _ _ _ _ _ _ _ k h).mono ?_
                  rintro e w8 ⟨rfl, rfl⟩
                  go_wp2_with fail
                  refine (readr_P w _ g r _ _ _ _ _ _ _ k h).mono ?_
                  rintro e w8 ⟨rfl, rfl⟩
                  generalize at' N6 k = y
                  go_wp2
                  go_roundw
                  case rel => exact ⟨k + 1, hlt2, by go_num, h⟩
                  case measure => simp [intOf]; omega
                · obtain rfl : k = nV + 2 := by omega
                  go_wp2
                  go_roundw
                  case rel => exact ⟨q + 1, N6, S6, L6, n6, hlt, by go_num, hn6, by rw [HNV.out]; exact hN6, _, HD6.out, h⟩
                  case measure => simp [intOf]; omega
        · have hb6 : (wh == 6) = false := by simp [hw6]
          rcases hbd with hb | hb
          all_goals
            clear h61
            go_wp2_with fail
            refine (power_P w _ g r _ _ _ _ _ _ _ _ _ _ kA kn kc kf HX.out (by omega) (by omega) HK.out).mono ?_
            rintro e w5 ⟨rfl, hx5⟩
            have e3 : w5.cell? ⟨wr.heap.size, 3, none⟩ = some (.slice kA kn kc) := hx5.blk.cell 3
            go_wp2_with fail
            refine (powr_P w _ g r _ _ _ _ _ _ _ _ _ _ kA kn kc kf hx5 (by omega) (by have := loose_length L N.length; omega) (fun x hx => by
              obtain ⟨i, h1, _, h3⟩ := loose_mem.1 hx
              exact ⟨i, h1, h3⟩) HK.out).mono ?_
            rintro e w6 ⟨rfl, hx6⟩
            have hx7 := hx6.drop
            rw [HDS.out] at hx7
            have hlt6 := trim_le (powN N S kf kn (looseL L N.length) (looseL L N.length).length)
            rw [powN_len] at hlt6
            generalize trim (powN N S kf kn (looseL L N.length) (looseL L N.length).length) = N6 at hx7 hlt6
            obtain ⟨S6, L6, n6, hD, hn6, hN6, hD6⟩ : ∃ S6 L6 n6, Pair w _ g r n6 N6 S6 L6 N6 N6 (looseL L6 N6.length) ∧ n6 ≤ 500 * (q + 1) ∧ N6.length ≤ 61 ∧ N6 = S6 := ⟨N6, fun _ => false, 0, by rw [loose_none]; exact hx7, by omega, by omega, rfl⟩
            clear hx5 hx6 hx7 hlt6
            go_upto_region 20 with (fail)
            have hDk := hide hD
            obtain ⟨AV, cV, AL, cL, c0, c2, hrl, hrlt⟩ := hD.refs
            have hLl := loose_length L6 N6.length
            obtain ⟨nV, hnV⟩ : ∃ k, N6.length = k := ⟨_, rfl⟩
            obtain ⟨ql, hql⟩ : ∃ k, looseL L6 N6.length = k := ⟨_, rfl⟩
            obtain ⟨nl, hnl⟩ : ∃ k, ql.length = k := ⟨_, rfl⟩
            rw [hql, hnl] at c2 hrl hLl
            rw [hnV] at c0 hLl hN6
            have K := hD.k0
            have HC0 : Hid (∀ W, Kept [] _ W → W.cell? ⟨r, 0, none⟩ = some (.slice AV nV cV)) := hide fun W hW => (World.cell?_of_block (hW.block r hrlt (by simp))).trans c0
            have HC2 : Hid (∀ W, Kept [] _ W → W.cell? ⟨r, 2, none⟩ = some (.slice AL nl cL)) := hide fun W hW => (World.cell?_of_block (hW.block r hrlt (by simp))).trans c2
            have HRL := hide hrl
            have HNV := hide hnV
            have HQL := hide hql
            have HNL := hide hnl
            have HD6 := hide hD6
            clear c0 c2 hrl hnV hql hnl hD hD6
            go_region_held3 (fun W : World => W.cell? ⟨r, 0, none⟩ = some (.slice AV nV cV) ∧ W.cell? ⟨r, 2, none⟩ = some (.slice AL nl cL)) (exact ⟨HC0.out _ K, HC2.out _ K⟩) (first
              | (go_at_call 17; refine (len_P w _ g r _ _ _ _ _ _ _ nV HNV.out (hDk.out.kept0 K)).mono ?_; rintro e w' ⟨rfl, rfl⟩)
              | (go_at_call 19; refine (loose_P w _ g r _ _ _ _ _ _ _ ql nl HQL.out HNL.out (hDk.out.kept0 K) (by rw [HNV.out]; omega)).mono ?_; rintro e w' ⟨A5, c5, rfl, k5, hr5⟩; have K := K.trans0 k5; have HR5 := hide hr5; clear hr5)
              | (go_at_call 18; refine (same_P _ A5 AL nl c5 cL ql HNL.out (by omega) HR5.out (HRL.out.kept0 K)).mono ?_; rintro e w' ⟨rfl, zz, rfl⟩; have K := K.drewN zz))
            all_goals
              go_wp2
              have hD := hDk.out.kept0 K
              go_loopw [9] (fun i wz => ∃ k : Nat, k ≤ nV + 2 ∧ i = .int .i64 k ∧ Pair w wz g r n6 N6 S6 L6 N6 N6 (looseL L6 N6.length)) (fun i _ => nV + 2 - (intOf i).toNat)
              case atStart => exact ⟨0, Nat.zero_le _, rfl, hD⟩
              case round =>
                clear hD K
                obtain ⟨k, hk, rfl, h⟩ := hrel
                obtain ⟨AV, cV, AL, cL, c0, _, _, _⟩ := h.refs
                rw [HNV.out] at c0
                by_cases hlt2 : k < nV + 2
                · go_wp2_with fail
                  refine (read_P w _ g r _ _ _ _ _ _ _ k h).mono ?_
                  rintro e w8 ⟨rfl, rfl⟩
                  go_wp2_with fail
                  refine (readr_P w _ g r _ _ _ _ _ _ _ k h).mono ?_
                  rintro e w8 ⟨rfl, rfl⟩
                  generalize at' N6 k = y
                  go_wp2
                  go_roundw
                  case rel => exact ⟨k + 1, hlt2, by go_num, h⟩
                  case measure => simp [intOf]; omega
                · obtain rfl : k = nV + 2 := by omega
                  go_wp2
                  go_roundw
                  case rel => exact ⟨q + 1, N6, S6, L6, n6, hlt, by go_num, hn6, by rw [HNV.out]; exact hN6, _, HD6.out, h⟩
                  case measure => simp [intOf]; omega
    · obtain rfl : q = n := by omega
      have hall := h.all
      clear h
      go_wp2
      go_ret
      exact ⟨rfl, hall⟩
end Go.Proofs.Ytabcchadjgnldaa
