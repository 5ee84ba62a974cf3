/- What LockPlays answers: true, at every steps and every last version. Conditions: the steps read as steps; the package-level variable of errors holds the type error. -/
import Derived.Test.YthifbmopfcfokaaDoorQuad2
import Derived.Test.YthifbmopfcfokaaDoorLSteps
import Derived.Deep.RegionHeld3
import Derived.Deep.CutRange
import Derived.Deep.CutBlock
namespace Go.Proofs.YthifbmopfcfokaaDoor
open Go.RowKit

theorem Quad.start {a w : World} {gl g : Nat} (hL : LockAt w gl 0 (fun _ => 0) (fun _ => 0)) (hg : a.heap.size ≤ gl) (h : Live a w g [] 0 [gl]) :
    Quad a ((w.alloc (.cells (lockC 0 (fun _ => 0) (fun _ => 0)) 34)).alloc (.cells #[.slice none 0 0, .int .i64 0] 38)) ((w.alloc (.cells (lockC 0 (fun _ => 0) (fun _ => 0)) 34)).alloc (.cells #[.slice none 0 0, .int .i64 0] 38)) [] gl g w.heap.size (w.heap.size + 1) ⟨0, fun _ => 0, fun _ => 0⟩ ⟨0, fun _ => 0, fun _ => 0⟩ [] 0 [] 0 := by
  have k := ((Kept.refl [] w).alloc (.cells (lockC 0 (fun _ => 0) (fun _ => 0)) 34)).alloc (.cells #[.slice none 0 0, .int .i64 0] 38)
  have hw := h.size
  have hp := Blk.new (w.alloc (.cells (lockC 0 (fun _ => 0) (fun _ => 0)) 34)) 38 #[.slice none 0 0, .int .i64 0]
  rw [show (w.alloc (.cells (lockC 0 (fun _ => 0) (fun _ => 0)) 34)).heap.size = w.heap.size + 1 from by simp] at hp
  refine ⟨.slice none 0 0, Blk.kept0 hL k, (Blk.new w _ _).alloc _, ⟨hp, Own.nil _ _⟩, ⟨hg, hw, by omega⟩, h.turn k (by simp) (fun b hb => ?_), by simp⟩
  simp only [List.nil_append, List.mem_cons, List.not_mem_nil, or_false] at hb ⊢
  rcases hb with hb | hb | hb | hb
  · exact .inl hb
  · exact .inr ⟨by omega, by simp; omega⟩
  · exact .inr ⟨by omega, by simp; omega⟩
  · exact absurd hb (by simp [blk, Value.ownBlock])
theorem fit0 : (LS.mk 0 (fun _ => 0) (fun _ => 0)).fit := by simp [LS.fit]

set_option maxHeartbeats 20000000 in
set_option maxRecDepth 100000 in
theorem lplays_any (A : Option Addr) (n c : Nat) (lst : Int) (hm : n ≤ 9223372036854775807) (w : World) (hr : StepsL w A n) (hg : ErrVar w) :
    Calls Tryd.prog 3 #[.slice A n c, .int .u64 lst] w fun e w' => e = .returned (.bool true) ∧ Kept [] w w' := by
  have HR := hide hr
  have HG := hide hg
  clear hr hg
  go_enter Tryd.func3, Tryd.ntmps3
  go_wp2_with fail
  refine (known6_any w).mono ?_
  rintro e w1 ⟨rfl, k1⟩
  by_cases hn : 60 < n
  · go_wp2
    go_ret
    exact ⟨rfl, k1⟩
  go_wp2_with fail
  refine (newl_any w1).mono ?_
  rintro e w2 ⟨gl, rfl, hL2, k2, hgl⟩
  go_wp2_with fail
  refine (new_L w [gl] _ (k1.trans0 k2) (by simpa using Blk.lt hL2)).mono ?_
  rintro e w3 ⟨g, rfl, h3, k3, _⟩
  have hL3 : LockAt w3 gl 0 (fun _ => 0) (fun _ => 0) := Blk.kept0 hL2 k3
  have hgl2 : w.heap.size ≤ gl := Nat.le_trans k1.size hgl
  have HL3 := hide hL3
  have H3 := hide h3
  clear k1 k2 k3 hL2 hL3 h3 hgl
  go_wp2
  have hQ := Quad.start HL3.out hgl2 H3.out
  unfold lockC at hQ
  generalize ((w3.alloc _).alloc _) = w4 at hQ ⊢
  generalize w3.heap.size = rl at hQ ⊢
  generalize rl + 1 = rp at hQ ⊢
  have HQ := hide hQ
  clear hQ HL3 H3 hgl2
  go_loopw [9, 10, 11, 12, 13, 14, 15, 16, 17, 18] (fun i _ _ _ _ _ _ _ _ _ wz => ∃ (q : Nat) (s : LS) (l : List Int) (last : Int), q ≤ n ∧ i = .int .i64 q ∧ Hid s.fit ∧ l.length ≤ 64 ∧ 0 ≤ last ∧ last ≤ q ∧ Hid (Quad w wz wz [] gl g rl rp s s l last l last)) (fun i _ _ _ _ _ _ _ _ _ _ => n - (intOf i).toNat)
  case atStart => exact ⟨0, ⟨0, fun _ => 0, fun _ => 0⟩, [], 0, Nat.zero_le _, rfl, hide fit0, by simp, by omega, by omega, hide (HQ.out.drop _)⟩
  case round =>
    clear HQ
    obtain ⟨q, s, l, last, hq, rfl, HF, hl, hz0, hz1, HQ⟩ := hrel
    by_cases hlt : q < n
    · obtain ⟨bl, off, wh, pl, sl, tx, hA, hbl, a0', a1', a2', a3', hpl, htx0, htx1⟩ := HR.out q hlt
      subst hA
      have hb := HQ.out.all.block bl hbl (by simp)
      have a0 := (World.cell?_of_block hb).trans a0'
      have a1 := (World.cell?_of_block hb).trans a1'
      have a2 := (World.cell?_of_block hb).trans a2'
      have a3 := (World.cell?_of_block hb).trans a3'
      have hx := HQ.out.made 40 #[.int .i64 wh, .int .i64 pl, .int .i64 sl, .int .u64 tx]
      have HX := hide hx
      clear hb a0' a1' a2' a3' hx HQ
      go_upto_block 2 with (fail)
      go_cut [11, 12, 13, 14] from 30 to 172 (fun v11 v12 v13 v14 wz => ∃ (bx : Bool) (cx : Int) (s' : LS) (l' : List Int) (last' : Int), v11 = .bool bx ∧ v12 = .bool bx ∧ v13 = .int .i64 cx ∧ v14 = .int .i64 cx ∧ Hid s'.fit ∧ l'.length ≤ 64 ∧ 0 ≤ last' ∧ last' ≤ q + 1 ∧ Hid (Quad w wz wz [] gl g rl rp s' s' l' last' l' last'))
      case first =>
        have HB := hide (Blk.new wr 40 #[.int .i64 wh, .int .i64 pl, .int .i64 sl, .int .u64 tx])
        have HFIT0 : Hid (LS.mk (if takes s.ow pl l then pl else s.ow) s.p s.t).fit := hide (by
          cases e : takes s.ow pl l
          · exact HF.out
          · exact HF.out.own (q := pl) (by simp [takes] at e; omega) hpl)
        have HFIT1 : Hid (LS.mk (if lets s.ow pl then 0 else s.ow) s.p s.t).fit := hide (by
          cases e : lets s.ow pl
          · exact HF.out
          · exact HF.out.own (q := 0) (by omega) (by omega))
        by_cases hw0 : wh = 0
        · subst hw0
          go_upto_region 17 with (fail)
          have HXX := hide (HX.out.kept0 (Kept.refl _ _).drew)
          go_region_held3 (fun W : World => W.cell? ⟨wr.heap.size, 1, none⟩ = some (.int .i64 pl)) (exact (HXX.out.cell (by simp)).trans (HB.out.cell 1)) (first
            | (go_at_call 7; refine (take_Q _ _ _ _ _ _ _ _ _ _ _ _ _ _ pl HXX.out).mono ?_; rintro e w4 ⟨rfl, hx4⟩; have HXX := hide hx4; clear hx4)
            | (go_at_call 8; refine (rtake_Q _ _ _ _ _ _ _ _ _ _ _ _ _ _ pl HXX.out HF.out).mono ?_; rintro e w4 ⟨rfl, hx4⟩; have HXX := hide hx4; clear hx4))
          all_goals
            try go_wp2
            go_meet
            case rel => exact ⟨takes s.ow pl l, 0, ⟨if takes s.ow pl l then pl else s.ow, s.p, s.t⟩, l, last, rfl, rfl, rfl, rfl, hide (HFIT0.out), hl, hz0, by omega, hide (HXX.out.drop _)⟩
        · have hb0 : (wh == 0) = false := by simp [hw0]
          clear hw0
          by_cases hw1 : wh = 1
          · subst hw1
            go_upto_region 19 with (fail)
            have HXX := hide (HX.out.kept0 (Kept.refl _ _).drew)
            go_region_held3 (fun W : World => W.cell? ⟨wr.heap.size, 1, none⟩ = some (.int .i64 pl)) (exact (HXX.out.cell (by simp)).trans (HB.out.cell 1)) (first
              | (go_at_call 9; refine (release_Q _ _ _ _ _ _ _ _ _ _ _ _ _ _ pl HXX.out).mono ?_; rintro e w4 ⟨rfl, hx4⟩; have HXX := hide hx4; clear hx4)
              | (go_at_call 10; refine (rrelease_Q _ _ _ _ _ _ _ _ _ _ _ _ _ _ pl HXX.out).mono ?_; rintro e w4 ⟨rfl, hx4⟩; have HXX := hide hx4; clear hx4))
            all_goals
              try go_wp2
              go_meet
              case rel => exact ⟨lets s.ow pl, 0, ⟨if lets s.ow pl then 0 else s.ow, s.p, s.t⟩, l, last, rfl, rfl, rfl, rfl, hide (HFIT1.out), hl, hz0, by omega, hide (HXX.out.drop _)⟩
          · have hb1 : (wh == 1) = false := by simp [hw1]
            clear hw1
            by_cases hw2 : wh = 2
            · subst hw2
              by_cases hc : 0 < pl ∧ ∃ j r, fl s.p 8 = j :: r
              · obtain ⟨hp0, j, r, hf⟩ := hc
                have HFL := hide hf
                clear hf
                go_wp2_with fail
                refine (claim_Qy _ _ _ _ _ _ _ _ _ _ _ _ _ _ pl j r hp0 HFL.out HX.out).mono ?_
                rintro e w5 ⟨rfl, hx5⟩
                have HX5 := hide hx5
                have d1 : w5.cell? ⟨wr.heap.size, 1, none⟩ = some (.int .i64 pl) := (hx5.cell (by simp)).trans (HB.out.cell 1)
                clear hx5
                go_wp2_with fail
                refine (rclaim_Qy _ _ _ _ _ _ _ _ _ _ _ _ _ _ pl j r hp0 HFL.out HX5.out).mono ?_
                rintro e w6 ⟨rfl, hx6⟩
                have HX6 := hide hx6
                clear hx6 d1
                go_wp2_with fail
                refine (code_Qn _ _ _ _ _ _ _ _ _ _ _ _ _ _ HX6.out).mono ?_
                rintro e w7 ⟨rfl, hx7⟩
                have HX7 := hide hx7
                clear hx7
                try go_wp2
                go_meet
                case rel => exact ⟨true, 0, ⟨s.ow, upd s.p j pl, upd s.t j 0⟩, l, last, rfl, rfl, rfl, rfl, hide (HF.out.slot j (by omega) hpl (by omega) (by omega)), hl, hz0, by omega, hide (HX7.out.drop _)⟩
              · have HN : Hid (pl ≤ 0 ∨ fl s.p 8 = []) := hide (by
                  by_cases h0 : pl ≤ 0
                  · exact .inl h0
                  · cases hf : fl s.p 8 with
                    | nil => exact .inr rfl
                    | cons j r => exact absurd ⟨by omega, j, r, hf⟩ hc)
                clear hc
                go_wp2_with fail
                refine (claim_Qn _ _ _ _ _ _ _ _ _ _ _ _ _ _ pl HN.out HX.out).mono ?_
                rintro e w5 ⟨rfl, hx5⟩
                have HX5 := hide hx5
                have d1 : w5.cell? ⟨wr.heap.size, 1, none⟩ = some (.int .i64 pl) := (hx5.cell (by simp)).trans (HB.out.cell 1)
                clear hx5
                go_wp2_with fail
                refine (rclaim_Qn _ _ _ _ _ _ _ _ _ _ _ _ _ _ pl HN.out HX5.out).mono ?_
                rintro e w6 ⟨rfl, hx6⟩
                have HX6 := hide hx6
                clear hx6 d1
                go_wp2_with fail
                refine (code_Qe _ _ _ _ _ _ _ _ _ _ _ _ _ _ 15 HG.out HX6.out).mono ?_
                rintro e w7 ⟨rfl, hx7⟩
                have HX7 := hide hx7
                clear hx7
                try go_wp2
                go_meet
                case rel => exact ⟨true, 15, s, l, last, rfl, rfl, rfl, rfl, hide (HF.out), hl, hz0, by omega, hide (HX7.out.drop _)⟩
            · have hb2 : (wh == 2) = false := by simp [hw2]
              clear hw2
              by_cases hw3 : wh = 3
              · subst hw3
                by_cases ho : owns s.p sl pl = true
                · obtain ⟨z, hz8, rfl⟩ : ∃ z : Nat, z < 8 ∧ sl = z := by
                    simp [owns] at ho
                    exact ⟨sl.toNat, by omega, by omega⟩
                  have HO := hide ho
                  clear ho
                  go_upto_region 25 with (fail)
                  have HXX := hide (HX.out.kept0 (Kept.refl _ _).drew)
                  go_region_held3 (fun W : World => W.cell? ⟨wr.heap.size, 1, none⟩ = some (.int .i64 pl) ∧ W.cell? ⟨wr.heap.size, 2, none⟩ = some (.int .i64 z) ∧ W.cell? ⟨wr.heap.size, 3, none⟩ = some (.int .u64 tx)) (exact ⟨(HXX.out.cell (by simp)).trans (HB.out.cell 1), (HXX.out.cell (by simp)).trans (HB.out.cell 2), (HXX.out.cell (by simp)).trans (HB.out.cell 3)⟩) (first
                    | (go_at_call 14; refine (publish_Qy _ _ _ _ _ _ _ _ _ _ _ _ _ _ z pl tx hz8 HO.out HXX.out).mono ?_; rintro e w4 ⟨rfl, hx4⟩; have HXX := hide hx4; clear hx4)
                    | (go_at_call 15; refine (rpublish_Qy _ _ _ _ _ _ _ _ _ _ _ _ _ _ z pl tx hz8 HO.out HXX.out).mono ?_; rintro e w4 ⟨rfl, hx4⟩; have HXX := hide hx4; clear hx4)
                    | (go_at_call 13; refine (code_Qn _ _ _ _ _ _ _ _ _ _ _ _ _ _ HXX.out).mono ?_; rintro e w4 ⟨rfl, hx4⟩; have HXX := hide hx4; clear hx4))
                  all_goals
                    try go_wp2
                    go_meet
                    case rel => exact ⟨true, 0, ⟨s.ow, s.p, upd s.t z tx⟩, l, last, rfl, rfl, rfl, rfl, hide (HF.out.txn z htx0 htx1), hl, hz0, by omega, hide (HXX.out.drop _)⟩
                · have HO : Hid (owns s.p sl pl = false) := hide (by simpa using ho)
                  clear ho
                  go_upto_region 25 with (fail)
                  have HXX := hide (HX.out.kept0 (Kept.refl _ _).drew)
                  go_region_held3 (fun W : World => W.cell? ⟨wr.heap.size, 1, none⟩ = some (.int .i64 pl) ∧ W.cell? ⟨wr.heap.size, 2, none⟩ = some (.int .i64 sl) ∧ W.cell? ⟨wr.heap.size, 3, none⟩ = some (.int .u64 tx)) (exact ⟨(HXX.out.cell (by simp)).trans (HB.out.cell 1), (HXX.out.cell (by simp)).trans (HB.out.cell 2), (HXX.out.cell (by simp)).trans (HB.out.cell 3)⟩) (first
                    | (go_at_call 14; refine (publish_Qn _ _ _ _ _ _ _ _ _ _ _ _ _ _ sl pl tx HO.out HXX.out).mono ?_; rintro e w4 ⟨rfl, hx4⟩; have HXX := hide hx4; clear hx4)
                    | (go_at_call 15; refine (rpublish_Qn _ _ _ _ _ _ _ _ _ _ _ _ _ _ sl pl tx HO.out HXX.out).mono ?_; rintro e w4 ⟨rfl, hx4⟩; have HXX := hide hx4; clear hx4)
                    | (go_at_call 13; refine (code_Qe _ _ _ _ _ _ _ _ _ _ _ _ _ _ 18 HG.out HXX.out).mono ?_; rintro e w4 ⟨rfl, hx4⟩; have HXX := hide hx4; clear hx4))
                  all_goals
                    try go_wp2
                    go_meet
                    case rel => exact ⟨true, 18, s, l, last, rfl, rfl, rfl, rfl, hide (HF.out), hl, hz0, by omega, hide (HXX.out.drop _)⟩
              · have hb3 : (wh == 3) = false := by simp [hw3]
                clear hw3
                by_cases hw4 : wh = 4
                · subst hw4
                  by_cases ho : owns s.p sl pl = true
                  · obtain ⟨z, hz8, rfl⟩ : ∃ z : Nat, z < 8 ∧ sl = z := by
                      simp [owns] at ho
                      exact ⟨sl.toNat, by omega, by omega⟩
                    have HO := hide ho
                    clear ho
                    go_upto_region 27 with (fail)
                    have HXX := hide (HX.out.kept0 (Kept.refl _ _).drew)
                    go_region_held3 (fun W : World => W.cell? ⟨wr.heap.size, 1, none⟩ = some (.int .i64 pl) ∧ W.cell? ⟨wr.heap.size, 2, none⟩ = some (.int .i64 z)) (exact ⟨(HXX.out.cell (by simp)).trans (HB.out.cell 1), (HXX.out.cell (by simp)).trans (HB.out.cell 2)⟩) (first
                      | (go_at_call 16; refine (free_Qy _ _ _ _ _ _ _ _ _ _ _ _ _ _ z pl hz8 HO.out HXX.out).mono ?_; rintro e w4 ⟨rfl, hx4⟩; have HXX := hide hx4; clear hx4)
                      | (go_at_call 17; refine (rfree_Qy _ _ _ _ _ _ _ _ _ _ _ _ _ _ z pl hz8 HO.out HXX.out).mono ?_; rintro e w4 ⟨rfl, hx4⟩; have HXX := hide hx4; clear hx4)
                      | (go_at_call 13; refine (code_Qn _ _ _ _ _ _ _ _ _ _ _ _ _ _ HXX.out).mono ?_; rintro e w4 ⟨rfl, hx4⟩; have HXX := hide hx4; clear hx4))
                    all_goals
                      try go_wp2
                      go_meet
                      case rel => exact ⟨true, 0, ⟨s.ow, upd s.p z 0, upd s.t z 0⟩, l, last, rfl, rfl, rfl, rfl, hide (HF.out.slot z (by omega) (by omega) (by omega) (by omega)), hl, hz0, by omega, hide (HXX.out.drop _)⟩
                  · have HO : Hid (owns s.p sl pl = false) := hide (by simpa using ho)
                    clear ho
                    go_upto_region 27 with (fail)
                    have HXX := hide (HX.out.kept0 (Kept.refl _ _).drew)
                    go_region_held3 (fun W : World => W.cell? ⟨wr.heap.size, 1, none⟩ = some (.int .i64 pl) ∧ W.cell? ⟨wr.heap.size, 2, none⟩ = some (.int .i64 sl)) (exact ⟨(HXX.out.cell (by simp)).trans (HB.out.cell 1), (HXX.out.cell (by simp)).trans (HB.out.cell 2)⟩) (first
                      | (go_at_call 16; refine (free_Qn _ _ _ _ _ _ _ _ _ _ _ _ _ _ sl pl HO.out HXX.out).mono ?_; rintro e w4 ⟨rfl, hx4⟩; have HXX := hide hx4; clear hx4)
                      | (go_at_call 17; refine (rfree_Qn _ _ _ _ _ _ _ _ _ _ _ _ _ _ sl pl HO.out HXX.out).mono ?_; rintro e w4 ⟨rfl, hx4⟩; have HXX := hide hx4; clear hx4)
                      | (go_at_call 13; refine (code_Qe _ _ _ _ _ _ _ _ _ _ _ _ _ _ 18 HG.out HXX.out).mono ?_; rintro e w4 ⟨rfl, hx4⟩; have HXX := hide hx4; clear hx4))
                    all_goals
                      try go_wp2
                      go_meet
                      case rel => exact ⟨true, 18, s, l, last, rfl, rfl, rfl, rfl, hide (HF.out), hl, hz0, by omega, hide (HXX.out.drop _)⟩
                · have hb4 : (wh == 4) = false := by simp [hw4]
                  clear hw4
                  by_cases hw5 : wh = 5
                  · subst hw5
                    go_wp2_with fail
                    refine (sweep_Q _ _ _ _ _ _ _ _ _ _ _ _ _ _ HX.out).mono ?_
                    rintro e w5 ⟨rfl, hx5⟩
                    have HX5 := hide hx5
                    clear hx5
                    go_wp2_with fail
                    refine (rsweep_Q _ _ _ _ _ _ _ _ _ _ _ _ _ _ HF.out HX5.out).mono ?_
                    rintro e w6 ⟨rfl, hx5⟩
                    have HX6 := hide hx5
                    clear hx5
                    try go_wp2
                    go_meet
                    case rel => exact ⟨true, 0, ⟨s.ow, swp s.p s.p l 8, swp s.p s.t l 8⟩, l, last, rfl, rfl, rfl, rfl, hide (HF.out.swept l), hl, hz0, by omega, hide (HX6.out.drop _)⟩
                  · have hb5 : (wh == 5) = false := by simp [hw5]
                    clear hw5
                    by_cases hw6 : wh = 6
                    · subst hw6
                      by_cases hfl : l.length = 64
                      · have HLN := hide hfl
                        clear hfl
                        go_wp2_with fail
                        refine (spawn_Qf _ _ _ _ _ _ _ _ _ _ _ _ _ _ HX.out HLN.out).mono ?_
                        rintro e w5 ⟨rfl, hx5⟩
                        have HX5 := hide hx5
                        clear hx5
                        go_wp2_with fail
                        refine (spawnr_Qf _ _ _ _ _ _ _ _ _ _ _ _ _ _ HX5.out HLN.out).mono ?_
                        rintro e w6 ⟨rfl, hx5⟩
                        have HX6 := hide hx5
                        clear hx5
                        try go_wp2
                        go_meet
                        case rel => exact ⟨true, 0, s, l, last, rfl, rfl, rfl, rfl, hide (HF.out), hl, hz0, by omega, hide (HX6.out.drop _)⟩
                      · have hlt6 : l.length < 64 := by omega
                        clear hfl
                        go_wp2_with fail
                        refine (spawn_Q _ _ _ _ _ _ _ _ _ _ _ _ _ _ HX.out hlt6 hz0 (by omega)).mono ?_
                        rintro e w5 ⟨rfl, hx5⟩
                        have HX5 := hide hx5
                        clear hx5
                        go_wp2_with fail
                        refine (spawnr_Q _ _ _ _ _ _ _ _ _ _ _ _ _ _ HX5.out hlt6 hz0 (by omega)).mono ?_
                        rintro e w6 ⟨rfl, hx5⟩
                        have HX6 := hide hx5
                        clear hx5
                        try go_wp2
                        go_meet
                        case rel => exact ⟨true, 0, s, l ++ [last + 1], last + 1, rfl, rfl, rfl, rfl, hide (HF.out), by simp; omega, by omega, by omega, hide (HX6.out.drop _)⟩
                    · have hb6 : (wh == 6) = false := by simp [hw6]
                      clear hw6
                      by_cases hm : pl ∈ l
                      · have HM := hide hm
                        clear hm
                        go_wp2_with fail
                        refine (kill_Q _ _ _ _ _ _ _ _ _ _ _ _ _ _ pl HX.out HM.out).mono ?_
                        rintro e w5 ⟨rfl, hx5⟩
                        have HX5 := hide hx5
                        have d1 : w5.cell? ⟨wr.heap.size, 1, none⟩ = some (.int .i64 pl) := (hx5.cell (by simp)).trans (HB.out.cell 1)
                        clear hx5
                        go_wp2_with fail
                        refine (killr_Q _ _ _ _ _ _ _ _ _ _ _ _ _ _ pl HX5.out HM.out (by omega)).mono ?_
                        rintro e w6 ⟨rfl, hx5⟩
                        have HX6 := hide hx5
                        clear hx5
                        try go_wp2
                        go_meet
                        case rel => exact ⟨true, 0, s, wo l pl, last, rfl, rfl, rfl, rfl, hide (HF.out), Nat.le_trans (wo_length _ _) hl, hz0, by omega, hide (HX6.out.drop _)⟩
                      · have HM := hide hm
                        clear hm
                        go_wp2_with fail
                        refine (kill_Qf _ _ _ _ _ _ _ _ _ _ _ _ _ _ pl HX.out HM.out).mono ?_
                        rintro e w5 ⟨rfl, hx5⟩
                        have HX5 := hide hx5
                        have d1 : w5.cell? ⟨wr.heap.size, 1, none⟩ = some (.int .i64 pl) := (hx5.cell (by simp)).trans (HB.out.cell 1)
                        clear hx5
                        go_wp2_with fail
                        refine (killr_Qf _ _ _ _ _ _ _ _ _ _ _ _ _ _ pl HX5.out HM.out).mono ?_
                        rintro e w6 ⟨rfl, hx5⟩
                        have HX6 := hide hx5
                        clear hx5
                        try go_wp2
                        go_meet
                        case rel => exact ⟨true, 0, s, l, last, rfl, rfl, rfl, rfl, hide (HF.out), hl, hz0, by omega, hide (HX6.out.drop _)⟩
      case rest =>
        obtain ⟨bx, cx, s', l', last', rfl, rfl, rfl, rfl, HF', hl', hz0', hz1', HQ'⟩ := hcut
        have hbx : (bx != bx) = false := by simp
        have hcx : (cx != cx) = false := by simp
        clear a0 a1 a2 a3
        obtain ⟨z, HZ⟩ : ∃ z, Hid (old s'.t lst 8 = z) := ⟨_, hide rfl⟩
        obtain ⟨y, HY⟩ : ∃ y, Hid (lockB s'.ow s'.p s'.t 8 = y) := ⟨_, hide rfl⟩
        have hzz : (z != z) = false := by simp
        go_wp2_with fail
        refine (same_Q _ _ _ _ _ _ _ _ _ _ _ _ _ HQ'.out).mono ?_
        rintro e w5 ⟨rfl, hx5⟩
        have HX5 := hide hx5
        clear hx5
        go_wp2_with fail
        refine (oldest_Q _ _ _ _ _ _ _ _ _ _ _ _ _ _ lst HF'.out HX5.out).mono ?_
        rintro e w6 ⟨rfl, hx6⟩
        rw [HZ.out]
        have HX6 := hide hx6
        clear hx6
        go_wp2_with fail
        refine (roldest_Q _ _ _ _ _ _ _ _ _ _ _ _ _ _ lst HF'.out HX6.out).mono ?_
        rintro e w7 ⟨rfl, hx7⟩
        rw [HZ.out]
        have HX7 := hide hx7
        clear hx7
        go_wp2_with fail
        refine (bytes_Q _ _ _ _ _ _ _ _ _ _ _ _ _ _ HF'.out HX7.out).mono ?_
        rintro e w8 ⟨rfl, hx8⟩
        rw [HY.out]
        have HX8 := hide hx8
        clear hx8
        go_wp2_with fail
        refine (rbytes_Q _ _ _ _ _ _ _ _ _ _ _ _ _ _ HF'.out HX8.out).mono ?_
        rintro e w9 ⟨rfl, hx9⟩
        rw [HY.out]
        have HX9 := hide hx9
        clear hx9
        go_wp2
        go_roundw
        case rel =>
          exact ⟨q + 1, s', l', last', hlt, by go_num, HF', hl', hz0', by omega, hide (HX9.out.drop _)⟩
        case measure => simp [intOf]; omega
    · obtain rfl : q = n := by omega
      go_wp2
      go_ret
      exact ⟨rfl, HQ.out.all⟩
end Go.Proofs.YthifbmopfcfokaaDoor
