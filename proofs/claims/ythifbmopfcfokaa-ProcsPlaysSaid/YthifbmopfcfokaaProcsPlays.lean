/- What ProcsPlays answers: true, at every row of ints. Conditions: the row reads as ints. -/
import Derived.Test.YthifbmopfcfokaaDuo
import Derived.Deep.RegionHeld3
import Derived.Deep.Cut
namespace Go.Proofs.Ythifbmopfcfokaa
open Go.RowKit

theorem Own.rd {w : World} {base n c : Nat} {A : Option Addr} {l : List Int} (h : Own w base (.slice A n c) l) (hn : n = l.length) : Rd w A n (ints l) := by
  subst hn
  obtain ⟨A', c', e', _, hr', _⟩ := h.shape
  injection e' with e1 e2 e3
  subst e1
  exact hr'

theorem Duo.k0 {a w : World} {g r : Nat} {l m : List Int} {last lastr : Int} (_ : Duo a w g r l last m lastr) : Kept [] w w.drew := (Kept.refl _ _).drew

theorem lives_B (a : World) (g : Nat) (l : List Int) (last : Int) (S : List Nat) (w : World) (x : Int) (b : Bool) (hb : decide (x ∈ l) = b) (h : Live a w g l last S) :
    Calls Try.prog 38 #[.pointer (some ⟨g, 0, none⟩), .int .i64 x] w fun e w' => e = .returned (.bool b) ∧ w = w' := by
  subst hb
  exact lives_L a g l last S w x h
theorem livesr_B (base g : Nat) (v : Value) (l : List Int) (last : Int) (w : World) (x : Int) (b : Bool) (hb : decide (x ∈ l) = b) (hp : RefProcs w base g v l last) :
    Calls Try.prog 39 #[.pointer (some ⟨g, 0, none⟩), .int .i64 x] w fun e w' => e = .returned (.bool b) ∧ w = w' := by
  subst hb
  exact livesr_any base g v l last w x hp
theorem same_T (A B : Option Addr) (n c d : Nat) (l : List Int) (w : World) (hn : l.length = n) (hm : n ≤ 9223372036854775807) (ha : Rd w A n (ints l)) (hb : Rd w B n (ints l)) :
    Calls Try.prog 36 #[.slice A n c, .slice B n d] w fun e w' => e = .returned (.bool true) ∧ ∃ q, w' = w.drewN q :=
  (same_any A B n n c d l l w hn hn hm hm ha hb).mono fun e w' ⟨he, hw⟩ => ⟨by rw [he]; simp, hw⟩

/-- Ints that came in, by place. -/
def nums (f : Nat → Int) (k : Nat) : Value := .int .i64 (f k)

set_option maxHeartbeats 20000000 in
set_option maxRecDepth 100000 in
theorem plays_any (A : Option Addr) (n c : Nat) (f : Nat → Int) (hm : n ≤ 9223372036854775807) (w : World) (hr : Rd w A n (nums f)) :
    Calls Try.prog 7 #[.slice A n c] w fun e w' => e = .returned (.bool true) ∧ Kept [] w w' := by
  have HR := hide hr
  clear hr
  go_enter Try.func7, Try.ntmps7
  go_wp2_with fail
  refine (known5_any w).mono ?_
  rintro e w1 ⟨rfl, k1⟩
  by_cases hn : 100 < n
  · go_wp2
    go_ret
    exact ⟨rfl, k1⟩
  go_wp2_with fail
  refine (new_L w [] _ k1 (by simp)).mono ?_
  rintro e w2 ⟨g, rfl, h2, _, _⟩
  have h3 : Duo w (w2.alloc (.cells #[.slice none 0 0, .int .i64 0] 55)) g w2.heap.size [] 0 [] 0 := by
    have hk := (Kept.refl [] w2).alloc (.cells #[.slice none 0 0, .int .i64 0] 55)
    refine ⟨.slice none 0 0, ⟨Blk.new _ _ _, Own.nil _ _⟩, h2.size, h2.beside hk (by simp) (fun b hb => .inr ?_)⟩
    obtain rfl : b = w2.heap.size := by simpa [blk, Value.ownBlock] using hb
    exact ⟨Nat.le_refl _, by simp⟩
  go_wp2
  generalize w2.heap.size = r at h3 ⊢
  go_loopw [5, 6, 7, 8, 9] (fun i _ _ _ _ wr => ∃ (k : Nat) (l : List Int) (last : Int), k ≤ n ∧ i = .int .i64 k ∧ Duo w wr g r l last l last ∧ l.length ≤ 64 ∧ 0 ≤ last ∧ last ≤ k) (fun i _ _ _ _ _ => n - (intOf i).toNat)
  case atStart => exact ⟨0, [], 0, Nat.zero_le _, rfl, h3, by simp, by omega, by omega⟩
  case round =>
    obtain ⟨k, l, last, hk, rfl, h, hl, hz0, hz1⟩ := hrel
    by_cases hlt : k < n
    · obtain ⟨bl, off, hA, _⟩ := HR.out k hlt
      subst hA
      have hcell : ∀ W, Kept [] w W → W.cell? ⟨bl, off + k, none⟩ = some (.int .i64 (f k)) := fun W hW => by
        obtain ⟨bl', off', h1, _, h2⟩ := (HR.out.kept0 hW) k hlt
        injection h1 with h1
        injection h1 with h1 h3
        subst h1
        subst h3
        exact h2
      generalize f k = x at hcell
      have HC := hide hcell
      clear hcell
      have hc := HC.out _ h.all
      by_cases hx0 : x = 0
      · by_cases hf : l.length = 64
        · go_wp2_with fail
          refine (spawn_Df w g r l l last last _ h hf).mono ?_
          rintro e w4 ⟨rfl, h4⟩
          go_wp2_with fail
          refine (spawnr_Df w g r l l last last _ h4 hf).mono ?_
          rintro e w5 ⟨rfl, hD⟩
          obtain ⟨L, LA, hD, hLl, hA0, hA1⟩ : ∃ L LA, Duo w w5 g r L LA L LA ∧ L.length ≤ 64 ∧ 0 ≤ LA ∧ LA ≤ ((k + 1 : Nat) : Int) := ⟨l, last, hD, hl, hz0, by omega⟩
          clear h4 h
          go_upto_region 19 with (fail)
          try clear hx0
          try clear hx1
          try clear hx
          have hDk := hD
          have hall := hD.all
          have K := hD.k0
          obtain ⟨v, ⟨hs, ho⟩, hgr, hL⟩ := hD
          obtain ⟨AR, cR, rfl, hmR, hrR, _⟩ := ho.shape
          generalize hlen : L.length = nL at *
          have HLEN := hide hlen
          clear hlen
          have c0 : ∀ W, Kept [] _ W → W.cell? ⟨r, 0, none⟩ = some (.slice AR nL cR) := fun W hW => (hs.kept0 hW).cell 0
          have c1 : ∀ W, Kept [] _ W → W.cell? ⟨r, 1, none⟩ = some (.int .i64 LA) := fun W hW => (hs.kept0 hW).cell 1
          obtain ⟨bx, hbx⟩ : ∃ b, decide (x ∈ L) = b := ⟨_, rfl⟩
          obtain ⟨by', hby⟩ : ∃ b, decide (LA ∈ L) = b := ⟨_, rfl⟩
          have hb1 : (bx != bx) = false := by simp
          have hb2 : (by' != by') = false := by simp
          have HBX := hide hbx
          have HBY := hide hby
          clear hbx hby
          have C0 := hide c0
          have C1 := hide c1
          have HRR := hide hrR
          have HOL := hide (show _ ∧ _ from ⟨hs, ho⟩)
          have HLL := hide hL
          clear c0 c1 hrR hs ho hL
          go_region_held3 (fun W : World => W.cell? ⟨r, 0, none⟩ = some (.slice AR nL cR) ∧ W.cell? ⟨r, 1, none⟩ = some (.int .i64 LA) ∧ W.cell? ⟨bl, off + k, none⟩ = some (.int .i64 x)) (exact ⟨C0.out _ K, C1.out _ K, HC.out _ (hall.trans0 K)⟩) (first
            | (go_at_call 37; refine (all_L w g L LA _ _ (HLL.out.kept0 K) (by rw [HLEN.out]; omega)).mono ?_; rintro e w' ⟨AA, nA, cA, rfl, hnA, hmA, hoA, _, kA⟩; rw [HLEN.out] at hnA; have hnA := hnA.symm; subst hnA; have hrA := hide (hoA.rd HLEN.out.symm); clear hoA hmA; have K := K.trans0 kA)
            | (go_at_call 36; refine (same_T AA AR nL cA cR L _ HLEN.out (by omega) hrA.out (HRR.out.kept0 K)).mono ?_; rintro e w' ⟨rfl, q, rfl⟩; have K := K.drewN q)
            | (go_at_call 38; refine (lives_L w g L LA _ _ _ (HLL.out.kept0 K)).mono ?_; rintro e w' ⟨rfl, rfl⟩; (first | rw [HBX.out] | rw [HBY.out]))
            | (go_at_call 39; refine (livesr_any w.heap.size r _ L LA _ _ ⟨HOL.out.1.kept0 K, HOL.out.2.kept0 K⟩).mono ?_; rintro e w' ⟨rfl, rfl⟩; (first | rw [HBX.out] | rw [HBY.out])))
          all_goals
            go_wp2
            go_roundw
            case rel => exact ⟨k + 1, L, LA, hlt, by go_num, hDk.kept0 K, by rw [HLEN.out]; exact hLl, hA0, hA1⟩
            case measure => simp [intOf]; omega
        · go_wp2_with fail
          refine (spawn_D w g r l l last last _ h (by omega) hz0 (by omega)).mono ?_
          rintro e w4 ⟨rfl, h4⟩
          go_wp2_with fail
          refine (spawnr_D w g r _ l _ last _ h4 (by omega) hz0 (by omega)).mono ?_
          rintro e w5 ⟨rfl, hD⟩
          obtain ⟨L, LA, hD, hLl, hA0, hA1⟩ : ∃ L LA, Duo w w5 g r L LA L LA ∧ L.length ≤ 64 ∧ 0 ≤ LA ∧ LA ≤ ((k + 1 : Nat) : Int) := ⟨_, _, hD, by simp; omega, by omega, by omega⟩
          clear h4 h
          go_upto_region 19 with (fail)
          try clear hx0
          try clear hx1
          try clear hx
          have hDk := hD
          have hall := hD.all
          have K := hD.k0
          obtain ⟨v, ⟨hs, ho⟩, hgr, hL⟩ := hD
          obtain ⟨AR, cR, rfl, hmR, hrR, _⟩ := ho.shape
          generalize hlen : L.length = nL at *
          have HLEN := hide hlen
          clear hlen
          have c0 : ∀ W, Kept [] _ W → W.cell? ⟨r, 0, none⟩ = some (.slice AR nL cR) := fun W hW => (hs.kept0 hW).cell 0
          have c1 : ∀ W, Kept [] _ W → W.cell? ⟨r, 1, none⟩ = some (.int .i64 LA) := fun W hW => (hs.kept0 hW).cell 1
          obtain ⟨bx, hbx⟩ : ∃ b, decide (x ∈ L) = b := ⟨_, rfl⟩
          obtain ⟨by', hby⟩ : ∃ b, decide (LA ∈ L) = b := ⟨_, rfl⟩
          have hb1 : (bx != bx) = false := by simp
          have hb2 : (by' != by') = false := by simp
          have HBX := hide hbx
          have HBY := hide hby
          clear hbx hby
          have C0 := hide c0
          have C1 := hide c1
          have HRR := hide hrR
          have HOL := hide (show _ ∧ _ from ⟨hs, ho⟩)
          have HLL := hide hL
          clear c0 c1 hrR hs ho hL
          go_region_held3 (fun W : World => W.cell? ⟨r, 0, none⟩ = some (.slice AR nL cR) ∧ W.cell? ⟨r, 1, none⟩ = some (.int .i64 LA) ∧ W.cell? ⟨bl, off + k, none⟩ = some (.int .i64 x)) (exact ⟨C0.out _ K, C1.out _ K, HC.out _ (hall.trans0 K)⟩) (first
            | (go_at_call 37; refine (all_L w g L LA _ _ (HLL.out.kept0 K) (by rw [HLEN.out]; omega)).mono ?_; rintro e w' ⟨AA, nA, cA, rfl, hnA, hmA, hoA, _, kA⟩; rw [HLEN.out] at hnA; have hnA := hnA.symm; subst hnA; have hrA := hide (hoA.rd HLEN.out.symm); clear hoA hmA; have K := K.trans0 kA)
            | (go_at_call 36; refine (same_T AA AR nL cA cR L _ HLEN.out (by omega) hrA.out (HRR.out.kept0 K)).mono ?_; rintro e w' ⟨rfl, q, rfl⟩; have K := K.drewN q)
            | (go_at_call 38; refine (lives_L w g L LA _ _ _ (HLL.out.kept0 K)).mono ?_; rintro e w' ⟨rfl, rfl⟩; (first | rw [HBX.out] | rw [HBY.out]))
            | (go_at_call 39; refine (livesr_any w.heap.size r _ L LA _ _ ⟨HOL.out.1.kept0 K, HOL.out.2.kept0 K⟩).mono ?_; rintro e w' ⟨rfl, rfl⟩; (first | rw [HBX.out] | rw [HBY.out])))
          all_goals
            go_wp2
            go_roundw
            case rel => exact ⟨k + 1, L, LA, hlt, by go_num, hDk.kept0 K, by rw [HLEN.out]; exact hLl, hA0, hA1⟩
            case measure => simp [intOf]; omega
      · by_cases hx1 : x = -1
        · go_wp2_with fail
          refine (power_D w g r l l last last _ h).mono ?_
          rintro e w4 ⟨rfl, h4⟩
          have hD := h4.nilR
          obtain ⟨v4, ⟨hs4, _⟩, _, _⟩ := h4
          have c4 : w4.cell? ⟨r, 0, none⟩ = some v4 := hs4.cell 0
          have f4 : w4.frozen? ⟨r, 0, none⟩ = false := hs4.free 0
          clear hs4 h
          obtain ⟨L, LA, hD, hLl, hA0, hA1⟩ : ∃ L LA, Duo w (w4.setCell ⟨r, 0, none⟩ (.slice none 0 0)) g r L LA L LA ∧ L.length ≤ 64 ∧ 0 ≤ LA ∧ LA ≤ ((k + 1 : Nat) : Int) := ⟨[], last, hD, by simp, hz0, by omega⟩
          go_upto_region 19 with (fail)
          try clear hx0
          try clear hx1
          try clear hx
          have hDk := hD
          have hall := hD.all
          have K := hD.k0
          obtain ⟨v, ⟨hs, ho⟩, hgr, hL⟩ := hD
          obtain ⟨AR, cR, rfl, hmR, hrR, _⟩ := ho.shape
          generalize hlen : L.length = nL at *
          have HLEN := hide hlen
          clear hlen
          have c0 : ∀ W, Kept [] _ W → W.cell? ⟨r, 0, none⟩ = some (.slice AR nL cR) := fun W hW => (hs.kept0 hW).cell 0
          have c1 : ∀ W, Kept [] _ W → W.cell? ⟨r, 1, none⟩ = some (.int .i64 LA) := fun W hW => (hs.kept0 hW).cell 1
          obtain ⟨bx, hbx⟩ : ∃ b, decide (x ∈ L) = b := ⟨_, rfl⟩
          obtain ⟨by', hby⟩ : ∃ b, decide (LA ∈ L) = b := ⟨_, rfl⟩
          have hb1 : (bx != bx) = false := by simp
          have hb2 : (by' != by') = false := by simp
          have HBX := hide hbx
          have HBY := hide hby
          clear hbx hby
          have C0 := hide c0
          have C1 := hide c1
          have HRR := hide hrR
          have HOL := hide (show _ ∧ _ from ⟨hs, ho⟩)
          have HLL := hide hL
          clear c0 c1 hrR hs ho hL
          go_region_held3 (fun W : World => W.cell? ⟨r, 0, none⟩ = some (.slice AR nL cR) ∧ W.cell? ⟨r, 1, none⟩ = some (.int .i64 LA) ∧ W.cell? ⟨bl, off + k, none⟩ = some (.int .i64 x)) (exact ⟨C0.out _ K, C1.out _ K, HC.out _ (hall.trans0 K)⟩) (first
            | (go_at_call 37; refine (all_L w g L LA _ _ (HLL.out.kept0 K) (by rw [HLEN.out]; omega)).mono ?_; rintro e w' ⟨AA, nA, cA, rfl, hnA, hmA, hoA, _, kA⟩; rw [HLEN.out] at hnA; have hnA := hnA.symm; subst hnA; have hrA := hide (hoA.rd HLEN.out.symm); clear hoA hmA; have K := K.trans0 kA)
            | (go_at_call 36; refine (same_T AA AR nL cA cR L _ HLEN.out (by omega) hrA.out (HRR.out.kept0 K)).mono ?_; rintro e w' ⟨rfl, q, rfl⟩; have K := K.drewN q)
            | (go_at_call 38; refine (lives_L w g L LA _ _ _ (HLL.out.kept0 K)).mono ?_; rintro e w' ⟨rfl, rfl⟩; (first | rw [HBX.out] | rw [HBY.out]))
            | (go_at_call 39; refine (livesr_any w.heap.size r _ L LA _ _ ⟨HOL.out.1.kept0 K, HOL.out.2.kept0 K⟩).mono ?_; rintro e w' ⟨rfl, rfl⟩; (first | rw [HBX.out] | rw [HBY.out])))
          all_goals
            go_wp2
            go_roundw
            case rel => exact ⟨k + 1, L, LA, hlt, by go_num, hDk.kept0 K, by rw [HLEN.out]; exact hLl, hA0, hA1⟩
            case measure => simp [intOf]; omega
        · go_upto_region 9 with (fail)
          have hD := h.drew
          by_cases hx : x ∈ l
          · go_region_held3 (fun W : World => W.cell? ⟨bl, off + k, none⟩ = some (.int .i64 x)) (exact HC.out _ hD.all) (first
              | (go_at_call 34; refine (kill_D w g r _ _ _ _ _ x hD hx).mono ?_; rintro e w' ⟨rfl, hD⟩)
              | (go_at_call 35; refine (killr_D w g r _ _ _ _ _ x hD hx (by omega)).mono ?_; rintro e w' ⟨rfl, hD⟩))
            all_goals
              obtain ⟨L, LA, hD, hLl, hA0, hA1⟩ : ∃ L LA, Duo w _ g r L LA L LA ∧ L.length ≤ 64 ∧ 0 ≤ LA ∧ LA ≤ ((k + 1 : Nat) : Int) := ⟨_, _, hD, Nat.le_trans (wo_length _ _) hl, hz0, by omega⟩
              clear h
              go_upto_region 19 with (fail)
              try clear hx0
              try clear hx1
              try clear hx
              have hDk := hD
              have hall := hD.all
              have K := hD.k0
              obtain ⟨v, ⟨hs, ho⟩, hgr, hL⟩ := hD
              obtain ⟨AR, cR, rfl, hmR, hrR, _⟩ := ho.shape
              generalize hlen : L.length = nL at *
              have HLEN := hide hlen
              clear hlen
              have c0 : ∀ W, Kept [] _ W → W.cell? ⟨r, 0, none⟩ = some (.slice AR nL cR) := fun W hW => (hs.kept0 hW).cell 0
              have c1 : ∀ W, Kept [] _ W → W.cell? ⟨r, 1, none⟩ = some (.int .i64 LA) := fun W hW => (hs.kept0 hW).cell 1
              obtain ⟨bx, hbx⟩ : ∃ b, decide (x ∈ L) = b := ⟨_, rfl⟩
              obtain ⟨by', hby⟩ : ∃ b, decide (LA ∈ L) = b := ⟨_, rfl⟩
              have hb1 : (bx != bx) = false := by simp
              have hb2 : (by' != by') = false := by simp
              have HBX := hide hbx
              have HBY := hide hby
              clear hbx hby
              have C0 := hide c0
              have C1 := hide c1
              have HRR := hide hrR
              have HOL := hide (show _ ∧ _ from ⟨hs, ho⟩)
              have HLL := hide hL
              clear c0 c1 hrR hs ho hL
              go_region_held3 (fun W : World => W.cell? ⟨r, 0, none⟩ = some (.slice AR nL cR) ∧ W.cell? ⟨r, 1, none⟩ = some (.int .i64 LA) ∧ W.cell? ⟨bl, off + k, none⟩ = some (.int .i64 x)) (exact ⟨C0.out _ K, C1.out _ K, HC.out _ (hall.trans0 K)⟩) (first
                | (go_at_call 37; refine (all_L w g L LA _ _ (HLL.out.kept0 K) (by rw [HLEN.out]; omega)).mono ?_; rintro e w' ⟨AA, nA, cA, rfl, hnA, hmA, hoA, _, kA⟩; rw [HLEN.out] at hnA; have hnA := hnA.symm; subst hnA; have hrA := hide (hoA.rd HLEN.out.symm); clear hoA hmA; have K := K.trans0 kA)
                | (go_at_call 36; refine (same_T AA AR nL cA cR L _ HLEN.out (by omega) hrA.out (HRR.out.kept0 K)).mono ?_; rintro e w' ⟨rfl, q, rfl⟩; have K := K.drewN q)
                | (go_at_call 38; refine (lives_L w g L LA _ _ _ (HLL.out.kept0 K)).mono ?_; rintro e w' ⟨rfl, rfl⟩; (first | rw [HBX.out] | rw [HBY.out]))
                | (go_at_call 39; refine (livesr_any w.heap.size r _ L LA _ _ ⟨HOL.out.1.kept0 K, HOL.out.2.kept0 K⟩).mono ?_; rintro e w' ⟨rfl, rfl⟩; (first | rw [HBX.out] | rw [HBY.out])))
              all_goals
                go_wp2
                go_roundw
                case rel => exact ⟨k + 1, L, LA, hlt, by go_num, hDk.kept0 K, by rw [HLEN.out]; exact hLl, hA0, hA1⟩
                case measure => simp [intOf]; omega
          · go_region_held3 (fun W : World => W.cell? ⟨bl, off + k, none⟩ = some (.int .i64 x)) (exact HC.out _ hD.all) (first
              | (go_at_call 34; refine (kill_Df w g r _ _ _ _ _ x hD hx).mono ?_; rintro e w' ⟨rfl, hD⟩)
              | (go_at_call 35; refine (killr_Df w g r _ _ _ _ _ x hD hx).mono ?_; rintro e w' ⟨rfl, hD⟩))
            all_goals
              obtain ⟨L, LA, hD, hLl, hA0, hA1⟩ : ∃ L LA, Duo w _ g r L LA L LA ∧ L.length ≤ 64 ∧ 0 ≤ LA ∧ LA ≤ ((k + 1 : Nat) : Int) := ⟨_, _, hD, hl, hz0, by omega⟩
              clear h
              go_upto_region 19 with (fail)
              try clear hx0
              try clear hx1
              try clear hx
              have hDk := hD
              have hall := hD.all
              have K := hD.k0
              obtain ⟨v, ⟨hs, ho⟩, hgr, hL⟩ := hD
              obtain ⟨AR, cR, rfl, hmR, hrR, _⟩ := ho.shape
              generalize hlen : L.length = nL at *
              have HLEN := hide hlen
              clear hlen
              have c0 : ∀ W, Kept [] _ W → W.cell? ⟨r, 0, none⟩ = some (.slice AR nL cR) := fun W hW => (hs.kept0 hW).cell 0
              have c1 : ∀ W, Kept [] _ W → W.cell? ⟨r, 1, none⟩ = some (.int .i64 LA) := fun W hW => (hs.kept0 hW).cell 1
              obtain ⟨bx, hbx⟩ : ∃ b, decide (x ∈ L) = b := ⟨_, rfl⟩
              obtain ⟨by', hby⟩ : ∃ b, decide (LA ∈ L) = b := ⟨_, rfl⟩
              have hb1 : (bx != bx) = false := by simp
              have hb2 : (by' != by') = false := by simp
              have HBX := hide hbx
              have HBY := hide hby
              clear hbx hby
              have C0 := hide c0
              have C1 := hide c1
              have HRR := hide hrR
              have HOL := hide (show _ ∧ _ from ⟨hs, ho⟩)
              have HLL := hide hL
              clear c0 c1 hrR hs ho hL
              go_region_held3 (fun W : World => W.cell? ⟨r, 0, none⟩ = some (.slice AR nL cR) ∧ W.cell? ⟨r, 1, none⟩ = some (.int .i64 LA) ∧ W.cell? ⟨bl, off + k, none⟩ = some (.int .i64 x)) (exact ⟨C0.out _ K, C1.out _ K, HC.out _ (hall.trans0 K)⟩) (first
                | (go_at_call 37; refine (all_L w g L LA _ _ (HLL.out.kept0 K) (by rw [HLEN.out]; omega)).mono ?_; rintro e w' ⟨AA, nA, cA, rfl, hnA, hmA, hoA, _, kA⟩; rw [HLEN.out] at hnA; have hnA := hnA.symm; subst hnA; have hrA := hide (hoA.rd HLEN.out.symm); clear hoA hmA; have K := K.trans0 kA)
                | (go_at_call 36; refine (same_T AA AR nL cA cR L _ HLEN.out (by omega) hrA.out (HRR.out.kept0 K)).mono ?_; rintro e w' ⟨rfl, q, rfl⟩; have K := K.drewN q)
                | (go_at_call 38; refine (lives_L w g L LA _ _ _ (HLL.out.kept0 K)).mono ?_; rintro e w' ⟨rfl, rfl⟩; (first | rw [HBX.out] | rw [HBY.out]))
                | (go_at_call 39; refine (livesr_any w.heap.size r _ L LA _ _ ⟨HOL.out.1.kept0 K, HOL.out.2.kept0 K⟩).mono ?_; rintro e w' ⟨rfl, rfl⟩; (first | rw [HBX.out] | rw [HBY.out])))
              all_goals
                go_wp2
                go_roundw
                case rel => exact ⟨k + 1, L, LA, hlt, by go_num, hDk.kept0 K, by rw [HLEN.out]; exact hLl, hA0, hA1⟩
                case measure => simp [intOf]; omega
    · go_wp2
      go_ret
      exact ⟨rfl, h.all⟩
end Go.Proofs.Ythifbmopfcfokaa
