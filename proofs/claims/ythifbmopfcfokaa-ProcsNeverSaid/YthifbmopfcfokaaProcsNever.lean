/- What ProcsNever answers: true, at every row of bytes. Conditions: the row reads as bytes. -/
import Derived.Test.YthifbmopfcfokaaLive
import Derived.Test.YthifbmopfcfokaaWith
import Derived.Test.YthifbmopfcfokaaSpawnR
namespace Go.Proofs.Ythifbmopfcfokaa
open Go.RowKit

section
variable {a w w' : World} {g : Nat} {l : List Int} {last : Int} {S : List Nat}
/-- A new list of the caller's own: the processes lie apart from it. -/
theorem Live.fresh {base : Nat} {v : Value} {m : List Int} (h : Live a w g l last S) (k : Kept [] w w') (ho : Own w' base v m) (hb : w.heap.size ≤ base) : Live a w' g l last (blk v) := by
  have h' : Live a w g l last [] := by
    obtain ⟨u, hp, hk, hg, _⟩ := h
    exact ⟨u, hp, hk, hg, by simp⟩
  refine h'.beside k (by simp) (fun b hb' => .inr ?_)
  obtain ⟨h1, h2⟩ := ho.lt b (mem_blk hb')
  exact ⟨Nat.le_trans hb h1, h2⟩
theorem Live.less {S' : List Nat} (h : Live a w g l last S) (hs : ∀ b ∈ S', b ∈ S) : Live a w g l last S' := by
  obtain ⟨u, hp, hk, hg, h3⟩ := h
  exact ⟨u, hp, hk, hg, fun b hb => h3 b (hs b hb)⟩
end

/-- Bytes that came in, by place. -/
def byts (f : Nat → Int) (k : Nat) : Value := .int .u8 (f k)

set_option maxRecDepth 100000 in
theorem never_any (A : Option Addr) (n c : Nat) (f : Nat → Int) (hm : n ≤ 9223372036854775807) (w : World) (hr : Rd w A n (byts f)) (hf : ∀ k, k < n → 0 ≤ f k ∧ f k < 256) :
    Calls Try.prog 9 #[.slice A n c] w fun e w' => e = .returned (.bool true) ∧ Kept [] w w' := by
  have HR := hide hr
  clear hr
  have HF := hide hf
  clear hf
  go_enter Try.func9, Try.ntmps9
  go_wp2_with fail
  refine (known5_any w).mono ?_
  rintro e w1 ⟨rfl, k1⟩
  by_cases hn : 60 < n
  · go_wp2
    go_ret
    exact ⟨rfl, k1⟩
  go_wp2_with fail
  refine (new_L w [] _ k1 (by simp)).mono ?_
  rintro e w2 ⟨g, rfl, h2, _, _⟩
  go_wp2
  go_loopw [4, 5, 6, 7, 8, 9] (fun last live i _ _ _ wr => ∃ (k : Nat) (l : List Int), k ≤ n ∧ last = .int .i64 k ∧ i = .int .i64 k ∧ Own wr w.heap.size live l ∧ Live w wr g l k (blk live) ∧ Hid (l.length ≤ k ∧ ∀ y ∈ l, y ≤ k)) (fun _ _ i _ _ _ _ => n - (intOf i).toNat)
  case atStart => exact ⟨0, [], Nat.zero_le _, rfl, rfl, Own.nil _ _, h2.less (by simp [blk, Value.ownBlock]), hide (by simp)⟩
  case round =>
    obtain ⟨k, l, hk, rfl, rfl, ho, h, HI⟩ := hrel
    by_cases hlt : k < n
    · have hl64 : l.length < 60 := by
        have := HI.out.1
        omega
      go_wp2_with fail
      refine (spawn_L w g _ _ _ _ h (by omega) (by omega) (by omega)).mono ?_
      rintro e w3 ⟨rfl, h3, hs3, hz3⟩
      have ho3 := ho.same hs3 (fun b hb => blk_mem hb)
      obtain ⟨A3, c3, rfl, _, hr3, _⟩ := ho3.shape
      have hcap3 : A3 = none → c3 = 0 := fun hA => ho3.cap0 hA
      clear h
      go_wp2_with fail
      refine (with_last l.length c3 A3 l ((k : Int) + 1) w3 rfl (by omega) hcap3 hr3 (fun y hy => by have := HI.out.2 y hy; omega)).mono ?_
      rintro e w4 ⟨v4, rfl, ho4, k4⟩
      have h4 := h3.fresh k4 ho4 (Nat.le_refl _)
      have ho4' := ho4.base h3.size
      clear ho4 h3 hr3 hcap3 ho3 hs3 ho
      have HJ : Hid ((l ++ [(k : Int) + 1]).length ≤ k + 1 ∧ (∀ y ∈ l ++ [(k : Int) + 1], y ≤ k + 1) ∧ 0 < (l ++ [(k : Int) + 1]).length) := hide ⟨by simpa using HI.out.1, by
        intro y hy
        rcases List.mem_append.1 hy with hy | hy
        · have := HI.out.2 y hy
          omega
        · simp at hy
          omega, by simp⟩
      generalize hl4 : l ++ [(k : Int) + 1] = l4 at ho4' h4 HJ
      clear hl4
      have hl464 : l4.length ≤ 60 := by
        have := HJ.out.1
        omega
      obtain ⟨A4, c4, rfl, hm4, hr4, _⟩ := ho4'.shape
      obtain ⟨bl, off, rfl, hb, hc⟩ := (HR.out.kept0 h4.all) k hlt
      unfold byts at hc
      obtain ⟨b0, b1⟩ := HF.out k hlt
      generalize f k = b at hc b0 b1
      have hb3 : b % 3 = 0 ∨ b % 3 = 1 ∨ b % 3 = 2 := by omega
      rcases hb3 with e3 | e3 | e3
      · have hO := ho4'
        have hL := h4
        have HX : Hid (l4.length ≤ k + 1 ∧ ∀ y ∈ l4, y ≤ ((k + 1 : Nat) : Int)) := hide ⟨HJ.out.1, fun y hy => by have := HJ.out.2.1 y hy; omega⟩
        go_wp2_with fail
        refine (all_L w g _ _ _ _ hL (by omega)).mono ?_
        rintro e wA ⟨AA, nA, cA, rfl, hnA, hmA, hoA, hLA, kA⟩
        subst hnA
        have hrA : Rd wA AA l4.length (ints l4) := by
          obtain ⟨A', c', e', _, hr', _⟩ := hoA.shape
          injection e' with e1 e2 e3
          subst e1
          exact hr'
        go_wp2_with fail
        refine (same_any AA A4 l4.length l4.length cA c4 l4 l4 _ rfl rfl (by omega) (by omega) hrA (hr4.kept0 kA)).mono ?_
        rintro e wB ⟨rfl, q, rfl⟩
        rw [show decide (l4 = l4) = true from by simp]
        go_wp2
        go_roundw
        case rel => exact ⟨k + 1, l4, hlt, by go_num, by go_num, hO.kept0 (kA.drewN q), (hLA.less (fun b hb => List.mem_append_right _ hb)).drewN q, HX⟩
        case measure => simp [intOf]; omega
      · have hm0 : (l4.length : Int) ≠ 0 := by
          have := HJ.out.2.2
          omega
        have hm1 : ((l4.length : Int) == 0) = false := by simpa using hm0
        obtain ⟨j, hj⟩ : ∃ j : Nat, b % (l4.length : Int) = (j : Int) := ⟨(b % (l4.length : Int)).toNat, (Int.toNat_of_nonneg (Int.emod_nonneg _ hm0)).symm⟩
        have hjl : j < l4.length := by
          have := Int.emod_lt_of_pos b (b := (l4.length : Int)) (by omega)
          omega
        obtain ⟨b4, o4, rfl, hb4, hc4⟩ := hr4 j hjl
        have hmem : l4.getD j 0 ∈ l4 := by simp [List.getD, hjl]
        unfold ints at hc4
        generalize l4.getD j 0 = x at hc4 hmem
        go_wp2_with fail
        refine (kill_L w g _ _ _ _ x h4 hmem).mono ?_
        rintro e w5 ⟨rfl, h5, hs5, hz5⟩
        have ho5 := ho4'.same hs5 (fun b hb => blk_mem hb)
        have hr5 : Rd w5 (some ⟨b4, o4, none⟩) l4.length (ints l4) := by
          obtain ⟨A', c', e', _, hr', _⟩ := ho5.shape
          injection e' with e1 e2 e3
          subst e1
          exact hr'
        go_wp2_with fail
        refine (without_any l4.length c4 (some ⟨b4, o4, none⟩) l4 x w5 rfl (by omega) hr5).mono ?_
        rintro e w6 ⟨v6, rfl, ho6, k6⟩
        have hL := h5.fresh k6 ho6 (Nat.le_refl _)
        have hO := ho6.base h5.size
        have HX : Hid ((wo l4 x).length ≤ k + 1 ∧ ∀ y ∈ wo l4 x, y ≤ ((k + 1 : Nat) : Int)) := hide ⟨Nat.le_trans (wo_length _ _) HJ.out.1, fun y hy => by have := HJ.out.2.1 y (wo_mem.1 hy).1; omega⟩
        clear ho6 h5 hs5 ho5 hr5 h4 ho4' hr4 hc4 hmem
        generalize wo l4 x = lX at hO hL HX
        have hlX : lX.length ≤ 60 := by
          have := HX.out.1
          omega
        obtain ⟨AX, cX, rfl, hmX, hrX, _⟩ := hO.shape
        go_wp2_with fail
        refine (all_L w g _ _ _ _ hL (by omega)).mono ?_
        rintro e wA ⟨AA, nA, cA, rfl, hnA, hmA, hoA, hLA, kA⟩
        subst hnA
        have hrA : Rd wA AA lX.length (ints lX) := by
          obtain ⟨A', c', e', _, hr', _⟩ := hoA.shape
          injection e' with e1 e2 e3
          subst e1
          exact hr'
        go_wp2_with fail
        refine (same_any AA AX lX.length lX.length cA cX lX lX _ rfl rfl (by omega) (by omega) hrA (hrX.kept0 kA)).mono ?_
        rintro e wB ⟨rfl, q, rfl⟩
        rw [show decide (lX = lX) = true from by simp]
        go_wp2
        go_roundw
        case rel => exact ⟨k + 1, lX, hlt, by go_num, by go_num, hO.kept0 (kA.drewN q), (hLA.less (fun b hb => List.mem_append_right _ hb)).drewN q, HX⟩
        case measure => simp [intOf]; omega
      · go_wp2_with fail
        refine (power_L w g _ _ _ _ h4).mono ?_
        rintro e w5 ⟨rfl, h5, hs5, hz5⟩
        have hL : Live w w5 g [] ((k : Int) + 1) (blk (.slice none 0 0)) := h5.less (by simp [blk, Value.ownBlock])
        have hO : Own w5 w.heap.size (.slice none 0 0) [] := Own.nil _ _
        have HX : Hid (([] : List Int).length ≤ k + 1 ∧ ∀ y ∈ ([] : List Int), y ≤ ((k + 1 : Nat) : Int)) := hide (by simp)
        clear h5 hs5 h4 ho4' hr4
        have hlX : 0 ≤ 60 := by simp
        have hrX : Rd w5 none 0 (ints []) := Rd.zero _ _ _
        go_wp2_with fail
        refine (all_L w g _ _ _ _ hL (by simp)).mono ?_
        rintro e wA ⟨AA, nA, cA, rfl, hnA, hmA, hoA, hLA, kA⟩
        subst hnA
        have hrA : Rd wA AA 0 (ints []) := by
          obtain ⟨A', c', e', _, hr', _⟩ := hoA.shape
          injection e' with e1 e2 e3
          subst e1
          exact hr'
        go_wp2_with fail
        refine (same_any AA none 0 0 cA 0 [] [] _ rfl rfl (by omega) (by omega) hrA (hrX.kept0 kA)).mono ?_
        rintro e wB ⟨rfl, q, rfl⟩
        rw [show decide (([] : List Int) = []) = true from by simp]
        go_wp2
        go_roundw
        case rel => exact ⟨k + 1, [], hlt, by go_num, by go_num, hO.kept0 (kA.drewN q), (hLA.less (fun b hb => List.mem_append_right _ hb)).drewN q, HX⟩
        case measure => simp [intOf]; omega
    · go_wp2
      go_ret
      exact ⟨rfl, h.all⟩
end Go.Proofs.Ythifbmopfcfokaa
