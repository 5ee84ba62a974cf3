/- The reference's lists of numbers: With. Conditions: the list is the caller's own and short. -/
import Derived.Test.YtabcchadjgnldaaGRow
import Derived.Deep.RegionLaw
import Derived.Deep.Cut
namespace Go.Proofs.Ytabcchadjgnldaa
open Go.RowKit

/-- A number laid into a row ahead of the first that is greater; one that is there is not laid in anew. -/
def insL (x : Int) : List Int → List Int
  | [] => [x]
  | y :: r => if y = x then y :: r else if x < y then x :: y :: r else y :: insL x r
theorem insL_pre (x : Int) : ∀ (a r : List Int), (∀ y ∈ a, y < x) → insL x (a ++ r) = a ++ insL x r
  | [], _, _ => rfl
  | y :: a, r, h => by
    have hy := h y (by simp)
    rw [List.cons_append, insL, if_neg (by omega), if_neg (by omega), insL_pre x a r (fun z hz => h z (by simp [hz])), List.cons_append]
theorem insL_len (x : Int) : ∀ l : List Int, (insL x l).length ≤ l.length + 1
  | [] => by simp [insL]
  | y :: r => by
    have := insL_len x r
    unfold insL
    split
    · simp
    · split
      · simp
      · simp
        omega

section
variable (n c : Nat) (A : Option Addr) (l : List Int) (x : Int) (w : World)
set_option maxRecDepth 100000 in
theorem with_has (p : Nat) (hm : n ≤ 60000) (hl : l.length = n) (hr : Rd w A n (ints l)) (hp : p < n) (hb : ∀ j, j < p → l.getD j 0 < x) (he : l.getD p 0 = x) :
    Calls Try.prog 23 #[.slice A n c, .int .i64 x] w fun e w' => e = .returned (.slice A n c) ∧ w = w' := by
  have HL := hide hl
  have HR := hide hr
  have HB := hide hb
  have HE := hide he
  clear hl hr hb he
  go_enter Try.func23, Try.ntmps23
  go_wp2
  go_loop [5] (fun i => ∃ k : Nat, k ≤ p ∧ i = .int .i64 k) (fun i => n - (intOf i).toNat)
  case atStart => exact ⟨0, Nat.zero_le _, rfl⟩
  case round =>
    obtain ⟨k, hk, rfl⟩ := hrel
    have hkn : k < n := by omega
    obtain ⟨bl, off, hA, hbl, hc⟩ := HR.out k hkn
    subst hA
    unfold ints at hc
    by_cases hlt : k < p
    · have hy := HB.out k hlt
      generalize l.getD k 0 = y at hc hy
      have hv1 : (y == x) = false := by simp; omega
      have hv2 : ¬ x < y := by omega
      have hv3 : decide (x < y) = false := by simp; omega
      go_wp2
      go_round
      case rel => exact ⟨k + 1, hlt, by go_num⟩
      case measure => simp [intOf]; omega
    · obtain rfl : k = p := by omega
      rw [HE.out] at hc
      go_wp2
      go_ret
      exact ⟨rfl, rfl⟩

set_option maxRecDepth 100000 in
theorem with_last (hm : n ≤ 60000) (hc0 : A = none → c = 0) (hl : l.length = n) (hr : Rd w A n (ints l)) (hx : ∀ j, j < n → l.getD j 0 < x) :
    Calls Try.prog 23 #[.slice A n c, .int .i64 x] w fun e w' => ∃ v, e = .returned v ∧ Own w' w.heap.size v (l ++ [x]) ∧ Kept [] w w' := by
  have HL := hide hl
  have HR := hide hr
  have HX := hide hx
  have HC := hide hc0
  clear hl hr hx hc0
  go_enter Try.func23, Try.ntmps23
  go_wp2
  go_loop [5] (fun i => ∃ k : Nat, k ≤ n ∧ i = .int .i64 k) (fun i => n - (intOf i).toNat)
  case atStart => exact ⟨0, Nat.zero_le _, rfl⟩
  case round =>
    obtain ⟨k, hk, rfl⟩ := hrel
    by_cases hlt : k < n
    · obtain ⟨bl, off, hA, hb, hc⟩ := HR.out k hlt
      subst hA
      unfold ints at hc
      have hy := HX.out k hlt
      generalize l.getD k 0 = y at hc hy
      have hv1 : (y == x) = false := by simp; omega
      have hv2 : ¬ x < y := by omega
      have hv3 : decide (x < y) = false := by simp; omega
      go_wp2
      go_round
      case rel => exact ⟨k + 1, hlt, by go_num⟩
      case measure => simp [intOf]; omega
    · go_wp2_with (at_builtin; refine wpList_app rfl (.const (.slice none 0 0)) (.tmp 36) rfl w.heap.size _ [] rfl (Own.nil _ _) A n c l rfl HC.out HL.out HR.out (by simp; omega) (Nat.le_refl _) ?_)
      intro v1 w1 ho1 hk1 _
      go_wp2_with (at_builtin; refine wpList_app rfl (.tmp 37) (.tmp 39) rfl w.heap.size _ _ rfl (ho1.kept0 ((Kept.refl _ _).alloc _)) _ 1 1 [x] rfl (by simp) rfl (rd_one w1 x _) (by rw [HL.out]; omega) (Nat.le_trans hk1.size (by simp)) ?_)
      intro v2 w2 ho2 hk2 _
      go_wp2
      go_ret
      exact ⟨_, rfl, ho2, ((hk1.more (S' := []) (by simp [blk, Value.ownBlock])).alloc _).trans hk2 (fun b hb => .inr (ho1.lt b (mem_blk hb)).1)⟩

set_option maxRecDepth 100000 in
set_option maxHeartbeats 2000000 in
theorem with_mid (p bl : Nat) (hA : A = some ⟨bl, 0, none⟩) (hm : n ≤ 60000) (hnc : n ≤ c) (hcm : c ≤ 9223372036854775807) (hl : l.length = n) (hr : Rd w A n (ints l)) (hp : p < n) (hb : ∀ j, j < p → l.getD j 0 < x) (he : x < l.getD p 0) :
    Calls Try.prog 23 #[.slice A n c, .int .i64 x] w fun e w' => ∃ v, e = .returned v ∧ Own w' w.heap.size v (l.take p ++ x :: l.drop p) ∧ Kept [] w w' := by
  subst hA
  have HR1 : Hid (∀ W, Kept [] w W → Rd W (some ⟨bl, 0, none⟩) p (ints (l.take p))) := hide fun W k i hi => by
    obtain ⟨b', o', h1, h2, h3⟩ := (hr.kept0 k) i (by omega)
    refine ⟨b', o', h1, h2, ?_⟩
    rw [h3]
    simp [ints, List.getD, hi]
  have HR2 : Hid (∀ W, Kept [] w W → Rd W (some ⟨bl, p, none⟩) (n - p) (ints (l.drop p))) := hide fun W k i hi => by
    obtain ⟨b', o', h1, h2, h3⟩ := (hr.kept0 k) (p + i) (by omega)
    injection h1 with h1
    injection h1 with h1 h4
    subst h1
    subst h4
    refine ⟨bl, p, rfl, h2, ?_⟩
    rw [Nat.zero_add] at h3
    rw [h3]
    simp [ints, List.getD, List.getElem?_drop]
  have HLT : Hid ((l.take p).length = p) := hide (by rw [List.length_take]; omega)
  have HLD : Hid ((l.drop p).length = n - p) := hide (by rw [List.length_drop]; omega)
  have HL := hide hl
  have HR := hide hr
  have HB := hide hb
  have HE := hide he
  clear hl hr hb he
  go_enter Try.func23, Try.ntmps23
  go_wp2
  go_loop [5] (fun i => ∃ k : Nat, k ≤ p ∧ i = .int .i64 k) (fun i => n - (intOf i).toNat)
  case atStart => exact ⟨0, Nat.zero_le _, rfl⟩
  case round =>
    obtain ⟨k, hk, rfl⟩ := hrel
    have hkn : k < n := by omega
    obtain ⟨bl', off, hA, hbl, hc⟩ := HR.out k hkn
    injection hA with hA
    injection hA with hA1 hA2
    subst hA1
    subst hA2
    unfold ints at hc
    rw [Nat.zero_add] at hc
    by_cases hlt : k < p
    · have hy := HB.out k hlt
      generalize l.getD k 0 = y at hc hy
      have hv1 : (y == x) = false := by simp; omega
      have hv2 : ¬ x < y := by omega
      have hv3 : decide (x < y) = false := by simp; omega
      go_wp2
      go_round
      case rel => exact ⟨k + 1, hlt, by go_num⟩
      case measure => simp [intOf]; omega
    · obtain rfl : k = p := by omega
      have hy := HE.out
      generalize l.getD k 0 = y at hc hy
      have hv1 : (y == x) = false := by simp; omega
      have hkc : k ≤ c := by omega
      have hkn' : k ≤ n := by omega
      have hck : ¬ c = k := by omega
      have hck2 : ¬ k = c := by omega
      go_upto_region 7 with (fail)
      clear hc
      go_region_law (first
        | (refine step_app rfl (.const (.slice none 0 0)) (.tmp 27) rfl w.heap.size (.slice none 0 0) [] rfl (Own.nil _ _) (some ⟨bl, 0, none⟩) k c (l.take k) rfl (by simp) HLT.out (HR1.out _ (by first | exact (Kept.refl _ _).drew | exact ((Kept.refl _ _).alloc _).drew)) (by simp; omega) (by simp) ?_
           intro v5 w5 ho5 hk5 hat5
           rw [List.nil_append] at ho5
           have hs5 := ho5.shape
           rw [HLT.out] at hs5
           obtain ⟨A5, c5, rfl, _, _, _⟩ := hs5
           have K5 : Kept [] w w5 := by first | exact ((Kept.refl _ _).drew).trans0 hk5 | exact (((Kept.refl _ _).alloc _).drew).trans0 hk5
           have hn5 : Kept [] (w.alloc (.cells #[.int .i64 x] 3)).drew w5 → Rd w5 (some ⟨w.heap.size, 0, none⟩) 1 (ints [x]) := fun hk => (show Rd (w.alloc (.cells #[.int .i64 x] 3)).drew (some ⟨w.heap.size, 0, none⟩) 1 (ints [x]) from rd_one w x 3).kept0 hk)
        | (refine step_app rfl (.tmp 28) (.tmp 30) rfl w.heap.size (.slice A5 k c5) (l.take k) rfl (ho5.kept0 (by first | exact Kept.refl _ _ | exact (Kept.refl _ _).alloc _)) _ 1 1 [x] rfl (by simp) rfl (by first | exact rd_one _ _ _ | exact hn5 hk5) (by rw [HLT.out]; omega) (Nat.le_trans K5.size (by simp)) ?_
           intro v6 w6 ho6 hk6 hat6
           have hs6 := ho6.shape
           rw [List.length_append, HLT.out, List.length_singleton] at hs6
           obtain ⟨A6, c6, rfl, _, _, _⟩ := hs6
           have K6 : Kept [] w w6 := by first | exact K5.trans hk6 (fun z hz => .inr (ho5.lt z (mem_blk hz)).1) | exact (K5.alloc _).trans hk6 (fun z hz => .inr (ho5.lt z (mem_blk hz)).1))
        | (refine step_app rfl (.tmp 31) (.tmp 34) rfl w.heap.size (.slice A6 (k + 1) c6) (l.take k ++ [x]) rfl ho6 (some ⟨bl, k, none⟩) (n - k) (c - k) (l.drop k) rfl (by simp) HLD.out (HR2.out _ K6) (by rw [List.length_append, HLT.out]; simp; omega) K6.size ?_
           intro v7 w7 ho7 hk7 hat7))
      all_goals
        rw [List.append_assoc] at ho7
        go_wp2
        go_ret
        exact ⟨_, rfl, ho7, K6.trans hk7 (fun z hz => .inr (ho6.lt z (mem_blk hz)).1)⟩
/-- Where a number lies in a row: at what stands, or ahead of it, or behind all. -/
theorem ins_at (x : Int) : ∀ l : List Int, (∀ j, j < l.length → l.getD j 0 < x) ∧ insL x l = l ++ [x] ∨ ∃ p, p < l.length ∧ (∀ j, j < p → l.getD j 0 < x) ∧ (l.getD p 0 = x ∧ insL x l = l ∨ x < l.getD p 0 ∧ insL x l = l.take p ++ x :: l.drop p)
  | [] => .inl ⟨fun j h => absurd h (by simp), rfl⟩
  | y :: r => by
    by_cases h1 : y = x
    · exact .inr ⟨0, by simp, fun j h => absurd h (by omega), .inl ⟨by simpa using h1, by rw [insL, if_pos h1]⟩⟩
    by_cases h2 : x < y
    · exact .inr ⟨0, by simp, fun j h => absurd h (by omega), .inr ⟨by simpa using h2, by rw [insL, if_neg h1, if_pos h2]; rfl⟩⟩
    have e : insL x (y :: r) = y :: insL x r := by rw [insL, if_neg h1, if_neg h2]
    rcases ins_at x r with ⟨h3, h4⟩ | ⟨p, hp, h3, h4⟩
    · refine .inl ⟨fun j hj => ?_, by rw [e, h4]; rfl⟩
      cases j with
      | zero => simp; omega
      | succ j => exact h3 j (by simpa using hj)
    · refine .inr ⟨p + 1, by simpa using hp, fun j hj => ?_, ?_⟩
      · cases j with
        | zero => simp; omega
        | succ j => exact h3 j (by omega)
      · rcases h4 with ⟨h5, h6⟩ | ⟨h5, h6⟩
        · exact .inl ⟨h5, by rw [e, h6]⟩
        · exact .inr ⟨h5, by rw [e, h6]; rfl⟩

theorem Own.shape2 {w : World} {base : Nat} {v : Value} {l : List Int} (h : Own w base v l) : ∃ A c, v = .slice A l.length c ∧ Rd w A l.length (ints l) ∧ (A = none → c = 0) ∧ (0 < l.length → ∃ bl, A = some ⟨bl, 0, none⟩ ∧ l.length ≤ c ∧ c ≤ 9223372036854775807) := by
  obtain ⟨A, c, rfl, _, hr, _⟩ := h.shape
  refine ⟨A, c, rfl, hr, ?_, ?_⟩
  · rintro rfl
    rcases h.2 with ⟨h1, _⟩ | ⟨g, cap, cur, h1, _⟩
    · injection h1
    · injection h1 with h1
      cases h1
  · intro hp
    rcases h.2 with ⟨_, h1⟩ | ⟨g, cap, cur, h1, _, _, h2, h3, _⟩
    · omega
    · injection h1 with h1 _ h4
      subst h4
      exact ⟨g, h1, h2, h3⟩

theorem with_any (base : Nat) (v : Value) (l : List Int) (x : Int) (w : World) (ho : Own w base v l) (hl : l.length ≤ 60000) (hb : base ≤ w.heap.size) :
    Calls Try.prog 23 #[v, .int .i64 x] w fun e w' => ∃ v', e = .returned v' ∧ Own w' base v' (insL x l) ∧ Kept [] w w' ∧ ∀ b ∈ blk v', b ∈ blk v ∨ w.heap.size ≤ b := by
  obtain ⟨A, c, rfl, hr, hnone, hsome⟩ := ho.shape2
  rcases ins_at x l with ⟨h1, h2⟩ | ⟨p, hp, h1, ⟨h3, h4⟩ | ⟨h3, h4⟩⟩
  · rw [h2]
    exact (with_last l.length c A l x w hl hnone rfl hr h1).mono fun _ w' ⟨v', he, h, k⟩ => ⟨v', he, h.base hb, k, fun b hb => .inr (h.lt b (mem_blk hb)).1⟩
  · rw [h4]
    refine (with_has l.length c A l x w p hl rfl hr hp h1 h3).mono ?_
    rintro e w' ⟨he, rfl⟩
    exact ⟨_, he, ho, Kept.refl _ _, fun b hb => .inl hb⟩
  · rw [h4]
    obtain ⟨bl, hA, hc1, hc2⟩ := hsome (by omega)
    exact (with_mid l.length c A l x w p bl hA hl hc1 hc2 rfl hr hp h1 h3).mono fun _ w' ⟨v', he, h, k⟩ => ⟨v', he, h.base hb, k, fun b hb => .inr (h.lt b (mem_blk hb)).1⟩
end
end Go.Proofs.Ytabcchadjgnldaa
