/- What the numbers kept beside a file come to: they are those that are loose. -/
import Derived.Test.YtabcchadjgnldaaFKnown
import Derived.Test.YtabcchadjgnldaaGWith
import Derived.Test.YtabcchadjgnldaaFSyncedPlain
namespace Go.Proofs.Ytabcchadjgnldaa
open Go.RowKit

theorem loose_congr {L L' : Int → Bool} {k : Nat} (h : ∀ i : Nat, i < k → L i = L' i) : looseL L k = looseL L' k := by
  unfold looseL
  rw [List.filter_congr (fun i hi => h i (by simpa using hi))]
theorem ins_app (x : Int) : ∀ (a t : List Int), (∀ y ∈ t, x < y) → insL x (a ++ t) = insL x a ++ t
  | [], [], _ => rfl
  | [], y :: t, h => by
    have := h y (by simp)
    show insL x (y :: t) = x :: y :: t
    rw [insL, if_neg (by omega), if_pos this]
  | y :: a, t, h => by
    show insL x (y :: (a ++ t)) = insL x (y :: a) ++ t
    unfold insL
    split
    · rfl
    · split
      · rfl
      · rw [ins_app x a t h]
        rfl
theorem loose_lt {L : Int → Bool} {k : Nat} {x : Int} (h : x ∈ looseL L k) : x < k := by
  obtain ⟨i, h1, _, rfl⟩ := loose_mem.1 h
  omega
theorem ins_loose_ge (L : Int → Bool) (k : Nat) : insL k (looseL L k) = looseL L k ++ [(k : Int)] := by
  have := insL_pre k (looseL L k) [] (fun y hy => loose_lt hy)
  simpa [insL] using this
theorem ins_loose (L : Int → Bool) (k : Nat) : ∀ m, k < m → insL k (looseL L m) = looseL (add L k) m
  | 0, h => absurd h (by omega)
  | m + 1, h => by
    by_cases hkm : k = m
    · subst hkm
      rw [loose_succ (add L k), if_pos (by simp [add]), loose_congr (L := add L k) (L' := L) (fun i hi => by simp [add]; omega), loose_succ L]
      split
      · rw [insL_pre k _ _ (fun y hy => loose_lt hy)]
        simp [insL]
      · exact ins_loose_ge L k
    · have e : add L k (m : Int) = L m := by simp [add]; omega
      rw [loose_succ (add L k), e, loose_succ L, ← ins_loose L k m (by omega)]
      split
      · exact ins_app k _ _ (fun y hy => by simp at hy; omega)
      · rfl
theorem ins_last (L : Int → Bool) (k : Nat) : insL k (looseL L k) = looseL (add L k) (k + 1) := by
  rw [ins_loose_ge, loose_succ (add L k), if_pos (by simp [add]), loose_congr (L := add L k) (L' := L) (fun i hi => by simp [add]; omega)]
theorem ins_both (L : Int → Bool) (k j m : Nat) (h : k ≤ j) (hm : m = max j (k + 1)) : insL k (looseL L j) = looseL (add L k) m := by
  rcases Nat.lt_or_eq_of_le h with h1 | h1
  · rw [ins_loose L k j h1, show m = j by omega]
  · subst h1
    rw [ins_last, show m = k + 1 by omega]
theorem ins_next (L : Int → Bool) (k : Nat) (h : L k = true) : insL k (looseL L k) = looseL L (k + 1) := by
  rw [ins_loose_ge, loose_succ, if_pos h]
theorem padL_lt {N : List ByteArray} {L : Int → Bool} : ∀ (d : Nat) {i : Nat}, i < N.length → padL N L d i = L i
  | 0, _, _ => rfl
  | d + 1, i, h => by
    unfold padL add
    rw [if_neg (by omega), padL_lt d h]
theorem padL_ge {N : List ByteArray} {L : Int → Bool} : ∀ (d : Nat) {i : Nat}, N.length ≤ i → i < N.length + d → padL N L d i = true
  | 0, i, h1, h2 => absurd h2 (by omega)
  | d + 1, i, h1, h2 => by
    unfold padL add
    by_cases h : (i : Int) = ((N.length + d : Nat) : Int)
    · rw [if_pos h]
    · rw [if_neg h, padL_ge d h1 (by omega)]

/-- A file, and a row of numbers beside it. -/
def LooI (w wz : World) (g n : Nat) (N S : List ByteArray) (L : Int → Bool) (F : List Nat) (v : Value) (l : List Int) : Prop := FileS w wz g N S n L F ∧ Own wz w.heap.size v l ∧ Apart wz F (blk v)
section
variable (w wz : World) (g n : Nat) (N S : List ByteArray) (L : Int → Bool) (F : List Nat) (v : Value) (l : List Int)
theorem LooI.kept0 {w wz : World} {g n : Nat} {N S : List ByteArray} {L : Int → Bool} {F : List Nat} {v : Value} {l : List Int} {wy : World} (h : LooI w wz g n N S L F v l) (k : Kept [] wz wy) : LooI w wy g n N S L F v l := ⟨h.1.kept0 k, h.2.1.kept0 k, h.2.2.kept0 k⟩
theorem with_loo (x : Int) (h : LooI w wz g n N S L F v l) (hl : l.length ≤ 60000) : Calls Try.prog 23 #[v, .int .i64 x] wz fun e w' => ∃ v', e = .returned v' ∧ LooI w w' g n N S L F v' (insL x l) :=
  (with_any w.heap.size v l x wz h.2.1 hl h.1.size).mono fun _ w' ⟨v', he, ho, k, hb⟩ => ⟨v', he, h.1.kept0 k, ho, fun b h1 => by
    rcases hb b h1 with h2 | h2
    · exact (h.2.2.kept0 k) b h2
    · refine ⟨(ho.lt b (mem_blk h1)).2, fun hf => ?_⟩
      have := (h.1.1.lt b hf).2
      omega⟩
theorem write_loo (k : Nat) (s : ByteArray) (h : LooI w wz g n N S L F v l) (hN : N.length ≤ 400) (hk : k < 400) (hn : n < 100000000) : Calls Try.prog 11 #[.pointer (some ⟨g, 0, none⟩), .int .i64 k, .string s] wz fun e w' => e = .returned .nilIface ∧ ∃ F', LooI w w' g (n + 500) ((padN N (k + 1 - N.length)).set k s) S (add (padL N L (k + 1 - N.length)) k) F' v l :=
  (writeS w g n N S L F wz k s h.1 hN hk hn).mono fun _ _ ⟨he, F', h1, t⟩ => ⟨he, F', h1, h.2.1.apart h.2.2 t.1, h.2.2.turn t⟩
theorem sync_loo (h : LooI w wz g n N S L F v l) (hN : N.length ≤ 400) : Calls Try.prog 13 #[.pointer (some ⟨g, 0, none⟩)] wz fun e w' => e = .returned (.tuple #[]) ∧ ∃ F', LooI w w' g 0 N N (fun _ => false) F' (.slice none 0 0) [] :=
  (syncS w g n N S L F wz h.1 hN).mono fun _ _ ⟨he, F', h1, t⟩ => ⟨he, F', h1, Own.nil _ _, fun x hx => absurd hx (by simp [blk, Value.ownBlock])⟩
theorem loose_loo (h : LooI w wz g n N S L F v l) (hN : N.length ≤ 400) : Calls Try.prog 19 #[.pointer (some ⟨g, 0, none⟩)] wz fun e w' => ∃ A c, e = .returned (.slice A (looseL L N.length).length c) ∧ LooI w w' g n N S L F v l ∧ Rd w' A (looseL L N.length).length (ints (looseL L N.length)) :=
  (looseS w g n N S L F wz h.1 hN).mono fun _ _ ⟨A, c, he, _, _, k, hr, _⟩ => ⟨A, c, he, h.kept0 k, hr⟩
theorem same_loo (A : Option Addr) (c : Nat) (a : List Int) (h : LooI w wz g n N S L F v l) (ha : a.length ≤ 60000) (hr : Rd wz A a.length (ints a)) (e : a = l) : Calls Try.prog 18 #[.slice A a.length c, v] wz fun e w' => e = .returned (.bool true) ∧ LooI w w' g n N S L F v l := by
  obtain ⟨B, d, rfl, hm, hrb, _⟩ := h.2.1.shape
  unfold maxLen at hm
  refine (same_any A B a.length l.length c d a l wz rfl rfl (by omega) (by omega) hr hrb).mono ?_
  rintro _ _ ⟨he, q, rfl⟩
  rw [decide_eq_true e] at he
  exact ⟨he, h.kept0 ((Kept.refl _ _).drewN q)⟩
end
end Go.Proofs.Ytabcchadjgnldaa
