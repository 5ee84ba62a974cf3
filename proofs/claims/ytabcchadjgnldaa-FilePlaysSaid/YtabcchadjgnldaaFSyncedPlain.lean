/- Plain laws on files: what writes leave of what was synced; what a loss of all leaves. Conditions: none beyond each lemma's own hypotheses. No program is walked here. -/
import Derived.Test.YtabcchadjgnldaaFKept
namespace Go.Proofs.Ytabcchadjgnldaa
open Go.RowKit

theorem list_ext {l l' : List ByteArray} (hn : l.length = l'.length) (h : ∀ i, i < l.length → l.getD i ByteArray.empty = l'.getD i ByteArray.empty) : l = l' := by
  refine List.ext_getElem hn fun i h1 h2 => ?_
  have := h i h1
  simpa [List.getD, h1, h2] using this
theorem getD_set {l : List ByteArray} {p i : Nat} {x : ByteArray} (hi : i < l.length) : (l.set p x).getD i ByteArray.empty = if p = i then x else l.getD i ByteArray.empty := by
  simp only [List.getD, List.getElem?_set]
  by_cases e : p = i
  · subst e
    simp [hi]
  · simp [e]
theorem padN_get {N : List ByteArray} {d i : Nat} (hi : i < N.length) : (padN N d).getD i ByteArray.empty = N.getD i ByteArray.empty := by
  simp [padN, List.getD, List.getElem?_append_left hi]
theorem padL_false {N : List ByteArray} {L : Int → Bool} : ∀ (d : Nat) {i : Nat}, padL N L d i = false → L i = false ∧ ¬ (N.length ≤ i ∧ i < N.length + d)
  | 0, i, h => ⟨h, by omega⟩
  | d + 1, i, h => by
    unfold padL add at h
    split at h
    · cases h
    · rename_i hne
      obtain ⟨h1, h2⟩ := padL_false d h
      exact ⟨h1, by omega⟩
theorem add_false {L : Int → Bool} {k i : Int} (h : add L k i = false) : i ≠ k ∧ L i = false := by
  unfold add at h
  split at h
  · cases h
  · rename_i hne
    exact ⟨hne, h⟩

/-- What is not loose is as it was synced. -/
def Firm (N0 N : List ByteArray) (L : Int → Bool) : Prop := N0.length ≤ N.length ∧ ∀ i : Nat, i < N.length → L i = false → i < N0.length ∧ N.getD i ByteArray.empty = N0.getD i ByteArray.empty
theorem Firm.start (N : List ByteArray) (L : Int → Bool) : Firm N N L := ⟨Nat.le_refl _, fun _ hi _ => ⟨hi, rfl⟩⟩
theorem write_len (N : List ByteArray) (k : Nat) (s : ByteArray) : ((padN N (k + 1 - N.length)).set k s).length = max N.length (k + 1) := by
  rw [List.length_set, padN_len]
  omega
theorem Firm.write {N0 N : List ByteArray} {L : Int → Bool} (h : Firm N0 N L) (k : Nat) (s : ByteArray) : Firm N0 ((padN N (k + 1 - N.length)).set k s) (add (padL N L (k + 1 - N.length)) k) := by
  refine ⟨by rw [write_len]; have := h.1; omega, fun i hi hL => ?_⟩
  rw [write_len] at hi
  obtain ⟨h1, h2⟩ := add_false hL
  obtain ⟨h3, h4⟩ := padL_false _ h2
  have hik : i ≠ k := fun e => h1 (by rw [e])
  have hin : i < N.length := by omega
  obtain ⟨h5, h6⟩ := h.2 i hin h3
  refine ⟨h5, ?_⟩
  rw [getD_set (by rw [padN_len]; omega), if_neg (Ne.symm hik), padN_get hin, h6]
theorem pow_none (N S : List ByteArray) (f : Nat → Bool) (l : List Int) (hl : ∀ x ∈ l, ∃ p : Nat, x = p) : ∀ t, t ≤ l.length → ∀ i : Nat, i < N.length → (powN N S f 0 l t).getD i ByteArray.empty = if (i : Int) ∈ l.take t then at' S i else N.getD i ByteArray.empty
  | 0, _, i, _ => by simp [powN]
  | t + 1, ht, i, hi => by
    have ih := pow_none N S f l hl t (by omega) i hi
    obtain ⟨p, hp⟩ := hl (l.getD t 0) (by simp [List.getD, show t < l.length by omega])
    have htk : l.take (t + 1) = l.take t ++ [l.getD t 0] := by
      rw [List.take_succ_eq_append_getElem (by omega)]
      simp [List.getD, show t < l.length by omega]
    unfold powN
    rw [if_neg (by omega), htk, hp, Int.toNat_natCast, getD_set (by rw [powN_len]; exact hi), ih]
    by_cases e : p = i
    · subst e
      simp
    · have hne : ¬ (i : Int) = (p : Int) := fun h => e (by omega)
      simp [e, hne]
theorem trim_pad (N : List ByteArray) (hN : ∀ x ∈ N, x ≠ ByteArray.empty) : ∀ d, trim (N ++ List.replicate d ByteArray.empty) = N
  | 0 => by
    rw [List.replicate_zero, List.append_nil]
    exact trim_all hN
  | d + 1 => by
    rw [List.replicate_succ', ← List.append_assoc, trim_empty _ _ rfl]
    exact trim_pad N hN d
theorem Firm.lost {N0 N : List ByteArray} {L : Int → Bool} (h : Firm N0 N L) (hN : ∀ x ∈ N0, x ≠ ByteArray.empty) (f : Nat → Bool) : trim (powN N N0 f 0 (looseL L N.length) (looseL L N.length).length) = N0 := by
  have e : powN N N0 f 0 (looseL L N.length) (looseL L N.length).length = N0 ++ List.replicate (N.length - N0.length) ByteArray.empty := by
    have hle := h.1
    refine list_ext (by rw [powN_len]; simp; omega) fun i hi => ?_
    rw [powN_len] at hi
    rw [pow_none N N0 f _ (fun x hx => by obtain ⟨p, _, _, h3⟩ := loose_mem.1 hx; exact ⟨p, h3⟩) _ (Nat.le_refl _) i hi, List.take_length]
    have hr : (N0 ++ List.replicate (N.length - N0.length) ByteArray.empty).getD i ByteArray.empty = N0.getD i ByteArray.empty := by
      by_cases hi0 : i < N0.length
      · simp [List.getD, List.getElem?_append_left hi0]
      · simp [List.getD, List.getElem?_append_right (by omega : N0.length ≤ i), List.getElem?_replicate]
        split <;> simp [show N0[i]? = none from List.getElem?_eq_none (by omega)]
    rw [hr]
    split
    · exact at_in
    · rename_i hn
      have hL : L i = false := by
        cases hLi : L i
        · rfl
        · exact absurd (loose_mem.2 ⟨i, hi, hLi, rfl⟩) hn
      exact (h.2 i hi hL).2
  rw [e]
  exact trim_pad N0 hN _

theorem quiet_sameF {P : Program} {f : FuncId} {args : Array Value} {w : World} {n : Nat} {v : Value}
    (h : Calls P f args (w.drewN n) fun e w' => e = .returned v ∧ w.drewN n = w') : Calls P f args (w.drewN n) fun e w'' => e = .returned v ∧ ∃ m, w'' = w.drewN m :=
  h.mono fun _ _ ⟨he, hm⟩ => ⟨he, n, hm.symm⟩
/-- Texts that came in, by place. -/
def txtF (t : Nat → ByteArray) (k : Nat) : Value := .string (t k)
end Go.Proofs.Ytabcchadjgnldaa
