/- Plain laws on rows of bytes put one behind the other, and on the sum of bytes of which one is changed.
   Conditions: none beyond each lemma's own hypotheses. No program is walked here. -/
import Derived.Test.YthifbmopfcfokaaPackShort
namespace Go.Proofs.Ythifbmopfcfokaa
open Go.RowKit

/-- m pieces from i on, one behind the other. -/
def cat (h : Nat → List UInt8) : Nat → Nat → List UInt8
  | 0, _ => []
  | m + 1, i => h i ++ cat h m (i + 1)
theorem cat_snoc (h : Nat → List UInt8) : ∀ m i, cat h (m + 1) i = cat h m i ++ h (i + m)
  | 0, i => by simp [cat]
  | m + 1, i => by
    rw [cat, cat_snoc h m (i + 1), cat, List.append_assoc]
    congr 3
    omega
theorem cat_head (h : Nat → List UInt8) {k n : Nat} (hk : k < n) : cat h (n - k) k = h k ++ cat h (n - (k + 1)) (k + 1) := by
  obtain ⟨m, rfl⟩ : ∃ m, n = k + 1 + m := ⟨n - (k + 1), by omega⟩
  rw [show k + 1 + m - k = m + 1 from by omega, show k + 1 + m - (k + 1) = m from by omega, cat]
theorem cat_end (h : Nat → List UInt8) (n : Nat) : cat h (n - n) n = [] := by rw [Nat.sub_self, cat]

theorem step_range (h : Int) (b : UInt8) : 0 ≤ sumStep h b ∧ sumStep h b < 18446744073709551616 := wrap_u64 _
theorem step_eq (h : Int) (b : UInt8) : sumStep h b = (h * 33 + (b.toNat : Int)) % 18446744073709551616 := by
  unfold sumStep
  rw [IntKind.wrap_u64, IntKind.wrap_u64, IntKind.wrap_u64]
  generalize (b.toNat : Int) = y
  omega
theorem inj33 {M h h' y : Int} (hM : M.natAbs.Coprime 33) (h0 : 0 ≤ h) (h1 : h < M) (g0 : 0 ≤ h') (g1 : h' < M) (he : (h * 33 + y) % M = (h' * 33 + y) % M) : h = h' := by
  have e1 := Int.dvd_of_emod_eq_zero (Int.emod_eq_emod_iff_emod_sub_eq_zero.1 he)
  rw [show h * 33 + y - (h' * 33 + y) = (h - h') * 33 from by omega] at e1
  have e2 : M ∣ h - h' := by
    rw [← Int.natAbs_dvd_natAbs, Int.natAbs_mul] at e1
    exact Int.natAbs_dvd_natAbs.1 (hM.dvd_of_dvd_mul_right e1)
  have e3 := Int.emod_eq_emod_iff_emod_sub_eq_zero.2 (Int.emod_eq_zero_of_dvd e2)
  rwa [Int.emod_eq_of_lt h0 h1, Int.emod_eq_of_lt g0 g1] at e3
theorem step_inj {h h' : Int} (b : UInt8) (h0 : 0 ≤ h) (h1 : h < 18446744073709551616) (g0 : 0 ≤ h') (g1 : h' < 18446744073709551616) (he : sumStep h b = sumStep h' b) : h = h' := by
  rw [step_eq, step_eq] at he
  exact inj33 (by decide) h0 h1 g0 g1 he
theorem inj_byte {h x y : Int} (h0 : 0 ≤ x) (h1 : x < 256) (g0 : 0 ≤ y) (g1 : y < 256) (he : (h + x) % 18446744073709551616 = (h + y) % 18446744073709551616) : x = y := by
  omega
theorem step_byte {h : Int} {b c : UInt8} (he : sumStep h b = sumStep h c) : b = c := by
  have hb := b.toNat_lt
  have hc := c.toNat_lt
  rw [step_eq, step_eq] at he
  apply UInt8.toNat_inj.1
  have h3 : (b.toNat : Int) = (c.toNat : Int) := inj_byte (by omega) (by omega) (by omega) (by omega) he
  omega
theorem fold_inj : ∀ (l : List UInt8) (h h' : Int), 0 ≤ h → h < 18446744073709551616 → 0 ≤ h' → h' < 18446744073709551616 → l.foldl sumStep h = l.foldl sumStep h' → h = h'
  | [], _, _, _, _, _, _, he => he
  | b :: l, h, h', h0, h1, g0, g1, he => by
    have r := step_range h b
    have r' := step_range h' b
    exact step_inj b h0 h1 g0 g1 (fold_inj l _ _ r.1 r.2 r'.1 r'.2 he)
/-- One byte changed: the sum is the same just where the byte is. -/
theorem sum_set (l : List UInt8) (j : Nat) (hj : j < l.length) (b : UInt8) : (sumL (l.set j b) = sumL l) ↔ b = l[j] := by
  constructor
  · intro he
    have e1 : l = l.take j ++ l[j] :: l.drop (j + 1) := by
      rw [← List.drop_eq_getElem_cons hj, List.take_append_drop]
    have e2 : l.set j b = l.take j ++ b :: l.drop (j + 1) := by
      rw [List.set_eq_take_append_cons_drop, if_pos hj]
    have he2 : sumL (l.take j ++ b :: l.drop (j + 1)) = sumL (l.take j ++ l[j] :: l.drop (j + 1)) := by
      rw [← e1, ← e2]
      exact he
    unfold sumL at he2
    rw [List.foldl_append, List.foldl_append, List.foldl_cons, List.foldl_cons] at he2
    have r := step_range (List.foldl sumStep 5381 (l.take j)) b
    have r' := step_range (List.foldl sumStep 5381 (l.take j)) l[j]
    exact step_byte (fold_inj _ _ _ r.1 r.2 r'.1 r'.2 he2)
  · rintro rfl
    rw [List.set_getElem_self]
end Go.Proofs.Ythifbmopfcfokaa
