/- Plain laws on a number's eight bytes: each by a shift, all together by shifts and 'or'.
   Conditions: numbers of uint64. No program is walked here. -/
import Derived.Test.YthifbmopfcfokaaPackPlain
namespace Go.Proofs.Ythifbmopfcfokaa
open Go.RowKit

theorem digs_length : ∀ k m : Nat, (digs k m).length = k
  | 0, _ => rfl
  | k + 1, m => by rw [digs, List.length_cons, digs_length]
theorem digs_get : ∀ (k m j : Nat) (h : j < (digs k m).length), (digs k m)[j].toNat = m / 256 ^ j % 256
  | 0, m, j, h => by simp [digs] at h
  | k + 1, m, 0, h => by
    simp only [digs, List.getElem_cons_zero, UInt8.toNat_ofNat', Nat.pow_zero, Nat.div_one]
    omega
  | k + 1, m, j + 1, h => by
    have h' : j < (digs k (m / 256)).length := by simpa [digs] using h
    have ih := digs_get k (m / 256) j h'
    simp only [digs, List.getElem_cons_succ]
    rw [ih, Nat.div_div_eq_div_mul, Nat.pow_succ, Nat.mul_comm]
theorem numS_get (m j : Nat) (h : j < (numS (m : Int)).size) : (numS (m : Int))[j].toNat = m / 256 ^ j % 256 := by
  have hl : j < (digs 8 m).length := by rw [digs_length]; rw [numS_size] at h; exact h
  have e : (numS (m : Int))[j] = (digs 8 m)[j] := by
    have e1 : (numS (m : Int))[j] = (numS (m : Int)).data.toList[j]'(by simpa using h) := rfl
    rw [e1]
    simp only [numS_digs]
  exact (congrArg UInt8.toNat e).trans (digs_get 8 m j hl)

theorem or_up (i X b : Nat) (hX : X < 2 ^ i) (hb : b < 256) (hi : i ≤ 56) (p : Int) (hp : p = ((2 ^ i : Nat) : Int)) :
    bits .or .u64 (X : Int) (IntKind.u64.wrap (IntKind.u64.wrap (b : Int) * p)) = ((X + b * 2 ^ i : Nat) : Int) := by
  subst hp
  have hi2 : 2 ^ i ≤ 2 ^ 56 := Nat.pow_le_pow_right (by omega) hi
  have h56 : 2 ^ 56 = 72057594037927936 := by decide
  rw [h56] at hi2
  have e1 : IntKind.u64.wrap (b : Int) = (b : Int) := by rw [IntKind.wrap_u64]; omega
  have hbp : b * 2 ^ i ≤ 255 * 72057594037927936 := Nat.mul_le_mul (by omega) hi2
  have e2 : IntKind.u64.wrap ((b : Int) * ((2 ^ i : Nat) : Int)) = ((b * 2 ^ i : Nat) : Int) := by
    rw [← Int.natCast_mul, IntKind.wrap_u64]
    generalize b * 2 ^ i = y at hbp
    omega
  rw [e1, e2, u64_or_nat _ _ (by omega) (by omega), Nat.or_comm, nat_join i _ _ (by rw [Nat.mul_mod_left]) hX, Nat.add_comm]

theorem or8_nat (m : Nat) (hm : m < 18446744073709551616) (d0 d1 d2 d3 d4 d5 d6 d7 : Nat) (h0 : d0 = m % 256) (h1 : d1 = m / 256 % 256) (h2 : d2 = m / 65536 % 256) (h3 : d3 = m / 16777216 % 256) (h4 : d4 = m / 4294967296 % 256)
    (h5 : d5 = m / 1099511627776 % 256) (h6 : d6 = m / 281474976710656 % 256) (h7 : d7 = m / 72057594037927936 % 256) :
    bits .or .u64 (bits .or .u64 (bits .or .u64 (bits .or .u64 (bits .or .u64 (bits .or .u64 (bits .or .u64 (IntKind.u64.wrap (d0 : Int)) (IntKind.u64.wrap (IntKind.u64.wrap (d1 : Int) * 256))) (IntKind.u64.wrap (IntKind.u64.wrap (d2 : Int) * 65536)))
      (IntKind.u64.wrap (IntKind.u64.wrap (d3 : Int) * 16777216))) (IntKind.u64.wrap (IntKind.u64.wrap (d4 : Int) * 4294967296))) (IntKind.u64.wrap (IntKind.u64.wrap (d5 : Int) * 1099511627776))) (IntKind.u64.wrap (IntKind.u64.wrap (d6 : Int) * 281474976710656)))
      (IntKind.u64.wrap (IntKind.u64.wrap (d7 : Int) * 72057594037927936)) = (m : Int) := by
  have e0 : IntKind.u64.wrap (d0 : Int) = ((m % 256 : Nat) : Int) := by rw [IntKind.wrap_u64]; omega
  rw [e0, or_up 8 _ d1 (by omega) (by omega) (by omega) _ (by decide), show m % 256 + d1 * 2 ^ 8 = m % 65536 from by omega]
  rw [or_up 16 _ d2 (by omega) (by omega) (by omega) _ (by decide), show m % 65536 + d2 * 2 ^ 16 = m % 16777216 from by omega]
  rw [or_up 24 _ d3 (by omega) (by omega) (by omega) _ (by decide), show m % 16777216 + d3 * 2 ^ 24 = m % 4294967296 from by omega]
  rw [or_up 32 _ d4 (by omega) (by omega) (by omega) _ (by decide), show m % 4294967296 + d4 * 2 ^ 32 = m % 1099511627776 from by omega]
  rw [or_up 40 _ d5 (by omega) (by omega) (by omega) _ (by decide), show m % 1099511627776 + d5 * 2 ^ 40 = m % 281474976710656 from by omega]
  rw [or_up 48 _ d6 (by omega) (by omega) (by omega) _ (by decide), show m % 281474976710656 + d6 * 2 ^ 48 = m % 72057594037927936 from by omega]
  rw [or_up 56 _ d7 (by omega) (by omega) (by omega) _ (by decide), show m % 72057594037927936 + d7 * 2 ^ 56 = m from by omega]

/-- The number out of its bytes, as the walk writes it. -/
def orOf (n : Int) (b0 b1 b2 b3 b4 b5 b6 b7 : UInt8) : Prop :=
    bits .or .u64 (bits .or .u64 (bits .or .u64 (bits .or .u64 (bits .or .u64 (bits .or .u64 (bits .or .u64 (IntKind.u64.wrap (b0.toNat : Int)) (IntKind.u64.wrap (IntKind.u64.wrap (b1.toNat : Int) * 256))) (IntKind.u64.wrap (IntKind.u64.wrap (b2.toNat : Int) * 65536)))
      (IntKind.u64.wrap (IntKind.u64.wrap (b3.toNat : Int) * 16777216))) (IntKind.u64.wrap (IntKind.u64.wrap (b4.toNat : Int) * 4294967296))) (IntKind.u64.wrap (IntKind.u64.wrap (b5.toNat : Int) * 1099511627776))) (IntKind.u64.wrap (IntKind.u64.wrap (b6.toNat : Int) * 281474976710656)))
      (IntKind.u64.wrap (IntKind.u64.wrap (b7.toNat : Int) * 72057594037927936)) = n
theorem or8 (n : Int) (n0 : 0 ≤ n) (n1 : n < 18446744073709551616) (h0 : 0 < (numS n).size) (h1 : 1 < (numS n).size) (h2 : 2 < (numS n).size) (h3 : 3 < (numS n).size) (h4 : 4 < (numS n).size) (h5 : 5 < (numS n).size) (h6 : 6 < (numS n).size) (h7 : 7 < (numS n).size) :
    orOf n (numS n)[0] (numS n)[1] (numS n)[2] (numS n)[3] (numS n)[4] (numS n)[5] (numS n)[6] (numS n)[7] := by
  obtain ⟨m, rfl⟩ := Int.eq_ofNat_of_zero_le n0
  unfold orOf
  have g0 := numS_get m 0 h0
  have g1 := numS_get m 1 h1
  have g2 := numS_get m 2 h2
  have g3 := numS_get m 3 h3
  have g4 := numS_get m 4 h4
  have g5 := numS_get m 5 h5
  have g6 := numS_get m 6 h6
  have g7 := numS_get m 7 h7
  exact or8_nat m (by omega) _ _ _ _ _ _ _ _ (by rw [g0]; simp) (by rw [g1]) (by rw [g2]) (by rw [g3]) (by rw [g4]) (by rw [g5]) (by rw [g6]) (by rw [g7])

/-- A byte by a shift. -/
theorem byte_at (n : Int) (n0 : 0 ≤ n) (i : Nat) (hi : (i : Int) < 8) (hi' : i < (numS n).size) :
    ((((numS n)[i]'hi').toNat : Int) == IntKind.u8.wrap (n / 2 ^ min (IntKind.u64.wrap (IntKind.i64.wrap (8 * (i : Int)))).toNat 64)) = true := by
  obtain ⟨m, rfl⟩ := Int.eq_ofNat_of_zero_le n0
  have hw : min (IntKind.u64.wrap (IntKind.i64.wrap (8 * (i : Int)))).toNat 64 = 8 * i := by
    rw [IntKind.wrap_i64, IntKind.wrap_u64]
    omega
  have hp : (2 : Nat) ^ (8 * i) = 256 ^ i := by rw [Nat.pow_mul]
  have hp' : (2 : Int) ^ (8 * i) = ((256 ^ i : Nat) : Int) := by rw [← hp]; norm_cast
  rw [hw, numS_get m i hi', beq_iff_eq, IntKind.wrap_u8', hp', Int.natCast_emod, Int.natCast_ediv]
  rfl
end Go.Proofs.Ythifbmopfcfokaa
