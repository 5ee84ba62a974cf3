/- Plain laws on bytes: what was put as a number, a text is taken as that number, that text; where bytes lack nothing is.
   Conditions: numbers of uint64, texts of at most 65535 bytes. No program is walked here. -/
import Derived.Test.YthifbmopfcfokaaDoorPackText
import Derived.Test.YthifbmopfcfokaaDoorPackCutText
import Derived.Lib.Strings
namespace Go.Proofs.YthifbmopfcfokaaDoor
open Go.RowKit

theorem bytes_ext {a b : ByteArray} (h : a.data.toList = b.data.toList) : a = b := ByteArray.ext (Array.toList_inj.1 h)
theorem mk_data (l : List UInt8) : (⟨l.toArray⟩ : ByteArray).data.toList = l := rfl
theorem size_list (s : ByteArray) : s.size = s.data.toList.length := by simp

theorem numS_list (n : Int) : (numS n).data.toList = (numL n).map fun x => UInt8.ofNat x.toNat := rfl
def digs : Nat → Nat → List UInt8
  | 0, _ => []
  | k + 1, m => UInt8.ofNat (m % 256) :: digs k (m / 256)
theorem digs_leV : ∀ (k m : Nat), m < 256 ^ k → leV (digs k m) = m
  | 0, m, h => by simp at h; subst h; rfl
  | k + 1, m, h => by
    have ih := digs_leV k (m / 256) (by rw [Nat.pow_succ] at h; exact Nat.div_lt_of_lt_mul (by omega))
    show leV (digs k (m / 256)) * 256 + (UInt8.ofNat (m % 256)).toNat = m
    rw [ih, UInt8.toNat_ofNat']
    omega
theorem dig_eq (x : Int) (y : Nat) (h : x = (y : Int)) : UInt8.ofNat (x % 256).toNat = UInt8.ofNat (y % 256) := by
  subst h
  congr 1
theorem numS_digs (m : Nat) : (numS (m : Int)).data.toList = digs 8 m := by
  rw [numS_list]
  show [UInt8.ofNat ((m : Int) % 256).toNat, UInt8.ofNat ((m : Int) / 256 % 256).toNat, UInt8.ofNat ((m : Int) / 65536 % 256).toNat, UInt8.ofNat ((m : Int) / 16777216 % 256).toNat, UInt8.ofNat ((m : Int) / 4294967296 % 256).toNat, UInt8.ofNat ((m : Int) / 1099511627776 % 256).toNat, UInt8.ofNat ((m : Int) / 281474976710656 % 256).toNat, UInt8.ofNat ((m : Int) / 72057594037927936 % 256).toNat] = [UInt8.ofNat (m % 256), UInt8.ofNat (m / 256 % 256), UInt8.ofNat (m / 256 / 256 % 256), UInt8.ofNat (m / 256 / 256 / 256 % 256), UInt8.ofNat (m / 256 / 256 / 256 / 256 % 256), UInt8.ofNat (m / 256 / 256 / 256 / 256 / 256 % 256), UInt8.ofNat (m / 256 / 256 / 256 / 256 / 256 / 256 % 256), UInt8.ofNat (m / 256 / 256 / 256 / 256 / 256 / 256 / 256 % 256)]
  rw [dig_eq m m rfl, dig_eq ((m : Int) / 256) (m / 256) (by omega), dig_eq ((m : Int) / 65536) (m / 256 / 256) (by omega), dig_eq ((m : Int) / 16777216) (m / 256 / 256 / 256) (by omega), dig_eq ((m : Int) / 4294967296) (m / 256 / 256 / 256 / 256) (by omega),
    dig_eq ((m : Int) / 1099511627776) (m / 256 / 256 / 256 / 256 / 256) (by omega), dig_eq ((m : Int) / 281474976710656) (m / 256 / 256 / 256 / 256 / 256 / 256) (by omega), dig_eq ((m : Int) / 72057594037927936) (m / 256 / 256 / 256 / 256 / 256 / 256 / 256) (by omega)]
theorem numF_numS {n : Int} (h0 : 0 ≤ n) (h1 : n < 18446744073709551616) : numF (numS n).data.toList = n := by
  obtain ⟨m, rfl⟩ := Int.eq_ofNat_of_zero_le h0
  rw [numF_leV _ (by simp [numS_list, numL]), numS_digs, digs_leV 8 m (by omega)]

/-- A number at the front. -/
theorem cut_num {n : Int} (h0 : 0 ≤ n) (h1 : n < 18446744073709551616) {s : ByteArray} {r : List UInt8} (h : s.data.toList = (numS n).data.toList ++ r) :
    cutN s false = n ∧ takeS s false 8 = ⟨r.toArray⟩ ∧ takeB s false 8 = false := by
  have hl : (numS n).data.toList.length = 8 := by simp [numS_list, numL]
  have hs : 8 ≤ s.size := by rw [size_list, h, List.length_append, hl]; omega
  obtain ⟨e1, e2, e3⟩ := take_good hs
  refine ⟨?_, ?_, e1⟩
  · rw [cutN, e2, Lib.extract_data, h]
    have : (((numS n).data.toList ++ r).drop 0).take (8 - 0) = (numS n).data.toList := by
      rw [List.drop_zero, Nat.sub_zero, ← hl, List.take_left]
    rw [this]
    exact numF_numS h0 h1
  · rw [e3]
    refine bytes_ext ?_
    rw [Lib.extract_data, h, mk_data, ← hl, List.drop_left]
    refine List.take_of_length_le ?_
    rw [size_list, h, List.length_append]
    omega

theorem textS_list {t : ByteArray} (h : t.size ≤ 65535) : (textS t).data.toList = [UInt8.ofNat (t.size % 256), UInt8.ofNat (t.size / 256)] ++ t.data.toList := by
  rw [textS, if_pos h]
  simp [strOfNums]
  constructor <;> congr 1 <;> omega

/-- A text at the front, or the beginning of one. -/
theorem textN_of {t : ByteArray} (ht : t.size ≤ 65535) {s : ByteArray} {a b : UInt8} {r : List UInt8} (h : s.data.toList = a :: b :: r) (h2 : 2 ≤ s.size) (ha : a = UInt8.ofNat (t.size % 256)) (hb : b = UInt8.ofNat (t.size / 256)) : textN s h2 = t.size := by
  have e0 : s[0] = a := by
    have : s[0] = s.data.toList[0]'(by rw [h]; simp) := rfl
    rw [this]
    simp [h]
  have e1 : s[1] = b := by
    have : s[1] = s.data.toList[1]'(by rw [h]; simp) := rfl
    rw [this]
    simp [h]
  rw [textN, e0, e1, ha, hb]
  simp
  omega

theorem cut_text {t : ByteArray} (ht : t.size ≤ 65535) {s : ByteArray} {r : List UInt8} (h : s.data.toList = (textS t).data.toList ++ r) :
    ctV s false = t ∧ ctS s false = ⟨r.toArray⟩ ∧ ctB s false = false := by
  rw [textS_list ht] at h
  have hs : s.size = 2 + t.size + r.length := by rw [size_list, h]; simp; omega
  have hN := textN_of ht (s := s) (r := t.data.toList ++ r) (by simpa using h) (by omega) rfl rfl
  obtain ⟨e1, e2, e3⟩ := ct_good (s := s) (by omega) (by rw [hN]; omega)
  have hx : (s.extract 2 s.size).data.toList = t.data.toList ++ r := by
    rw [Lib.extract_data, h]
    simp
    rw [List.take_of_length_le]
    simp
    omega
  refine ⟨?_, ?_, e1⟩
  · rw [e2, hN]
    refine bytes_ext ?_
    rw [Lib.extract_data, hx]
    simp
  · rw [e3, hN]
    refine bytes_ext ?_
    rw [Lib.extract_data, hx, mk_data]
    have : t.size = t.data.toList.length := size_list t
    rw [this, List.drop_left, List.take_of_length_le]
    rw [← this]
    omega

/-- A text of which bytes lack. -/
theorem cut_text_lack {t : ByteArray} (ht : t.size ≤ 65535) {s : ByteArray} {r : List UInt8} (h : (textS t).data.toList = s.data.toList ++ r) (hr : r ≠ []) :
    ctV s false = ⟨#[]⟩ ∧ ctS s false = s ∧ ctB s false = true := by
  have hlen : s.size < 2 + t.size := by
    have := congrArg List.length h
    rw [textS_list ht] at this
    simp at this
    have : 0 < r.length := List.length_pos_iff.2 hr
    have e : s.size = s.data.size := rfl
    have e' : t.size = t.data.size := rfl
    omega
  by_cases h2 : s.size < 2
  · obtain ⟨e1, e2, e3⟩ := ct_short false h2
    exact ⟨e2, e3, e1⟩
  · have h2' : 2 ≤ s.size := by omega
    rw [textS_list ht] at h
    obtain ⟨a, b, r', hs⟩ : ∃ a b r', s.data.toList = a :: b :: r' := by
      have hl : 2 ≤ s.data.toList.length := by rw [← size_list]; exact h2'
      match hl' : s.data.toList, hl with
      | a :: b :: r', _ => exact ⟨a, b, r', rfl⟩
    have hab : a = UInt8.ofNat (t.size % 256) ∧ b = UInt8.ofNat (t.size / 256) := by
      rw [hs] at h
      simp only [List.cons_append, List.nil_append, List.cons.injEq] at h
      exact ⟨h.1.symm, h.2.1.symm⟩
    have hN := textN_of ht hs h2' hab.1 hab.2
    obtain ⟨e1, e2, e3⟩ := ct_lack (s := s) false h2' (by rw [hN]; exact hlen)
    exact ⟨e2, e3, e1⟩
end Go.Proofs.YthifbmopfcfokaaDoor
