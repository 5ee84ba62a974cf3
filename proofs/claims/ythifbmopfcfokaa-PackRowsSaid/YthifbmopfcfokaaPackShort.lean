/- PackShort answers true of every number, text, length.
   Conditions: the number is one of uint64, the length one of uint16, the text takes no more bytes than a process can hold. -/
import Derived.Test.YthifbmopfcfokaaPackPlain
import Derived.Test.YthifbmopfcfokaaPackKnown
namespace Go.Proofs.Ythifbmopfcfokaa
open Go.RowKit

/-- A number, a text behind it. -/
def numText (n : Int) (s : ByteArray) : ByteArray := numS n ++ textS s
theorem numText_list (n : Int) (s : ByteArray) : (numText n s).data.toList = (numS n).data.toList ++ (textS s).data.toList := by simp [numText]
theorem textS_size {s : ByteArray} (h : s.size ≤ 65535) : (textS s).size = 2 + s.size := by
  rw [size_list, textS_list h]
  simp
  omega
theorem numText_size (n : Int) {s : ByteArray} (h : s.size ≤ 65535) : (numText n s).size = 10 + s.size := by
  rw [numText, ByteArray.size_append, numS_size, textS_size h]
  omega

theorem short_less {n : Int} {s : ByteArray} (hs : s.size ≤ 65535) {k : Nat} (hk : k < 8) :
    cutN ((numText n s).extract 0 k) false = 0 ∧ takeS ((numText n s).extract 0 k) false 8 = (numText n s).extract 0 k ∧ takeB ((numText n s).extract 0 k) false 8 = true ∧ ((numText n s).extract 0 k).size = k := by
  have hz : ((numText n s).extract 0 k).size = k := by
    have := numText_size n hs
    simp
    omega
  obtain ⟨e1, e2, e3⟩ := take_less (bad := false) (s := (numText n s).extract 0 k) (n := 8) (by omega)
  exact ⟨by rw [cutN, e2]; rfl, e3, e1, hz⟩
theorem short_more {n : Int} (h0 : 0 ≤ n) (h1 : n < 18446744073709551616) {s : ByteArray} (hs : s.size ≤ 65535) {k : Nat} (hk : 8 ≤ k) (hk' : k < 10 + s.size) :
    ∃ X : ByteArray, X.size = k - 8 ∧ cutN ((numText n s).extract 0 k) false = n ∧ takeS ((numText n s).extract 0 k) false 8 = X ∧ takeB ((numText n s).extract 0 k) false 8 = false ∧ ctV X false = ⟨#[]⟩ ∧ ctS X false = X ∧ ctB X false = true := by
  have hl : (numS n).data.toList.length = 8 := by simp [numS_list, numL]
  have hlist : ((numText n s).extract 0 k).data.toList = (numS n).data.toList ++ (textS s).data.toList.take (k - 8) := by
    rw [Lib.extract_data, numText_list, List.drop_zero, Nat.sub_zero, List.take_append, List.take_of_length_le (by omega), hl]
  obtain ⟨c1, c2, c3⟩ := cut_num h0 h1 hlist
  have hT : (textS s).data.toList.length = 2 + s.size := by rw [← size_list, textS_size hs]
  obtain ⟨d1, d2, d3⟩ := cut_text_lack hs (s := ⟨((textS s).data.toList.take (k - 8)).toArray⟩) (r := (textS s).data.toList.drop (k - 8)) (by rw [mk_data, List.take_append_drop]) (by
    intro h
    have := congrArg List.length h
    rw [List.length_drop, hT, List.length_nil] at this
    omega)
  refine ⟨_, ?_, c1, c2, c3, d1, d2, d3⟩
  rw [size_list, mk_data, List.length_take, hT]
  omega

theorem ret_bool {b : Bool} (h : b = true) : Ending.returned (.bool b) = .returned (.bool true) := by rw [h]

set_option maxRecDepth 100000 in
theorem short_long (n : Int) (s : ByteArray) (at_ : Int) (hs : 200 < s.size) (hr : s.size ≤ 9223372036854775807) (w : World) :
    Calls Try.prog 5 #[.int .u64 n, .string s, .int .u16 at_] w fun e w' => e = .returned (.bool true) ∧ Kept [] w w' := by
  go_enter Try.func5, Try.ntmps5
  go_wp2_with fail
  refine (known1_any _).mono ?_
  rintro e w1 ⟨rfl, k1⟩
  go_wp2_with fail
  go_ret
  exact ⟨rfl, k1⟩
set_option maxRecDepth 100000 in
theorem short_k (n : Int) (h0 : 0 ≤ n) (h1 : n < 18446744073709551616) (s : ByteArray) (at_ : Int) (a0 : 0 ≤ at_) (a1 : at_ < 65536) (hs : s.size ≤ 200) (k : Nat) (hk : at_ % (8 + (2 + (s.size : Int))) = (k : Int)) (hk' : k < 10 + s.size) (w : World) :
    Calls Try.prog 5 #[.int .u64 n, .string s, .int .u16 at_] w fun e w' => e = .returned (.bool true) ∧ Kept [] w w' := by
  have z1 := numS_size n
  have z2 := textS_size (s := s) (by omega)
  go_enter Try.func5, Try.ntmps5
  go_wp2_with fail
  refine (known1_any _).mono ?_
  rintro e w1 ⟨rfl, k1⟩
  go_wp2_with fail
  refine (num_any n h0 h1 _).mono ?_
  rintro e w2 ⟨rfl, k2⟩
  go_wp2_with fail
  refine (text_any s (by omega) _).mono ?_
  rintro e w3 ⟨rfl, k3⟩
  go_wp2_with fail
  refine (new_ex _ _).mono ?_
  rintro e w4 ⟨g, rfl, c4, k4, hg⟩
  have e4 : Kept [] w w4 := ((k1.trans0 k2).trans0 k3).trans0 k4
  have hw : w.heap.size ≤ g := Nat.le_trans ((k1.trans0 k2).trans0 k3).size hg
  change CutAt w4 g ((numText n s).extract 0 k) false at c4
  have hxs := numText_size n (s := s) (by omega)
  by_cases h8 : k < 8
  · obtain ⟨b1, b2, b3, b4⟩ := short_less (n := n) (s := s) (by omega) h8
    go_wp2_with fail
    refine (cutnum_any g _ false _ (by rw [b4]; omega) c4).mono ?_
    rintro e w5 ⟨rfl, c5, k5⟩
    rw [b2, b3] at c5
    rw [b1]
    have B4 := hide b4
    clear b1 b2 b3 b4
    go_wp2_with fail
    refine (err_any g _ _ true c5).mono ?_
    rintro e w' ⟨rfl, rfl⟩
    rw [errV_t]
    go_wp2_with fail
    refine (is_same 11 _).mono ?_
    rintro e w' ⟨rfl, rfl⟩
    go_wp2_with fail
    refine (left_any g _ _ true c5).mono ?_
    rintro e w' ⟨rfl, rfl⟩
    rw [B4.out]
    go_wp2_with fail
    refine (cutnum_any g _ true _ (by rw [B4.out]; omega) c5).mono ?_
    rintro e w6 ⟨rfl, c6, k6⟩
    obtain ⟨d1, d2, d3⟩ := take_bad ((numText n s).extract 0 k) 8
    rw [d1, d3] at c6
    rw [show cutN ((numText n s).extract 0 k) true = 0 from by rw [cutN, d2]; rfl]
    clear d1 d2 d3
    go_wp2_with fail
    refine (cuttext_any g _ _ true (by rw [B4.out]; omega) c6).mono ?_
    rintro e w7 ⟨rfl, c7, k7⟩
    rw [(ct_bad ((numText n s).extract 0 k)).2.1]
    go_wp2_with fail
    go_ret
    exact ⟨rfl, e4.trans ((k5.trans k6 (by simp)).trans k7 (by simp)) (by simpa using hw)⟩
  · obtain ⟨X, b0, b1, b2, b3, b4, b5, b6⟩ := short_more h0 h1 (s := s) (by omega) (k := k) (by omega) hk'
    go_wp2_with fail
    refine (cutnum_any g _ false _ (by simp; omega) c4).mono ?_
    rintro e w5 ⟨rfl, c5, k5⟩
    rw [b2, b3] at c5
    rw [b1]
    clear b1 b2 b3
    have B0 := hide b0
    have B4 := hide b4
    have B5 := hide b5
    have B6 := hide b6
    clear b0 b4 b5 b6
    go_wp2_with fail
    refine (cuttext_any g _ _ false (by rw [B0.out]; omega) c5).mono ?_
    rintro e w6 ⟨rfl, c6, k6⟩
    rw [B5.out, B6.out] at c6
    rw [B4.out]
    go_wp2_with fail
    refine (err_any g _ _ true c6).mono ?_
    rintro e w' ⟨rfl, rfl⟩
    rw [errV_t]
    go_wp2_with fail
    refine (is_same 11 _).mono ?_
    rintro e w' ⟨rfl, rfl⟩
    go_wp2_with fail
    refine (left_any g _ _ true c6).mono ?_
    rintro e w' ⟨rfl, rfl⟩
    rw [B0.out]
    go_wp2_with fail
    go_ret
    exact ⟨ret_bool (by simp; omega), e4.trans (k5.trans k6 (by simp)) (by simpa using hw)⟩

theorem short_any (n : Int) (h0 : 0 ≤ n) (h1 : n < 18446744073709551616) (s : ByteArray) (hr : s.size ≤ 9223372036854775807) (at_ : Int) (a0 : 0 ≤ at_) (a1 : at_ < 65536) (w : World) :
    Calls Try.prog 5 #[.int .u64 n, .string s, .int .u16 at_] w fun e w' => e = .returned (.bool true) ∧ Kept [] w w' := by
  by_cases hs : s.size ≤ 200
  · obtain ⟨k, hk⟩ := Int.eq_ofNat_of_zero_le (Int.emod_nonneg at_ (show 8 + (2 + (s.size : Int)) ≠ 0 by omega))
    have hlt := Int.emod_lt_of_pos at_ (show 0 < 8 + (2 + (s.size : Int)) by omega)
    exact short_k n h0 h1 s at_ a0 a1 hs k hk (by omega) w
  · exact short_long n s at_ (by omega) hr w
end Go.Proofs.Ythifbmopfcfokaa
