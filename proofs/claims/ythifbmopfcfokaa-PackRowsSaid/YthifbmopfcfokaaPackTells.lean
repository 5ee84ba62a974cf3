/- PackTells answers true of every number, texts, steps.
   Conditions: the number is one of uint64, the texts and the row take no more than an int counts. -/
import Derived.Test.YthifbmopfcfokaaPackShort
namespace Go.Proofs.Ythifbmopfcfokaa
open Go.RowKit

theorem quiet_same {P : Program} {f : FuncId} {args : Array Value} {w : World} {n : Nat} {v : Value}
    (h : Calls P f args (w.drewN n) fun e w' => e = .returned v ∧ w.drewN n = w') : Calls P f args (w.drewN n) fun e w'' => e = .returned v ∧ ∃ m, w'' = w.drewN m :=
  h.mono fun _ _ ⟨he, hm⟩ => ⟨he, n, hm.symm⟩

def TellsRel (w : World) (g h n : Nat) (i : Value) (wr : World) : Prop :=
  ∃ (k : Nat) (S : ByteArray) (bad : Bool), k ≤ n ∧ i = .int .i64 k ∧ S.size ≤ 500 ∧ CutAt wr g S bad ∧ RefAt wr h S bad ∧ Kept [] w wr

theorem takeS_size (s : ByteArray) (bad : Bool) (n : Nat) : (takeS s bad n).size ≤ s.size := by
  unfold takeS
  split
  · exact Nat.le_refl _
  · simp
theorem ctS_size (s : ByteArray) (bad : Bool) : (ctS s bad).size ≤ s.size := by
  unfold ctS
  split
  · exact Nat.le_refl _
  · split
    · simp
      omega
    · exact Nat.le_refl _
theorem err_f (g : Nat) (s : ByteArray) (w : World) (h : CutAt w g s false) : Calls Try.prog 27 #[.pointer (some ⟨g, 0, none⟩)] w fun e w' => e = .returned .nilIface ∧ w = w' := err_any g s w false h
theorem err_t (g : Nat) (s : ByteArray) (w : World) (h : CutAt w g s true) : Calls Try.prog 27 #[.pointer (some ⟨g, 0, none⟩)] w fun e w' => e = .returned (.iface 46 (.int .i64 11)) ∧ w = w' := err_any g s w true h

set_option maxRecDepth 100000 in
theorem tells_long (n : Int) (s b : ByteArray) (A : Option Addr) (len cap : Nat) (hs : s.size ≤ 9223372036854775807) (hb : b.size ≤ 9223372036854775807) (hlen : len ≤ 9223372036854775807)
    (hl : 70000 < s.size ∨ 500 < b.size ∨ 60 < len) (w : World) :
    Calls Try.prog 3 #[.int .u64 n, .string s, .string b, .slice A len cap] w fun e w' => e = .returned (.bool true) ∧ Kept [] w w' := by
  go_enter Try.func3, Try.ntmps3
  go_wp2_with fail
  refine (known1_any _).mono ?_
  rintro e w1 ⟨rfl, k1⟩
  go_wp2_with fail
  all_goals go_ret
  all_goals exact ⟨rfl, k1⟩

set_option maxRecDepth 100000 in
theorem tells_short (n : Int) (n0 : 0 ≤ n) (n1 : n < 18446744073709551616) (s b : ByteArray) (A : Option Addr) (len cap : Nat) (st : Nat → Bool) (hs : s.size ≤ 70000) (hb : b.size ≤ 500) (hlen : len ≤ 60) (w : World)
    (hc : ∀ k, k < len → ∃ bl off, A = some ⟨bl, off, none⟩ ∧ bl < w.heap.size ∧ w.cell? ⟨bl, off + k, none⟩ = some (.bool (st k))) :
    Calls Try.prog 3 #[.int .u64 n, .string s, .string b, .slice A len cap] w fun e w' => e = .returned (.bool true) ∧ Kept [] w w' := by
  have HC := hide hc
  clear hc
  go_enter Try.func3, Try.ntmps3
  go_wp2_with fail
  refine (known1_any _).mono ?_
  rintro e w1 ⟨rfl, k1⟩
  go_wp2_with fail
  refine (num_any n n0 n1 _).mono ?_
  rintro e w2 ⟨rfl, k2⟩
  go_wp2_with fail
  refine (numr_any n n0 n1 _).mono ?_
  rintro e w3 ⟨rfl, k3⟩
  go_wp2_with fail
  refine (text_any s (by omega) _).mono ?_
  rintro e w4 ⟨rfl, k4⟩
  go_wp2_with fail
  refine (textr_any s (by omega) _).mono ?_
  rintro e w5 ⟨rfl, k5⟩
  go_wp2_with fail
  refine (sum_any b (by omega) _).mono ?_
  rintro e w' ⟨rfl, rfl⟩
  go_wp2_with fail
  refine (sumr_any b (by omega) _).mono ?_
  rintro e w' ⟨rfl, rfl⟩
  go_wp2_with fail
  refine (new_ex b _).mono ?_
  rintro e w6 ⟨g, rfl, c6, k6, hg⟩
  go_wp2_with fail
  have K6 : Kept [] w w6 := ((((k1.trans0 k2).trans0 k3).trans0 k4).trans0 k5).trans0 k6
  have hg' : w.heap.size ≤ g := Nat.le_trans ((((k1.trans0 k2).trans0 k3).trans0 k4).trans0 k5).size hg
  have hh' : w.heap.size ≤ w6.heap.size := K6.size
  have hne : g ≠ w6.heap.size := Nat.ne_of_lt c6.lt
  clear k1 k2 k3 k4 k5 k6 hg
  generalize hh : w6.heap.size = h at hh' hne
  have HH := hide hh
  clear hh
  go_loopw [11] (fun i wr => TellsRel w g h len i wr) (fun i _ => len - (intOf i).toNat)
  case atStart => exact ⟨0, b, false, Nat.zero_le _, rfl, hb, c6.alloc _, HH.out ▸ Blk.new w6 _ _, K6.alloc _⟩
  case round =>
    obtain ⟨k, S, bad, hk, rfl, hS, hc, hr, hK⟩ := hrel
    by_cases hlt : k < len
    · obtain ⟨bl, off, rfl, hbl, hcell⟩ := HC.out k hlt
      have hcell' : wr.cell? ⟨bl, off + k, none⟩ = some (.bool (st k)) := (hK.below0.cell (p := ⟨bl, off + k, none⟩) hbl).trans hcell
      cases hst : st k with
      | true =>
        rw [hst] at hcell'
        go_wp2_with fail
        refine (cutnum_any g S bad _ (by omega) hc).mono ?_
        rintro e w8 ⟨rfl, hc8, hk8⟩
        have hr8 := Blk.kept hr hk8 (by simp; omega)
        go_wp2_with fail
        refine (cutnumr_any h S bad _ (by omega) hr8).mono ?_
        rintro e w9 ⟨rfl, hr9, hk9⟩
        have hc9 := Blk.kept hc8 hk9 (by simp; omega)
        have hK9 : Kept [] w w9 := (hK.trans hk8 (by simp; omega)).trans hk9 (by simp; omega)
        have hS9 := takeS_size S bad 8
        have hcell9 : w9.cell? ⟨bl, off + k, none⟩ = some (.bool true) := (hK9.below0.cell (p := ⟨bl, off + k, none⟩) hbl).trans (hst ▸ hcell)
        clear hc hr hK hc8 hr8 hk8 hk9 hcell' hcell hst
        change CutAt w9 g _ _ at hc9
        change RefAt w9 h _ _ at hr9
        generalize takeS S bad 8 = S' at hc9 hr9 hS9
        generalize takeB S bad 8 = bad' at hc9 hr9
        obtain ⟨r0, r1, _, _⟩ := ref_cells hr9
        cases bad'
        all_goals
          go_wp2_with fail
          go_quiet ((first | (go_at_call 26; exact quiet_same (left_any g _ _ _ hc9)) | (go_at_call 27; exact quiet_same (err_f g _ _ hc9)) | (go_at_call 27; exact quiet_same (err_t g _ _ hc9))))
          go_wp2_with fail
          go_roundw
          case rel => exact ⟨k + 1, S', _, hlt, by go_num, Nat.le_trans hS9 hS, hc9.drewN _, hr9.drewN _, hK9.drewN _⟩
          case measure => simp [intOf]; omega
      | false =>
        rw [hst] at hcell'
        go_wp2_with fail
        refine (cuttext_any g S _ bad (by omega) hc).mono ?_
        rintro e w8 ⟨rfl, hc8, hk8⟩
        have hr8 := Blk.kept hr hk8 (by simp; omega)
        go_wp2_with fail
        refine (cuttextr_any h S _ bad (by omega) hr8).mono ?_
        rintro e w9 ⟨rfl, hr9, hk9⟩
        have hc9 := Blk.kept hc8 hk9 (by simp; omega)
        have hK9 : Kept [] w w9 := (hK.trans hk8 (by simp; omega)).trans hk9 (by simp; omega)
        have hS9 := ctS_size S bad
        have hcell9 : w9.cell? ⟨bl, off + k, none⟩ = some (.bool false) := (hK9.below0.cell (p := ⟨bl, off + k, none⟩) hbl).trans (hst ▸ hcell)
        clear hc hr hK hc8 hr8 hk8 hk9 hcell' hcell hst
        change CutAt w9 g _ _ at hc9
        change RefAt w9 h _ _ at hr9
        generalize ctS S bad = S' at hc9 hr9 hS9
        generalize ctB S bad = bad' at hc9 hr9
        obtain ⟨r0, r1, _, _⟩ := ref_cells hr9
        cases bad'
        all_goals
          go_wp2_with fail
          go_quiet ((first | (go_at_call 26; exact quiet_same (left_any g _ _ _ hc9)) | (go_at_call 27; exact quiet_same (err_f g _ _ hc9)) | (go_at_call 27; exact quiet_same (err_t g _ _ hc9))))
          go_wp2_with fail
          go_roundw
          case rel => exact ⟨k + 1, S', _, hlt, by go_num, Nat.le_trans hS9 hS, hc9.drewN _, hr9.drewN _, hK9.drewN _⟩
          case measure => simp [intOf]; omega
    · go_wp2_with fail
      go_ret
      exact ⟨rfl, hK⟩

theorem tells_any (n : Int) (n0 : 0 ≤ n) (n1 : n < 18446744073709551616) (s b : ByteArray) (A : Option Addr) (len cap : Nat) (st : Nat → Bool) (hs : s.size ≤ 9223372036854775807) (hb : b.size ≤ 9223372036854775807) (hlen : len ≤ 9223372036854775807) (w : World)
    (hc : ∀ k, k < len → ∃ bl off, A = some ⟨bl, off, none⟩ ∧ bl < w.heap.size ∧ w.cell? ⟨bl, off + k, none⟩ = some (.bool (st k))) :
    Calls Try.prog 3 #[.int .u64 n, .string s, .string b, .slice A len cap] w fun e w' => e = .returned (.bool true) ∧ Kept [] w w' := by
  by_cases h : s.size ≤ 70000 ∧ b.size ≤ 500 ∧ len ≤ 60
  · exact tells_short n n0 n1 s b A len cap st h.1 h.2.1 h.2.2 w hc
  · exact tells_long n s b A len cap hs hb hlen (by omega) w
end Go.Proofs.Ythifbmopfcfokaa
