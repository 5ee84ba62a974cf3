/- A text taken from the front of bytes by the reference's Cut: the same as the program's.
   Conditions: the cut lies whole in a block; the bytes are no more than an int counts. -/
import Derived.Test.YthifbmopfcfokaaPackCutText
namespace Go.Proofs.Ythifbmopfcfokaa
open Go.RowKit

theorem or_two (x y : Nat) (hx : x < 256) (hy : y < 256) : bits .or .i64 (x : Int) ((y * 256 : Nat) : Int) = ((x + y * 256 : Nat) : Int) := by
  show IntKind.i64.wrap (((BitVec.ofInt 64 (x : Int) ||| BitVec.ofInt 64 ((y * 256 : Nat) : Int)).toNat : Nat) : Int) = _
  rw [BitVec.toNat_or, BitVec.ofInt_natCast, BitVec.ofInt_natCast, BitVec.toNat_ofNat, BitVec.toNat_ofNat, Nat.mod_eq_of_lt (by omega), Nat.mod_eq_of_lt (by omega), Nat.or_comm, nat_join 8 _ _ (by omega) (by omega), IntKind.wrap_i64]
  omega

theorem ext2R_num (s : ByteArray) (h2 : 2 ≤ s.size) : bits .or .i64 (wrap64 (s[0].toNat : Int)) (wrap64 (wrap64 (s[1].toNat : Int) * 256)) = (textN s h2 : Int) := by
  have b0 := s[0].toNat_lt
  have b1 := s[1].toNat_lt
  have e0 : wrap64 (s[0].toNat : Int) = (s[0].toNat : Int) := by unfold wrap64; omega
  have e1 : wrap64 (wrap64 (s[1].toNat : Int) * 256) = ((s[1].toNat * 256 : Nat) : Int) := by unfold wrap64; omega
  rw [e0, e1, or_two _ _ b0 b1]
  rfl

theorem textN_le (s : ByteArray) (h2 : 2 ≤ s.size) : textN s h2 ≤ 65535 := by
  have b0 := s[0].toNat_lt
  have b1 := s[1].toNat_lt
  unfold textN
  omega

section
variable (g : Nat) (s : ByteArray) (w : World)
set_option maxRecDepth 100000 in
theorem cuttextr_bad (h : RefAt w g s true) :
    Calls Try.prog 25 #[.pointer (some ⟨g, 0, none⟩)] w fun e w' => e = .returned (.string ⟨#[]⟩) ∧ w' = w.setCell ⟨g, 1, none⟩ (.bool true) := by
  obtain ⟨c0, c1, f0, f1⟩ := ref_cells h
  go_enter Try.func25, Try.ntmps25
  go_wp2
  go_ret
  exact ⟨rfl, rfl⟩
set_option maxRecDepth 100000 in
theorem cuttextr_less (h2 : s.size < 2) (h : RefAt w g s false) :
    Calls Try.prog 25 #[.pointer (some ⟨g, 0, none⟩)] w fun e w' => e = .returned (.string ⟨#[]⟩) ∧ w' = w.setCell ⟨g, 1, none⟩ (.bool true) := by
  obtain ⟨c0, c1, f0, f1⟩ := ref_cells h
  go_enter Try.func25, Try.ntmps25
  go_wp2
  go_ret
  exact ⟨rfl, rfl⟩
set_option maxRecDepth 100000 in
theorem cuttextr_lack (n : Nat) (hr : s.size ≤ 9223372036854775807) (h2 : 2 ≤ s.size) (hn : textN s h2 = n) (hs : s.size < 2 + n) (h : RefAt w g s false) :
    Calls Try.prog 25 #[.pointer (some ⟨g, 0, none⟩)] w fun e w' => e = .returned (.string ⟨#[]⟩) ∧ RefAt w' g s true ∧ Kept [g] w w' := by
  have H := hide h
  clear h
  have hle : n ≤ 65535 := hn ▸ textN_le s h2
  have HN := hide hn
  clear hn
  have i0 : 0 < s.size := by omega
  have i1 : (1 : Int) < (s.size : Int) := by omega
  have hd : decide ((s.size : Int) < 2) = false := by simp; omega
  go_enter Try.func25, Try.ntmps25
  obtain ⟨c0, c1, f0, f1⟩ := ref_cells H.out
  go_wp2
  go_quiet (fail)
  rw [ext2R_num s h2, HN.out]
  go_wp2
  go_ret
  exact ⟨rfl, ref_set1 (Blk.drewN H.out _), ((Kept.refl _ _).drewN _).setCell (by simp) _⟩
set_option maxRecDepth 100000 in
theorem cuttextr_good (n : Nat) (hr : s.size ≤ 9223372036854775807) (h2 : 2 ≤ s.size) (hn : textN s h2 = n) (hs : 2 + n ≤ s.size) (h : RefAt w g s false) :
    Calls Try.prog 25 #[.pointer (some ⟨g, 0, none⟩)] w fun e w' => e = .returned (.string ((s.extract 2 s.size).extract 0 n)) ∧ RefAt w' g ((s.extract 2 s.size).extract n (s.size - 2)) false ∧ Kept [g] w w' := by
  have H := hide h
  clear h
  have hle : n ≤ 65535 := hn ▸ textN_le s h2
  have HN := hide hn
  clear hn
  have i0 : 0 < s.size := by omega
  have i1 : (1 : Int) < (s.size : Int) := by omega
  have hd : decide ((s.size : Int) < 2) = false := by simp; omega
  go_enter Try.func25, Try.ntmps25
  obtain ⟨c0, c1, f0, f1⟩ := ref_cells H.out
  go_wp2
  go_quiet (fail)
  rw [ext2R_num s h2, HN.out]
  go_wp2_with fail
  refine (taker_any_good g (s.extract 2 s.size) _ n (by simp; omega) (by simp; omega) (ref_set0 (Blk.drewN H.out _))).mono ?_; rintro e w1 ⟨rfl, rfl⟩
  go_wp2
  go_ret
  exact ⟨rfl, by simpa using ref_set0 (s' := (s.extract 2 s.size).extract n (s.size - 2)) (ref_set0 (s' := s.extract 2 s.size) (Blk.drewN (n := nq) H.out)), (((Kept.refl _ _).drewN _).setCell (by simp) _).setCell (by simp) _⟩

theorem cuttextr_any (bad : Bool) (hr : s.size ≤ 9223372036854775807) (h : RefAt w g s bad) :
    Calls Try.prog 25 #[.pointer (some ⟨g, 0, none⟩)] w fun e w' => e = .returned (.string (ctV s bad)) ∧ RefAt w' g (ctS s bad) (ctB s bad) ∧ Kept [g] w w' := by
  cases bad with
  | true =>
    obtain ⟨e1, e2, e3⟩ := ct_bad s
    rw [e1, e2, e3]
    exact (cuttextr_bad g s w h).mono fun e w' ⟨he, hw⟩ => by subst hw; exact ⟨he, ref_set1 h, (Kept.refl _ _).setCell (by simp) _⟩
  | false =>
    by_cases h2 : s.size < 2
    · obtain ⟨e1, e2, e3⟩ := ct_short false h2
      rw [e1, e2, e3]
      exact (cuttextr_less g s w h2 h).mono fun e w' ⟨he, hw⟩ => by subst hw; exact ⟨he, ref_set1 h, (Kept.refl _ _).setCell (by simp) _⟩
    · have h2' : 2 ≤ s.size := by omega
      by_cases hn : s.size < 2 + textN s h2'
      · obtain ⟨e1, e2, e3⟩ := ct_lack false h2' hn
        rw [e1, e2, e3]
        exact cuttextr_lack g s w _ hr h2' rfl hn h
      · obtain ⟨e1, e2, e3⟩ := ct_good h2' (by omega)
        rw [e1, e2, e3]
        exact cuttextr_good g s w _ hr h2' rfl (by omega) h
end
end Go.Proofs.Ythifbmopfcfokaa
