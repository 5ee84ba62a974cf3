/- A text taken from the front of bytes: pack.Cut's Text and the reference's Text.
   Conditions: the cut lies whole in a block; the bytes are no more than an int counts. -/
import Derived.Test.YthifbmopfcfokaaPackCutNum
import Derived.Deep.QuietTactic
import Derived.BigQuiet
namespace Go.Proofs.Ythifbmopfcfokaa
open Go.RowKit

/-- How long the text at the front is. -/
def textN (s : ByteArray) (h : 2 ≤ s.size) : Nat := s[0].toNat + s[1].toNat * 256
def ctB (s : ByteArray) (bad : Bool) : Bool := if h : 2 ≤ s.size then bad || decide (s.size < 2 + textN s h) else true
def ctV (s : ByteArray) (bad : Bool) : ByteArray := if ctB s bad then ⟨#[]⟩ else if h : 2 ≤ s.size then (s.extract 2 s.size).extract 0 (textN s h) else ⟨#[]⟩
def ctS (s : ByteArray) (bad : Bool) : ByteArray := if ctB s bad then s else if h : 2 ≤ s.size then (s.extract 2 s.size).extract (textN s h) (s.size - 2) else s

theorem ext2_full (s : ByteArray) (h2 : 2 ≤ s.size) : (s.extract 0 2).toList.isEmpty = false := by
  have h : (s.extract 0 2).size = 2 := by simp; omega
  rw [ByteArray.toList_eq]
  have e : (s.extract 0 2).data.toList.length = 2 := by simpa using h
  generalize (s.extract 0 2).data.toList = l at e
  match l, e with
  | [a, b], _ => rfl
theorem ext2_num (s : ByteArray) (h2 : 2 ≤ s.size) (h0 : 0 < (s.extract 0 2).size) (h1 : 1 < (s.extract 0 2).size) :
    wrap64 (wrap64 ((s.extract 0 2)[0].toNat : Int) + wrap64 (wrap64 ((s.extract 0 2)[1].toNat : Int) * 256)) = (textN s h2 : Int) := by
  have e0 : (s.extract 0 2)[0] = s[0] := by simp [ByteArray.getElem_extract]
  have e1 : (s.extract 0 2)[1] = s[1] := by simp [ByteArray.getElem_extract]
  have b0 := s[0].toNat_lt
  have b1 := s[1].toNat_lt
  rw [e0, e1]
  unfold textN wrap64
  omega

section
variable (g : Nat) (s : ByteArray) (w : World)

set_option maxRecDepth 100000 in
theorem cuttext_bad (h : CutAt w g s true) :
    Calls Try.prog 24 #[.pointer (some ⟨g, 0, none⟩)] w fun e w' => e = .returned (.string ⟨#[]⟩) ∧ w' = w.setCell ⟨g, 1, none⟩ (.iface 46 (.int .i64 11)) := by
  obtain ⟨c0, c1, f0, f1⟩ := cut_cells_bad h
  go_enter Try.func24, Try.ntmps24
  go_wp2_with (go_at_call 53; refine (take_any_bad g s w 2 h).mono ?_; rintro e w1 ⟨rfl, rfl⟩)
  go_ret
  exact ⟨rfl, rfl⟩
set_option maxRecDepth 100000 in
theorem cuttext_less (h2 : s.size < 2) (h : CutAt w g s false) :
    Calls Try.prog 24 #[.pointer (some ⟨g, 0, none⟩)] w fun e w' => e = .returned (.string ⟨#[]⟩) ∧ w' = w.setCell ⟨g, 1, none⟩ (.iface 46 (.int .i64 11)) := by
  obtain ⟨c0, c1, f0, f1⟩ := cut_cells h
  go_enter Try.func24, Try.ntmps24
  go_wp2_with (go_at_call 53; refine (take_any_less g s w 2 h2 h).mono ?_; rintro e w1 ⟨rfl, rfl⟩)
  go_ret
  exact ⟨rfl, rfl⟩
set_option maxRecDepth 100000 in
theorem cuttext_good (n : Nat) (hr : s.size ≤ 9223372036854775807) (h2 : 2 ≤ s.size) (hn : textN s h2 = n) (hs : 2 + n ≤ s.size) (h : CutAt w g s false) :
    Calls Try.prog 24 #[.pointer (some ⟨g, 0, none⟩)] w fun e w' => e = .returned (.string ((s.extract 2 s.size).extract 0 n)) ∧ CutAt w' g ((s.extract 2 s.size).extract n (s.size - 2)) false ∧ Kept [g] w w' := by
  have H := hide h
  clear h
  have HN := hide hn
  clear hn
  have hne := ext2_full s h2
  go_enter Try.func24, Try.ntmps24
  obtain ⟨c0, c1, f0, f1⟩ := cut_cells H.out
  go_wp2_with fail
  refine (take_any_good g s w 2 h2 hr H.out).mono ?_; rintro e w1 ⟨rfl, rfl⟩
  go_wp2
  go_quiet (fail)
  go_wp2_with fail
  rw [ext2_num s h2, HN.out]
  refine (take_any_good g (s.extract 2 s.size) _ n (by simp; omega) (by simp; omega) (Blk.drewN (cut_set0 H.out) _)).mono ?_; rintro e w1 ⟨rfl, rfl⟩
  go_wp2
  go_ret
  exact ⟨rfl, cut_set0 (Blk.drewN (cut_set0 H.out) _), (((Kept.refl _ _).setCell (by simp) _).drewN _).setCell (by simp) _⟩
set_option maxRecDepth 100000 in
theorem cuttext_lack (n : Nat) (hr : s.size ≤ 9223372036854775807) (h2 : 2 ≤ s.size) (hn : textN s h2 = n) (hs : s.size < 2 + n) (h : CutAt w g s false) :
    Calls Try.prog 24 #[.pointer (some ⟨g, 0, none⟩)] w fun e w' => e = .returned (.string ⟨#[]⟩) ∧ CutAt w' g s true ∧ Kept [g] w w' := by
  have H := hide h
  clear h
  have HN := hide hn
  clear hn
  have hne := ext2_full s h2
  go_enter Try.func24, Try.ntmps24
  obtain ⟨c0, c1, f0, f1⟩ := cut_cells H.out
  go_wp2_with fail
  refine (take_any_good g s w 2 h2 hr H.out).mono ?_; rintro e w1 ⟨rfl, rfl⟩
  go_wp2
  go_quiet (fail)
  go_wp2_with fail
  rw [ext2_num s h2, HN.out]
  refine (take_any_less g (s.extract 2 s.size) _ n (by simp; omega) (Blk.drewN (cut_set0 H.out) _)).mono ?_; rintro e w1 ⟨rfl, rfl⟩
  go_wp2
  go_ret
  exact ⟨rfl, cut_set0 (cut_set1 (Blk.drewN (cut_set0 H.out) _)), ((((Kept.refl _ _).setCell (by simp) _).drewN _).setCell (by simp) _).setCell (by simp) _⟩

theorem ct_bad (s : ByteArray) : ctB s true = true ∧ ctV s true = ⟨#[]⟩ ∧ ctS s true = s := by
  have h : ctB s true = true := by unfold ctB; split <;> simp
  simp [ctV, ctS, h]
theorem ct_short {s : ByteArray} (bad : Bool) (h : s.size < 2) : ctB s bad = true ∧ ctV s bad = ⟨#[]⟩ ∧ ctS s bad = s := by
  have h' : ctB s bad = true := by rw [ctB, dif_neg (by omega)]
  simp [ctV, ctS, h']
theorem ct_lack {s : ByteArray} (bad : Bool) (h2 : 2 ≤ s.size) (h : s.size < 2 + textN s h2) : ctB s bad = true ∧ ctV s bad = ⟨#[]⟩ ∧ ctS s bad = s := by
  have h' : ctB s bad = true := by rw [ctB, dif_pos h2]; simp [h]
  simp [ctV, ctS, h']
theorem ct_good {s : ByteArray} (h2 : 2 ≤ s.size) (h : 2 + textN s h2 ≤ s.size) : ctB s false = false ∧ ctV s false = (s.extract 2 s.size).extract 0 (textN s h2) ∧ ctS s false = (s.extract 2 s.size).extract (textN s h2) (s.size - 2) := by
  have h' : ctB s false = false := by rw [ctB, dif_pos h2]; simp; omega
  simp [ctV, ctS, h', h2]

theorem cuttext_any (bad : Bool) (hr : s.size ≤ 9223372036854775807) (h : CutAt w g s bad) :
    Calls Try.prog 24 #[.pointer (some ⟨g, 0, none⟩)] w fun e w' => e = .returned (.string (ctV s bad)) ∧ CutAt w' g (ctS s bad) (ctB s bad) ∧ Kept [g] w w' := by
  cases bad with
  | true =>
    obtain ⟨e1, e2, e3⟩ := ct_bad s
    rw [e1, e2, e3]
    exact (cuttext_bad g s w h).mono fun e w' ⟨he, hw⟩ => by subst hw; exact ⟨he, cut_set1 h, (Kept.refl _ _).setCell (by simp) _⟩
  | false =>
    by_cases h2 : s.size < 2
    · obtain ⟨e1, e2, e3⟩ := ct_short false h2
      rw [e1, e2, e3]
      exact (cuttext_less g s w h2 h).mono fun e w' ⟨he, hw⟩ => by subst hw; exact ⟨he, cut_set1 h, (Kept.refl _ _).setCell (by simp) _⟩
    · have h2' : 2 ≤ s.size := by omega
      by_cases hn : s.size < 2 + textN s h2'
      · obtain ⟨e1, e2, e3⟩ := ct_lack false h2' hn
        rw [e1, e2, e3]
        exact cuttext_lack g s w _ hr h2' rfl hn h
      · obtain ⟨e1, e2, e3⟩ := ct_good h2' (by omega)
        rw [e1, e2, e3]
        exact cuttext_good g s w _ hr h2' rfl (by omega) h
end
end Go.Proofs.Ythifbmopfcfokaa
