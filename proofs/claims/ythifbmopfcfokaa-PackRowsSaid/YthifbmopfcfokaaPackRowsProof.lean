/- The statement PackRows holds: what is put one behind the other is taken one by one; one byte changed changes the sum.
   Conditions: none. -/
import Derived.Test.YthifbmopfcfokaaLaw
import Derived.Test.YthifbmopfcfokaaLaw2
import Derived.Test.YthifbmopfcfokaaPackRows
namespace Go.Proofs.Ythifbmopfcfokaa
open Go.ChangeShapes Go.WideShapes Go.ChangeAt Go.RowKit
open Go.ChangeMaps (open_string)

set_option maxRecDepth 100000 in
theorem packRows_lifted (os : Os) (started : os.Started) (H : Type) (enc : TypeId × Value → H) :
    ReturnsInHanded {} Try.checked os 4 .any (Rows.packRowsSpec.pre6 enc Try.prog Try.f4 Rows.packRowsRow.domain false) (Rows.packRowsSpec.post enc Try.prog Try.f4 false true false false) := by
  refine returnsInHanded_of_change (C := Try.checked) Try.own started (by kernel_rfl) Try.func4
    (ChangeSpec.witness6 (enc := enc) (C := Try.checked) false ⟨#[], #[.slice none 0 0, .slice none 0 0, .int .u8 0, .int .u8 0], []⟩ 8 (by kernel_rfl) (by kernel_rfl) (by kernel_rfl) (by kernel_rfl)) ?_
  intro W base args ds gs before hval0 hW _ _
  have hval : ∀ (j : Nat) t v, Try.f4.params[j]? = some t → args[j]? = some v → Value.okWide Try.prog W .any base t v := hval0
  have hW' := hW
  obtain ⟨p, q, hA0, _, _, _, _⟩ := hW
  have hA : DataW.TrodAll enc Try.prog W 0 (fun _ => true) true Try.f4.params.toList args.toList ds p := hA0
  rw [Try.params4] at hA hval
  obtain ⟨v0, v1, v2, v3, d0, d1, d2, d3, q0, q1, q2, q3, rfl, rfl, rfl, h0, h1, h2, h3⟩ := trodAll_four hA
  obtain ⟨a0, len, cap, rfl⟩ := okWide_slice Try.underlying40 (hval 0 40 v0 rfl rfl)
  obtain ⟨a1, len1, cap1, rfl⟩ := okWide_slice Try.underlying41 (hval 1 41 v1 rfl rfl)
  obtain ⟨n2, rfl, rfl, rfl, w2⟩ := open_int Try.underlying5 (hval 2 5 v2 rfl rfl) h2
  obtain ⟨n3, rfl, rfl, rfl, w3⟩ := open_int Try.underlying5 (hval 3 5 v3 rfl rfl) h3
  obtain ⟨p0, p1⟩ := u8_of_wf w2
  obtain ⟨b0, b1⟩ := u8_of_wf w3
  have hst : ∃ f : Nat → Int, len ≤ maxLen ∧ Rd W a0 len (u64s f) ∧ ∀ k, k < len → 0 ≤ f k ∧ f k < 18446744073709551616 := by
    obtain ⟨fuel, hf⟩ := h0
    rcases open_ints Try.underlying40 Try.underlying22 (by kernel_rfl) hf with ⟨hcs, _⟩ | ⟨a, len', cap', zs, hcs, _, hl, hm, hz, _, hcell, hwf⟩
    · simp [Value.cells] at hcs
      obtain ⟨rfl, rfl, rfl⟩ := hcs
      exact ⟨fun _ => 0, by simp [maxLen], Rd.zero _ _ _, fun k hk => absurd hk (by omega)⟩
    · simp [Value.cells] at hcs
      obtain ⟨rfl, rfl, rfl⟩ := hcs
      simp at hz
      exact ⟨fun k => zs.getD k 0, by omega, row_of hl (fun i hi => hcell i (by omega)), fun k hk => u64_of_wf (hwf _ (by simp [List.getD, show k < zs.length by omega]))⟩
  obtain ⟨f, hlen, hrow, hf⟩ := hst
  have hsx : ∃ t : Nat → ByteArray, len1 ≤ maxLen ∧ Rd W a1 len1 (txts t) ∧ ∀ k, k < len1 → (t k).size ≤ 9223372036854775807 := by
    obtain ⟨fuel, hf⟩ := h1
    rcases open_strings Try.underlying41 Try.underlying9 (by kernel_rfl) hf with ⟨hcs, _⟩ | ⟨a, len', cap', ss, hcs, _, hl, hm, hz, _, hcell, hwf⟩
    · simp [Value.cells] at hcs
      obtain ⟨rfl, rfl, rfl⟩ := hcs
      exact ⟨fun _ => ByteArray.empty, by simp [maxLen], Rd.zero _ _ _, fun k hk => absurd hk (by omega)⟩
    · simp [Value.cells] at hcs
      obtain ⟨rfl, rfl, rfl⟩ := hcs
      simp at hz
      exact ⟨fun k => ss.getD k ByteArray.empty, by omega, row_of hl (fun i hi => hcell i (by omega)), fun k hk => Nat.le_trans (hwf _ (by simp [List.getD, show k < ss.length by omega])) (by simp [maxLen])⟩
  obtain ⟨t, hlen1, hrow1, ht⟩ := hsx
  unfold maxLen at hlen hlen1
  refine (rows_any a0 len cap f a1 len1 cap1 t n2 n3 (by omega) (by omega) W hrow hf hrow1 ht p0 p1 b0 b1).mono fun e W' ⟨he, hk⟩ => ⟨_, he, ?_⟩
  exact law_post (tb := 4) Try.laidOut (by rw [Try.params4]; intro t ht; simp at ht; rcases ht with rfl | rfl | rfl | rfl <;> exact ⟨by kernel_rfl, of_decide_eq_true (by kernel_rfl)⟩) rfl (by kernel_rfl) Try.underlying4 hW' (fun h => by subst h; exact ⟨rfl, rfl, rfl⟩) hk.below0

theorem packRows_holds : Rows.PackRowsSaid :=
  OpenClaim.holds_of_wide 4 Try.f4 rfl rfl rfl rfl rfl rfl rfl ⟨rfl, rfl, rfl, rfl, rfl⟩ rfl rfl rfl rfl rfl (by kernel_rfl) Try.func4 (by kernel_rfl)
    (of_decide_eq_true (by kernel_rfl)) (by unfold Func.isWrapper; first | (rw [if_pos (by decide +kernel)]; kernel_rfl) | (rw [if_neg (by decide +kernel)]; exact ⟨rfl, rfl⟩))
    (fun os started H enc _ => packRows_lifted os started H enc)
end Go.Proofs.Ythifbmopfcfokaa
