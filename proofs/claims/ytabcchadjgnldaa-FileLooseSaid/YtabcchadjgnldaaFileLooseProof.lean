/- The statement FileLoose holds: the places written since the last sync, in order, each once; what lies between is written too.
   Conditions: none. -/
import Derived.Test.YtabcchadjgnldaaLaw
import Derived.Test.YtabcchadjgnldaaLaw2
import Derived.Test.YtabcchadjgnldaaFLooseL
namespace Go.Proofs.Ytabcchadjgnldaa
open Go.ChangeShapes Go.WideShapes Go.ChangeAt Go.RowKit
open Go.ChangeMaps (open_string)

set_option maxRecDepth 100000 in
theorem fileLoose_lifted (os : Os) (started : os.Started) (H : Type) (enc : TypeId × Value → H) :
    ReturnsInHanded {} Try.checked os 7 .any (Rows.fileLooseSpec.pre6 enc Try.prog Try.f7 Rows.fileLooseRow.domain false) (Rows.fileLooseSpec.post enc Try.prog Try.f7 false true false false) := by
  refine returnsInHanded_of_change (C := Try.checked) Try.own started (by kernel_rfl) Try.func7
    (ChangeSpec.witness6 (enc := enc) (C := Try.checked) false ⟨#[], #[.slice none 0 0, .int .u8 0], []⟩ 8 (by kernel_rfl) (by kernel_rfl) (by kernel_rfl) (by kernel_rfl)) ?_
  intro W base args ds gs before hval0 hW _ _
  have hval : ∀ (j : Nat) t v, Try.f7.params[j]? = some t → args[j]? = some v → Value.okWide Try.prog W .any base t v := hval0
  have hW' := hW
  obtain ⟨p, q, hA0, _, _, _, _⟩ := hW
  have hA : DataW.TrodAll enc Try.prog W 0 (fun _ => true) true Try.f7.params.toList args.toList ds p := hA0
  rw [Try.params7] at hA hval
  obtain ⟨v0, v1, d0, d1, q0, q1, rfl, rfl, rfl, h0, h1⟩ := trodAll_two hA
  obtain ⟨a0, len, cap, rfl⟩ := okWide_slice Try.underlying49 (hval 0 49 v0 rfl rfl)
  obtain ⟨n1, rfl, rfl, rfl, w1⟩ := open_int Try.underlying5 (hval 1 5 v1 rfl rfl) h1
  obtain ⟨p0, p1⟩ := u8_of_wf w1
  have hstf : ∃ f : Nat → Int, len ≤ maxLen ∧ Rd W a0 len (bytsL f) ∧ ∀ k, k < len → 0 ≤ f k ∧ f k < 256 := by
    obtain ⟨fuel, hf⟩ := h0
    rcases open_ints Try.underlying49 Try.underlying5 (by kernel_rfl) hf with ⟨hcs, _⟩ | ⟨a, len', cap', zs, hcs, _, hl, hm, hz, _, hcell, hwf⟩
    · simp [Value.cells] at hcs
      obtain ⟨rfl, rfl, rfl⟩ := hcs
      exact ⟨fun _ => 0, by simp [maxLen], Rd.zero _ _ _, fun k hk => absurd hk (by omega)⟩
    · simp [Value.cells] at hcs
      obtain ⟨rfl, rfl, rfl⟩ := hcs
      simp at hz
      exact ⟨fun k => zs.getD k 0, by omega, row_of hl (fun i hi => hcell i (by omega)), fun k hk => u8_of_wf (hwf _ (by simp [List.getD, show k < zs.length by omega]))⟩
  obtain ⟨f, hlen, hrow, hf⟩ := hstf
  unfold maxLen at hlen
  refine (loosel_any a0 len cap f n1 (by omega) W hrow hf p0 p1).mono fun e W' ⟨he, hk⟩ => ⟨_, he, ?_⟩
  exact law_post (tb := 4) Try.laidOut (by rw [Try.params7]; intro t ht; simp at ht; rcases ht with rfl | rfl <;> exact ⟨by kernel_rfl, of_decide_eq_true (by kernel_rfl)⟩) rfl (by kernel_rfl) Try.underlying4 hW' (fun h => by subst h; exact ⟨rfl, rfl, rfl⟩) hk.below0

theorem fileLoose_holds : Rows.FileLooseSaid :=
  OpenClaim.holds_of_wide 7 Try.f7 rfl rfl rfl rfl rfl rfl rfl ⟨rfl, rfl, rfl, rfl, rfl⟩ rfl rfl rfl rfl rfl (by kernel_rfl) Try.func7 (by kernel_rfl)
    (of_decide_eq_true (by kernel_rfl)) (by unfold Func.isWrapper; first | (rw [if_pos (by decide +kernel)]; kernel_rfl) | (rw [if_neg (by decide +kernel)]; exact ⟨rfl, rfl⟩))
    (fun os started H enc _ => fileLoose_lifted os started H enc)
end Go.Proofs.Ytabcchadjgnldaa
