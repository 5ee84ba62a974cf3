/- The statement FilePlays holds: every row of writes, syncs and losses of power answers as the document says.
   Conditions: none. -/
import Derived.Test.YtabcchadjgnldaaLaw
import Derived.Test.YtabcchadjgnldaaLaw2
import Derived.Test.YtabcchadjgnldaaFPlays
namespace Go.Proofs.Ytabcchadjgnldaa
open Go.ChangeShapes Go.WideShapes Go.ChangeAt Go.RowKit
open Go.ChangeMaps (open_string)

set_option maxRecDepth 100000 in
theorem filePlays_lifted (os : Os) (started : os.Started) (H : Type) (enc : TypeId × Value → H) :
    ReturnsInHanded {} Try.checked os 3 .any (Rows.filePlaysSpec.pre6 enc Try.prog Try.f3 Rows.filePlaysRow.domain false) (Rows.filePlaysSpec.post enc Try.prog Try.f3 false true false false) := by
  refine returnsInHanded_of_change (C := Try.checked) Try.own started (by kernel_rfl) Try.func3
    (ChangeSpec.witness6 (enc := enc) (C := Try.checked) false ⟨#[], #[.slice none 0 0, .slice none 0 0], []⟩ 8 (by kernel_rfl) (by kernel_rfl) (by kernel_rfl) (by kernel_rfl)) ?_
  intro W base args ds gs before hval0 hW _ _
  have hval : ∀ (j : Nat) t v, Try.f3.params[j]? = some t → args[j]? = some v → Value.okWide Try.prog W .any base t v := hval0
  have hW' := hW
  obtain ⟨p, q, hA0, _, _, _, _⟩ := hW
  have hA : DataW.TrodAll enc Try.prog W 0 (fun _ => true) true Try.f3.params.toList args.toList ds p := hA0
  rw [Try.params3] at hA hval
  obtain ⟨v0, v1, d0, d1, q0, q1, rfl, rfl, rfl, h0, h1⟩ := trodAll_two hA
  obtain ⟨a0, len, cap, rfl⟩ := okWide_slice Try.underlying22 (hval 0 22 v0 rfl rfl)
  have hsx : ∃ t : Nat → ByteArray, len ≤ cap ∧ (a0 = none → cap = 0) ∧ len ≤ maxLen ∧ Rd W a0 len (txtF t) := by
    obtain ⟨fuel, hf⟩ := h0
    rcases open_strings Try.underlying22 Try.underlying9 (by kernel_rfl) hf with ⟨hcs, _⟩ | ⟨a, len', cap', ss, hcs, _, hl, hm, hz, _, hcell, _⟩
    · simp [Value.cells] at hcs
      obtain ⟨rfl, rfl, rfl⟩ := hcs
      exact ⟨fun _ => ByteArray.empty, Nat.le_refl _, fun _ => rfl, by simp [maxLen], Rd.zero _ _ _⟩
    · simp [Value.cells] at hcs
      obtain ⟨rfl, rfl, rfl⟩ := hcs
      simp at hz
      exact ⟨fun k => ss.getD k ByteArray.empty, hl, (fun h => by cases h), by omega, row_of hl (fun i hi => hcell i (by omega))⟩
  obtain ⟨t, hlc, hnone, hlen, hrow⟩ := hsx
  obtain ⟨a1, len1, cap1, rfl⟩ := okWide_slice Try.underlying23 (hval 1 23 v1 rfl rfl)
  have hst1 : len1 ≤ maxLen ∧ StepsAt W a1 len1 := by
    obtain ⟨fuel, hf⟩ := h1
    obtain ⟨A, len', cap', hcs, hl, hs⟩ := open_steps hf
    simp [Value.cells] at hcs
    obtain ⟨rfl, rfl, rfl⟩ := hcs
    exact ⟨hl, hs⟩
  obtain ⟨hlen1, hsteps⟩ := hst1
  unfold maxLen at hlen hlen1
  refine (fplays_any a0 len cap t a1 len1 cap1 hlc hnone (by omega) (by omega) W hrow hsteps).mono fun e W' ⟨he, hk⟩ => ⟨_, he, ?_⟩
  exact law_post (tb := 4) Try.laidOut (by rw [Try.params3]; intro t ht; simp at ht; rcases ht with rfl | rfl <;> exact ⟨by kernel_rfl, of_decide_eq_true (by kernel_rfl)⟩) rfl (by kernel_rfl) Try.underlying4 hW' (fun h => by subst h; exact ⟨rfl, rfl, rfl⟩) hk.below0

theorem filePlays_holds : Rows.FilePlaysSaid :=
  OpenClaim.holds_of_wide 3 Try.f3 rfl rfl rfl rfl rfl rfl rfl ⟨rfl, rfl, rfl, rfl, rfl⟩ rfl rfl rfl rfl rfl (by kernel_rfl) Try.func3 (by kernel_rfl)
    (of_decide_eq_true (by kernel_rfl)) (by unfold Func.isWrapper; first | (rw [if_pos (by decide +kernel)]; kernel_rfl) | (rw [if_neg (by decide +kernel)]; exact ⟨rfl, rfl⟩))
    (fun os started H enc _ => filePlays_lifted os started H enc)
end Go.Proofs.Ytabcchadjgnldaa
