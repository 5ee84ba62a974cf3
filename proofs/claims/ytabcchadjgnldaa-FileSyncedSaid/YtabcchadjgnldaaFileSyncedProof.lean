/- The statement FileSynced holds: what was synced stays, whatever is written behind it and lost.
   Conditions: none. -/
import Derived.Test.YtabcchadjgnldaaLaw
import Derived.Test.YtabcchadjgnldaaLaw2
import Derived.Test.YtabcchadjgnldaaFSized
import Derived.Test.YtabcchadjgnldaaFSynced
namespace Go.Proofs.Ytabcchadjgnldaa
open Go.ChangeShapes Go.WideShapes Go.ChangeAt Go.RowKit
open Go.ChangeMaps (open_string)

set_option maxRecDepth 100000 in
theorem fileSynced_lifted (os : Os) (started : os.Started) (H : Type) (enc : TypeId × Value → H) :
    ReturnsInHanded {} Try.checked os 5 .any (Rows.fileSyncedSpec.pre6 enc Try.prog Try.f5 Rows.fileSyncedRow.domain false) (Rows.fileSyncedSpec.post enc Try.prog Try.f5 false true false false) := by
  refine returnsInHanded_of_change_sized (C := Try.checked) Try.own started (by kernel_rfl) Try.func5
    (ChangeSpec.witness6 (enc := enc) (C := Try.checked) false ⟨#[], #[.slice none 0 0, .slice none 0 0], []⟩ 8 (by kernel_rfl) (by kernel_rfl) (by kernel_rfl) (by kernel_rfl)) ?_
  intro W base args ds gs before hval0 hW _ hsz _
  have hval : ∀ (j : Nat) t v, Try.f5.params[j]? = some t → args[j]? = some v → Value.okWide Try.prog W .any base t v := hval0
  have hW' := hW
  obtain ⟨p, q, hA0, _, _, _, _⟩ := hW
  have hA : DataW.TrodAll enc Try.prog W 0 (fun _ => true) true Try.f5.params.toList args.toList ds p := hA0
  rw [Try.params5] at hA hval
  obtain ⟨v0, v1, d0, d1, q0, q1, rfl, rfl, rfl, h0, h1⟩ := trodAll_two hA
  obtain ⟨a0, len, cap, rfl⟩ := okWide_slice Try.underlying22 (hval 0 22 v0 rfl rfl)
  have hsx : ∃ t : Nat → ByteArray, len ≤ maxLen ∧ Rd W a0 len (txtF t) ∧ ∀ k, k < len → (t k).size ≤ 140737488351232 := by
    obtain ⟨fuel, hf⟩ := h0
    rcases open_strings Try.underlying22 Try.underlying9 (by kernel_rfl) hf with ⟨hcs, _⟩ | ⟨a, len', cap', ss, hcs, _, hl, hm, hz, hx, hcell, _⟩
    · simp [Value.cells] at hcs
      obtain ⟨rfl, rfl, rfl⟩ := hcs
      exact ⟨fun _ => ByteArray.empty, by simp [maxLen], Rd.zero _ _ _, fun k hk => absurd hk (by omega)⟩
    · simp [Value.cells] at hcs
      obtain ⟨rfl, rfl, rfl⟩ := hcs
      simp at hz
      have hd0 := congrArg Prod.fst hx
      simp only at hd0
      refine ⟨fun k => ss.getD k ByteArray.empty, by omega, row_of hl (fun i hi => hcell i (by omega)), fun k hk => ?_⟩
      have hb := sized_text hsz (j := 0) (t := 22) (bytes := (ss.getD k ByteArray.empty).data.toList) (by rw [Try.params5]; rfl) (by rw [hd0]; rfl) Try.underlying22 (List.mem_map.2 ⟨ss.getD k ByteArray.empty, by
        have hk2 : k < ss.length := by omega
        rw [List.mem_take_iff_getElem]
        exact ⟨k, by omega, by simp [List.getD, hk2]⟩, rfl⟩)
      simpa using hb
  obtain ⟨t, hlen, hrow, ht⟩ := hsx
  obtain ⟨a1, len1, cap1, rfl⟩ := okWide_slice Try.underlying23 (hval 1 23 v1 rfl rfl)
  have hst1 : len1 ≤ maxLen ∧ StepsAt W a1 len1 := by
    obtain ⟨fuel, hf⟩ := h1
    obtain ⟨A, len', cap', hcs, hl, hs⟩ := open_steps hf
    simp [Value.cells] at hcs
    obtain ⟨rfl, rfl, rfl⟩ := hcs
    exact ⟨hl, hs⟩
  obtain ⟨hlen1, hsteps⟩ := hst1
  unfold maxLen at hlen hlen1
  refine (syncedl_any a0 len cap t a1 len1 cap1 (by omega) (by omega) W hrow ht hsteps).mono fun e W' ⟨he, hk⟩ => ⟨_, he, ?_⟩
  exact law_post (tb := 4) Try.laidOut (by rw [Try.params5]; intro t ht; simp at ht; rcases ht with rfl | rfl <;> exact ⟨by kernel_rfl, of_decide_eq_true (by kernel_rfl)⟩) rfl (by kernel_rfl) Try.underlying4 hW' (fun h => by subst h; exact ⟨rfl, rfl, rfl⟩) hk.below0

theorem fileSynced_holds : Rows.FileSyncedSaid :=
  OpenClaim.holds_of_wide 5 Try.f5 rfl rfl rfl rfl rfl rfl rfl ⟨rfl, rfl, rfl, rfl, rfl⟩ rfl rfl rfl rfl rfl (by kernel_rfl) Try.func5 (by kernel_rfl)
    (of_decide_eq_true (by kernel_rfl)) (by unfold Func.isWrapper; first | (rw [if_pos (by decide +kernel)]; kernel_rfl) | (rw [if_neg (by decide +kernel)]; exact ⟨rfl, rfl⟩))
    (fun os started H enc _ => fileSynced_lifted os started H enc)
end Go.Proofs.Ytabcchadjgnldaa
