/- Numbers that came in: a byte. Conditions: none. -/
import Derived.Test.YtabcchadjgnldaaLaw
namespace Go.Proofs.Ytabcchadjgnldaa
theorem u8_of_wf {x : Int} (h : (Lit.int .u8 x).wf = true) : 0 ≤ x ∧ x < 256 := by
  simp [Lit.wf, IntKind.min, IntKind.max, IntKind.signed, IntKind.bits] at h
  exact ⟨by omega, by omega⟩
end Go.Proofs.Ytabcchadjgnldaa
