/- The reach of texts in a row that came in. Conditions: none beyond each lemma's own hypotheses. -/
import Derived.Test.YtabcchadjgnldaaLaw
import Derived.SizedLaws
namespace Go.Proofs.Ytabcchadjgnldaa

theorem weights_in {H : Type} {P : Program} {e : TypeId} {n : Nat} {d : DataW H} (hn : n ∈ d.weights P e) : ∀ {elems : List (DataW H)}, d ∈ elems → n ∈ DataW.weightsAll P e elems
  | [], h => by cases h
  | x :: r, h => by
    rw [DataW.weightsAll, List.mem_append]
    rcases List.mem_cons.1 h with rfl | h
    · exact .inl hn
    · exact .inr (weights_in hn h)
theorem sized_text {H : Type} {P : Program} {ts : List TypeId} {ds : List (DataW H)} (h : (DataW.weightsEach P ts ds).all (· ≤ reachBytes) = true) {j : Nat} {t e : TypeId} {elems spare : List (DataW H)} (ht : ts[j]? = some t) (hd : ds[j]? = some (.slice elems spare)) (hu : P.underlying t = some (.slice e)) {bytes : List UInt8} (hm : .lit (.string bytes) ∈ elems) : bytes.length ≤ 140737488351232 := by
  have hw : bytes.length ∈ DataW.weightsAll P e elems := weights_in (by simp [DataW.weights]) hm
  have h1 := List.all_eq_true.1 h _ (DataW.weights_mem_each ht hd bytes.length (by simp [DataW.weights, hu, hw]))
  have h2 : bytes.length ≤ reachBytes := by simpa using h1
  exact h2
end Go.Proofs.Ytabcchadjgnldaa
