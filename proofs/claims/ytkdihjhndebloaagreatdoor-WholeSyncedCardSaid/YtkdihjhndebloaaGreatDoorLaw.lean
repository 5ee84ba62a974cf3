/- The frame of a law's proof: a law that answers true and leaves all that was there as it was meets its row's post.
   Conditions: none beyond each lemma's own hypotheses. -/
import Derived.Test.YtkdihjhndebloaaGreatDoorRows
import Derived.Test.YtkdihjhndebloaaGreatDoorBase
import Derived.ProofKit
import Derived.OpenShut
import Derived.Deep.Grids
import Derived.SliceStrings
namespace Go.Proofs.YtkdihjhndebloaaGreatDoor
open Go.ChangeShapes Go.WideShapes Go.ChangeAt Go.RowKit

theorem Tryz.own : ownKnob Tryz.prog.godebug = none := by kernel_rfl
theorem Tryz.laidOut : laidOutB Tryz.prog = true := by kernel_rfl

theorem u64_of_wf {x : Int} (h : (Lit.int .u64 x).wf = true) : 0 ≤ x ∧ x < 18446744073709551616 := by
  simp [Lit.wf, IntKind.min, IntKind.max, IntKind.signed, IntKind.bits] at h
  exact ⟨by omega, by omega⟩
theorem u16_of_wf {x : Int} (h : (Lit.int .u16 x).wf = true) : 0 ≤ x ∧ x < 65536 := by
  simp [Lit.wf, IntKind.min, IntKind.max, IntKind.signed, IntKind.bits] at h
  exact ⟨by omega, by omega⟩

section
variable {H : Type} {enc : TypeId × Value → H} {P : Program} {W W' : World}
/-- Arguments read as they did where nothing that was there has turned. -/
theorem trodAll_below (hl : laidOutB P = true) (hb : Below W.heap.size W W') : ∀ (ts : List TypeId) (vs : List Value) (ds : List (DataW H)) (ps : List MemPlace), (∀ t ∈ ts, P.readableRec t = true ∧ t < P.types.size) →
    DataW.TrodAll enc P W 0 (fun _ => true) true ts vs ds ps → (∀ x ∈ ps, x.block < W.heap.size) → DataW.TrodAll enc P W' 0 (fun b => decide (b < W.heap.size)) true ts vs ds ps
  | [], _, _, _, _, h, _ => by
    obtain ⟨rfl, rfl, rfl⟩ := trodAll_nil h
    exact rfl
  | t :: ts, _, _, _, hr, h, hlt => by
    obtain ⟨v, vs', d, ds', p, q, rfl, rfl, rfl, h1, h2⟩ := trodAll_cons h
    exact ⟨p, q, Below.trod hl (hr t (by simp)).1 (hr t (by simp)).2 h1 hb (fun x hx => hlt x (by simp [hx])), trodAll_below hl hb ts vs' ds' q (fun t ht => hr t (by simp [ht])) h2 (fun x hx => hlt x (by simp [hx])), rfl⟩

/-- The cells of a slice that came in, by its elements' numbers. -/
theorem row_of {a : Addr} {len cap : Nat} {f : Nat → Value} (hl : len ≤ cap) (hc : ∀ i, i < cap → W.cell? (a.add i) = some (f i)) :
    ∀ k, k < len → ∃ bl off, some a = some ⟨bl, off, none⟩ ∧ bl < W.heap.size ∧ W.cell? ⟨bl, off + k, none⟩ = some (f k) := by
  intro k hk
  obtain ⟨b, off, spot⟩ := a
  have hspot : spot = none := by simpa [Addr.add] using World.cell?_spot (hc 0 (by omega))
  subst hspot
  have h1 := hc k (by omega)
  rw [Go.WideShapes.add_plain] at h1
  exact ⟨b, off, rfl, World.block_lt_of_cell? W _ h1, h1⟩

/-- What a law that answers true leaves. -/
theorem law_post {f : Func} {s : ChangeSpec} {args : Array Value} {ds gs : List (DataW H)} {before : List MemPlace} {tb : TypeId}
    (hl : laidOutB P = true) (hr : ∀ t ∈ f.params.toList, P.readableRec t = true ∧ t < P.types.size) (hvars : s.vars = []) (hres : f.resultTypes = #[tb]) (hbool : P.underlying tb = some .bool)
    (hW : DataW.Whole enc P f.params.toList s.vars false W args.toList ds gs before)
    (hs : gs = [] → (s.fn H (ds ++ gs)).results = [.lit (.bool true)] ∧ (s.fn H (ds ++ gs)).args = ds ∧ (s.fn H (ds ++ gs)).vars = []) (hb : Below W.heap.size W W') :
    s.post enc P f false true false false W args (.bool true) W' := by
  have hlt := hW.lt
  have hW2 := hW
  obtain ⟨p, q, hA, hV, rfl, _, _⟩ := hW
  rw [hvars] at hV
  obtain ⟨rfl, rfl⟩ := trodVars_none hV
  obtain ⟨e1, e2, e3⟩ := hs rfl
  refine ⟨ds, [], _, [], p, [], hW2, ?_, ?_, ?_, World.keptBut_mono (fun x hx => ⟨hx, .inr (.inl (by simpa using hx))⟩) (hb.frame (· ∈ p ++ [])), fun h => by cases h⟩
  · rw [hres, e1]
    exact trodAll_mk1 (shut_bool hbool true)
  · rw [e2]
    exact trodAll_below hl hb _ _ _ _ hr hA (fun x hx => hlt x (by simp [hx]))
  · rw [e3, hvars]
    rfl
end
end Go.Proofs.YtkdihjhndebloaaGreatDoor
