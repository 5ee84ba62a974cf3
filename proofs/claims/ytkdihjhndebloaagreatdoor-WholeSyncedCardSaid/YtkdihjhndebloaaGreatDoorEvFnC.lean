/- A loss of power: what keep says is sent to a channel, then the rest is the evaluator's. Conditions: keep has at most 65536 elements. -/
import Derived.Test.YtkdihjhndebloaaGreatDoorComm
import Derived.Test.YtkdihjhndebloaaGreatDoorPackSum
import Derived.IntWalk
import Derived.Deep.Cut
import Derived.Test.YtkdihjhndebloaaGreatDoorEvCode
import Derived.Test.YtkdihjhndebloaaGreatDoorEvParts
set_option linter.unusedSectionVars false
set_option linter.unusedVariables false
set_option linter.unusedSimpArgs false
namespace Go.Ev
open Go Go.Conc Go.RowKit Go.Proofs Go.Proofs.YtkdihjhndebloaaGreatDoor Go.Proofs.Tryz
def bbuf (f : Nat → Bool) (t K : Nat) : Array Value := ((List.range' t (K - t)).map fun i => Value.bool (f i)).toArray
theorem bbuf_push (f : Nat → Bool) (k : Nat) : (bbuf f 0 k).push (.bool (f k)) = bbuf f 0 (k + 1) := by
  unfold bbuf
  rw [List.push_toArray, Nat.sub_zero, Nat.sub_zero, List.range'_1_concat, List.map_append]
  simp
theorem bbuf_size (f : Nat → Bool) (t K : Nat) : (bbuf f t K).size = K - t := by simp [bbuf]
theorem mk_kept (K : Nat) (hK : K ≤ 65536) (w : World) : (Instr.makeChan 150 (.int .i64 K)).run prog w = .ok (.chan (some w.heap.size)) (w.alloc (.chan K #[] false 0 0 false)) := by
  have hb : (prog.info? 4).map (·.bytes) = some 1 := by kernel_rfl
  obtain ⟨i, hi, hb⟩ := Option.map_eq_some_iff.1 hb
  simpa using run_makeChan (P := prog) (w := w) underlying150 hi .i64 K (by omega) (by rw [hb]; omega)
def RdB (w : World) (A : Option Addr) (n : Nat) (f : Nat → Bool) : Prop := ∀ k, k < n → ∃ bl off, A = some ⟨bl, off, none⟩ ∧ bl < w.heap.size ∧ w.cell? ⟨bl, off + k, none⟩ = some (.bool (f k))
theorem RdB.kept0 {w w' : World} {A : Option Addr} {n : Nat} {f : Nat → Bool} (h : RdB w A n f) (k : Kept [] w w') : RdB w' A n f := fun i hi => by
  obtain ⟨bl, off, hA, hlt, hc⟩ := h i hi
  exact ⟨bl, off, hA, Nat.lt_of_lt_of_le hlt k.size, (World.cell?_of_block (k.block bl hlt (by simp))).trans hc⟩
set_option maxRecDepth 100000 in
set_option maxHeartbeats 2000000 in
theorem power_any (A : Option Addr) (K cc : Nat) (kf : Nat → Bool) (w : World) (ptr : Value) (hK : K ≤ 65536) (hr : RdB w A K kf) (Q : Ending → World → Prop)
    (hrest : ∀ a' w', a'.tmps.size = 86 → a'.defers = [] → a'.tmps[0]? = some ptr → a'.tmps[4]? = some (.chan (some w.heap.size)) → w'.heap[w.heap.size]? = some (.chan K (bbuf kf 0 K) false K 0 false) → Kept [] w w' → Code.wp prog pwRest (bodyPost prog f24 Q) a' w') :
   Calls prog 24 #[ptr, .slice A K cc] w Q := by
  have HR := hide hr
  have hmk := mk_kept K hK
  clear hr
  go_enter func24, ntmps24
  have hrest' := hide hrest
  clear hrest
  refine wp_seq (wp_mono (Q := fun e a' w' => e = .normal ∧ a' = { tmps := #[ptr, .slice A K cc, undef, undef, .chan (some w.heap.size), undef, undef, undef, undef, undef, .slice A K cc, .int .i64 K, .chan (some w.heap.size), undef, undef, undef, undef, undef, undef, undef, undef, undef, undef, undef, undef, undef, undef, undef, undef, undef, undef, undef, undef, undef, undef, undef, undef, undef, undef, undef, undef, undef, undef, undef, undef, undef, undef, undef, undef, undef, undef, undef, undef, undef, undef, undef, undef, undef, undef, undef, undef, undef, undef, undef, undef, undef, undef, undef, undef, undef, undef, undef, undef, undef, undef, undef, undef, undef, undef, undef, undef, undef, undef, undef, undef, undef], defers := [] } ∧ w' = w.alloc (.chan K #[] false 0 0 false)) ?_ ?_)
  case refine_1 =>
    go_wp2
  rintro e a' w' ⟨rfl, rfl, rfl⟩
  clear hmk
  refine wp_seq (wp_mono (Q := fun e a' w' => e = .normal ∧ a'.tmps.size = 86 ∧ a'.defers = [] ∧ a'.tmps[0]? = some ptr ∧ a'.tmps[4]? = some (.chan (some w.heap.size)) ∧ w'.heap[w.heap.size]? = some (.chan K (bbuf kf 0 K) false K 0 false) ∧ Kept [] w w') ?_ ?_)
  case refine_2 =>
    rintro e a' w' ⟨rfl, h1, h2, h3, h4, h5, h6⟩
    exact hrest'.out a' w' h1 h2 h3 h4 h5 h6
  clear hrest'
  generalize hcs : w.heap.size = ch
  have HCS := hide hcs
  clear hcs
  go_wp2
  go_loopw [6, 15] (fun _ i wz => ∃ k : Nat, k ≤ K ∧ i = .int .i64 k ∧ wz.heap[ch]? = some (.chan K (bbuf kf 0 k) false k 0 false) ∧ Kept [] w wz) (fun _ i _ => K - (intOf i).toNat)
  case atStart => exact ⟨0, Nat.zero_le _, rfl, by rw [← HCS.out]; exact heap_alloc_new w _, (Kept.refl _ _).alloc _⟩
  case round =>
    obtain ⟨k, hk, rfl, hch, hKp⟩ := hrel
    by_cases hlt : k < K
    · obtain ⟨bl, off, hA, _, hc⟩ := (HR.out.kept0 hKp) k hlt
      subst hA
      have HP := hide (bbuf_push kf k)
      generalize kf k = y at hc HP
      go_upto_region 4 with (fail)
      refine wp_send2 (c := ch) (z := .tuple #[]) (v := .bool y) (v0 := .chan (some ch)) (v1 := .bool y) rfl rfl rfl rfl (by simp [go_sem, execOp, Act.eval]) (by simp [go_sem, execOp, scase, Act.eval, Act.put]) hch (by rw [bbuf_size]; omega) ?_
      go_wp2
      go_roundw
      case rel => exact ⟨k + 1, hlt, by go_num, by rw [chan_set _ _ _ _ _ _ _ _ (chan_lt hch), HP.out], kept_setChan hKp (.inr (by rw [HCS.out]; exact Nat.le_refl _)) _ _ _ _ _ _⟩
      case measure => simp [intOf]; omega
    · obtain rfl : k = K := by omega
      go_wp2
end Go.Ev
