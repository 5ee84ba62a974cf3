/- The tied card of WholeSynced holds: whatever the numbers of commits and of steps, whatever pages are kept, what counts behind the loss of power is at least the version whose meta was followed by a sync, and whole. Conditions: the package-level variable of errors holds what the program's text lays in it (the card ties it). The frame was begun as lines of the kit's worked proof of the toy toyas, turned to this claim. -/
import Derived.Test.YtkdihjhndebloaaGreatDoorEvLaw
import Derived.Test.YtkdihjhndebloaaGreatDoorFactA
import Derived.Test.YtkdihjhndebloaaGreatDoorFactB
import Derived.Test.YtkdihjhndebloaaGreatDoorFactC
import Derived.Test.YtkdihjhndebloaaGreatDoorFactD
import Derived.JoinedOf
import Derived.Test.YtkdihjhndebloaaGreatDoorLaw
import Derived.Test.YtkdihjhndebloaaGreatDoorTie
import Derived.Test.YtkdihjhndebloaaGreatDoorCards
import Derived.Test.YtkdihjhndebloaaGreatDoorWGoes
import Derived.ChangeSame
import Derived.ChangeVars
import Derived.LaidLaws
import Derived.LaidHandle
import Derived.Stop.Joined
import Derived.SevenTiedAt
namespace Go.Proofs.YtkdihjhndebloaaGreatDoor
open Go.ChangeShapes Go.WideShapes Go.ChangeAt Go.RowKit

theorem ws_et : Tryz.prog.globalNamed "errors.errorType" = some 0 := by kernel_rfl
theorem ws_rt : (Tryz.prog.cutTypes.find? (·.1 == "internal/reflectlite.rtype")).map (·.2) = some 386 := by kernel_rfl
theorem ws_oneRow : ((List.range 573).filter fun t => Tryz.prog.rowNamed t [101, 114, 114, 111, 114]) = [27] := by kernel_rfl
theorem ws_size : Tryz.prog.types.size = 573 := by kernel_rfl

/-- What the condition gives: the variable's one cell. -/
theorem ws_laid {W : World} (h : laidMetH Tryz.prog Rows.wholeSyncedRow.laid W) : ErrVar W ∧ ∃ cs t fz, W.heap[0]? = some (.cells cs t fz) ∧ cs.size = 1 := by
  have h' : laidMet Tryz.prog [] W ∧ handlesMet Tryz.prog Rows.wholeSyncedRow.laid W := h
  obtain ⟨name, u, ty, e1, e2, e3, e4, e5⟩ := h'.2 _ (List.mem_singleton.2 rfl)
  have en : name = [101, 114, 114, 111, 114] := (Option.some.inj e1).symm
  subst en
  obtain rfl := Option.some.inj (ws_rt.symm.trans e2)
  have hm : ty ∈ (List.range 573).filter fun t => Tryz.prog.rowNamed t [101, 114, 114, 111, 114] := List.mem_filter.2 ⟨List.mem_range.2 (by rw [← ws_size]; exact e3), e4⟩
  rw [ws_oneRow] at hm
  obtain rfl := List.mem_singleton.1 hm
  have hh : typeHandle Tryz.prog 27 = .pointer (some ⟨1, 27, none⟩) := by kernel_rfl
  rw [hh] at e5
  refine ⟨by simpa [ErrVar] using World.var?_cell ws_et e5 0, ?_⟩
  simp only [World.var?, ws_et, Option.bind_some] at e5
  split at e5
  · rename_i cs t fz hc
    injection e5 with e5
    exact ⟨cs, t, fz, hc, by rw [e5]; rfl⟩
  · cases e5

/-- A world that meets the condition: the settled one, the variable's cell laid. -/
noncomputable def ws_world (os : Os) : World :=
  let w0 := World.holding Tryz.prog os ⟨#[], #[], []⟩
  { w0 with heap := w0.heap.modify 0 fun
      | .cells _ t frozen => .cells #[.iface 386 (.agg #[.pointer (some ⟨1, 27, none⟩)])] t frozen
      | o => o }
theorem ws_world_met (os : Os) (args : Array Value) : laidMetH Tryz.prog Rows.wholeSyncedRow.laid ((ws_world os).forCall (fun _ _ => 0) ⟨#[], args, []⟩).memory :=
  laidMetH_of_parts (laidMet_nil _ _) (by kernel_rfl)
theorem ws_second {W : World} (h : W.ShapedOpen Tryz.prog) : ∃ o, W.heap[1]? = some o := by
  have hg : Tryz.prog.globals.size = 1 := by kernel_rfl
  have hs : decide (1 < (begin Tryz.prog (fun _ _ => 0) default).world.heap.size) = true := by kernel_rfl
  obtain ⟨o, _, ho, _⟩ := h.2 1 (by rw [hg]; exact Nat.le_refl 1) (of_decide_eq_true hs)
  exact ⟨o, ho⟩

set_option maxRecDepth 100000 in
theorem ws_lifted (os : Os) (started : os.Started) (H : Type) (enc : TypeId × Value → H) :
    ReturnsInHanded {} Tryz.checked os 3 .any (fun w args => (Rows.wholeSyncedSpec.pre enc Tryz.prog Tryz.f3 Rows.wholeSyncedRow.domain false w args ∧ laidMetH Tryz.prog Rows.wholeSyncedRow.laid w) ∧ sizedMet enc Tryz.prog Tryz.f3 (OpenSpec.ofChange Rows.wholeSyncedSpec) false w args)
      (Rows.wholeSyncedSpec.post enc Tryz.prog Tryz.f3 false true false false) := by
  refine returnsInHanded_of_calls (C := Tryz.checked) Tryz.own started (by kernel_rfl)
    (ChangeSpec.witness_at (enc := enc) (C := Tryz.checked) (os := os) (X := fun w _ => laidMetH Tryz.prog Rows.wholeSyncedRow.laid w) false (ws_world os) #[.int .u8 0, .int .u8 0, .slice none 0 0] 8 rfl (by kernel_rfl) (by kernel_rfl) (by kernel_rfl) (by kernel_rfl) (by kernel_rfl) (ws_world_met os _)) ?_
  intro w tape i _ hshape _ hok hpre _
  obtain ⟨_, _, _, fn', hfn', _, _, _, _, hval0⟩ := hok
  obtain rfl : fn' = Tryz.f3 := Option.some.inj (hfn'.symm.trans Tryz.func3)
  obtain ⟨⟨⟨ds, gs, before, hw0, hc0⟩, hx⟩, hz⟩ := hpre
  have hW : DataW.Whole enc Tryz.prog Tryz.f3.params.toList Rows.wholeSyncedSpec.vars false (w.forCall tape i) i.args.toList ds gs before := DataW.Whole.of_heap (w' := w.forCall tape i) (by rfl) hw0
  have hL : laidMetH Tryz.prog Rows.wholeSyncedRow.laid (w.forCall tape i) := laidMetH.of_heap (w := (w.forCall tape i).memory) (by rfl) hx
  obtain ⟨hev, cs0, t0, fz, h00, hsz⟩ := ws_laid hL
  have h1 := ws_second hshape
  generalize w.forCall tape i = W at hW hL hev h00 h1 hval0 ⊢
  generalize i.args = args at hW hval0 ⊢
  have hval : ∀ (j : Nat) t v, Tryz.f3.params[j]? = some t → args[j]? = some v → Value.okWide Tryz.prog W .any w.heap.size t v := hval0
  have hW' := hW
  obtain ⟨p, q, hA0, _, _, _, _⟩ := hW
  have hA : DataW.TrodAll enc Tryz.prog W 0 (fun _ => true) true Tryz.f3.params.toList args.toList ds p := hA0
  rw [Tryz.params3] at hA hval
  obtain ⟨v0, v1, v2, d0, d1, d2, q0, q1, q2, rfl, rfl, rfl, g0, g1, g2⟩ := trodAll_three hA
  obtain ⟨n, rfl, rfl, rfl, wn⟩ := open_int Tryz.underlying5 (hval 0 5 v0 rfl rfl) g0
  obtain ⟨x, rfl, rfl, rfl, wx⟩ := open_int Tryz.underlying5 (hval 1 5 v1 rfl rfl) g1
  obtain ⟨a0, len, cap, rfl⟩ := okWide_slice Tryz.underlying22 (hval 2 22 v2 rfl rfl)
  obtain ⟨n, rfl⟩ : ∃ m : Nat, n = (m : Int) := ⟨n.toNat, by simp [Lit.wf, IntKind.min, IntKind.max, IntKind.signed, IntKind.bits] at wn; omega⟩
  obtain ⟨x, rfl⟩ : ∃ m : Nat, x = (m : Int) := ⟨x.toNat, by simp [Lit.wf, IntKind.min, IntKind.max, IntKind.signed, IntKind.bits] at wx; omega⟩
  have hst : ∃ st : Nat → Bool, ∀ k, k < len → ∃ bl off, a0 = some ⟨bl, off, none⟩ ∧ bl < W.heap.size ∧ W.cell? ⟨bl, off + k, none⟩ = some (.bool (st k)) := by
    obtain ⟨fuel, hf⟩ := g2
    rcases Go.Deep.open_bools Tryz.underlying22 Tryz.underlying4 (by kernel_rfl) hf with ⟨hcs, _⟩ | ⟨a, len', cap', B, hcs, _, hl, hm, _, hcell⟩
    · simp [Value.cells] at hcs
      obtain ⟨rfl, rfl, rfl⟩ := hcs
      exact ⟨fun _ => false, fun k hk => absurd hk (by omega)⟩
    · simp [Value.cells] at hcs
      obtain ⟨rfl, rfl, rfl⟩ := hcs
      exact ⟨B, row_of hl hcell⟩
  obtain ⟨st, hrow⟩ := hst
  refine (Go.Ev.whole_any W n x a0 len cap st hev h00 hsz h1 hrow).mono ?_
  rintro e W' ⟨rfl, hk⟩
  exact ChangeSpec.post_blind (law_post (tb := 4) Tryz.laidOut (by rw [Tryz.params3]; intro t ht; simp at ht; rcases ht with rfl | rfl <;> exact ⟨by kernel_rfl, of_decide_eq_true (by kernel_rfl)⟩) rfl (by kernel_rfl) Tryz.underlying4 hW' (fun h => by subst h; exact ⟨rfl, rfl, rfl⟩) hk.below0)

theorem ws_closed : joinedFacts Tryz.prog 3 Tryz.f3 Rows.wholeSyncedSpec Rows.wholeSyncedRow = true := by
  unfold joinedFacts
  rw [ws_n0, ws_n1, ws_n2, ws_n3]
  kernel_rfl
theorem wholeSynced_said : Rows.WholeSyncedSaid :=
  OpenClaim.holds_of_wide 3 Tryz.f3 rfl rfl rfl rfl rfl rfl rfl ⟨rfl, rfl, rfl, rfl, rfl⟩ rfl rfl rfl rfl rfl (by kernel_rfl) Tryz.func3 ws_closed
    (of_decide_eq_true (by kernel_rfl)) (by unfold Func.isWrapper; first | (rw [if_pos (by decide +kernel)]; kernel_rfl) | (rw [if_neg (by decide +kernel)]; exact ⟨rfl, rfl⟩))
    (fun os started H enc _ => ws_lifted os started H enc)

theorem wholeSynced_holds : Rows.WholeSyncedCardSaid :=
  Claim7.holds_tied_plain_at .later [] [.handle] true (true, "6dce159c992fd733be0dbc81d807d6380aa80d6d032a427c9f81c4c42b531264") true
    wholeSynced_said (fun _ h => by cases h) (by kernel_rfl) (fun _ h => by cases h) wholeSynced_row_tie rfl ⟨rfl, rfl⟩ (by kernel_rfl) rfl
    (fun f fn hf hfn => by
      obtain rfl : f = 3 := Option.some.inj ((show Tryz.prog.funcNamed "copyhold/copyholdtop.WholeSynced" = some 3 by kernel_rfl).symm.trans hf) |>.symm
      obtain rfl : fn = Tryz.f3 := (Option.some.inj (Tryz.func3.symm.trans hfn)).symm
      exact ⟨by kernel_rfl, fun j t ht => by
        rw [Tryz.params3] at ht
        have h3 : t = 5 ∨ t = 22 := by
          rcases j with _ | _ | _ | j
          · exact .inl (by simpa using ht.symm)
          · exact .inl (by simpa using ht.symm)
          · exact .inr (by simpa using ht.symm)
          · simp at ht
        rcases h3 with rfl | rfl
        · exact (show Tryz.prog.wantsStandIn 5 = false by kernel_rfl)
        · exact (show Tryz.prog.wantsStandIn 22 = false by kernel_rfl)⟩)
    (goes_none Tryz.prog goes_all _).symm
end Go.Proofs.YtkdihjhndebloaaGreatDoor
