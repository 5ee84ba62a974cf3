/- What is given beside the bodies is right. Conditions: the variable of errors holds the type error. -/
import Derived.Test.YtkdihjhndebloaaGreatDoorEvFnA
import Derived.Test.YtkdihjhndebloaaGreatDoorEvFnD
import Derived.Test.YtkdihjhndebloaaGreatDoorEvFits
set_option linter.unusedSectionVars false
set_option linter.unusedVariables false
set_option linter.unusedSimpArgs false
namespace Go.Ev
open Go Go.Conc Go.RowKit Go.Proofs Go.Proofs.YtkdihjhndebloaaGreatDoor Go.Proofs.Tryz

theorem noNG : NoNG prog := by
  have h : (prog.funcs.all fun fn => !(fn.name == "runtime.NumGoroutine")) = true := by kernel_rfl
  intro f fn hf
  have := Array.all_eq_true'.1 h fn (Array.mem_of_getElem? hf)
  simpa using this
theorem fits_key (f : Nat) (hf : f < 506) : okAt X0 f = true := by
  have hm := Nat.mod_lt f (show 0 < 64 by omega)
  have : f / 64 = 0 ∨ f / 64 = 1 ∨ f / 64 = 2 ∨ f / 64 = 3 ∨ f / 64 = 4 ∨ f / 64 = 5 ∨ f / 64 = 6 ∨ f / 64 = 7 := by omega
  rcases this with h | h | h | h | h | h | h | h
  · have e := List.all_eq_true.1 ft0 (f % 64) (List.mem_range.2 hm)
    rw [show 0 + f % 64 = f by omega] at e
    exact e
  · have e := List.all_eq_true.1 ft1 (f % 64) (List.mem_range.2 hm)
    rw [show 64 + f % 64 = f by omega] at e
    exact e
  · have e := List.all_eq_true.1 ft2 (f % 64) (List.mem_range.2 hm)
    rw [show 128 + f % 64 = f by omega] at e
    exact e
  · have e := List.all_eq_true.1 ft3 (f % 64) (List.mem_range.2 hm)
    rw [show 192 + f % 64 = f by omega] at e
    exact e
  · have e := List.all_eq_true.1 ft4 (f % 64) (List.mem_range.2 hm)
    rw [show 256 + f % 64 = f by omega] at e
    exact e
  · have e := List.all_eq_true.1 ft5 (f % 64) (List.mem_range.2 hm)
    rw [show 320 + f % 64 = f by omega] at e
    exact e
  · have e := List.all_eq_true.1 ft6 (f % 64) (List.mem_range.2 hm)
    rw [show 384 + f % 64 = f by omega] at e
    exact e
  · have e := List.all_eq_true.1 ft7 (f % 64) (List.mem_range.2 hm)
    rw [show 448 + f % 64 = f by omega] at e
    exact e
theorem fits_all : ∀ f fn c, codeOf prog f = some (fn, c) → okC X0 f c = true := by
  intro f fn c h
  have hsz : prog.funcs.size = 506 := by kernel_rfl
  have h0 := h
  simp only [codeOf, Option.bind_eq_some_iff] at h
  obtain ⟨fn', hf, _⟩ := h
  have hlt := (Array.getElem?_eq_some_iff.1 hf).1
  rw [hsz] at hlt
  have key := fits_key f hlt
  unfold okAt at key
  rw [h0] at key
  exact key
theorem okC_plan (ks : List Bool) (f : FuncId) (c : Code) : okC (X1 ks) f c = okC X0 f c := by kernel_rfl
variable [G : Given]
theorem x0_ok (hg : ∀ w : World, w.heap[G.blk]? = some G.obj → ErrVar w) : Xok prog X0 := by
  refine ⟨by kernel_rfl, noNG, fits_all, ?_⟩
  intro f g e
  have e : xf f = some g := e
  unfold xf at e
  simp only [sel_ite] at e
  have hb : ∀ {n : Nat}, Nat.beq f n = true → f = n := fun h => Nat.eq_of_beq_eq_true h
  split at e
  · obtain rfl := hb ‹_›; injection e with e; subst e; exact num_fn (bodied func193 (by kernel_rfl)) num_any
  split at e
  · obtain rfl := hb ‹_›; injection e with e; subst e; exact num_fn (bodied func213 (by kernel_rfl)) numr_any
  split at e
  · obtain rfl := hb ‹_›; injection e with e; subst e; exact sum_fn (bodied func194 (by kernel_rfl)) sum_any
  split at e
  · obtain rfl := hb ‹_›; injection e with e; subst e; exact sum_fn (bodied func125 (by kernel_rfl)) sumr_any
  split at e
  · obtain rfl := hb ‹_›; injection e with e; subst e
    exact cut_fn (ev := errV) (fun m => rfl) (fun m => rfl) rfl rfl (bodied func115 (by kernel_rfl)) (by kernel_rfl) (fun g s bad w h1 h2 => cutnum_any _ _ _ _ h1 h2)
  split at e
  · obtain rfl := hb ‹_›; injection e with e; subst e
    exact cut_fn (ev := Value.bool) (fun m => rfl) (fun m => rfl) rfl rfl (bodied func124 (by kernel_rfl)) (by kernel_rfl) (fun g s bad w h1 h2 => cutnumr_any _ _ _ _ h1 h2)
  split at e
  · obtain rfl := hb ‹_›; injection e with e; subst e
    exact clone_fn (bodied func369 (by kernel_rfl)) (fun w => Go.Proofs.AnyW.maps_Clone_nil layMapClone w) (fun b es clock w h => Go.Proofs.AnyW.maps_Clone layMapClone b es clock w h)
  split at e
  · obtain rfl := hb ‹_›; injection e with e; subst e; exact sortI_fn
  split at e
  · obtain rfl := hb ‹_›; injection e with e; subst e; exact sortS_fn
  split at e
  · obtain rfl := hb ‹_›; injection e with e; subst e
    refine as_fn hg (bodied func111 (by kernel_rfl)) (fun t w => as_nil t w) (fun n t old w h1 h2 h3 => (as_hit n t old w h1 h2 h3).mono ?_)
    rintro ev w' ⟨rfl, rfl⟩
    exact ⟨rfl, _, ((((Kept.refl [] w).alloc _).alloc _).alloc _).alloc _, rfl⟩
  · cases e
theorem x1_ok (h0 : Xok prog X0) {ks : List Bool} (hp : FnOk prog 24 (xPower ks)) : Xok prog (X1 ks) := by
  refine ⟨h0.mixed, h0.ng, fun f fn c h => (okC_plan ks f c).trans (h0.fits f fn c h), ?_⟩
  intro f g e
  have e : sel (Nat.beq f 24) (some (xPower ks)) (xf f) = some g := e
  rw [sel_ite] at e
  split at e
  · rename_i h
    obtain rfl := Nat.eq_of_beq_eq_true h
    injection e with e; subst e; exact hp
  · exact h0.fn f g e
end Go.Ev
