/- A loss of power: its contract in the evaluator's words. Conditions: keep has at most 200 elements. -/
import Derived.Test.YtkdihjhndebloaaGreatDoorEvFnC
import Derived.Test.YtkdihjhndebloaaGreatDoorEvFnB
set_option linter.unusedSectionVars false
set_option linter.unusedVariables false
set_option linter.unusedSimpArgs false
namespace Go.Ev
open Go Go.Conc Go.RowKit Go.Proofs Go.Proofs.YtkdihjhndebloaaGreatDoor Go.Proofs.Tryz
variable [G : Given]

theorem concL_bools (m : M) : ∀ ks : List Bool, concL m (ks.map V.bool) = some (ks.map Value.bool)
  | [] => rfl
  | k :: ks => concL_cons.2 ⟨.bool k, ks.map Value.bool, rfl, concL_bools m ks, rfl⟩
theorem body24 : ∃ c, codeOf prog 24 = some (f24, c) := by
  have h : f24.body.isSome = true := by kernel_rfl
  obtain ⟨c, hc⟩ := Option.isSome_iff_exists.1 h
  exact ⟨c, by simp only [codeOf, func24, Option.bind_some, hc, Option.map_some]⟩
theorem power_fn (hx : Xok prog X0) (hok : okC X0 24 pwRest = true) {ks : List Bool} {A : Option Addr} {K cc : Nat} {kf : Nat → Bool} (hv : G.val 2 = .slice A K cc) (hks : ks = (List.range K).map kf) (hK : K ≤ 200)
    (hrd : ∀ w : World, w.heap[G.kblk]? = some G.kobj → RdB w A K kf) : FnOk prog 24 (xPower ks) := by
  intro l h v h' e
  refine ⟨bodied func24 (by kernel_rfl), fun m w args hr ha => ?_⟩
  unfold xPower at e
  split at e <;> try (cases e; done)
  rename_i f
  simp only [some_ok] at e
  obtain ⟨k, hk, e⟩ := e
  split at e <;> try (cases e; done)
  obtain ⟨c24, hc24⟩ := body24
  rw [H.new_eq, hc24] at e
  simp only at e
  obtain ⟨y, l', hy, hl', rfl⟩ := concL_cons.1 ha
  obtain ⟨z, l'', hz, hl'', rfl⟩ := concL_cons.1 hl'
  obtain rfl := concL_nil.1 hl''
  have hy0 := hy
  simp only [conc, Option.map_eq_some_iff] at hy
  obtain ⟨p, hp, rfl⟩ := hy
  simp only [conc, Option.some.injEq] at hz
  rw [hv] at hz
  subst hz
  obtain ⟨q, hq, q1, q2⟩ := hr.obj hk
  refine power_any A K cc kf w _ (by omega) (hrd w (q1 ▸ q2)) _ ?_
  intro a' w' s1 s2 s3 s4 s5 s6
  have hlen : ks.length = K := by rw [hks]; simp
  have hbuf : bbuf kf 0 K = (ks.map Value.bool).toArray := by
    rw [hks]; unfold bbuf; rw [List.map_map, List.range_eq_range']; simp [Function.comp_def]
  have hlt : ∀ k, k < w.heap.size → w'.heap[k]? = w.heap[k]? := fun k hk => s6.block k hk (by simp)
  obtain ⟨p1, p2⟩ := pushed (w' := w') hr (m' := m.add (w.heap.size, 0)) (h' := h.push (.chan ks.length (ks.map V.bool))) (o := .chan ks.length (ks.map V.bool)) (p := (w.heap.size, 0)) rfl (M.le_add _ _) rfl hr.nc (fun b => H.get_push h b _) (.inl (Nat.le_refl _))
    (fun k hk _ => hlt k hk) ⟨_, K, 0, concL_bools _ ks, by rw [hlen, ← hbuf]; exact s5⟩
  have t1 : Tr m h w (m.add (w.heap.size, 0)) (h.push (.chan ks.length (ks.map V.bool))) w' :=
    ⟨M.le_add _ _, s6.os, s6.tape, s6.output, s6.size, fun k hk _ => hlt k hk, fun k hk => (p2 k hk).imp id (fun e => by omega)⟩
  have hat := add_at (p := (w.heap.size, 0)) hr
  have ht : TmR (m.add (w.heap.size, 0)) ⟨mk24, 86, .cons 0 (.ptr f 0) (.cons 4 (.chan h.next) .nil), .nil⟩ a' := by
    refine ⟨s1, s2, fun {t v} hg => ?_⟩
    rw [getTm_mk] at hg
    split at hg
    · rw [Ts.get_cons, Ts.get_cons] at hg
      split at hg
      · rename_i ht
        subst ht
        injection hg with hg
        subst hg
        exact ⟨_, s3, conc_mono (M.le_add _ _) _ _ hy0⟩
      · split at hg
        · rename_i ht
          subst ht
          injection hg with hg
          subst hg
          exact ⟨_, s4, by simp [conc, hat]⟩
        · cases hg
    · cases hg
  have hE := ev_ok hx 4000
  generalize hr1 : (ev prog X0 4000).code 24 pwRest ⟨mk24, 86, .cons 0 (.ptr f 0) (.cons 4 (.chan h.next) .nil), .nil⟩ (h.push (.chan ks.length (ks.map V.bool))) = r at e
  unfold bodyV at e
  have hdef : ∀ {tm' : TM} {h1 : H} {m' : M} {w2 : World} {a2 : Act}, resultsV prog f24.results.toList tm' h1 = .ok v h' → Tr (m.add (w.heap.size, 0)) (h.push (.chan ks.length (ks.map V.bool))) w' m' h1 w2 → Rel m' h1 w2 → TmR m' tm' a2 →
      a2.defers = [] ∧ ∃ v_1, (results f24 a2.tmps).run prog w2 = .ok v_1 w2 ∧ Gives m h w h' v (.returned v_1) w2 := by
    intro tm' h1 m' w2 a2 e' t2 r1 m1
    obtain ⟨rfl, x, hxc, hrun⟩ := results_run e' r1 m1
    exact ⟨m1.defers, x, hrun, m', t1.trans t2, r1, hxc⟩
  cases r with
  | fail => cases e
  | exit id tm' h1 => cases e
  | norm tm' h1 =>
    refine wp_mono (hE.code 24 pwRest _ _ _ hok hr1 (by simp) _ w' _ p1 ht) fun ex a2 w2 ho => ?_
    cases ex <;> first | exact ho.elim | skip
    obtain ⟨m', t2, r1, m1⟩ := ho
    exact hdef e t2 r1 m1
  | ret tm' h1 =>
    refine wp_mono (hE.code 24 pwRest _ _ _ hok hr1 (by simp) _ w' _ p1 ht) fun ex a2 w2 ho => ?_
    cases ex <;> first | exact ho.elim | skip
    obtain ⟨m', t2, r1, m1⟩ := ho
    exact hdef e t2 r1 m1
end Go.Ev
