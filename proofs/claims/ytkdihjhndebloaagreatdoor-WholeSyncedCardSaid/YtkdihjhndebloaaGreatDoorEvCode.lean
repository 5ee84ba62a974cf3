/- Regions in order, drawn regions, code, loops, calls: the evaluator is sound. Conditions: what is given beside the bodies is right. -/
import Derived.Test.YtkdihjhndebloaaGreatDoorEvTurn
import Derived.Conc.LoneSelect
import Derived.OrdersHeld
import Derived.Scope
set_option linter.unusedSectionVars false
set_option linter.unusedVariables false
set_option linter.unusedSimpArgs false
namespace Go.Ev
open Go Go.Conc Go.RowKit

section
variable {P : Program} {ops : Array Oper} {Q : Exit → Act → World → Prop} {a : Act} {w w' : World} {i : Nat} {o : Oper}

/-- A region under way, the operations l still to come. -/
def InR (P : Program) (ops : Array Oper) (Q : Exit → Act → World → Prop) (l : List Nat) (a : Act) (w : World) : Prop :=
  ∀ (b : Frame) (k : List Item) (cs : List Frame), ∃ e a' w', Q e a' w' ∧ Arrives P (lone (b.at a (.inRegion ops l :: k)) cs w) b k cs e a' w'
/-- One operation. -/
def St (P : Program) (ops : Array Oper) (Q : Exit → Act → World → Prop) (i : Nat) (K : Act → World → Prop) (a : Act) (w : World) : Prop :=
  ∀ rest, (∀ a' w', K a' w' → InR P ops Q rest a' w') → InR P ops Q (i :: rest) a w
theorem InR.nil (h : Q .normal a w) : InR P ops Q [] a w := fun _ _ _ => ⟨.normal, a, w, h, .one step_region_end⟩
theorem St.mono {K K' : Act → World → Prop} (h : St P ops Q i K a w) (hk : ∀ a w, K a w → K' a w) : St P ops Q i K' a w := fun rest hr => h rest fun a' w' h' => hr a' w' (hk a' w' h')
theorem finish_in {b : Frame} {k : List Item} {rest : List Nat} (ho : ops[i]? = some o) (v : Value) :
    (b.at a (.inRegion ops (i :: rest) :: k)).finish v = b.at (a.put o.dst v) (.inRegion ops rest :: k) := by
  rw [Frame.finish_at, ho]; rfl
theorem St.skip {K : Act → World → Prop} (ho : ops[i]? = some o) (hw : Region.wanted o (yielded ops a.tmps) = false) (h : K (a.put o.dst undef) w) : St P ops Q i K a w := by
  intro rest hr b k cs
  obtain ⟨e, a', w', hq, harr⟩ := hr _ _ h b k cs
  have hs := step_op_skip (P := P) (b := b) (a := a) (k := k) (cs := cs) (w := w) (ops := ops) (i := i) (rest := rest) (by simp [ho]; simpa using hw)
  simp only [ho, Option.bind_some] at hs
  exact ⟨e, a', w', hq, .of_steps (.one hs) harr⟩
theorem St.of_wp {K : Act → World → Prop} (ho : ops[i]? = some o) (hw : Region.wanted o (yielded ops a.tmps) = true) (h : o.wp P a w K Q ∨ (o.asks P a w ∧ LetsOut Q)) : St P ops Q i K a w := by
  intro rest hrest b k cs
  rcases h with h | ⟨hasks, a₀, w₀, hq⟩
  case inr =>
    by_cases hk : b.kind = .early
    · exact ⟨.outgrown, a₀, w₀, hq, .inl hk⟩
    · exact ⟨.outgrown, a₀, w₀, hq, .inr (asks_outgrown ho hw hk hasks)⟩
  simp only [Oper.wp, Oper.upon] at h
  have hg := stepG_op (P := P) (b := b) (k := k) (cs := cs) (w := w) (rest := rest) ho hw
  have hfin : ∀ v, (b.at a (.inRegion ops (i :: rest) :: k)).finish v = b.at (a.put o.dst v) (.inRegion ops rest :: k) := finish_in ho
  split at h
  · rename_i v w' hr
    obtain ⟨e, a', w'', hq, harr⟩ := hrest _ _ h b k cs
    refine ⟨e, a', w'', hq, .of_steps (.one (step_lone_go ?_)) harr⟩
    rw [hg, ← hfin]; simp [stepG.apply, hr]
  · rename_i w' hr
    obtain ⟨e, a', w'', hq, harr⟩ := hrest _ _ h b k cs
    refine ⟨e, a', w'', hq, .of_steps (.one (step_lone_go ?_)) harr⟩
    rw [hg, ← hfin]; simp [stepG.apply, hr]
  · rename_i d w' hr
    obtain ⟨e, a', w'', hq, harr⟩ := hrest _ _ h b k cs
    refine ⟨e, a', w'', hq, .of_steps (.one (step_lone_go ?_)) harr⟩
    have : ({ b.at a (.inRegion ops (i :: rest) :: k) with defers := d :: a.defers } : Frame).finish undef =
        b.at ({ a with defers := d :: a.defers }.put o.dst undef) (.inRegion ops rest :: k) := by
      have := Frame.finish_at b { a with defers := d :: a.defers } ops i rest k undef
      rw [ho] at this; exact this
    rw [hg]; simp only [stepG.apply, Sem.runT_eq, hr, GStep.bare_after]
    exact congrArg (fun fr => GStep.go { frame := fr, callers := cs, status := .running, dying := none } w') this
  · rename_i f args w' hr
    obtain ⟨e, w'', fr, hR, hsteps, _, hleave⟩ := h (b.at a (.inRegion ops (i :: rest) :: k) :: cs)
    have henter : step P (lone (b.at a (.inRegion ops (i :: rest) :: k)) cs w) =
        .next (lone (Frame.enter P f args .normal) (b.at a (.inRegion ops (i :: rest) :: k) :: cs) w') :=
      step_lone_go (by rw [hg]; simp [stepG.apply, hr, Frame.at])
    cases e with
    | returned v =>
      obtain ⟨e, a', w₃, hq, harr⟩ := hrest _ _ hR b k cs
      refine ⟨e, a', w₃, hq, .of_steps (.head henter (hsteps.trans (.one ?_))) harr⟩
      rw [← hfin]; exact step_leave_returned hleave
    | panicked chain =>
      refine ⟨.panic chain, a, w'', hR, .inRegion ops (i :: rest) :: k, .head henter (hsteps.trans (.one ?_))⟩
      rw [← Frame.raise_at]; exact step_leave_panicked hleave
    | outgrown =>
      obtain ⟨a₀, w₀, hq⟩ := hR
      exact ⟨.outgrown, a₀, w₀, hq, .inr (Outgrown.of_steps (.one henter) hsteps)⟩
  · rename_i row args w' hr
    obtain ⟨v, w'', hR, hsteps⟩ := h (b.at a (.inRegion ops (i :: rest) :: k)) cs
    have henter : step P (lone (b.at a (.inRegion ops (i :: rest) :: k)) cs w) =
        .next (lone (Frame.ofRow P row args .normal) (b.at a (.inRegion ops (i :: rest) :: k) :: cs) w') :=
      step_lone_go (by rw [hg]; simp [stepG.apply, hr, Frame.at])
    obtain ⟨e, a', w₃, hq, harr⟩ := hrest _ _ hR b k cs
    refine ⟨e, a', w₃, hq, .of_steps (.head henter ?_) harr⟩
    rw [← hfin]; exact hsteps
  · rename_i v w' hr
    refine ⟨_, a, w', h, .inRegion ops (i :: rest) :: k, .one (step_lone_go ?_)⟩
    rw [hg, ← Frame.raise_at]; simp [stepG.apply, hr]
  · exact h.elim
theorem St.of_wpOp {K : Act → World → Prop} (h : wpOp P ops Q i K a w) : St P ops Q i K a w := by
  unfold wpOp at h
  cases ho : ops[i]? with
  | none =>
    simp only [ho] at h
    intro rest hr b k cs
    obtain ⟨e, a', w', hq, harr⟩ := hr a w h b k cs
    have hs := step_op_skip (P := P) (b := b) (a := a) (k := k) (cs := cs) (w := w) (ops := ops) (i := i) (rest := rest) (by simp [ho])
    simp only [ho, Option.bind_none, Act.put] at hs
    exact ⟨e, a', w', hq, .of_steps (.one hs) harr⟩
  | some o =>
    simp only [ho] at h
    by_cases hw : Region.wanted o (yielded ops a.tmps) = true
    · simp only [hw, if_true] at h; exact .of_wp ho hw h
    · simp only [hw, if_false, Bool.false_eq_true] at h; exact .skip ho (by simpa using hw) h
end

/-! ### sends and selects -/
section
variable {P : Program} {ops : Array Oper} {Q : Exit → Act → World → Prop} {a : Act} {w w' : World} {i : Nat} {o : Oper} {rest : List Nat} {c cap s r : Nat} {buf : Array Value} {z v : Value} {tm closed : Bool} {K : Act → World → Prop}
theorem stepG_comm_any {b : Frame} {k : List Item} {cs : List Frame} {cases : Array CommCase} {blocking : Bool} {shape : CommShape} (ho : ops[i]? = some o) (hw : Region.wanted o (yielded ops a.tmps) = true)
    (hr : (execOp a.eval o).run P w = .ok (.comm cases blocking shape) w') :
    ∃ es, stepG P true (G (b.at a (.inRegion ops (i :: rest) :: k)) cs) w = .comm (G (b.at a (.inRegion ops (i :: rest) :: k)) cs) cases blocking shape w' es := by
  have h := stepG_op (P := P) (b := b) (a := a) (k := k) (cs := cs) (w := w) (rest := rest) ho hw
  simp only [G]
  rw [h]
  simp [stepG.apply, hr, GStep.after]
theorem st_send (ho : ops[i]? = some o) (hw : Region.wanted o (yielded ops a.tmps) = true) (hr : (execOp a.eval o).run P w = .ok (.comm #[scase c v z] true .send) w)
    (hc : w.heap[c]? = some (.chan cap buf false s r tm)) (hroom : buf.size < cap) (h : K (a.put o.dst undef) (w.setChan c cap (buf.push v) false (s + 1) r tm)) : St P ops Q i K a w := by
  intro rest hrest b k cs
  obtain ⟨e, a', w₂, q, hre⟩ := hrest _ _ h b k cs
  obtain ⟨es, hst⟩ := stepG_comm_any (b := b) (k := k) (cs := cs) (rest := rest) ho hw hr
  have hs := step_lone_send_room hst hc hroom
  rw [finish_in ho] at hs
  exact ⟨e, a', w₂, q, .of_steps (.one hs) hre⟩
theorem st_sel_send (ho : ops[i]? = some o) (hw : Region.wanted o (yielded ops a.tmps) = true) (hr : (execOp a.eval o).run P w = .ok (.comm #[scase c v z] false .select) w)
    (hc : w.heap[c]? = some (.chan cap buf false s r tm)) (hroom : buf.size < cap)
    (h : K (a.put o.dst (.tuple #[goInt 0, .bool false])) (w.setChan c cap (buf.push v) false (s + 1) r tm)) : St P ops Q i K a w := by
  intro rest hrest b k cs
  obtain ⟨e, a', w₂, q, hre⟩ := hrest _ _ h b k cs
  obtain ⟨es, hst⟩ := stepG_comm_any (b := b) (k := k) (cs := cs) (rest := rest) ho hw hr
  have hs := step_lone_select_send_room hst hc hroom
  rw [finish_in ho] at hs
  exact ⟨e, a', w₂, q, .of_steps (.one hs) hre⟩
theorem st_sel_full (ho : ops[i]? = some o) (hw : Region.wanted o (yielded ops a.tmps) = true) (hr : (execOp a.eval o).run P w = .ok (.comm #[scase c v z] false .select) w)
    (hc : w.heap[c]? = some (.chan cap buf false s r tm)) (hfull : cap ≤ buf.size)
    (h : K (a.put o.dst (.tuple #[goInt (-1), .bool false])) w) : St P ops Q i K a w := by
  intro rest hrest b k cs
  obtain ⟨e, a', w₂, q, hre⟩ := hrest _ _ h b k cs
  obtain ⟨es, hst⟩ := stepG_comm_any (b := b) (k := k) (cs := cs) (rest := rest) ho hw hr
  have hs := step_lone_select_send_full hst hc hfull
  rw [finish_in ho] at hs
  exact ⟨e, a', w₂, q, .of_steps (.one hs) hre⟩
theorem st_sel_recv (ho : ops[i]? = some o) (hw : Region.wanted o (yielded ops a.tmps) = true) (hr : (execOp a.eval o).run P w = .ok (.comm #[rcase c z] false .select) w)
    (hc : w.heap[c]? = some (.chan cap buf closed s r tm)) (hsome : 0 < buf.size)
    (h : K (a.put o.dst (.tuple #[goInt 0, .bool true, buf.getD 0 undef])) (w.setChan c cap (buf.extract 1 buf.size) closed s (r + 1) tm)) : St P ops Q i K a w := by
  intro rest hrest b k cs
  obtain ⟨e, a', w₂, q, hre⟩ := hrest _ _ h b k cs
  obtain ⟨es, hst⟩ := stepG_comm_any (b := b) (k := k) (cs := cs) (rest := rest) ho hw hr
  have hs := step_lone_select_recv_buf hst hc hsome
  rw [finish_in ho] at hs
  exact ⟨e, a', w₂, q, .of_steps (.one hs) hre⟩
theorem st_sel_none (ho : ops[i]? = some o) (hw : Region.wanted o (yielded ops a.tmps) = true) (hr : (execOp a.eval o).run P w = .ok (.comm #[rcase c z] false .select) w)
    (hc : w.heap[c]? = some (.chan cap #[] false s r tm))
    (h : K (a.put o.dst (.tuple #[goInt (-1), .bool false, z])) w) : St P ops Q i K a w := by
  intro rest hrest b k cs
  obtain ⟨e, a', w₂, q, hre⟩ := hrest _ _ h b k cs
  obtain ⟨es, hst⟩ := stepG_comm_any (b := b) (k := k) (cs := cs) (rest := rest) ho hw hr
  have hs := step_lone_select_default hst hc
  rw [finish_in ho] at hs
  exact ⟨e, a', w₂, q, .of_steps (.one hs) hre⟩
end

section
variable [Given] {P : Program} {m : M} {h h' : H} {w : World} {tm : TM} {a : Act} {o : Oper} {v : V} {call : Call0} {ops : Array Oper} {Q : Exit → Act → World → Prop} {i : Nat}

/-- What an operation of a region must give, whatever follows. -/
def Sx (P : Program) (ops : Array Oper) (i : Nat) (m : M) (o : Oper) (a : Act) (w : World) (h h' : H) (v : V) : Prop :=
  ∀ (K : Act → World → Prop) (Q : Exit → Act → World → Prop), (∀ m' w' x, Tr m h w m' h' w' → Rel m' h' w' → conc m' v = some x → K (a.put o.dst x) w') → St P ops Q i K a w
theorem Ox.sx (ho : ops[i]? = some o) (hw : Region.wanted o (yielded ops a.tmps) = true) (x : Ox P m o a w h h' v) : Sx P ops i m o a w h h' v := fun _ _ hK => .of_wp ho hw (.inl (x.wp fun x w' ⟨m', h1, h2, h3⟩ => hK m' w' x h1 h2 h3))
theorem Rel.chan (hr : Rel m h w) {b : Nat} {p : Nat × Nat} {cap cap' : Nat} {buf buf' : List V} {l l' : List Value} {s r s' r' : Nat} (hg : h.get b = some (.chan cap buf)) (hp : m.blk[b]? = some p)
    (hw : w.heap[p.1]? = some (.chan cap l.toArray false s r false)) (hl : concL m buf' = some l') :
    Rel m (h.set b (.chan cap' buf')) (w.setChan p.1 cap' l'.toArray false s' r' false) ∧ Tr m h w m (h.set b (.chan cap' buf')) (w.setChan p.1 cap' l'.toArray false s' r' false) := by
  refine hr.upd hg hp (by simp [World.setChan]) (fun k hk => ?_) ⟨l', s', r', hl, heap_setChan w p.1 cap' _ _ _ _ _ (Array.getElem?_eq_some_iff.1 hw).1⟩ rfl rfl rfl
  simp only [World.setChan]
  rw [Array.getElem?_setIfInBounds_ne (Ne.symm hk)]
theorem s_send {c x : Operand} (hop : o.op = .send c x) (ho : ops[i]? = some o) (hw : Region.wanted o (yielded ops a.tmps) = true) (e : oSend c x P call tm h = .ok v h') (hr : Rel m h w) (ht : TmR m tm a) : Sx P ops i m o a w h h' v := by
  simp only [oSend, some_ok] at e
  obtain ⟨cv, hcv, xv, hxv, e⟩ := e
  have cc := look_conc ht hcv
  have cx := look_conc ht hxv
  unfold sendV at e
  split at e <;> try (cases e; done)
  simp only [some_ok] at e
  obtain ⟨ob, hob, e⟩ := e
  simp only [conc, Option.map_eq_some_iff] at cc
  obtain ⟨p, hp, cc⟩ := cc
  have hobj := hr.at hob hp
  split at e <;> try (cases e; done)
  rename_i cap buf
  obtain ⟨l, s, r, hl, hch⟩ := hobj
  rw [sel_ite] at e
  split at e
  · rename_i hroom
    have hroom : l.length < cap := by rw [concL_length hl]; simpa using hroom
    simp only [sel_false, appN_eq] at e
    injection e with e1 e2
    subst e1 e2
    intro K Q hK
    have hup := hr.chan (cap' := cap) (s' := s + 1) (r' := r) hob hp hch (concL_append.2 ⟨_, _, hl, concL_cons.2 ⟨_, _, cx, concL_nil.2 rfl, rfl⟩, rfl⟩)
    refine st_send (c := p.1) (cap := cap) (buf := l.toArray) (s := s) (r := r) (v := a.eval x) (z := .tuple #[]) (tm := false) ho hw (by simp [execOp, hop, ← cc, scase]) hch (by simpa using hroom) ?_
    have : (l.toArray.push (a.eval x)) = (l ++ [a.eval x]).toArray := by simp
    rw [this]
    exact hK _ _ _ hup.2 hup.1 rfl
  · simp only [sel_false] at e
    cases e
theorem s_select {cs : Array SelectCase} {bl : Bool} (hop : o.op = .select cs bl) (ho : ops[i]? = some o) (hw : Region.wanted o (yielded ops a.tmps) = true) (e : oSelect cs bl P call tm h = .ok v h') (hr : Rel m h w) (ht : TmR m tm a) : Sx P ops i m o a w h h' v := by
  unfold oSelect at e
  split at e <;> try (cases e; done)
  rename_i sc hsc
  have hcs : cs = #[sc] := by apply Array.ext'; simpa using hsc
  subst hcs
  split at e
  · rename_i x hx
    simp only [some_ok] at e
    obtain ⟨zt, hzt, cv, hcv, xv, hxv, e⟩ := e
    obtain ⟨z, hz, hzr⟩ := run_zero (P := P) hzt m w
    have cc := look_conc ht hcv
    have cx := look_conc ht hxv
    unfold sendV at e
    split at e <;> try (cases e; done)
    simp only [some_ok] at e
    obtain ⟨ob, hob, e⟩ := e
    simp only [conc, Option.map_eq_some_iff] at cc
    obtain ⟨p, hp, cc⟩ := cc
    have hobj := hr.at hob hp
    split at e <;> try (cases e; done)
    rename_i cap buf
    obtain ⟨l, s, r, hl, hch⟩ := hobj
    have hrun : (execOp a.eval o).run P w = .ok (.comm #[scase p.1 (a.eval x) z] false .select) w := by simp [execOp, hop, ← cc, scase, hx, hzr]
    rw [sel_ite] at e
    split at e
    · rename_i hroom
      have hroom : l.length < cap := by rw [concL_length hl]; simpa using hroom
      simp only [sel_true, appN_eq] at e
      injection e with e1 e2
      subst e1 e2
      intro K Q hK
      have hup := hr.chan (cap' := cap) (s' := s + 1) (r' := r) hob hp hch (concL_append.2 ⟨_, _, hl, concL_cons.2 ⟨_, _, cx, concL_nil.2 rfl, rfl⟩, rfl⟩)
      refine st_sel_send (c := p.1) (cap := cap) (buf := l.toArray) (s := s) (r := r) (v := a.eval x) (z := z) (tm := false) ho hw hrun hch (by simpa using hroom) ?_
      have : (l.toArray.push (a.eval x)) = (l ++ [a.eval x]).toArray := by simp
      rw [this]
      exact hK _ _ _ hup.2 hup.1 rfl
    · rename_i hroom
      have hroom : cap ≤ l.length := by rw [concL_length hl]; simpa using hroom
      simp only [sel_true] at e
      injection e with e1 e2
      subst e1 e2
      intro K Q hK
      exact st_sel_full ho hw hrun hch (by simpa using hroom) (hK _ _ _ (.refl _ _ _) hr rfl)
  · rename_i hx
    simp only [some_ok] at e
    obtain ⟨cv, hcv, e⟩ := e
    have cc := look_conc ht hcv
    unfold selRecvV at e
    split at e <;> try (cases e; done)
    simp only [some_ok] at e
    obtain ⟨ob, hob, e⟩ := e
    simp only [conc, Option.map_eq_some_iff] at cc
    obtain ⟨p, hp, cc⟩ := cc
    have hobj := hr.at hob hp
    split at e <;> try (cases e; done)
    · rename_i cap
      obtain ⟨l, s, r, hl, hch⟩ := hobj
      obtain rfl := concL_nil.1 hl
      simp only [some_ok] at e
      obtain ⟨zt, hzt, e⟩ := e
      obtain ⟨z, hz, hzr⟩ := run_zero (P := P) hzt m w
      have hrun : (execOp a.eval o).run P w = .ok (.comm #[rcase p.1 z] false .select) w := by simp [execOp, hop, ← cc, rcase, hx, hzr]
      injection e with e1 e2
      subst e1 e2
      intro K Q hK
      exact st_sel_none ho hw hrun hch (hK _ _ _ (.refl _ _ _) hr (by simp [conc, concL, hz, goInt]))
    · rename_i cap v1 buf
      obtain ⟨l, s, r, hl, hch⟩ := hobj
      simp only [some_ok] at e
      obtain ⟨zt, hzt, e⟩ := e
      obtain ⟨z, hz, hzr⟩ := run_zero (P := P) hzt m w
      have hrun : (execOp a.eval o).run P w = .ok (.comm #[rcase p.1 z] false .select) w := by simp [execOp, hop, ← cc, rcase, hx, hzr]
      obtain ⟨y, l', hy, hl', rfl⟩ := concL_cons.1 hl
      injection e with e1 e2
      subst e1 e2
      intro K Q hK
      have hup := hr.chan (cap' := cap) (s' := s) (r' := r + 1) hob hp hch hl'
      refine st_sel_recv (c := p.1) (cap := cap) (buf := (y :: l').toArray) (s := s) (r := r) (z := z) (tm := false) ho hw hrun hch (by simp) ?_
      have : ((y :: l').toArray.extract 1 (y :: l').toArray.size) = l'.toArray := by apply Array.ext'; simp
      rw [this]
      exact hK _ _ _ hup.2 hup.1 (by simp [conc, concL, hy, goInt])
theorem reg_run (hn : NoNG P) (hk : CallOk P call) (ho : ops[i]? = some o) (hw : Region.wanted o (yielded ops a.tmps) = true) (e : opV o.op P call tm h = .ok v h') (hr : Rel m h w) (ht : TmR m tm a) : Sx P ops i m o a w h h' v := by
  cases hop : o.op with
  | send c x => exact s_send (call := call) hop ho hw (by rw [hop] at e; exact e) hr ht
  | select c b => exact s_select (call := call) hop ho hw (by rw [hop] at e; exact e) hr ht
  | _ => exact (op_run (by rw [hop]; intro _ _ h; cases h) (by rw [hop]; intro _ _ h; cases h) hn hk e hr ht).sx ho hw
end
end Go.Ev
namespace Go.Ev
open Go Go.Conc
variable [G : Given]

section
variable {P : Program} {m m1 : M} {h h1 h' : H} {w w1 w' : World} {tm : TM} {a : Act} {o : Oper} {v : V} {call : Call0} {ops : Array Oper} {Q Q' : Exit → Act → World → Prop} {i : Nat} {r : R}

/-- Where a piece of code comes out, as the evaluator says. -/
def Out (m : M) (h : H) (w : World) : R → Exit → Act → World → Prop
  | .norm tm h', .normal, a, w' => ∃ m', Tr m h w m' h' w' ∧ Rel m' h' w' ∧ TmR m' tm a
  | .exit id tm h', .exit id', a, w' => id' = id ∧ ∃ m', Tr m h w m' h' w' ∧ Rel m' h' w' ∧ TmR m' tm a
  | .ret tm h', .ret, a, w' => ∃ m', Tr m h w m' h' w' ∧ Rel m' h' w' ∧ TmR m' tm a
  | _, _, _, _ => False
theorem Out.trans {e : Exit} (ht : Tr m h w m1 h1 w1) (ho : Out m1 h1 w1 r e a w') : Out m h w r e a w' := by
  cases r <;> cases e <;> first | exact ho.elim | skip
  · obtain ⟨m', h2, h3⟩ := ho; exact ⟨m', ht.trans h2, h3⟩
  · obtain ⟨e, m', h2, h3⟩ := ho; exact ⟨e, m', ht.trans h2, h3⟩
  · obtain ⟨m', h2, h3⟩ := ho; exact ⟨m', ht.trans h2, h3⟩
theorem InR.mono {l : List Nat} (h : InR P ops Q l a w) (hq : ∀ e a w, Q e a w → Q' e a w) : InR P ops Q' l a w :=
  fun b k cs => let ⟨e, a', w', q, r⟩ := h b k cs; ⟨e, a', w', hq _ _ _ q, r⟩

theorem wantK_run {yes no : R} (e : wantK ops.toList tm o.guard yes no = r) (hf : r ≠ .fail) (ht : TmR m tm a) :
    (Region.wanted o (yielded ops a.tmps) = true ∧ yes = r) ∨ (Region.wanted o (yielded ops a.tmps) = false ∧ no = r) := by
  unfold wantK at e
  cases hg : o.guard with
  | none => rw [hg] at e; exact .inl ⟨by simp [Region.wanted, hg], e⟩
  | some p =>
    obtain ⟨j, b0⟩ := p
    rw [hg] at e
    simp only [nthN_eq, Array.getElem?_toList] at e
    have hwd : Region.wanted o (yielded ops a.tmps) = (yielded ops a.tmps j == some b0) := by simp [Region.wanted, hg]
    rw [hwd]
    cases hd : (ops[j]?).bind (·.dst) with
    | none =>
      rw [hd] at e
      exact .inr ⟨by simp [yielded, hd], e⟩
    | some d =>
      rw [hd] at e
      simp only [] at e
      split at e
      · rename_i b hb
        obtain ⟨x, hx, hc⟩ := ht.get hb
        simp only [conc, Option.some.injEq] at hc
        subst hc
        have hy : yielded ops a.tmps j = some b := by simp [yielded, hd, hx]
        rw [hy]
        rw [sel_ite] at e
        split at e
        · rename_i h1; exact .inl ⟨by simpa using h1, e⟩
        · rename_i h1; exact .inr ⟨by simpa using h1, e⟩
      · rename_i l hb
        obtain ⟨x, hx, hc⟩ := ht.get hb
        simp only [conc, Option.map_eq_some_iff] at hc
        obtain ⟨y, _, rfl⟩ := hc
        exact .inr ⟨by simp [yielded, hd, hx], e⟩
      · exact absurd e.symm hf

theorem runOps_run (hn : NoNG P) (hk : CallOk P call) (l : List Oper) :
    ∀ (n : Nat) (m : M) (h : H) (w : World) (tm : TM) (a : Act), (∀ j, l[j]? = ops[n + j]?) → runOps ops.toList l P call tm h = r → r ≠ .fail → Rel m h w → TmR m tm a → InR P ops (Out m h w r) (List.range' n l.length) a w := by
  induction l with
  | nil =>
    intro n m h w tm a _ e _ hr ht
    obtain rfl : R.norm tm h = r := e
    exact .nil ⟨m, .refl _ _ _, hr, ht⟩
  | cons o l ih =>
    intro n m h w tm a hl e hf hr ht
    have ho : ops[n]? = some o := by simpa using (hl 0).symm
    have hl' : ∀ j, l[j]? = ops[n + 1 + j]? := fun j => by have := hl (j + 1); simpa [Nat.add_assoc, Nat.add_comm 1 j] using this
    have e' : wantK ops.toList tm o.guard (opGo o.dst (runOps ops.toList l P call) tm (opV o.op P call tm h)) (runOps ops.toList l P call (putTm tm o.dst undefV) h) = r := e
    rw [List.length_cons, List.range'_succ]
    rcases wantK_run e' hf ht with ⟨hw, e1⟩ | ⟨hw, e1⟩
    · cases hop : opV o.op P call tm h with
      | fail => rw [hop] at e1; exact absurd e1.symm hf
      | ok v h' =>
        rw [hop] at e1
        have hs := reg_run hn hk ho hw hop hr ht
        refine hs (fun a' w' => InR P ops (Out m h w r) (List.range' (n + 1) l.length) a' w') (Out m h w r) (fun m' w' x h1 h2 h3 => ?_) _ (fun a' w' h' => h')
        exact (ih (n + 1) m' h' w' _ _ hl' e1 hf h2 ((ht.mono h1.le).putO h3 _)).mono fun _ _ _ => .trans h1
    · exact St.skip (K := fun a' w' => InR P ops (Out m h w r) (List.range' (n + 1) l.length) a' w') ho hw (ih (n + 1) m h w _ _ hl' e1 hf hr (ht.putO (undef_conc m) _)) _ (fun a' w' h' => h')
/-- A region whose order is its own. -/
theorem region_run {id : Nat} (hn : NoNG P) (hk : CallOk P call) (e : runOps ops.toList ops.toList P call tm h = r) (hf : r ≠ .fail) (hr : Rel m h w) (ht : TmR m tm a) : (Code.region id ops false).wp P (Out m h w r) a w := by
  have := runOps_run (ops := ops) hn hk ops.toList 0 m h w tm a (by simp) e hf hr ht
  rw [Array.length_toList, ← List.range_eq_range'] at this
  exact fun b k cs => let ⟨e, a', w', q, r⟩ := this b k cs; ⟨e, a', w', q, .of_steps (.one step_region) r⟩
end
end Go.Ev
namespace Go.Ev
open Go Go.Conc

section
variable {P : Program} {ops : Array Oper} {D : Array Nat} {Q : Exit → Act → World → Prop} {listed : Array Bool} {i j q : Nat}

/-- Whatever order is picked from here on; S holds behind every operation, until one comes that waits for all that are listed. -/
def WA (P : Program) (ops : Array Oper) (D : Array Nat) (Q : Exit → Act → World → Prop) : Nat → Array Bool → (World → Prop) → Act → World → Prop
  | 0, listed, _, a, w => Region.ready .any ops listed = [] ∧ Q .normal a w
  | n + 1, listed, S, a, w => (Region.ready .any ops listed = [] → Q .normal a w) ∧ ∀ i ∈ Region.ready .any ops listed,
      wpOp P ops Q i (fun a' w' => S w' ∧ WA P ops D Q n (listed.setIfInBounds i true) S a' w') a w ∨
      (allAhead ops D listed i = true ∧ St P ops Q i (fun a' w' => ∃ S', S' w' ∧ WA P ops D Q n (listed.setIfInBounds i true) S' a' w') a w)
theorem WA.step {n : Nat} {S : World → Prop} {a : Act} {w : World} (h : WA P ops D Q (n + 1) listed S a w) (hi : i ∈ Region.ready .any ops listed) :
    St P ops Q i (fun a' w' => ∃ S', WA P ops D Q n (listed.setIfInBounds i true) S' a' w') a w := by
  rcases h.2 i hi with h1 | ⟨_, h1⟩
  · exact (St.of_wpOp h1).mono fun a' w' h2 => ⟨S, h2.2⟩
  · exact h1.mono fun a' w' ⟨S', _, h2⟩ => ⟨S', h2⟩
theorem WA.sound : ∀ (fuel t : Nat) (listed : Array Bool) (S : World → Prop) (a : Act) (w : World), WA P ops D Q fuel listed S a w → InR P ops Q (Region.linearise.go .any ops fuel t listed []) a w := by
  intro fuel
  induction fuel with
  | zero => intro t listed S a w h; simpa [Region.linearise.go] using InR.nil h.2
  | succ fuel ih =>
    intro t listed S a w h
    have h₀ := h.1
    simp only [Region.linearise.go]
    change InR P ops Q (match (Region.ready .any ops listed)[t % (Region.ready .any ops listed).length]? with
      | some i => Region.linearise.go .any ops fuel (t / (Region.ready .any ops listed).length) (listed.setIfInBounds i true) [i]
      | none => [].reverse) a w
    cases hi : (Region.ready .any ops listed)[t % (Region.ready .any ops listed).length]? with
    | none =>
      have hnil : Region.ready .any ops listed = [] := by
        cases hr : Region.ready .any ops listed with
        | nil => rfl
        | cons x xs =>
          rw [hr] at hi
          have hlt : t % (x :: xs).length < (x :: xs).length := Nat.mod_lt _ (by simp)
          simp at hi
          simp at hlt
          omega
      exact .nil (h₀ hnil)
    | some i =>
      simp only []
      rw [linearise_go_acc, List.reverse_singleton, List.singleton_append]
      exact h.step (List.mem_of_getElem? hi) _ fun a' w' ⟨S', h'⟩ => ih _ _ S' a' w' h'
theorem WA.weaken {S S' : World → Prop} (hS : ∀ w, S' w → S w) : ∀ (n : Nat) (listed : Array Bool) (a : Act) (w : World), WA P ops D Q n listed S' a w → WA P ops D Q n listed S a w
  | 0, _, _, _, h => h
  | n + 1, _, _, _, h => ⟨h.1, fun i hi => (h.2 i hi).imp (fun h1 => wpOp_mono (fun a' w' h2 => ⟨hS _ h2.1, WA.weaken hS n _ a' w' h2.2⟩) h1) id⟩

/-- What is listed has all that is ahead of it listed. -/
def Closed (ops : Array Oper) (D : Array Nat) (listed : Array Bool) : Prop := ∀ x q, q < ops.size → x < ops.size → listed.getD x false = true → ahead D x q = true → listed.getD q false = true
theorem ready_lt (h : i ∈ Region.ready .any ops listed) : i < ops.size := by
  obtain ⟨_, o, ho, _⟩ := mem_ready.1 h
  exact (Array.getElem?_eq_some_iff.1 ho).1
theorem after_ahead (hm : masksOk ops D = true) {o : Oper} (ho : ops[i]? = some o) (hq : q < ops.size) (ha : ahead D i q = true) : ∃ e ∈ o.after, Region.binds .any e = true ∧ (e.on = q ∨ ahead D e.on q = true) := by
  unfold masksOk at hm
  rw [List.all_eq_true] at hm
  have h1 := hm i (List.mem_range.2 (Array.getElem?_eq_some_iff.1 ho).1)
  rw [List.all_eq_true] at h1
  have h2 := h1 q (List.mem_range.2 hq)
  rw [ha, ho] at h2
  simp only [Bool.not_true, Bool.false_or, Option.map_some, Option.getD_some] at h2
  obtain ⟨e, he, h3⟩ := Array.any_eq_true'.1 h2
  simp only [Bool.and_eq_true, Bool.or_eq_true, beq_iff_eq] at h3
  exact ⟨e, he, h3.1, h3.2⟩
theorem ready_ahead (hm : masksOk ops D = true) (hs : listed.size = ops.size) (hc : Closed ops D listed) (hi : i ∈ Region.ready .any ops listed) (hq : q < ops.size) (ha : ahead D i q = true) : listed.getD q false = true := by
  obtain ⟨_, o, ho, hall⟩ := mem_ready.1 hi
  obtain ⟨e, he, hb, h1⟩ := after_ahead hm ho hq ha
  have h2 := hall e he hb
  rcases h1 with h1 | h1
  · rw [h1] at h2; exact h2
  · refine hc _ _ hq ?_ h2 h1
    rw [← hs]
    rcases Nat.lt_or_ge e.on listed.size with h' | h'
    · exact h'
    · simp [Array.getElem?_eq_none h'] at h2
theorem Closed.set (hm : masksOk ops D = true) (hs : listed.size = ops.size) (hc : Closed ops D listed) (hi : i ∈ Region.ready .any ops listed) : Closed ops D (listed.setIfInBounds i true) := by
  intro x q hq hx h1 h2
  by_cases hxi : i = x
  · subst hxi
    exact getD_set_true (ready_ahead hm hs hc hi hq h2)
  · rw [getD_set_ne false hxi] at h1
    exact getD_set_true (hc x q hq hx h1 h2)
theorem Closed.start : Closed ops D (Array.replicate ops.size false) := by
  intro x q _ hx h1
  simp [hx] at h1
theorem allAhead_spec (h : allAhead ops D listed j = true) (hq : q < ops.size) (hl : listed.getD q false = true) : ahead D j q = true := by
  unfold allAhead at h
  rw [List.all_eq_true] at h
  have := h q (List.mem_range.2 hq)
  simpa [hl] using this

/-- An operation that may come up now may be taken first. -/
theorem WA.first {S S' : World → Prop} {oi : Oper} {v : Value} (hm : masksOk ops D = true) (hi : ops[i]? = some oi) (hsel : ∀ (j : Nat) (o : Oper) cs b, ops[j]? = some o → o.op ≠ .select cs b)
    (hQ : ∀ c a w, ¬ Q (.panic c) a w) (hS : ∀ w, S' w → S w) :
    ∀ (fuel : Nat) (listed : Array Bool) (a : Act) (w : World), listed.size = ops.size → Closed ops D listed →
      (∀ j oj, ops[j]? = some oj → j ≠ i → listed.getD j true = false → (∀ e ∈ oj.after, Region.binds .any e = true → e.on ≠ i) → oi.apart ops oj = true) →
      i ∈ Region.ready .any ops listed → YieldsIf P ops S' oi v a → S' w →
      WA P ops D Q fuel (listed.setIfInBounds i true) S' (a.put oi.dst v) w → WA P ops D Q (fuel + 1) listed S a w := by
  intro fuel
  induction fuel with
  | zero =>
    intro listed a w hsz _ _ hr hy hSw H
    refine ⟨fun h => (by rw [h] at hr; cases hr), fun j hj => ?_⟩
    by_cases hji : j = i
    · subst hji; exact .inl (hy.wpOp hi hSw ⟨hS _ hSw, H⟩)
    · have := ready_mono hj hji
      rw [H.1] at this
      cases this
  | succ fuel ih =>
    intro listed a w hsz hcl hfree hr hy hSw H
    refine ⟨fun h => (by rw [h] at hr; cases hr), fun j hj => ?_⟩
    by_cases hji : j = i
    · subst hji; exact .inl (hy.wpOp hi hSw ⟨hS _ hSw, H.weaken hS⟩)
    · obtain ⟨hjun, oj, hoj, hall⟩ := mem_ready.1 hj
      have hi0 := (mem_ready.1 hr).1
      have hilt : i < listed.size := by rw [hsz]; exact ready_lt hr
      have hnot : ∀ e ∈ oj.after, Region.binds .any e = true → e.on ≠ i := fun e he hb heq => by
        have h1 := hall e he hb
        rw [heq] at h1
        simp [hilt] at hi0 h1; rw [hi0] at h1; cases h1
      rcases H.2 j (ready_mono hj hji) with h1 | ⟨h1, _⟩
      · have h2 := wpOp_putIf hoj (hfree j oj hoj hji hjun hnot) (fun cs b => hsel i oi cs b hi) (fun cs b => hsel j oj cs b hoj) (fun c a w hq => absurd hq (hQ _ _ _)) hy h1
        have hfree' : ∀ k ok, ops[k]? = some ok → k ≠ i → (listed.setIfInBounds j true).getD k true = false →
            (∀ e ∈ ok.after, Region.binds .any e = true → e.on ≠ i) → oi.apart ops ok = true := fun k ok hk hki hun hno => by
          refine hfree k ok hk hki ?_ hno
          by_cases hjk : j = k
          · subst hjk; exact hjun
          · rw [getD_set_ne true hjk] at hun; exact hun
        refine .inl (wpOp_mono (fun a' w' h3 => ⟨hS _ h3.2.1, ih (listed.setIfInBounds j true) a' w' (by simp [hsz]) (hcl.set hm hsz hj) hfree' (ready_mono hr (Ne.symm hji)) h3.1 h3.2.1 ?_⟩) h2)
        rw [Array.setIfInBounds_comm _ _ hji]
        exact h3.2.2
      · have h2 := allAhead_spec h1 (ready_lt hr) (q := i) (by simp [hilt])
        have h3 := ready_ahead hm hsz hcl hj (ready_lt hr) h2
        simp [hilt] at hi0 h3; rw [hi0] at h3; cases h3
theorem WA.done {S : World → Prop} {a : Act} {w : World} (hr : Region.ready .any ops listed = []) (h : Q .normal a w) : ∀ fuel, WA P ops D Q fuel listed S a w
  | 0 => ⟨hr, h⟩
  | _ + 1 => ⟨fun _ => h, by rw [hr]; simp⟩
theorem wp_region_drawn {S : World → Prop} {id : Nat} {a : Act} {w : World} (hm : P.follows .mixedOrders = true) (h : WA P ops D Q ops.size (Array.replicate ops.size false) S a w.drew) : (Code.region id ops true).wp P Q a w := by
  intro b k cs
  have h1 : InR P ops Q (Region.schedule (P.follows .mixedOrders) ops (w.tape w.drawn (.order b.fn id))) a w.drew := by
    simp only [Region.schedule, hm, Bool.true_or, if_true]
    exact WA.sound ops.size _ _ S a _ h
  obtain ⟨e, a', w', q, r⟩ := h1 b k cs
  exact ⟨e, a', w', q, .of_steps (.one step_region_draw) r⟩
end
end Go.Ev
namespace Go.Ev
open Go

section
variable {P : Program} {h h' h2 : H} {tm : TM} {v : V} {call : Call0}
/-- What is given hangs on no heap. -/
def Ind (f : H → RV) : Prop := ∀ h v h', f h = .ok v h' → ∀ h2, ∃ h3, f h2 = .ok v h3
theorem Ind.ok (v : V) : Ind (fun h => .ok v h) := fun _ _ _ e h2 => by injection e with e1 e2; exact ⟨h2, by rw [e1]⟩
theorem Ind.fail : Ind (fun _ => .fail) := fun _ _ _ e => by cases e
theorem Ind.some {α : Type} {o : Option α} {f : α → H → RV} (hf : ∀ a, Ind (f a)) : Ind (fun h => some? o fun a => f a h) := by
  cases o with
  | none => exact Ind.fail
  | some a => exact hf a
theorem Ind.okIf {b : Bool} {f : H → RV} (hf : Ind f) : Ind (fun h => okIf b (f h)) := by
  cases b with
  | false => exact Ind.fail
  | true => exact hf
theorem Ind.sel {b : Bool} {f g : H → RV} (hf : Ind f) (hg : Ind g) : Ind (fun h => sel b (f h) (g h)) := by
  cases b with
  | false => exact hg
  | true => exact hf
theorem Ind.force {n : Nat} {f : Nat → H → RV} (hf : ∀ a, Ind (f a)) : Ind (fun h => force n fun a => f a h) := by
  simp only [force_eq]; exact hf n
theorem Ind.forceI {n : Int} {f : Int → H → RV} (hf : ∀ a, Ind (f a)) : Ind (fun h => forceI n fun a => f a h) := by
  simp only [forceI_eq]; exact hf n
theorem Ind.iNum {z : Int} {k : IntKind} : Ind (fun h => Ev.iNum z k h) := Ind.forceI fun _ => Ind.ok _
theorem ind_bit {f : Nat → Nat → Nat} {k : IntKind} {a b : Int} : Ind (iBit f k a b) := by
  cases a <;> cases b <;> first | exact Ind.fail | exact Ind.sel (Ind.force fun _ => Ind.ok _) Ind.fail
theorem ind_iOp {op : BinOp} {k : IntKind} {a b : Int} : Ind (iOp op k a b) := by
  cases op <;> first
    | exact Ind.fail
    | exact Ind.iNum
    | exact Ind.ok _
    | exact Ind.sel Ind.fail Ind.iNum
    | exact Ind.sel Ind.fail (Ind.forceI fun _ => Ind.ok _)
    | exact ind_bit
    | (cases b <;> first | exact Ind.fail | exact Ind.sel Ind.iNum Ind.fail | (cases a <;> first | exact Ind.fail | exact Ind.sel (Ind.force fun _ => Ind.ok _) Ind.fail | exact Ind.sel Ind.fail Ind.fail))
theorem ind_strOp {op : BinOp} {a b : List Nat} : Ind (strOp op a b) := by
  cases op <;> first
    | exact Ind.fail
    | exact Ind.ok _
    | exact Ind.okIf (Ind.ok _)
theorem ind_eqlV {t : TypeId} {cst neg : Bool} {a b : V} : Ind (eqlV P t cst neg a b) := by
  have gen : ∀ a b, Ind (fun h => okIf (eqOk P t cst a b) (some? (eqT P 5 t a b) fun r => .ok (.bool (Ev.sel neg (!r) r)) h)) := fun a b => Ind.okIf (Ind.some fun _ => Ind.ok _)
  intro h v h' e h2
  unfold eqlV at e ⊢
  split at e
  · exact Ind.sel (Ind.ok _) Ind.fail h v h' e h2
  · exact Ind.ok _ h v h' e h2
  · exact gen _ _ h v h' e h2
theorem ind_two {op : BinOp} {a b : V} : Ind (fun h => match a, b with | .int k x, .int k' y => intOp op k x k' y h | .str x, .str y => strOp op x y h | _, _ => .fail) := by
  cases a <;> try exact Ind.fail
  · cases b <;> try exact Ind.fail
    rename_i k x k' y
    have : Ind (fun h => intOp op k x k' y h) := Ind.sel ind_iOp Ind.fail
    exact this
  · cases b <;> try exact Ind.fail
    rename_i x y
    have : Ind (fun h => strOp op x y h) := ind_strOp
    exact this
theorem ind_bin {op : BinOp} {t : TypeId} {cst : Bool} {a b : V} : Ind (binV P op t cst a b) := by
  cases op
  case eql => exact ind_eqlV
  case neq => exact ind_eqlV
  all_goals exact ind_two
theorem ind_part {t : TypeId} {cs : List V} {off : Nat} : Ind (partV P t cs off) := Ind.some fun _ => Ind.ok _
theorem ind_slice {t : TypeId} {x : V} {lo hi mx : Option Operand} : Ind (sliceV P t x lo hi mx tm) := by
  cases x <;> first
    | exact Ind.fail
    | skip
  case str s =>
    refine Ind.some fun d => ?_
    cases d <;> first | exact Ind.fail | skip
    refine Ind.some fun _ => Ind.some fun _ => Ind.okIf (Ind.force fun _ => Ind.force fun _ => Ind.ok _)
  case ptr b o =>
    refine Ind.some fun d => ?_
    cases d <;> first | exact Ind.fail | skip
    refine Ind.some fun _ => Ind.some fun _ => Ind.some fun _ => Ind.okIf (Ind.force fun _ => Ind.force fun _ => Ind.force fun _ => Ind.ok _)
  case snil => exact Ind.some fun _ => Ind.some fun _ => Ind.some fun _ => Ind.some fun _ => Ind.okIf (Ind.ok _)
  case sl b o n c =>
    refine Ind.some fun _ => Ind.some fun _ => Ind.some fun _ => Ind.some fun _ => Ind.force fun _ => Ind.force fun _ => ?_
    cases mx with
    | some m => exact Ind.some fun _ => Ind.okIf (Ind.force fun _ => Ind.sel (Ind.ok _) (Ind.force fun _ => Ind.ok _))
    | none =>
      cases c with
      | ex c => exact Ind.okIf (Ind.force fun _ => Ind.sel (Ind.ok _) (Ind.force fun _ => Ind.ok _))
      | un u d s => exact Ind.okIf (Ind.sel (Ind.sel (Ind.ok _) (Ind.okIf (Ind.force fun _ => Ind.ok _))) (Ind.okIf (Ind.force fun _ => Ind.force fun _ => Ind.ok _)))
theorem ind_indexAddr {t : TypeId} {x i : V} : Ind (indexAddrV P t x i) := by
  refine Ind.some fun _ => ?_
  cases x <;> first
    | exact Ind.fail
    | exact Ind.some fun _ => Ind.some fun _ => Ind.okIf (Ind.force fun _ => Ind.ok _)
    | (refine Ind.some fun d => ?_
       cases d <;> first | exact Ind.fail | exact Ind.some fun _ => Ind.okIf (Ind.force fun _ => Ind.ok _))
theorem ind_index {t : TypeId} {x i : V} : Ind (indexV P t x i) := by
  refine Ind.some fun _ => ?_
  cases x <;> first
    | exact Ind.fail
    | (refine Ind.some fun d => ?_
       cases d <;> first | exact Ind.fail | exact Ind.some fun _ => Ind.ok _ | exact Ind.some fun _ => Ind.okIf ind_part)
theorem ind_build {t : TypeId} {ps : List (Nat × Operand)} : Ind (buildV P t ps tm) := by
  refine Ind.some fun _ => Ind.some fun d => ?_
  cases d <;> first | exact Ind.fail | exact Ind.some fun _ => Ind.some fun _ => Ind.ok _
/-- A quiet operation that looks at no memory yields the same in every heap. -/
theorem opV_still {op : Op} (hq : quiet op = true) (hn : reads op = false) (e : opV op P call tm h = .ok v h') (h2 : H) : ∃ h3, opV op P call tm h2 = .ok v h3 := by
  have key : Ind (opV op P call tm) := by
    cases op <;> first | (cases hq; done) | (cases hn; done) | skip
    case move x => exact Ind.some fun _ => Ind.ok _
    case assign x => exact Ind.some fun _ => Ind.ok _
    case pick c x y =>
      refine Ind.some fun c => ?_
      cases c <;> first | exact Ind.fail | exact Ind.some fun _ => Ind.ok _
    case build t ps => exact ind_build
    case nilCheck x =>
      refine Ind.some fun c => ?_
      cases c <;> first | exact Ind.fail | exact Ind.ok _
    case binOp op t x y t' => exact Ind.some fun _ => Ind.some fun _ => ind_bin
    case unOp op t x =>
      refine Ind.some fun c => ?_
      cases op <;> cases c <;> first | exact Ind.fail | exact Ind.ok _ | exact Ind.iNum
    case makeInterface t x => exact Ind.some fun _ => Ind.some fun _ => Ind.okIf (Ind.ok _)
    case makeFunc fn x y =>
      cases fn <;> first | exact Ind.fail | exact Ind.some fun _ => Ind.some fun _ => Ind.ok _
    case slice t x lo hi mx => exact Ind.some fun _ => ind_slice
    case fieldAddr t x f =>
      refine Ind.some fun c => ?_
      cases c <;> first | exact Ind.fail | exact Ind.some fun _ => Ind.some fun _ => Ind.okIf (Ind.force fun _ => Ind.ok _)
    case field t x f =>
      refine Ind.some fun c => ?_
      cases c <;> first | exact Ind.fail | exact Ind.some fun _ => ind_part
    case indexAddr t x i => exact Ind.some fun _ => Ind.some fun _ => ind_indexAddr
    case index t x i => exact Ind.some fun _ => Ind.some fun _ => ind_index
    case extract t i =>
      refine Ind.some fun c => ?_
      cases c <;> first | exact Ind.fail | exact Ind.some fun _ => Ind.ok _
  exact key h v h' e h2
end
end Go.Ev
namespace Go.Ev
open Go Go.Conc
variable [G : Given]

/-! ### values told alike are alike -/
mutual
theorem sameV_eq : ∀ (a b : V), sameV a b = true → a = b
  | .bool a, b, e => by cases b <;> simp [sameV] at e; rw [e]
  | .int k a, b, e => by cases b <;> simp [sameV] at e; rw [e.1, e.2]
  | .str a, b, e => by cases b <;> simp [sameV] at e; rw [e]
  | .ptr a c, b, e => by cases b <;> simp [sameV] at e; rw [e.1, e.2]
  | .pnil, b, e => by cases b <;> simp [sameV] at e; rfl
  | .sl a c d (.ex n), b, e => by
    cases b <;> try (simp [sameV] at e; done)
    rename_i x; cases x <;> simp [sameV] at e
    rw [e.1.1.1, e.1.1.2, e.1.2, e.2]
  | .sl a c d (.un u v s), b, e => by
    cases b <;> try (simp [sameV] at e; done)
    rename_i x; cases x <;> simp [sameV] at e
    simp only [e]
  | .snil, b, e => by cases b <;> simp [sameV] at e; rfl
  | .sun a c d u v, b, e => by cases b <;> simp [sameV] at e; simp only [e]
  | .map a, b, e => by cases b <;> simp [sameV] at e; rw [e]
  | .mnil, b, e => by cases b <;> simp [sameV] at e; rfl
  | .chan a, b, e => by cases b <;> simp [sameV] at e; rw [e]
  | .cnil, b, e => by cases b <;> simp [sameV] at e; rfl
  | .fn f a c, b, e => by
    cases b <;> simp [sameV] at e
    rw [e.1.1, sameL_eq _ _ e.1.2, sameL_eq _ _ e.2]
  | .fnil, b, e => by cases b <;> simp [sameV] at e; rfl
  | .ifc t v, b, e => by cases b <;> simp [sameV] at e; rw [e.1, sameV_eq _ _ e.2]
  | .inil, b, e => by cases b <;> simp [sameV] at e; rfl
  | .agg a, b, e => by cases b <;> simp [sameV] at e; rw [sameL_eq _ _ e]
  | .tup a, b, e => by cases b <;> simp [sameV] at e; rw [sameL_eq _ _ e]
  | .raw _, b, e => by cases b <;> simp [sameV] at e; rw [e]
theorem sameL_eq : ∀ (a b : List V), sameL a b = true → a = b
  | [], [], _ => rfl
  | [], _ :: _, e => by simp [sameL] at e
  | _ :: _, [], e => by simp [sameL] at e
  | a :: l, b :: m, e => by simp [sameL] at e; rw [sameV_eq _ _ e.1, sameL_eq _ _ e.2]
end

section
variable {P : Program} {m m' m0 : M} {h h' h0 : H} {w w' w0 : World} {tm : TM} {a a0 : Act} {o : Oper} {v : V} {call : Call0} {ops : Array Oper} {D : Array Nat} {listed : Array Bool} {r : R}

/-! ### what is held -/
abbrev Fact := Oper × Act × Value
def Sf (P : Program) (L : List Fact) (w : World) : Prop := ∀ x ∈ L, (execOp x.2.1.eval x.1).run P w = .ok (.value x.2.2) w
def HR (m : M) (l : List Held) (L : List Fact) : Prop := ∀ x ∈ L, ∃ hd ∈ l, hd.op = x.1.op ∧ quiet hd.op = true ∧ TmR m hd.tm x.2.1 ∧ conc m hd.v = some x.2.2
theorem HR.mono {l : List Held} {L : List Fact} (hh : HR m l L) (hm : m.le m') : HR m' l L := fun x hx => let ⟨hd, h1, h2, h3, h4, h5⟩ := hh x hx; ⟨hd, h1, h2, h3, h4.mono hm, conc_mono hm _ _ h5⟩
theorem HR.nil {l : List Held} : HR m l [] := fun _ hx => by cases hx
def HK (P : Program) (m : M) (h : H) (L : List Fact) : Prop := ∀ w', Rel m h w' → Sf P L w'
theorem heldOk_mem {l : List Held} (e : heldOk P call h l = true) {x : Held} (hx : x ∈ l) : ∃ v h', opV x.op P call x.tm h = .ok v h' ∧ sameV x.v v = true := by
  induction l with
  | nil => cases hx
  | cons y l ih =>
    have e' : sel (RV.rec false (fun v _ => sameV y.v v) (opV y.op P call y.tm h)) (heldOk P call h l) false = true := e
    rw [sel_ite] at e'
    split at e'
    · rename_i h1
      rcases List.mem_cons.1 hx with rfl | hx
      · cases hop : opV x.op P call x.tm h with
        | fail => rw [hop] at h1; cases h1
        | ok v h' => rw [hop] at h1; exact ⟨v, h', rfl, h1⟩
      · exact ih e' hx
    · cases e'
theorem held_keeps {l : List Held} {L : List Fact} (hh : HR m l L) (e : heldOk P call h l = true) : HK P m h L := by
  intro w' hr x hx
  obtain ⟨hd, hmem, hop, hq, ht, hc⟩ := hh x hx
  obtain ⟨v, h', he, hs⟩ := heldOk_mem e hmem
  obtain ⟨_, x', hx', hrun⟩ := quiet_run (o := x.1) (a := x.2.1) (call := call) (by rw [← hop]; exact hq) (by rw [← hop]; exact he) hr ht
  rw [← sameV_eq _ _ hs, hc] at hx'
  obtain rfl := Option.some.inj hx'
  exact hrun
/-- The heap of no object. -/
def blank (m : M) : H := ⟨.e, m.blk.length, m.caps.length⟩
theorem blank_rel {m : M} (hb : ∀ c ∈ m.caps, c ≤ maxLen) (w : World) : Rel m (blank m) w := by
  have : ∀ {b : Nat} {o : O}, (blank m).get b = some o → False := by
    intro b o e
    rw [H.get_eq] at e
    cases e
  exact ⟨rfl, ⟨rfl, hb⟩, fun e => (this e).elim, fun e => (this e).elim⟩
/-- A quiet operation taken first. -/
theorem taken {L : List Fact} {l : List Held} (hq : quiet o.op = true) (e : opV o.op P call tm h = .ok v h') (hr : Rel m h w) (ht : TmR m tm a) (hh : HR m l L) (hk : HK P m h L) :
    ∃ x L', conc m v = some x ∧ HR m (holdV o.op tm v l) L' ∧ HK P m h L' ∧ (∀ w, Sf P L' w → Sf P L w) ∧ ∀ w, Sf P L' w → (execOp a.eval o).run P w = .ok (.value x) w := by
  obtain ⟨rfl, x, hx, hrun⟩ := quiet_run hq e hr ht
  cases hre : reads o.op with
  | false =>
    refine ⟨x, L, hx, by simp only [holdV, hre]; exact hh, hk, fun _ h => h, fun w' _ => ?_⟩
    obtain ⟨h3, e3⟩ := opV_still hq hre e (blank m)
    obtain ⟨_, x', hx', hrun'⟩ := quiet_run hq e3 (blank_rel hr.nc.2 w') ht
    rw [hx] at hx'
    obtain rfl := Option.some.inj hx'
    exact hrun'
  | true =>
    have hfact : ∀ w', Rel m h' w' → (execOp a.eval o).run P w' = .ok (.value x) w' := fun w' hr' => by
      obtain ⟨_, x', hx', hrun'⟩ := quiet_run hq e hr' ht
      rw [hx] at hx'
      obtain rfl := Option.some.inj hx'
      exact hrun'
    refine ⟨x, (o, a, x) :: L, hx, ?_, fun w' hr' y hy => ?_, fun w' hs y hy => hs y (List.mem_cons_of_mem _ hy), fun w' hs => hs (o, a, x) (List.mem_cons_self ..)⟩
    · intro y hy
      simp only [holdV, hre, if_true]
      rcases List.mem_cons.1 hy with rfl | hy
      · exact ⟨⟨o.op, tm, v⟩, List.mem_cons_self .., rfl, hq, ht, hx⟩
      · obtain ⟨hd, h1, h2⟩ := hh y hy
        exact ⟨hd, List.mem_cons_of_mem _ h1, h2⟩
    · rcases List.mem_cons.1 hy with rfl | hy
      · exact hfact w' hr'
      · exact hk w' hr' y hy

/-! ### an object made ahead of its place in the plan -/
theorem makes_mk (hm : makes o.op = true) (e : opV o.op P call tm h = .ok v h') (ht : TmR m tm a) : ∃ O ob X sz, Mk P m o a h h' v O ob X sz := by
  cases hop : o.op <;> rw [hop] at hm e <;> first | (cases hm; done) | skip
  · exact mk_alloc (call := call) (tm := tm) hop e
  · exact mk_box (call := call) hop e ht
  · exact mk_buildSlice (call := call) hop e ht

end
end Go.Ev
namespace Go.Ev
open Go Go.Conc
variable [G : Given]

section
variable {P : Program} {m m' m0 : M} {h h' h0 : H} {w w' w0 : World} {tm : TM} {a a0 : Act} {o : Oper} {v : V} {call : Call0} {ops : Array Oper} {D : Array Nat} {listed : Array Bool} {r : R} {i q f : Nat} {Q : Exit → Act → World → Prop} {l : List Held}

theorem oper_some {k : Oper → R} (e : oper? ops.toList i k = r) (hf : r ≠ .fail) : ∃ o, ops[i]? = some o ∧ k o = r := by
  unfold oper? at e
  rw [nthN_eq, Array.getElem?_toList] at e
  cases ho : ops[i]? with
  | none => rw [ho] at e; exact absurd e.symm hf
  | some o => rw [ho] at e; exact ⟨o, rfl, e⟩
theorem stepGo_run {k : TM → H → R} (e : stepGo ops.toList P call o tm h l k = r) (hf : r ≠ .fail) (ht : TmR m tm a) :
    (Region.wanted o (yielded ops a.tmps) = true ∧ ∃ v h', opV o.op P call tm h = .ok v h' ∧ heldOk P call h' l = true ∧ k (putTm tm o.dst v) h' = r) ∨
    (Region.wanted o (yielded ops a.tmps) = false ∧ k (putTm tm o.dst undefV) h = r) := by
  rcases wantK_run e hf ht with ⟨hw, e⟩ | ⟨hw, e⟩
  · refine .inl ⟨hw, ?_⟩
    cases hop : opV o.op P call tm h with
    | fail => rw [hop] at e; exact absurd e.symm hf
    | ok v h' =>
      rw [hop] at e
      change sel (heldOk P call h' l) (k (putTm tm o.dst v) h') .fail = r at e
      rw [sel_ite] at e
      split at e
      · exact ⟨v, h', rfl, ‹_›, e⟩
      · exact absurd e.symm hf
  · exact .inr ⟨hw, e⟩
theorem takeGo_run {k : TM → List Held → R} (e : takeGo ops.toList P call o tm h l k = r) (hf : r ≠ .fail) (ht : TmR m tm a) :
    (Region.wanted o (yielded ops a.tmps) = true ∧ ∃ v h', opV o.op P call tm h = .ok v h' ∧ k (putTm tm o.dst v) (holdV o.op tm v l) = r) ∨
    (Region.wanted o (yielded ops a.tmps) = false ∧ k (putTm tm o.dst undefV) l = r) := by
  rcases wantK_run e hf ht with ⟨hw, e⟩ | ⟨hw, e⟩
  · refine .inl ⟨hw, ?_⟩
    cases hop : opV o.op P call tm h with
    | fail => rw [hop] at e; exact absurd e.symm hf
    | ok v h' => rw [hop] at e; exact ⟨v, h', rfl, e⟩
  · exact .inr ⟨hw, e⟩
theorem wpOp_of {K : Act → World → Prop} (ho : ops[i]? = some o) (hw : Region.wanted o (yielded ops a.tmps) = true) (h : o.wp P a w K Q) : wpOp P ops Q i K a w := by
  unfold wpOp; simp only [ho, hw, if_true]; exact .inl h
theorem wpOp_skip {K : Act → World → Prop} (ho : ops[i]? = some o) (hw : Region.wanted o (yielded ops a.tmps) = false) (h : K (a.put o.dst undef) w) : wpOp P ops Q i K a w := by
  unfold wpOp; simp only [ho, hw]; exact h
theorem okTake_spec (e : okTake ops listed q = true) (ho : ops[q]? = some o) : quiet o.op = true ∧ q ∈ Region.ready .any ops listed ∧ Region.free .any ops listed q = true := by
  unfold okTake at e
  simp only [Bool.and_eq_true, quietAt, ho, Option.map_some, Option.getD_some] at e
  exact ⟨e.1.1, by simpa using e.1.2, e.2⟩
theorem commAt_spec (e : commAt ops i = false) (ho : ops[i]? = some o) : (∀ c x, o.op ≠ .send c x) ∧ ∀ c b, o.op ≠ .select c b := by
  unfold commAt at e
  rw [ho] at e
  simp only [Option.map_some, Option.getD_some] at e
  constructor
  · intro c x h; rw [h] at e; cases e
  · intro c x h; rw [h] at e; cases e
theorem apartAt_spec {x y : Oper} (e : apartAt ops f i = true) (hf : ops[f]? = some x) (hi : ops[i]? = some y) : x.apart ops y = true := by
  unfold apartAt at e
  rw [hf, hi] at e
  simpa using e
theorem makesAt_spec (e : makesAt ops f = true) (ho : ops[f]? = some o) : makes o.op = true ∧ o.guard = none := by
  unfold makesAt at e
  rw [ho] at e
  simpa using e

variable (P ops D call r m0 h0 w0)
/-- From here on, the object that may be made ahead not yet made. -/
def NotDone (ss : List Step) (listed : Array Bool) : Prop := ∀ (n : Nat) (tm : TM) (h : H) (l : List Held) (m : M) (w : World) (a : Act) (L : List Fact), ss.length ≤ n → listed.size = ops.size → Closed ops D listed → Tr m0 h0 w0 m h w → Rel m h w → TmR m tm a → HR m l L → HK P m h L →
  runPlan ops.toList P call ss tm h l = r → WA P ops D (Out m0 h0 w0 r) n listed (Sf P L) a w
/-- From here on, the object made ahead. -/
def Done (f : Nat) (of : Oper) (ss : List Step) (listed : Array Bool) : Prop := ∀ (n : Nat) (tm : TM) (h : H) (l : List Held) (m : M) (w : World) (a : Act) (L : List Fact) (r0 : Nat) (ob : Obj) (X : Nat → Value), ss.length ≤ n + 1 → listed.size = ops.size → Closed ops D (listed.setIfInBounds f true) → Tr m0 h0 w0 m h w → Rel m h w → TmR m tm a → HR m l L → HK P m h L →
  runPlan ops.toList P call ss tm h l = r → (∀ w, (execOp a.eval of).run P w = .ok (.value (X w.heap.size)) (w.alloc ob)) → w.heap[r0]? = some ob → ¬ live m h r0 → w0.heap.size ≤ r0 →
  WA P ops D (Out m0 h0 w0 r) n (listed.setIfInBounds f true) (Sf P L) (a.put of.dst (X r0)) w
variable {P ops D call r m0 h0 w0}

theorem out_noPanic : ∀ c a w, ¬ Out m0 h0 w0 r (.panic c) a w := by intro c a w h; cases r <;> exact h.elim
theorem mk_same {of : Oper} {O : O} {ob ob' : Obj} {X X' : Nat → Value} {sz : Nat} (k : Mk P m of a h h' v O ob' X' sz) (hrun : ∀ w, (execOp a.eval of).run P w = .ok (.value (X w.heap.size)) (w.alloc ob)) {r0 : Nat} (w : World) (hr0 : r0 < w.heap.size) : ob' = ob ∧ X' r0 = X r0 := by
  have h1 := k.run { w with heap := w.heap.extract 0 r0 }
  rw [hrun] at h1
  have hsz : (w.heap.extract 0 r0).size = r0 := by simp; omega
  simp only [hsz] at h1
  injection h1 with h1 h2
  injection h1 with h1
  refine ⟨?_, h1.symm⟩
  have e1 := heap_alloc_new { w with heap := w.heap.extract 0 r0 } ob
  have e2 := heap_alloc_new { w with heap := w.heap.extract 0 r0 } ob'
  rw [← h2, e1] at e2
  exact (Option.some.inj e2).symm
theorem take_step {b : Act} {L : List Fact} {n : Nat} {next : TM → List Held → R} (hm : masksOk ops D = true) (hs : Region.noSelect ops = true) (hf : r ≠ .fail) (e : oper? ops.toList q (fun o => takeGo ops.toList P call o tm h l next) = r)
    (hok : okTake ops listed q = true) (hsz : listed.size = ops.size) (hcl : Closed ops D listed) (hr : Rel m h w) (ht : TmR m tm a) (hh : HR m l L) (hk : HK P m h L)
    (heq : ∀ o, ops[q]? = some o → execOp b.eval o = execOp a.eval o ∧ Region.wanted o (yielded ops b.tmps) = Region.wanted o (yielded ops a.tmps))
    (hnext : ∀ o v x l' L', ops[q]? = some o → conc m v = some x → HR m l' L' → HK P m h L' → next (putTm tm o.dst v) l' = r → WA P ops D (Out m0 h0 w0 r) n (listed.setIfInBounds q true) (Sf P L') (b.put o.dst x) w) :
    WA P ops D (Out m0 h0 w0 r) (n + 1) listed (Sf P L) b w := by
  obtain ⟨o, ho, e⟩ := oper_some e hf
  obtain ⟨hq, hready, hfree⟩ := okTake_spec hok ho
  obtain ⟨he, hw0⟩ := heq o ho
  rcases takeGo_run e hf ht with ⟨hw, v, h', hop, e⟩ | ⟨hw, e⟩
  · obtain ⟨x, L', hx, hh', hk', hS, hy⟩ := taken hq hop hr ht hh hk
    exact WA.first hm ho (fun j o cs b h => Region.noSelect_spec hs j o cs b h) out_noPanic hS n listed b w hsz hcl (Region.free_spec ho hfree) hready (.inl ⟨by rw [hw0]; exact hw, fun w hSw => by rw [he]; exact hy w hSw⟩) (hk' w hr)
      (hnext o v x _ L' ho hx hh' hk' e)
  · exact WA.first hm ho (fun j o cs b h => Region.noSelect_spec hs j o cs b h) out_noPanic (fun _ h => h) n listed b w hsz hcl (Region.free_spec ho hfree) hready (.inr ⟨by rw [hw0]; exact hw, rfl⟩) (hk w hr)
      (hnext o undefV undef _ L ho (undef_conc m) hh hk e)
theorem WA.one {S : World → Prop} {n : Nat} (hready : Region.ready .any ops listed = [i]) (h : wpOp P ops Q i (fun a' w' => S w' ∧ WA P ops D Q n (listed.setIfInBounds i true) S a' w') a w) : WA P ops D Q (n + 1) listed S a w :=
  ⟨fun h0 => (by rw [hready] at h0; cases h0), fun j hj => .inl (by rw [hready] at hj; obtain rfl := List.mem_singleton.1 hj; exact h)⟩
/-- One operation that is carried out. -/
theorem go_step {b : Act} {L : List Fact} {next : TM → H → R} {K : Act → World → Prop} (hn : NoNG P) (hkc : CallOk P call) (hf : r ≠ .fail) (e : oper? ops.toList i (fun o => stepGo ops.toList P call o tm h l next) = r)
    (hc : commAt ops i = false) (hr : Rel m h w) (ht : TmR m tm a) (hh : HR m l L) (hk : HK P m h L)
    (heq : ∀ o, ops[i]? = some o → execOp b.eval o = execOp a.eval o ∧ Region.wanted o (yielded ops b.tmps) = Region.wanted o (yielded ops a.tmps))
    (hnext : ∀ o v x m' h' w', ops[i]? = some o → Tr m h w m' h' w' → Rel m' h' w' → conc m' v = some x → HK P m' h' L → next (putTm tm o.dst v) h' = r → K (b.put o.dst x) w') : wpOp P ops Q i K b w := by
  obtain ⟨o, ho, e⟩ := oper_some e hf
  obtain ⟨hc1, hc2⟩ := commAt_spec hc ho
  obtain ⟨he, hw0⟩ := heq o ho
  rcases stepGo_run e hf ht with ⟨hw, v, h', hop, hheld, e⟩ | ⟨hw, e⟩
  · refine wpOp_of ho (by rw [hw0]; exact hw) (((op_run hc1 hc2 hn hkc hop hr ht).congr he).wp fun x w' ⟨m', h1, h2, h3⟩ => ?_)
    exact hnext o v x m' h' w' ho h1 h2 h3 (held_keeps (hh.mono h1.le) hheld) e
  · exact wpOp_skip ho (by rw [hw0]; exact hw) (hnext o undefV undef m h w ho (.refl _ _ _) hr (undef_conc m) hk e)
theorem put_put {x y : Option Tmp} {v u : Value} (h : ∀ d, x = some d → y ≠ some d) : (a.put x v).put y u = (a.put y u).put x v := Act.put_comm a v u h
theorem chk_some {ss : List Step} (h : chk ops D ss listed (some f) = true) : 1 ≤ ss.length := by
  cases ss with
  | nil => simp [chk] at h
  | cons _ _ => simp
theorem pair_oper {next : TM → H → R} (e : oper? ops.toList f (fun of => oper? ops.toList i fun o => sel (canGo P call of tm h) (stepGo ops.toList P call o tm h l next) .fail) = r) (hf : r ≠ .fail) :
    (∃ of, ops[f]? = some of ∧ ∃ v h', opV of.op P call tm h = .ok v h') ∧ oper? ops.toList i (fun o => stepGo ops.toList P call o tm h l next) = r := by
  obtain ⟨of, hof, e⟩ := oper_some e hf
  obtain ⟨o, ho, e⟩ := oper_some e hf
  rw [sel_ite] at e
  split at e
  · rename_i hc
    refine ⟨⟨of, hof, ?_⟩, ?_⟩
    · unfold canGo at hc
      cases hop : opV of.op P call tm h with
      | fail => rw [hop] at hc; cases hc
      | ok v h' => exact ⟨v, h', rfl⟩
    · unfold oper?
      rw [nthN_eq, Array.getElem?_toList, ho]
      exact e
  · exact absurd e.symm hf
theorem Rel.alloc (hr : Rel m h w) (ob : Obj) : Rel m h (w.alloc ob) ∧ Tr m h w m h (w.alloc ob) :=
  ⟨⟨hr.next, hr.nc, fun hg => let ⟨p, hp, ho⟩ := hr.obj hg; ⟨p, hp, ho.mono (.refl _) (heap_alloc_old w ob ho.lt)⟩, hr.inj⟩,
    .refl _, rfl, rfl, rfl, by simp, fun k hk _ => heap_alloc_old w ob hk, fun _ hk => .inl hk⟩
theorem plan_run (hn : NoNG P) (hk : CallOk P call) (hm : masksOk ops D = true) (hs : Region.noSelect ops = true) (hf : r ≠ .fail) (ss : List Step) :
    ∀ (listed : Array Bool) (F : Option Nat), chk ops D ss listed F = true → NotDone P m0 h0 w0 call ops D r ss listed ∧
      ∀ f of, F = some f → ops[f]? = some of → makes of.op = true → of.guard = none → Done P m0 h0 w0 call ops D r f of ss listed := by
  have hsel := fun j o cs b h => Region.noSelect_spec hs j o cs b h
  induction ss with
  | nil =>
    intro listed F hc
    unfold chk at hc
    simp only [Bool.and_eq_true, Option.isNone_iff_eq_none, List.isEmpty_iff] at hc
    obtain ⟨rfl, hc⟩ := hc
    refine ⟨fun n tm h l m w a L _ _ _ htr hr ht _ _ e => ?_, fun _ _ h => by cases h⟩
    obtain rfl : R.norm tm h = r := e
    exact .done hc ⟨m, htr, hr, ht⟩ n
  | cons s ss ih =>
    intro listed F hc
    cases s with
    | take q =>
      have hle : ∀ {n}, (Step.take q :: ss).length ≤ n → ∃ n', n = n' + 1 ∧ ss.length ≤ n' := fun {n} h => by
        cases n with
        | zero => simp at h
        | succ n => exact ⟨n, rfl, by simpa using h⟩
      cases F with
      | none =>
        unfold chk at hc
        simp only [Bool.and_eq_true] at hc
        obtain ⟨⟨hok, _⟩, hc⟩ := hc
        obtain ⟨ihN, _⟩ := ih _ _ hc
        refine ⟨fun n tm h l m w a L hlen hsz hcl htr hr ht hh hkk e => ?_, fun _ _ h => by cases h⟩
        obtain ⟨n, rfl, hlen'⟩ := hle hlen
        have hready := fun o ho => (okTake_spec (o := o) hok ho).2.1
        refine take_step hm hs hf e hok hsz hcl hr ht hh hkk (fun _ _ => ⟨rfl, rfl⟩) fun o v x l' L' ho hx hh' hk' e' => ?_
        exact ihN n _ h l' m w _ L' hlen' (by simp [hsz]) (hcl.set hm hsz (hready o ho)) htr hr (ht.putO hx _) hh' hk' e'
      | some f =>
        unfold chk at hc
        simp only [Bool.and_eq_true, bne_iff_ne, ne_eq] at hc
        obtain ⟨⟨⟨⟨⟨hok, hok2⟩, _⟩, hap⟩, hqf⟩, hc⟩ := hc
        obtain ⟨ihN, ihD⟩ := ih _ _ hc
        refine ⟨fun n tm h l m w a L hlen hsz hcl htr hr ht hh hkk e => ?_, fun f' of hff hof hmk hg => ?_⟩
        · obtain ⟨n, rfl, hlen'⟩ := hle hlen
          have hready := fun o ho => (okTake_spec (o := o) hok ho).2.1
          refine take_step hm hs hf e hok hsz hcl hr ht hh hkk (fun _ _ => ⟨rfl, rfl⟩) fun o v x l' L' ho hx hh' hk' e' => ?_
          exact ihN n _ h l' m w _ L' hlen' (by simp [hsz]) (hcl.set hm hsz (hready o ho)) htr hr (ht.putO hx _) hh' hk' e'
        · obtain rfl := Option.some.inj hff
          intro n tm h l m w a L r0 ob X hlen hsz hcl htr hr ht hh hkk e hrun hob hnl hle0
          have h1 := chk_some hc
          cases n with
          | zero => simp only [List.length_cons] at hlen; omega
          | succ n =>
            have hready := fun o ho => (okTake_spec (o := o) hok2 ho).2.1
            have hsz2 : (listed.setIfInBounds f true).size = ops.size := by simp [hsz]
            refine take_step hm hs hf e hok2 hsz2 hcl hr ht hh hkk (fun o ho => ?_) fun o v x l' L' ho hx hh' hk' e' => ?_
            · obtain ⟨a1, a2, a3⟩ := Oper.apart_spec (apartAt_spec hap hof ho)
              exact ⟨execOp_put o (fun cs b => hsel _ _ cs b ho) a of.dst _ a1, wanted_put o a of.dst _ a1⟩
            · obtain ⟨a1, a2, a3⟩ := Oper.apart_spec (apartAt_spec hap hof ho)
              rw [put_put a2, Array.setIfInBounds_comm _ _ (Ne.symm hqf)]
              refine ihD f of rfl hof hmk hg n _ h l' m w _ L' r0 ob X (by simpa using hlen) (by simp [hsz]) ?_ htr hr (ht.putO hx _) hh' hk' e' (fun w => ?_) hob hnl hle0
              · rw [Array.setIfInBounds_comm _ _ hqf]; exact hcl.set hm hsz2 (hready o ho)
              · rw [execOp_put of (fun cs b => hsel _ _ cs b hof) a o.dst _ a3]; exact hrun w
    | go i =>
      cases F with
      | none =>
        unfold chk at hc
        simp only [Bool.and_eq_true, beq_iff_eq, Bool.not_eq_true'] at hc
        obtain ⟨⟨hready, hcm⟩, hc⟩ := hc
        obtain ⟨ihN, _⟩ := ih _ _ hc
        refine ⟨fun n tm h l m w a L hlen hsz hcl htr hr ht hh hkk e => ?_, fun _ _ h => by cases h⟩
        cases n with
        | zero => simp at hlen
        | succ n =>
          refine WA.one hready (go_step hn hk hf e hcm hr ht hh hkk (fun _ _ => ⟨rfl, rfl⟩) fun o v x m' h' w' ho h1 h2 h3 hk' e' => ⟨hk' w' h2, ?_⟩)
          exact ihN n _ h' l m' w' _ L (by simpa using hlen) (by simp [hsz]) (hcl.set hm hsz (by rw [hready]; simp)) (htr.trans h1) h2 ((ht.mono h1.le).putO h3 _) (hh.mono h1.le) hk' e'
      | some f =>
        unfold chk at hc
        simp only [Bool.and_eq_true, beq_iff_eq, Bool.not_eq_true'] at hc
        obtain ⟨⟨⟨hif, hready⟩, hcm⟩, hc⟩ := hc
        subst hif
        obtain ⟨ihN, _⟩ := ih _ _ hc
        refine ⟨fun n tm h l m w a L hlen hsz hcl htr hr ht hh hkk e => ?_, fun f' of hff hof hmk hg => ?_⟩
        · cases n with
          | zero => simp at hlen
          | succ n =>
            refine WA.one hready (go_step hn hk hf e hcm hr ht hh hkk (fun _ _ => ⟨rfl, rfl⟩) fun o v x m' h' w' ho h1 h2 h3 hk' e' => ⟨hk' w' h2, ?_⟩)
            exact ihN n _ h' l m' w' _ L (by simpa using hlen) (by simp [hsz]) (hcl.set hm hsz (by rw [hready]; simp)) (htr.trans h1) h2 ((ht.mono h1.le).putO h3 _) (hh.mono h1.le) hk' e'
        · obtain rfl := Option.some.inj hff
          intro n tm h l m w a L r0 ob X hlen hsz hcl htr hr ht hh hkk e hrun hob hnl hle0
          have e : oper? ops.toList i (fun o => stepGo ops.toList P call o tm h l fun tm h => runPlan ops.toList P call ss tm h l) = r := e
          obtain ⟨o, ho, e⟩ := oper_some e hf
          rw [hof] at ho
          obtain rfl := Option.some.inj ho
          rcases stepGo_run e hf ht with ⟨_, v, h', hop, hheld, e⟩ | ⟨hw, _⟩
          · obtain ⟨O, ob', X', sz, k⟩ := makes_mk hmk hop ht
            have hlt : r0 < w.heap.size := (Array.getElem?_eq_some_iff.1 hob).1
            obtain ⟨rfl, hX⟩ := mk_same k hrun w hlt
            obtain rfl := k.push
            have hpu := pushed (w' := w) hr (m' := m.add (r0, sz)) (h' := h.push O) (o := O) (p := (r0, sz)) rfl (M.le_add _ _) rfl hr.nc (fun b => H.get_push h b O) (.inr ⟨hlt, hnl⟩) (fun _ _ _ => rfl) (k.obj _ (M.le_add _ _) r0 w hob)
            have hv := k.val _ (M.le_add _ _) r0 (add_at hr)
            rw [hX] at hv
            refine ihN n _ _ l _ w _ L (by simpa using hlen) (by simp [hsz]) hcl ⟨htr.le.trans (M.le_add _ _), htr.os, htr.tape, htr.output, htr.size, htr.block, fun k hk => ?_⟩ hpu.1 ((ht.mono (M.le_add _ _)).putO hv of.dst) (hh.mono (M.le_add _ _)) (held_keeps (hh.mono (M.le_add _ _)) hheld) e
            rcases hpu.2 k hk with h1 | rfl
            · exact htr.sub k h1
            · exact .inr hle0
          · simp [Region.wanted, hg] at hw
    | cut i =>
      cases F with
      | some f => unfold chk at hc; cases hc
      | none =>
        unfold chk at hc
        simp only [Bool.and_eq_true, beq_iff_eq] at hc
        obtain ⟨⟨hready, hall⟩, hc⟩ := hc
        obtain ⟨ihN, _⟩ := ih _ _ hc
        refine ⟨fun n tm h l m w a L hlen hsz hcl htr hr ht hh hkk e => ?_, fun _ _ h => by cases h⟩
        cases n with
        | zero => simp at hlen
        | succ n =>
          have e : oper? ops.toList i (fun o => stepGo ops.toList P call o tm h [] fun tm h => runPlan ops.toList P call ss tm h []) = r := e
          obtain ⟨o, ho, e2⟩ := oper_some e hf
          refine ⟨fun h0 => (by rw [hready] at h0; cases h0), fun j hj => ?_⟩
          rw [hready] at hj
          obtain rfl := List.mem_singleton.1 hj
          refine .inr ⟨hall, ?_⟩
          have next : ∀ v x m' h' w', Tr m h w m' h' w' → Rel m' h' w' → conc m' v = some x → runPlan ops.toList P call ss (putTm tm o.dst v) h' [] = r →
              ∃ S' : World → Prop, S' w' ∧ WA P ops D (Out m0 h0 w0 r) n (listed.setIfInBounds j true) S' (a.put o.dst x) w' := fun v x m' h' w' h1 h2 h3 e' =>
            ⟨Sf P [], fun _ hx => absurd hx List.not_mem_nil, ihN n _ h' [] m' w' _ [] (by simpa using hlen) (by simp [hsz]) (hcl.set hm hsz (by rw [hready]; simp)) (htr.trans h1) h2 ((ht.mono h1.le).putO h3 _) HR.nil (fun _ _ _ hx => absurd hx List.not_mem_nil) e'⟩
          rcases stepGo_run e2 hf ht with ⟨hw, v, h', hop, _, e3⟩ | ⟨hw, e3⟩
          · exact reg_run hn hk ho hw hop hr ht _ _ fun m' w' x h1 h2 h3 => next v x m' h' w' h1 h2 h3 e3
          · exact .skip ho hw (next undefV undef m h w (.refl _ _ _) hr (undef_conc m) e3)
    | pair f i =>
      unfold chk at hc
      simp only [Bool.and_eq_true, Bool.or_eq_true, beq_iff_eq, bne_iff_ne, ne_eq, Bool.not_eq_true', Option.isNone_iff_eq_none] at hc
      obtain ⟨⟨⟨⟨⟨⟨⟨⟨hF, hready⟩, hready2⟩, hmk⟩, hap1⟩, hap2⟩, hfi⟩, hcm⟩, hc⟩ := hc
      obtain ⟨ihN, ihD⟩ := ih _ _ hc
      have hrf : f ∈ Region.ready .any ops listed := by rcases hready with h | h <;> rw [h] <;> simp
      have hri : i ∈ Region.ready .any ops listed := by rcases hready with h | h <;> rw [h] <;> simp
      have hdone : ∀ of, ops[f]? = some of → makes of.op = true → of.guard = none → Done P m0 h0 w0 call ops D r f of (.pair f i :: ss) listed := by
        intro of hof hmk' hg n tm h l m w a L r0 ob X hlen hsz hcl htr hr ht hh hkk e hrun hob hnl hle0
        have h1 := chk_some hc
        have hlt : r0 < w.heap.size := (Array.getElem?_eq_some_iff.1 hob).1
        cases n with
        | zero => simp only [List.length_cons] at hlen; omega
        | succ n =>
          have hsz2 : (listed.setIfInBounds f true).size = ops.size := by simp [hsz]
          refine WA.one hready2 (go_step (b := a.put of.dst (X r0)) hn hk hf (pair_oper e hf).2 hcm hr ht hh hkk (fun o ho => ?_) fun o v x m' h' w' ho t1 r1 c1 hk' e' => ⟨hk' w' r1, ?_⟩)
          · obtain ⟨a1, a2, a3⟩ := Oper.apart_spec (apartAt_spec hap1 hof ho)
            exact ⟨execOp_put o (fun cs b => hsel _ _ cs b ho) a of.dst _ a1, wanted_put o a of.dst _ a1⟩
          · obtain ⟨a1, a2, a3⟩ := Oper.apart_spec (apartAt_spec hap1 hof ho)
            rw [put_put a2, Array.setIfInBounds_comm _ _ hfi]
            refine ihD f of rfl hof hmk' hg n _ h' l m' w' _ L r0 ob X (by simpa using hlen) (by simp [hsz]) ?_ (htr.trans t1) r1 ((ht.mono t1.le).putO c1 _) (hh.mono t1.le) hk' e' (fun w => ?_) ((t1.block r0 hlt hnl).trans hob) (fun hl => ?_) hle0
            · rw [Array.setIfInBounds_comm _ _ (Ne.symm hfi)]; exact hcl.set hm hsz2 (by rw [hready2]; simp)
            · rw [execOp_put of (fun cs b => hsel _ _ cs b hof) a o.dst _ a3]; exact hrun w
            · rcases t1.sub r0 hl with h1 | h1
              · exact hnl h1
              · omega
      refine ⟨fun n tm h l m w a L hlen hsz hcl htr hr ht hh hkk e => ?_, fun f' of hff hof hmk' hg => ?_⟩
      · cases n with
        | zero => simp at hlen
        | succ n =>
          obtain ⟨⟨of, hof, v, h', hop⟩, e1⟩ := pair_oper e hf
          obtain ⟨hmk1, hg⟩ := makesAt_spec hmk hof
          obtain ⟨O, ob, X, sz, k⟩ := makes_mk hmk1 hop ht
          refine ⟨fun h0 => (by rw [h0] at hrf; cases hrf), fun j hj => .inl ?_⟩
          have hj : j = f ∨ j = i := by rcases hready with h | h <;> rw [h] at hj <;> simp at hj <;> omega
          rcases hj with rfl | rfl
          · refine wpOp_of hof (by simp [Region.wanted, hg]) ?_
            simp only [Oper.wp, k.run w, Oper.upon]
            obtain ⟨hr', ht'⟩ := hr.alloc ob
            exact ⟨hkk _ hr', hdone of hof hmk1 hg n tm h l m (w.alloc ob) a L w.heap.size ob X hlen hsz (hcl.set hm hsz hrf) (htr.trans ht') hr' ht hh hkk e k.run (heap_alloc_new w ob) (fun hl => by have := hr.live_lt hl; omega) htr.size⟩
          · refine go_step hn hk hf e1 hcm hr ht hh hkk (fun _ _ => ⟨rfl, rfl⟩) fun o v x m' h' w' ho h1 h2 h3 hk' e' => ⟨hk' w' h2, ?_⟩
            exact ihN n _ h' l m' w' _ L (by simpa using hlen) (by simp [hsz]) (hcl.set hm hsz hri) (htr.trans h1) h2 ((ht.mono h1.le).putO h3 _) (hh.mono h1.le) hk' e'
      · subst hff
        rcases hF with hF | hF
        · cases hF
        · obtain rfl := Option.some.inj hF
          exact hdone of hof hmk' hg
end
end Go.Ev
namespace Go.Ev
open Go Go.Conc
variable [G : Given]

section
variable {P : Program} {X : Ex} {E : Two} {m m' : M} {h h' : H} {w w' : World} {tm : TM} {a : Act} {v : V} {r : R} {f : FuncId} {c : Code}

/-- Every drawn region of a piece of code has a plan that fits, or none. -/
noncomputable def okC (X : Ex) (f : FuncId) (c : Code) : Bool :=
  match c with
  | .region id ops true => match X.plan f id with
    | some l => fits ops l
    | none => true
  | .seq a b => okC X f a && okC X f b
  | .cond _ a b => okC X f a && okC X f b
  | .block _ a => okC X f a
  | .loop a => okC X f a
  | .scope a => okC X f a
  | _ => true

def LoopWp (P : Program) (c : Code) (Q : Exit → Act → World → Prop) (a : Act) (w : World) : Prop :=
  ∀ (b : Frame) (k : List Item) (cs : List Frame), ∃ e a' w', Q e a' w' ∧ Arrives P (lone (b.at a (.code c :: .inLoop c :: k)) cs w) b k cs e a' w'
theorem wp_loop_of {Q : Exit → Act → World → Prop} (h : LoopWp P c Q a w) : (Code.loop c).wp P Q a w :=
  fun b k cs => let ⟨e, a', w', q, r⟩ := h b k cs; ⟨e, a', w', q, .of_steps (.one step_loop) r⟩
theorem loop_round {Q : Exit → Act → World → Prop} (h : c.wp P (Exit.then (LoopWp P c Q) Q) a w) : LoopWp P c Q a w := by
  intro b k cs
  obtain ⟨e, a₁, w₁, hq, harr⟩ := h b (.inLoop c :: k) cs
  cases e with
  | normal =>
    obtain ⟨e₂, a₂, w₂, hq₂, harr₂⟩ := hq b k cs
    exact ⟨e₂, a₂, w₂, hq₂, .of_steps (Steps.trans harr (.one step_inLoop)) harr₂⟩
  | exit id => exact ⟨_, a₁, w₁, hq, .pass (x := .inLoop c) rfl (fun _ _ => .inl (by simp)) harr⟩
  | goto l => exact ⟨_, a₁, w₁, hq, .pass (x := .inLoop c) rfl (fun _ _ => .inl (by simp)) harr⟩
  | ret => exact ⟨_, a₁, w₁, hq, .pass (x := .inLoop c) rfl (fun _ _ => .inl (by simp)) harr⟩
  | panic ch => exact ⟨_, a₁, w₁, hq, .pass (x := .inLoop c) rfl (fun _ _ => .inl (by simp)) harr⟩
  | outgrown => exact ⟨_, a₁, w₁, hq, .pass (x := .inLoop c) rfl (fun _ _ => .inl (by simp)) harr⟩

structure EvOk (P : Program) (X : Ex) (E : Two) : Prop where
  code : ∀ f c tm h r, okC X f c = true → E.code f c tm h = r → r ≠ .fail → ∀ m w a, Rel m h w → TmR m tm a → c.wp P (Out m h w r) a w
  loop : ∀ f c tm h r, okC X f c = true → E.loop f c tm h = r → r ≠ .fail → ∀ m w a, Rel m h w → TmR m tm a → LoopWp P c (Out m h w r) a w
  call : CallOk P E.call
structure Xok (P : Program) (X : Ex) : Prop where
  mixed : P.follows .mixedOrders = true
  ng : NoNG P
  fits : ∀ f fn c, codeOf P f = some (fn, c) → okC X f c = true
  fn : ∀ f g, X.fn f = some g → ∀ l h v h', g l h = .ok v h' → (∃ fn c, P.funcs[f]? = some fn ∧ fn.body = some c) ∧ ∀ m w args, Rel m h w → concL m l = some args → Calls P f args.toArray w (Gives m h w h' v)

/-- What follows a piece of code. -/
theorem then_run {k : TM → H → R} {K : Act → World → Prop} {r1 : R} (e : rThen r1 k = r) (hf : r ≠ .fail)
    (hk : ∀ tm' h' m' w' a', k tm' h' = r → Tr m h w m' h' w' → Rel m' h' w' → TmR m' tm' a' → K a' w') :
    r1 ≠ .fail ∧ ∀ e a' w', Out m h w r1 e a' w' → Exit.then K (Out m h w r) e a' w' := by
  cases r1 with
  | fail => exact absurd e.symm hf
  | norm tm' h' =>
    refine ⟨by simp, fun ex a' w' ho => ?_⟩
    cases ex <;> first | exact ho.elim | skip
    obtain ⟨m', h1, h2, h3⟩ := ho
    exact hk tm' h' m' w' a' e h1 h2 h3
  | exit id tm' h' =>
    obtain rfl : R.exit id tm' h' = r := e
    refine ⟨by simp, fun ex a' w' ho => ?_⟩
    cases ex <;> first | exact ho.elim | exact ho
  | ret tm' h' =>
    obtain rfl : R.ret tm' h' = r := e
    refine ⟨by simp, fun ex a' w' ho => ?_⟩
    cases ex <;> first | exact ho.elim | exact ho
theorem drawn_run {call : Call0} {ops : Array Oper} {id : Nat} {p : Option (List Step)} (hx : Xok P X) (hk : CallOk P call) (hp : ∀ l, p = some l → fits ops l = true) (e : drawOps P call ops.toList tm h p = r) (hf : r ≠ .fail) (hr : Rel m h w) (ht : TmR m tm a) :
    (Code.region id ops true).wp P (Out m h w r) a w := by
  cases p with
  | none => exact absurd e.symm hf
  | some l =>
    have e : runPlan ops.toList P call l tm h [] = r := e
    have hfit := hp l rfl
    unfold fits at hfit
    simp only [Bool.and_eq_true] at hfit
    obtain ⟨⟨⟨hm, hc⟩, hlen⟩, hs⟩ := hfit
    obtain ⟨hN, _⟩ := plan_run (m0 := m) (h0 := h) (w0 := w) (r := r) hx.ng hk hm hs hf l _ _ hc
    obtain ⟨hr', ht'⟩ := hr.drew
    exact wp_region_drawn hx.mixed (hN ops.size tm h [] m w.drew a [] (Nat.le_of_ble_eq_true hlen) (by simp) .start ht' hr' ht HR.nil (fun _ _ _ hx => absurd hx List.not_mem_nil) e)

theorem code_ok (hx : Xok P X) (hE : EvOk P X E) (hok : okC X f c = true) (e : codeV c P X E f tm h = r) (hf : r ≠ .fail) (hr : Rel m h w) (ht : TmR m tm a) : c.wp P (Out m h w r) a w := by
  cases c with
  | skip => obtain rfl : R.norm tm h = r := e; exact wp_skip ⟨m, .refl _ _ _, hr, ht⟩
  | label l => obtain rfl : R.norm tm h = r := e; exact wp_label ⟨m, .refl _ _ _, hr, ht⟩
  | ret => obtain rfl : R.ret tm h = r := e; exact wp_ret ⟨m, .refl _ _ _, hr, ht⟩
  | exit id => obtain rfl : R.exit id tm h = r := e; exact wp_exit ⟨rfl, m, .refl _ _ _, hr, ht⟩
  | region id ops draw =>
    have e : sel draw (drawOps P E.call ops.toList tm h (X.plan f id)) (runOps ops.toList ops.toList P E.call tm h) = r := e
    cases draw with
    | false => exact region_run hx.ng hE.call e hf hr ht
    | true =>
      refine drawn_run hx hE.call (fun l hl => ?_) e hf hr ht
      simp only [okC, hl] at hok
      exact hok
  | seq x y =>
    have e : rThen (E.code f x tm h) (E.code f y) = r := e
    simp only [okC, Bool.and_eq_true] at hok
    obtain ⟨h1, h2⟩ := then_run (m := m) (h := h) (w := w) (K := y.wp P (Out m h w r)) e hf fun tm' h' m' w' a' e' t1 r1 m1 => wp_mono (hE.code f y tm' h' r hok.2 e' hf m' w' a' r1 m1) fun _ _ _ => .trans t1
    exact wp_seq (wp_mono (hE.code f x tm h _ hok.1 rfl h1 m w a hr ht) h2)
  | cond cc x y =>
    have e : (match look tm cc with | some (.bool t) => E.code f (sel t x y) tm h | _ => .fail) = r := e
    simp only [okC, Bool.and_eq_true] at hok
    split at e
    · rename_i t hl
      have hc := look_conc ht hl
      simp only [conc, Option.some.injEq] at hc
      rw [sel_ite] at e
      refine wp_cond hc.symm ?_
      cases t with
      | true => exact hE.code f x tm h r hok.1 e hf m w a hr ht
      | false => exact hE.code f y tm h r hok.2 e hf m w a hr ht
    · exact absurd e.symm hf
  | block id x =>
    have e : rBlock id (E.code f x tm h) = r := e
    simp only [okC] at hok
    refine wp_block ?_
    cases he : E.code f x tm h with
    | fail => rw [he] at e; exact absurd e.symm hf
    | norm tm' h' =>
      rw [he] at e
      obtain rfl : R.norm tm' h' = r := e
      refine wp_mono (hE.code f x tm h _ hok he (by simp) m w a hr ht) fun ex a' w' ho => ?_
      cases ex <;> first | exact ho.elim | exact ho
    | ret tm' h' =>
      rw [he] at e
      obtain rfl : R.ret tm' h' = r := e
      refine wp_mono (hE.code f x tm h _ hok he (by simp) m w a hr ht) fun ex a' w' ho => ?_
      cases ex <;> first | exact ho.elim | exact ho
    | exit id' tm' h' =>
      rw [he] at e
      have e : sel (Nat.beq id' id) (.norm tm' h') (.exit id' tm' h') = r := e
      refine wp_mono (hE.code f x tm h _ hok he (by simp) m w a hr ht) fun ex a' w' ho => ?_
      cases ex <;> first | exact ho.elim | skip
      rename_i id2
      obtain ⟨hid2, ho⟩ := ho
      rw [sel_ite] at e
      split at e
      · rename_i hid
        have hid := Nat.eq_of_beq_eq_true hid
        subst e
        simp only [Exit.inBlock, if_pos (hid2.trans hid)]
        exact ho
      · rename_i hid
        subst e
        have hid' : ¬ (id2 = id) := fun e => hid (by rw [← hid2, e]; exact Nat.beq_refl id)
        simp only [Exit.inBlock, if_neg hid']
        exact ⟨hid2, ho⟩
  | loop x =>
    simp only [okC] at hok
    exact wp_loop_of (hE.loop f x tm h r hok e hf m w a hr ht)
  | scope x =>
    simp only [okC] at hok
    refine wp_scope_straight (wp_mono (hE.code f x tm h r hok e hf m w a hr ht) fun ex a' w' ho => ?_)
    cases ex with
    | goto l => cases r <;> exact ho.elim
    | _ => exact ho
  | _ => exact absurd (show R.fail = r from e).symm hf
theorem loop_ok (hE : EvOk P X E) (hok : okC X f c = true) (e : loopV c E f tm h = r) (hf : r ≠ .fail) (hr : Rel m h w) (ht : TmR m tm a) : LoopWp P c (Out m h w r) a w := by
  have e : rThen (E.code f c tm.clear h) (E.loop f c) = r := e
  obtain ⟨h1, h2⟩ := then_run (m := m) (h := h) (w := w) (K := LoopWp P c (Out m h w r)) e hf fun tm' h' m' w' a' e' t1 r1 m1 =>
    fun b k cs => let ⟨e, a, w, q, r⟩ := hE.loop f c tm' h' r hok e' hf m' w' a' r1 m1 b k cs; ⟨e, a, w, q.trans t1, r⟩
  exact loop_round (wp_mono (hE.code f c _ h _ hok rfl h1 m w a hr ht.clear) h2)

/-! ### results, arguments -/
def oneR (tmps : Array Value) (rv : ResultVar) : Sem Value :=
  match rv with
  | .tmp t => pure (tmps.getD t undef)
  | .cell a t => do loadVar t (← asAddr (tmps.getD a undef))
theorem results_eq (fn : Func) (tmps : Array Value) : results fn tmps = (do let vs ← fn.results.mapM (oneR tmps); pure (if h : vs.size = 1 then vs[0] else .tuple vs)) := rfl
theorem resultV_run {rv : ResultVar} {v : V} (e : resultV P tm h rv = some v) (hr : Rel m h w) (ht : TmR m tm a) :
    ∃ x, conc m v = some x ∧ (oneR a.tmps rv).run P w = .ok x w := by
  unfold resultV at e
  cases rv with
  | tmp t =>
    obtain ⟨x, hx, hc⟩ := ht.get e
    exact ⟨x, hc, by simp [oneR, hx]⟩
  | cell p ty =>
    simp only at e
    split at e
    · rename_i b ot hp
      split at e
      · rename_i v' h1 hl
        obtain rfl := Option.some.inj e
        obtain ⟨x, hx, hc⟩ := ht.get hp
        simp only [conc, Option.map_eq_some_iff] at hc
        obtain ⟨q, hq, rfl⟩ := hc
        obtain ⟨_, y, hy, hrun⟩ := loadH_run hl hr hq
        exact ⟨y, hy, by simp [oneR, hx, asAddr, hrun]⟩
      · cases e
    · cases e
noncomputable def listV (P : Program) (tm : TM) (h : H) (rs : List ResultVar) : Option (List V) := List.rec (some []) (fun r _ ih => (resultV P tm h r).bind fun v => ih.map (v :: ·)) rs
theorem results_list {rs : List ResultVar} {l : List V} (e : listV P tm h rs = some l) (hr : Rel m h w) (ht : TmR m tm a) :
    ∃ xs, concL m l = some xs ∧ (rs.mapM (oneR a.tmps)).run P w = .ok xs w := by
  induction rs generalizing l with
  | nil => obtain rfl := Option.some.inj e; exact ⟨[], rfl, by simp⟩
  | cons r rs ih =>
    have e' : ((resultV P tm h r).bind fun v => (listV P tm h rs).map (v :: ·)) = some l := e
    simp only [Option.bind_eq_some_iff, Option.map_eq_some_iff] at e'
    obtain ⟨v, hv, l', hl', rfl⟩ := e'
    obtain ⟨x, hx, hrun⟩ := resultV_run hv hr ht
    obtain ⟨xs, hxs, hruns⟩ := ih hl'
    exact ⟨x :: xs, concL_cons.2 ⟨x, xs, hx, hxs, rfl⟩, by simp [hrun, hruns]⟩
theorem results_run {fn : Func} (e : resultsV P fn.results.toList tm h = .ok v h') (hr : Rel m h w) (ht : TmR m tm a) : h' = h ∧ ∃ x, conc m v = some x ∧ (results fn a.tmps).run P w = .ok x w := by
  have hm : ∀ rs : List ResultVar, fn.results.toList = rs → fn.results.mapM (oneR a.tmps) = Functor.map List.toArray (rs.mapM (oneR a.tmps)) := by
    intro rs hrs
    have : fn.results = rs.toArray := by rw [← hrs]
    rw [this, List.mapM_toArray]
  have gen : ∀ rs l, fn.results.toList = rs → (∀ r, rs ≠ [r]) → listV P tm h rs = some l → ∃ x, conc m (.tup l) = some x ∧ (results fn a.tmps).run P w = .ok x w := by
    intro rs l hrs hne hl
    obtain ⟨xs, hxs, hruns⟩ := results_list hl hr ht
    refine ⟨.tuple xs.toArray, by simp [conc, hxs], ?_⟩
    have hlen : xs.length = rs.length := by
      have h1 : ∀ (rs : List ResultVar) (l : List V), listV P tm h rs = some l → l.length = rs.length := by
        intro rs
        induction rs with
        | nil => intro l e; obtain rfl := Option.some.inj e; rfl
        | cons r rs ih =>
          intro l e
          have e' : ((resultV P tm h r).bind fun v => (listV P tm h rs).map (v :: ·)) = some l := e
          simp only [Option.bind_eq_some_iff, Option.map_eq_some_iff] at e'
          obtain ⟨v, hv, l', hl', rfl⟩ := e'
          simp [ih l' hl']
      rw [concL_length hxs, h1 _ _ hl]
    have hne1 : ¬ xs.length = 1 := by
      rw [hlen]
      intro h1
      obtain ⟨r, hr1⟩ := List.length_eq_one_iff.1 h1
      exact hne r hr1
    rw [results_eq, hm rs hrs]
    simp [hruns, hne1]
  unfold resultsV at e
  split at e
  · rename_i r hrs
    simp only [some_ok] at e
    obtain ⟨v', hv, e⟩ := e
    injection e with e1 e2
    subst e1 e2
    obtain ⟨x, hx, hrun⟩ := resultV_run hv hr ht
    refine ⟨rfl, x, hx, ?_⟩
    rw [results_eq, hm _ hrs]
    simp [hrun]
  · rename_i hne
    simp only [some_ok] at e
    obtain ⟨l, hl, e⟩ := e
    injection e with e1 e2
    subst e1 e2
    exact ⟨rfl, gen _ l rfl (fun r h => hne r h) hl⟩
theorem enter_get (l : List V) : ∀ (i t : Nat) (v : V), (enter l i).get t none = some v → i ≤ t ∧ l[t - i]? = some v := by
  induction l with
  | nil => intro i t v e; cases e
  | cons u l ih =>
    intro i t v e
    have e' : (Ts.cons i u (enter l (i + 1))).get t none = some v := e
    rw [Ts.get_cons] at e'
    split at e'
    · rename_i hit
      subst hit
      exact ⟨Nat.le_refl _, by simpa using e'⟩
    · obtain ⟨h1, h2⟩ := ih (i + 1) t v e'
      refine ⟨by omega, ?_⟩
      rw [show t - i = (t - (i + 1)) + 1 by omega]
      simpa using h2
theorem call_ok (hx : Xok P X) (hE : EvOk P X E) : CallOk P (enterV P X E) := by
  intro f l h v h' e
  unfold enterV at e
  split at e
  · rename_i g hg
    exact hx.fn f g hg l h v h' e
  · unfold intoV at e
    split at e
    · rename_i fn c hc
      simp only [force_eq, okIf_ok, lenN_eq] at e
      obtain ⟨hle, e⟩ := e
      have hle : l.length ≤ fn.ntmps := Nat.le_of_ble_eq_true hle
      have hc0 := hc
      simp only [codeOf, Option.bind_eq_some_iff, Option.map_eq_some_iff] at hc
      obtain ⟨fn', hfn, c', hb, heq⟩ := hc
      obtain ⟨rfl, rfl⟩ := Prod.mk.inj heq
      refine ⟨⟨_, _, hfn, hb⟩, fun m w args hr hargs => ?_⟩
      have hlen := concL_length hargs
      have ht : TmR m ⟨X.mask f, fn'.ntmps, enter l 0, .nil⟩ { tmps := args.toArray ++ Array.replicate (fn'.ntmps - args.toArray.size) undef, defers := [] } := by
        refine ⟨by simp; omega, rfl, fun {t u} hg => ?_⟩
        rw [getTm_mk] at hg
        split at hg
        · obtain ⟨_, h2⟩ := enter_get l 0 t u hg
          obtain ⟨y, hy, hcy⟩ := concL_get hargs h2
          refine ⟨y, ?_, hcy⟩
          have hlt := (List.getElem?_eq_some_iff.1 hy).1
          simp only [Nat.sub_zero] at hy hlt
          rw [Array.getElem?_append_left (by simpa using hlt)]
          simpa using hy
        · cases hg
      refine calls_of_wp hfn hb ?_
      unfold bodyV at e
      have hdef : ∀ {tm' : TM} {h1 : H} {m' : M} {w' : World} {a' : Act}, resultsV P fn'.results.toList tm' h1 = .ok v h' → Tr m h w m' h1 w' → Rel m' h1 w' → TmR m' tm' a' →
          a'.defers = [] ∧ ∃ v_1, (results fn' a'.tmps).run P w' = .ok v_1 w' ∧ Gives m h w h' v (.returned v_1) w' := by
        intro tm' h1 m' w' a' e' t1 r1 m1
        obtain ⟨rfl, x, hxc, hrun⟩ := results_run e' r1 m1
        exact ⟨m1.defers, x, hrun, m', t1, r1, hxc⟩
      cases hr1 : E.code f c' ⟨X.mask f, fn'.ntmps, enter l 0, .nil⟩ h with
      | fail => rw [hr1] at e; cases e
      | exit id tm' h1 => rw [hr1] at e; cases e
      | norm tm' h1 =>
        rw [hr1] at e
        refine wp_mono (hE.code f c' _ h _ (hx.fits f _ _ hc0) hr1 (by simp) m w _ hr ht) fun ex a' w' ho => ?_
        cases ex <;> first | exact ho.elim | skip
        obtain ⟨m', t1, r1, m1⟩ := ho
        exact hdef e t1 r1 m1
      | ret tm' h1 =>
        rw [hr1] at e
        refine wp_mono (hE.code f c' _ h _ (hx.fits f _ _ hc0) hr1 (by simp) m w _ hr ht) fun ex a' w' ho => ?_
        cases ex <;> first | exact ho.elim | skip
        obtain ⟨m', t1, r1, m1⟩ := ho
        exact hdef e t1 r1 m1
    · cases e
/-- The evaluator is sound. -/
theorem ev_ok (hx : Xok P X) (n : Nat) : EvOk P X (ev P X n) := by
  induction n with
  | zero => exact ⟨fun _ _ _ _ _ _ e hf => absurd e.symm hf, fun _ _ _ _ _ _ e hf => absurd e.symm hf, fun _ _ _ _ _ e => by cases e⟩
  | succ n ih => exact ⟨fun _ _ _ _ _ hok e hf _ _ _ hr ht => code_ok hx ih hok e hf hr ht, fun _ _ _ _ _ hok e hf _ _ _ hr ht => loop_ok ih hok e hf hr ht, call_ok hx ih⟩
end
end Go.Ev
