/- Operations that turn nothing, as the evaluator says (first part). Conditions: the heap stands for the world. -/
import Derived.Test.YtkdihjhndebloaaGreatDoorEvRel
import Derived.MapKept
import Derived.ChangeKeysEq
import Derived.Laws.StructEq
set_option linter.unusedSectionVars false
set_option linter.unusedVariables false
set_option linter.unusedSimpArgs false
namespace Go.Ev
open Go
variable [G : Given]

section
variable {P : Program} {m : M} {h h' : H} {w : World} {tm : TM} {a : Act} {o : Oper} {v : V} {call : Call0}

/-- The operation yields x and leaves the world. -/
def Yl (P : Program) (o : Oper) (a : Act) (w : World) (x : Value) : Prop := (execOp a.eval o).run P w = .ok (.value x) w
/-- What a quiet operation's evaluation must give. -/
def Qt (P : Program) (m : M) (o : Oper) (a : Act) (w : World) (h h' : H) (v : V) : Prop := h' = h ∧ ∃ x, conc m v = some x ∧ Yl P o a w x

theorem run_isAgg {t : TypeId} {b : Bool} (e : isAggT P t = some b) (w : World) : (isAgg t).run P w = .ok b w := by
  simp only [isAggT, Option.map_eq_some_iff] at e
  obtain ⟨d, hd, rfl⟩ := e
  simp only [isAgg, Sem.run_bind, run_underlying hd, Result.andThen_ok]
  cases d <;> rfl
theorem run_size {t : TypeId} {n : Nat} (e : sizeT P t = some n) (w : World) : (sizeOf t).run P w = .ok n w := by
  simp only [sizeT, Option.map_eq_some_iff] at e
  obtain ⟨i, hi, rfl⟩ := e
  simp [sizeOf, typeInfo, hi]
theorem run_info {t : TypeId} {i : TypeInfo} (e : P.info? t = some i) (w : World) : (typeInfo t).run P w = .ok i w := by simp [typeInfo, e]
theorem run_zero {t : TypeId} {z : V} (e : zeroT P t = some z) (m : M) (w : World) : ∃ x, conc m z = some x ∧ (zeroValue t).run P w = .ok x w := by
  simp only [zeroT, Option.bind_eq_some_iff] at e
  obtain ⟨i, hi, y, hy, hz⟩ := e
  exact ⟨y, absV_conc m _ _ hz, by simp [zeroValue, typeInfo, hi, hy]⟩
theorem elemT_u {t e : TypeId} (h : elemT P t = some e) : P.underlying t = some (.slice e) := by
  simp only [elemT, Option.bind_eq_some_iff] at h
  obtain ⟨d, hd, h⟩ := h
  cases d <;> simp at h
  subst h
  exact hd
theorem add_plain (r o j : Nat) : (⟨r, o, none⟩ : Addr).add j = ⟨r, o + j, none⟩ := by
  unfold Addr.add
  split
  · rename_i e; subst e; rfl
  · rfl
theorem cellsV {v : V} {x : Value} (e : conc m v = some x) : concL m v.cells = some x.cells.toList := by
  cases v with
  | agg l =>
    simp only [conc, Option.map_eq_some_iff] at e
    obtain ⟨y, hy, rfl⟩ := e
    simpa [V.cells, Value.cells] using hy
  | raw b =>
    have e0 := e
    simp only [conc, Option.some.injEq] at e
    subst e
    have h1 : (G.val b).cells.toList = [G.val b] := by
      have := G.one b
      cases hv : G.val b <;> rw [hv] at this <;> first | rfl | (simp [Value.oneCell'] at this)
    rw [h1]
    exact concL_cons.2 ⟨_, _, e0, rfl, rfl⟩
  | sl b o n c =>
    have e0 := e
    cases c with
    | ex c =>
      simp only [conc, Option.bind_eq_some_iff] at e
      obtain ⟨p, hp, e⟩ := e
      split at e <;> simp at e
      subst e
      simp only [V.cells, Value.cells, concL_cons, concL_nil]
      exact ⟨_, _, e0, rfl, rfl⟩
    | un u d s =>
      simp only [conc, Option.bind_eq_some_iff] at e
      obtain ⟨p, hp, c, hc, e⟩ := e
      split at e <;> simp at e
      subst e
      simp only [V.cells, Value.cells, concL_cons, concL_nil]
      exact ⟨_, _, e0, rfl, rfl⟩
  | sun b o o' u d =>
    have e0 := e
    simp only [conc, Option.bind_eq_some_iff] at e
    obtain ⟨p, hp, c, hc, e⟩ := e
    split at e <;> simp at e
    subst e
    simp only [V.cells, Value.cells, concL_cons, concL_nil]
    exact ⟨_, _, e0, rfl, rfl⟩
  | fn f c d =>
    have e0 := e
    simp only [conc, Option.bind_eq_some_iff, Option.map_eq_some_iff] at e
    obtain ⟨_, _, _, _, rfl⟩ := e
    simp only [V.cells, Value.cells, concL_cons, concL_nil]
    exact ⟨_, _, e0, rfl, rfl⟩
  | str s =>
    have e0 := e
    simp [conc] at e
    obtain ⟨_, rfl⟩ := e
    simp only [V.cells, Value.cells, concL_cons, concL_nil]
    exact ⟨_, _, e0, rfl, rfl⟩
  | tup l =>
    have e0 := e
    simp only [conc, Option.map_eq_some_iff] at e
    obtain ⟨y, hy, rfl⟩ := e
    simp only [V.cells, Value.cells, concL_cons, concL_nil]
    exact ⟨_, _, e0, rfl, rfl⟩
  | ifc t u =>
    have e0 := e
    simp only [conc, Option.map_eq_some_iff] at e
    obtain ⟨y, hy, rfl⟩ := e
    simp only [V.cells, Value.cells, concL_cons, concL_nil]
    exact ⟨_, _, e0, rfl, rfl⟩
  | ptr b o =>
    have e0 := e
    simp only [conc, Option.map_eq_some_iff] at e
    obtain ⟨y, hy, rfl⟩ := e
    simp only [V.cells, Value.cells, concL_cons, concL_nil]
    exact ⟨_, _, e0, rfl, rfl⟩
  | map b =>
    have e0 := e
    simp only [conc, Option.map_eq_some_iff] at e
    obtain ⟨y, hy, rfl⟩ := e
    simp only [V.cells, Value.cells, concL_cons, concL_nil]
    exact ⟨_, _, e0, rfl, rfl⟩
  | chan b =>
    have e0 := e
    simp only [conc, Option.map_eq_some_iff] at e
    obtain ⟨y, hy, rfl⟩ := e
    simp only [V.cells, Value.cells, concL_cons, concL_nil]
    exact ⟨_, _, e0, rfl, rfl⟩
  | _ =>
    have e0 := e
    simp only [conc, Option.some.injEq] at e
    subst e
    simp only [V.cells, Value.cells, concL_cons, concL_nil]
    exact ⟨_, _, e0, rfl, rfl⟩

/-- The cells of a row from o on. -/
theorem run_cellsAt {r ot n : Nat} {c rest : List Value} {t : TypeId} (hw : w.heap[r]? = some (.cells (c ++ rest).toArray t (0, 0))) (hn : ot + n ≤ c.length) :
    (loadCells ⟨r, ot, none⟩ n).run P w = .ok ((c.drop ot).take n).toArray w := by
  have hlen : ((c.drop ot).take n).length = n := by simp; omega
  have := run_loadCells_list (P := P) w ⟨r, ot, none⟩ ((c.drop ot).take n) (fun j v hv => by
    rw [add_plain, cell_of_row w r (ot + j) _ t (0, 0) hw]
    have hj : j < n := by have := (List.getElem?_eq_some_iff.1 hv).1; omega
    rw [List.getElem?_take_of_lt hj, List.getElem?_drop] at hv
    rw [List.getElem?_toArray]
    exact getElem?_append_some _ hv)
  rwa [hlen] at this
theorem loadH_run {t : TypeId} {b ot : Nat} (e : loadH P t h b ot = .ok v h') (hr : Rel m h w) {p : Nat × Nat} (hp : m.blk[b]? = some p) :
    h' = h ∧ ∃ x, conc m v = some x ∧ (loadVar t ⟨p.1, ot, none⟩).run P w = .ok x w := by
  simp only [loadH, some_ok] at e
  obtain ⟨ob, hob, e⟩ := e
  have ho := hr.at hob hp
  cases ob with
  | cells u cs =>
    obtain ⟨_, c, rest, hc, hw, _⟩ := ho
    simp only [some_ok] at e
    obtain ⟨ag, hag, e⟩ := e
    cases ag
    case true =>
      simp only [sel_true, some_ok, okIf_ok, lenN_eq, takeN_eq, dropN_eq] at e
      obtain ⟨n, hn, hle, e⟩ := e
      injection e with e1 e2
      subst e1 e2
      have hle' : ot + n ≤ c.length := by rw [concL_length hc]; exact Nat.le_of_ble_eq_true hle
      refine ⟨rfl, .agg ((c.drop ot).take n).toArray, by simp only [conc, concL_take (concL_drop hc ot) n, Option.map_some], ?_⟩
      simp only [loadVar, Sem.run_bind, run_isAgg hag, Result.andThen_ok, if_true, run_size hn, run_cellsAt hw hle']
      rfl
    case false =>
      simp only [sel_false, some_ok, nthN_eq] at e
      obtain ⟨u', hu, e⟩ := e
      injection e with e1 e2
      subst e1 e2
      obtain ⟨y, hy, hcv⟩ := concL_get hc hu
      refine ⟨rfl, y, hcv, ?_⟩
      have hcell : w.cell? ⟨p.1, ot, none⟩ = some y := by
        rw [cell_of_row w p.1 ot _ u (0, 0) hw, List.getElem?_toArray]
        exact getElem?_append_some _ hy
      simp only [loadVar, Sem.run_bind, run_isAgg hag, Result.andThen_ok, Bool.false_eq_true, if_false, run_load, hcell]
  | _ => simp at e

theorem q_move {x : Operand} (ho : o.op = .move x ∨ o.op = .assign x) (e : oMove x P call tm h = .ok v h') (ht : TmR m tm a) : Qt P m o a w h h' v := by
  simp only [oMove, some_ok] at e
  obtain ⟨y, hy, e⟩ := e
  injection e with e1 e2
  subst e1 e2
  refine ⟨rfl, _, look_conc ht hy, ?_⟩
  rcases ho with ho | ho <;> simp [Yl, execOp, ho]
theorem q_pick {c x y : Operand} (ho : o.op = .pick c x y) (e : oPick c x y P call tm h = .ok v h') (ht : TmR m tm a) : Qt P m o a w h h' v := by
  simp only [oPick, some_ok] at e
  obtain ⟨cv, hc, e⟩ := e
  have hc' := look_conc ht hc
  cases cv <;> simp only [some_ok] at e <;> try (cases e; done)
  rename_i b
  obtain ⟨y', hy, e⟩ := e
  injection e with e1 e2
  subst e1 e2
  simp only [conc, Option.some.injEq] at hc'
  refine ⟨rfl, _, look_conc ht hy, ?_⟩
  simp only [Yl, execOp, ho, ← hc', asBool]
  cases b <;> rfl
theorem q_load {t : TypeId} {x : Operand} (ho : o.op = .load t x) (e : oLoad t x P call tm h = .ok v h') (hr : Rel m h w) (ht : TmR m tm a) : Qt P m o a w h h' v := by
  simp only [oLoad, some_ok] at e
  obtain ⟨av, ha, e⟩ := e
  have ha' := look_conc ht ha
  cases av <;> try (simp at e; done)
  rename_i b ot
  simp only [conc, Option.map_eq_some_iff] at ha'
  obtain ⟨p, hp, hx⟩ := ha'
  obtain ⟨rfl, x', hx', hrun⟩ := loadH_run e hr hp
  refine ⟨rfl, x', hx', ?_⟩
  simp only [Yl, execOp, ho, ← hx, Instr.loadAt, Instr.sureAddr, Sem.run_bind, Sem.run_pure, Result.andThen_ok, hrun]
theorem q_nil {x : Operand} (ho : o.op = .nilCheck x) (e : oNilCheck x P call tm h = .ok v h') (ht : TmR m tm a) : Qt P m o a w h h' v := by
  simp only [oNilCheck, some_ok] at e
  obtain ⟨av, ha, e⟩ := e
  have ha' := look_conc ht ha
  cases av <;> simp only [] at e <;> try (cases e; done)
  · injection e with e1 e2
    subst e1 e2
    refine ⟨rfl, _, ha', ?_⟩
    simp only [conc, Option.map_eq_some_iff] at ha'
    obtain ⟨p, hp, hx⟩ := ha'
    simp [Yl, execOp, ho, ← hx]
  · injection e with e1 e2
    subst e1 e2
    refine ⟨rfl, _, ha', ?_⟩
    simp only [conc, Option.bind_eq_some_iff, Option.map_eq_some_iff] at ha'
    obtain ⟨y, hy, z, hz, hx⟩ := ha'
    simp [Yl, execOp, ho, ← hx]
theorem q_iface {t : TypeId} {x : Operand} (ho : o.op = .makeInterface t x) (e : oIface t x P call tm h = .ok v h') (ht : TmR m tm a) : Qt P m o a w h h' v := by
  simp only [oIface, some_ok, okIf_ok] at e
  obtain ⟨y, hy, d, hd, hn, e⟩ := e
  injection e with e1 e2
  subst e1 e2
  refine ⟨rfl, .iface t (a.eval x), by simp only [conc, look_conc ht hy, Option.map_some], ?_⟩
  simp only [Yl, execOp, ho, Instr.makeInterface, Sem.run_bind, run_underlying hd, Result.andThen_ok]
  cases d <;> first | rfl | simp [notIface] at hn
theorem q_extract {x : Operand} {i : Nat} (ho : o.op = .extract x i) (e : oExtract x i P call tm h = .ok v h') (ht : TmR m tm a) : Qt P m o a w h h' v := by
  simp only [oExtract, some_ok] at e
  obtain ⟨av, ha, e⟩ := e
  have ha' := look_conc ht ha
  cases av <;> simp only [some_ok, nthN_eq] at e <;> try (cases e; done)
  obtain ⟨u, hu, e⟩ := e
  injection e with e1 e2
  subst e1 e2
  simp only [conc, Option.map_eq_some_iff] at ha'
  obtain ⟨l, hl, hx⟩ := ha'
  obtain ⟨y, hy, hc⟩ := concL_get hl hu
  refine ⟨rfl, y, hc, ?_⟩
  simp [Yl, execOp, ho, ← hx, Instr.extract, hy]
theorem fieldT_u {t : TypeId} {i : Nat} {f : Field} (e : fieldT P t i = some f) : ∃ fs : Array Field, P.underlying t = some (.struct fs) ∧ fs[i]? = some f := by
  simp only [fieldT, fieldsT, nthN_eq, Option.bind_eq_some_iff] at e
  obtain ⟨l, ⟨d, hd, hl⟩, hf⟩ := e
  cases d <;> simp at hl
  subst hl
  exact ⟨_, hd, by simpa using hf⟩
theorem q_fieldAddr {t : TypeId} {x : Operand} {f : Nat} (ho : o.op = .fieldAddr t x f) (e : oFieldAddr t x f P call tm h = .ok v h') (ht : TmR m tm a) : Qt P m o a w h h' v := by
  simp only [oFieldAddr, some_ok] at e
  obtain ⟨av, ha, e⟩ := e
  have ha' := look_conc ht ha
  cases av <;> simp only [some_ok, okIf_ok, force_eq] at e <;> try (cases e; done)
  rename_i b ot
  obtain ⟨fl, hfl, n, hn, hpos, e⟩ := e
  injection e with e1 e2
  subst e1 e2
  simp only [conc, Option.map_eq_some_iff] at ha'
  obtain ⟨p, hp, hx⟩ := ha'
  obtain ⟨fs, hu, hf⟩ := fieldT_u hfl
  have hn0 : n ≠ 0 := by have : 0 < n := by simpa using hpos
                         omega
  refine ⟨rfl, .pointer (some ⟨p.1, ot + fl.offset, none⟩), by simp [conc, hp], ?_⟩
  simp [Yl, execOp, ho, ← hx, Instr.fieldAt, Instr.sureAddr, run_underlying hu, hf, fieldPlace, run_size hn, hn0, add_plain]
theorem partO_run {t : TypeId} {cs : List V} {c : List Value} {off : Nat} {v : V} (e : partO P t cs off = some v) (hc : concL m cs = some c) (w : World) :
    ∃ x, conc m v = some x ∧ (part t c.toArray off).run P w = .ok x w := by
  simp only [partO, Option.bind_eq_some_iff] at e
  obtain ⟨ag, hag, e⟩ := e
  cases ag
  case true =>
    simp only [sel_true, Option.map_eq_some_iff, takeN_eq, dropN_eq] at e
    obtain ⟨n, hn, rfl⟩ := e
    refine ⟨.agg ((c.drop off).take n).toArray, by simp only [conc, concL_take (concL_drop hc off) n, Option.map_some], ?_⟩
    have : c.toArray.extract off (off + n) = ((c.drop off).take n).toArray := by
      simp [List.extract_toArray, List.extract_eq_take_drop]
    simp [part, run_isAgg hag, run_size hn, this]
  case false =>
    simp only [sel_false, nthN_eq] at e
    obtain ⟨y, hy, hcv⟩ := concL_get hc e
    exact ⟨y, hcv, by simp [part, run_isAgg hag, hy]⟩
theorem q_field {t : TypeId} {x : Operand} {f : Nat} (ho : o.op = .field t x f) (e : oField t x f P call tm h = .ok v h') (ht : TmR m tm a) : Qt P m o a w h h' v := by
  simp only [oField, some_ok] at e
  obtain ⟨av, ha, e⟩ := e
  have ha' := look_conc ht ha
  cases av <;> simp only [some_ok, partV] at e <;> try (cases e; done)
  rename_i cs
  obtain ⟨fl, hfl, u, hu, e⟩ := e
  injection e with e1 e2
  subst e1 e2
  simp only [conc, Option.map_eq_some_iff] at ha'
  obtain ⟨c, hc, hx⟩ := ha'
  obtain ⟨fs, hus, hf⟩ := fieldT_u hfl
  obtain ⟨y, hy, hrun⟩ := partO_run hu hc w
  refine ⟨rfl, y, hy, ?_⟩
  simp [Yl, execOp, ho, ← hx, Instr.field, run_underlying hus, hf, asAgg, hrun]
theorem natOf_int {v : V} {n : Nat} (e : natOf v = some n) : ∃ k, v = .int k (Int.ofNat n) := by
  unfold natOf at e
  split at e
  · exact ⟨_, by rw [Option.some.inj e]⟩
  · cases e
theorem q_indexAddr {t : TypeId} {x i : Operand} (ho : o.op = .indexAddr t x i) (e : oIndexAddr t x i P call tm h = .ok v h') (ht : TmR m tm a) : Qt P m o a w h h' v := by
  simp only [oIndexAddr, some_ok, indexAddrV] at e
  obtain ⟨av, ha, iv, hi, n, hn, e⟩ := e
  have ha' := look_conc ht ha
  have hi' := look_conc ht hi
  obtain ⟨k, rfl⟩ := natOf_int hn
  simp only [conc, Option.some.injEq] at hi'
  cases av <;> simp only [some_ok] at e <;> try (cases e; done)
  case ptr b ot =>
    obtain ⟨d, hd, e⟩ := e
    cases d <;> simp only [some_ok, okIf_ok, force_eq] at e <;> try (cases e; done)
    rename_i len el
    obtain ⟨sz, hsz, hlt, e⟩ := e
    injection e with e1 e2
    subst e1 e2
    have hlt' : n < len := by simpa using hlt
    simp only [conc, Option.map_eq_some_iff] at ha'
    obtain ⟨p, hp, hx⟩ := ha'
    refine ⟨rfl, .pointer (some ⟨p.1, ot + n * sz, none⟩), by simp [conc, hp], ?_⟩
    simp [Yl, execOp, ho, ← hx, ← hi', Instr.indexAt, asIntOf, run_underlying hd, Instr.sureAddr, run_size hsz, hlt', add_plain]
  case sl b ot len c =>
    simp only [okIf_ok, force_eq] at e
    obtain ⟨el, hel, sz, hsz, hlt, e⟩ := e
    injection e with e1 e2
    subst e1 e2
    have hlt' : n < len := by simpa using hlt
    have hx : ∃ p c', m.blk[b]? = some p ∧ a.eval x = .slice (some ⟨p.1, ot, none⟩) len c' := by
      cases c with
      | ex c =>
        simp only [conc, Option.bind_eq_some_iff] at ha'
        obtain ⟨p, hp, e⟩ := ha'
        split at e <;> simp at e
        exact ⟨p, c, hp, e.symm⟩
      | un u d s =>
        simp only [conc, Option.bind_eq_some_iff] at ha'
        obtain ⟨p, hp, c, hc, e⟩ := ha'
        split at e <;> simp at e
        exact ⟨p, _, hp, e.symm⟩
    obtain ⟨p, c', hp, hx⟩ := hx
    refine ⟨rfl, .pointer (some ⟨p.1, ot + n * sz, none⟩), by simp [conc, hp], ?_⟩
    simp [Yl, execOp, ho, hx, ← hi', Instr.indexAt, asIntOf, run_underlying (elemT_u hel), run_size hsz, hlt', add_plain]
theorem bytesA_get {s : List Nat} {i c : Nat} (hs : small s = true) (hc : s[i]? = some c) : ∃ b : UInt8, (bytesA s)[i]? = some b ∧ b.toNat = c := by
  have hlt : c < 256 := small_iff.1 hs c (List.mem_of_getElem? hc)
  refine ⟨UInt8.ofNat c, ?_, by simp [UInt8.toNat_ofNat', Nat.mod_eq_of_lt hlt]⟩
  have hi : i < s.length := (List.getElem?_eq_some_iff.1 hc).1
  have h1 : (bytesA s).size = s.length := by simp [bytesA, ByteArray.size]
  rw [getElem?_pos (bytesA s) i (by rw [h1]; exact hi)]
  congr 1
  have h2 : (bytesA s)[i]'(by rw [h1]; exact hi) = (s.map UInt8.ofNat).toArray[i]'(by simpa using hi) := rfl
  rw [h2]
  simp [(List.getElem?_eq_some_iff.1 hc).2]
theorem q_index {t : TypeId} {x i : Operand} (ho : o.op = .index t x i) (e : oIndex t x i P call tm h = .ok v h') (ht : TmR m tm a) : Qt P m o a w h h' v := by
  simp only [oIndex, some_ok, indexV] at e
  obtain ⟨av, ha, iv, hi, n, hn, e⟩ := e
  have ha' := look_conc ht ha
  have hi' := look_conc ht hi
  obtain ⟨k, rfl⟩ := natOf_int hn
  simp only [conc, Option.some.injEq] at hi'
  cases av <;> simp only [some_ok] at e <;> try (cases e; done)
  case str s =>
    obtain ⟨d, hd, e⟩ := e
    cases d <;> simp only [some_ok, nthN_eq] at e <;> try (cases e; done)
    obtain ⟨c, hc, e⟩ := e
    injection e with e1 e2
    subst e1 e2
    simp only [conc, Option.ite_none_right_eq_some, Option.some.injEq] at ha'
    obtain ⟨hs, hx⟩ := ha'
    obtain ⟨b, hb, hbc⟩ := bytesA_get hs hc
    refine ⟨rfl, .int .u8 (Int.ofNat c), rfl, ?_⟩
    simp [Yl, execOp, ho, ← hx, ← hi', Instr.index, asIntOf, run_underlying hd, hb, hbc]
  case agg cs =>
    obtain ⟨d, hd, e⟩ := e
    cases d <;> simp only [some_ok, okIf_ok, partV] at e <;> try (cases e; done)
    rename_i len el
    obtain ⟨sz, hsz, hlt, u, hu, e⟩ := e
    injection e with e1 e2
    subst e1 e2
    have hlt' : n < len := by simpa using hlt
    simp only [conc, Option.map_eq_some_iff] at ha'
    obtain ⟨c, hc, hx⟩ := ha'
    obtain ⟨y, hy, hrun⟩ := partO_run hu hc w
    have hrun : (part el c.toArray (n * sz)).run P w = .ok y w := hrun
    refine ⟨rfl, y, hy, ?_⟩
    simp [Yl, execOp, ho, ← hx, ← hi', Instr.index, asIntOf, run_underlying hd, run_size hsz, hlt', hrun]
theorem q_func {fn : Fn} {xs ys : Array Operand} (ho : o.op = .makeFunc fn xs ys) (e : oFunc fn xs ys P call tm h = .ok v h') (ht : TmR m tm a) : Qt P m o a w h h' v := by
  simp only [oFunc] at e
  cases fn <;> simp only [some_ok] at e <;> try (cases e; done)
  rename_i f
  obtain ⟨l, hl, l', hl', e⟩ := e
  injection e with e1 e2
  subst e1 e2
  refine ⟨rfl, .func (.func f) (xs.toList.map a.eval).toArray (ys.toList.map a.eval).toArray, by simp only [conc, lookAll_conc ht hl, lookAll_conc ht hl', Option.map_some, Option.bind_some], ?_⟩
  have e1 : (xs.toList.map a.eval).toArray = xs.map a.eval := by cases xs; simp
  have e2 : (ys.toList.map a.eval).toArray = ys.map a.eval := by cases ys; simp
  simp [Yl, execOp, ho, Instr.makeFunc, e1, e2]
end
end Go.Ev
namespace Go.Ev
open Go
variable [G : Given]

section
variable {P : Program} {m : M} {h h' : H} {w : World} {tm : TM} {a : Act} {o : Oper} {v : V} {call : Call0}

theorem ltI_eq (a b : Int) : ltI a b = decide (a < b) := by
  cases a <;> cases b
  · rename_i x y
    show Nat.blt x y = _
    by_cases hxy : x < y
    · rw [show Nat.blt x y = true from by simpa using hxy]; simp [hxy]
    · rw [show Nat.blt x y = false from Bool.eq_false_iff.2 (by simpa using hxy)]; simp [hxy]
  · rename_i x y
    show false = _
    simp; omega
  · rename_i x y
    show true = _
    simp; omega
  · rename_i x y
    show Nat.blt y x = _
    by_cases hxy : y < x
    · rw [show Nat.blt y x = true from by simpa using hxy]; simp; omega
    · rw [show Nat.blt y x = false from Bool.eq_false_iff.2 (by simpa using hxy)]; simp; omega
theorem eqI_eq (a b : Int) : eqI a b = decide (a = b) := by
  cases a <;> cases b
  · rename_i x y
    show Nat.beq x y = _
    by_cases hxy : x = y
    · subst hxy; simp
    · rw [show Nat.beq x y = false from Bool.eq_false_iff.2 fun e => hxy (Nat.eq_of_beq_eq_true e)]; simp; omega
  · rename_i x y
    show false = _
    simp
  · rename_i x y
    show false = _
    simp
  · rename_i x y
    show Nat.beq x y = _
    by_cases hxy : x = y
    · subst hxy; simp
    · rw [show Nat.beq x y = false from Bool.eq_false_iff.2 fun e => hxy (Nat.eq_of_beq_eq_true e)]; simp; omega
theorem wrapN_eq (m t a : Nat) : wrapN m t a = if a < t then (a : Int) else if a % m < t then ((a % m : Nat) : Int) else Int.negSucc (m - a % m - 1) := by
  unfold wrapN
  rw [sel_ite, force_eq, sel_ite, show Nat.mod a m = a % m from rfl]
  simp [Nat.sub_eq]
theorem wrapV_eq (k : IntKind) (n : Int) : wrapV k n = k.wrap n := by
  cases n with
  | ofNat a =>
    show wrapN (modK k) (topK k) a = _
    rw [wrapN_eq]
    cases k <;> simp only [modK, topK, IntKind.wrap, IntKind.bits, IntKind.signed] <;> (repeat' split) <;> simp_all <;> omega
  | negSucc a =>
    show wrapN (modK k) (topK k) (modK k - 1 - a % modK k) = _
    rw [wrapN_eq]
    cases k <;> simp only [modK, topK, IntKind.wrap, IntKind.bits, IntKind.signed] <;> (repeat' split) <;> simp_all <;> omega
theorem iNum_ok {z : Int} {k : IntKind} (e : iNum z k h = .ok v h') : v = .int k (k.wrap z) ∧ h' = h := by
  rw [iNum, forceI_eq, wrapV_eq] at e
  injection e with e1 e2
  exact ⟨e1.symm, e2.symm⟩
theorem bytesEq_eq (a b : List Nat) : bytesEq a b = decide (a = b) := by
  induction a generalizing b with
  | nil => cases b <;> simp [bytesEq]
  | cons x a ih =>
    cases b with
    | nil => simp [bytesEq]
    | cons y b =>
      show sel (Nat.beq x y) (bytesEq a b) false = _
      by_cases hxy : x = y
      · subst hxy; rw [Nat.beq_refl, sel_true, ih]; simp
      · rw [show Nat.beq x y = false from Bool.eq_false_iff.2 fun e => hxy (Nat.eq_of_beq_eq_true e)]; simp [hxy]
theorem ofNat_lt {x y : Nat} (hx : x < 256) (hy : y < 256) : (UInt8.ofNat x < UInt8.ofNat y) ↔ x < y := by
  rw [UInt8.lt_iff_toNat_lt]; simp [UInt8.toNat_ofNat', Nat.mod_eq_of_lt hx, Nat.mod_eq_of_lt hy]
theorem ofNat_eq {x y : Nat} (hx : x < 256) (hy : y < 256) : UInt8.ofNat x = UInt8.ofNat y ↔ x = y := by
  constructor
  · intro e
    have := congrArg UInt8.toNat e
    simpa [UInt8.toNat_ofNat', Nat.mod_eq_of_lt hx, Nat.mod_eq_of_lt hy] using this
  · rintro rfl; rfl
theorem bytesLt_eq (a b : List Nat) (ha : small a = true) (hb : small b = true) : bytesLt a b = Op.bytesLess (a.map UInt8.ofNat) (b.map UInt8.ofNat) := by
  induction a generalizing b with
  | nil => cases b <;> simp [bytesLt, Op.bytesLess]
  | cons x a ih =>
    cases b with
    | nil => simp [bytesLt, Op.bytesLess]
    | cons y b =>
      simp only [small_cons, Bool.and_eq_true, decide_eq_true_eq] at ha hb
      show sel (Nat.blt x y) true (sel (Nat.beq x y) (bytesLt a b) false) = _
      simp only [List.map_cons, Op.bytesLess]
      rw [← ih b ha.2 hb.2]
      by_cases h1 : x < y
      · rw [show Nat.blt x y = true from by simpa using h1]
        simp [(ofNat_lt ha.1 hb.1).2 h1]
      · rw [show Nat.blt x y = false from Bool.eq_false_iff.2 (by simpa using h1)]
        have h1' : ¬ UInt8.ofNat x < UInt8.ofNat y := fun e => h1 ((ofNat_lt ha.1 hb.1).1 e)
        by_cases h2 : x = y
        · subst h2; rw [Nat.beq_refl]; simp
        · rw [show Nat.beq x y = false from Bool.eq_false_iff.2 fun e => h2 (Nat.eq_of_beq_eq_true e)]
          have h2' : ¬ UInt8.ofNat x = UInt8.ofNat y := fun e => h2 ((ofNat_eq ha.1 hb.1).1 e)
          simp [h1', h2']
theorem map_ofNat_inj {a b : List Nat} (ha : small a = true) (hb : small b = true) : a.map UInt8.ofNat = b.map UInt8.ofNat ↔ a = b := by
  induction a generalizing b with
  | nil => cases b <;> simp
  | cons x a ih =>
    cases b with
    | nil => simp
    | cons y b =>
      simp only [small_cons, Bool.and_eq_true, decide_eq_true_eq] at ha hb
      simp only [List.map_cons, List.cons.injEq, ofNat_eq ha.1 hb.1, ih ha.2 hb.2]
theorem bytesA_list (s : List Nat) : (bytesA s).toList = s.map UInt8.ofNat := by rw [ByteArray.toList_eq]; simp [bytesA]
theorem bytesA_size (s : List Nat) : (bytesA s).size = s.length := by simp [bytesA, ByteArray.size]
theorem small_append {a b : List Nat} : small (a ++ b) = true ↔ small a = true ∧ small b = true := by
  simp only [small_iff, List.mem_append]
  exact ⟨fun hh => ⟨fun c hc => hh c (.inl hc), fun c hc => hh c (.inr hc)⟩, fun hh c hc => hc.elim (hh.1 c) (hh.2 c)⟩
theorem bytesA_append (a b : List Nat) : bytesA a ++ bytesA b = bytesA (a ++ b) := by
  apply ByteArray.ext
  simp [bytesA]
end
end Go.Ev
namespace Go.Ev
open Go
variable [G : Given]

section
variable {P : Program} {m : M} {h h' : H} {w : World} {tm : TM} {a : Act} {o : Oper} {v : V} {call : Call0}

theorem top_le (k : IntKind) : topK k ≤ 2 ^ k.bits := by cases k <;> decide
theorem top_pow (k : IntKind) : ∃ n, topK k = 2 ^ n ∧ n ≤ k.bits := by
  cases k
  · exact ⟨7, rfl, by decide⟩
  · exact ⟨15, rfl, by decide⟩
  · exact ⟨31, rfl, by decide⟩
  · exact ⟨63, rfl, by decide⟩
  · exact ⟨8, rfl, by decide⟩
  · exact ⟨16, rfl, by decide⟩
  · exact ⟨32, rfl, by decide⟩
  · exact ⟨64, rfl, by decide⟩
theorem wrap_small (k : IntKind) (n : Nat) (hn : n < topK k) : k.wrap (n : Int) = n := by
  cases k <;> simp only [topK] at hn <;> simp only [IntKind.wrap, IntKind.bits, IntKind.signed] <;> (try split) <;> simp_all <;> omega
theorem ofInt_nat (k : IntKind) (x : Nat) (hx : x < topK k) : (BitVec.ofInt k.bits (x : Int)).toNat = x := by
  rw [BitVec.ofInt_natCast, BitVec.toNat_ofNat, Nat.mod_eq_of_lt (Nat.lt_of_lt_of_le hx (top_le k))]

theorem not_ltI (x y : Int) : (!ltI x y) = decide (y ≤ x) := by
  rw [ltI_eq]
  by_cases hxy : x < y <;> simp [hxy] <;> omega
theorem intOp_run {op : BinOp} {t : TypeId} {k k' : IntKind} {x y : Int} (hne : op ≠ .eql) (hne2 : op ≠ .neq) (e : intOp op k x k' y h = .ok v h') :
    h' = h ∧ ∃ z, conc m v = some z ∧ (binOp op t (.int k x) (.int k' y)).run P w = .ok z w := by
  unfold intOp at e
  rcases hb : (isShift op || decide (k = k')) with _ | _
  · rw [hb, sel_false] at e; cases e
  rw [hb, sel_true] at e
  have hk : isShift op = false → k = k' := fun hs => by simpa [hs] using hb
  have num : ∀ {z : Int}, iNum z k h = .ok v h' → h' = h ∧ v = .int k (k.wrap z) := fun e => (iNum_ok e).symm
  have bl : ∀ {b : Bool}, iBool b h = .ok v h' → h' = h ∧ v = .bool b := fun e => by injection e with e1 e2; exact ⟨e2.symm, e1.symm⟩
  have bit : ∀ (f : Nat → Nat → Nat) (F : BitVec k.bits → BitVec k.bits → BitVec k.bits) (hF : ∀ p q : BitVec k.bits, (F p q).toNat = f p.toNat q.toNat) (hf : ∀ n p q, p < 2 ^ n → q < 2 ^ n → f p q < 2 ^ n),
      iBit f k x y h = .ok v h' → h' = h ∧ v = .int k (k.wrap (F (BitVec.ofInt k.bits x) (BitVec.ofInt k.bits y)).toNat) := by
    intro f F hF hf e
    cases x with
    | negSucc x => cases e
    | ofNat x =>
      cases y with
      | negSucc y => cases e
      | ofNat y =>
        have e' : sel (Nat.blt x (topK k) && Nat.blt y (topK k)) (force (f x y) fun n => RV.ok (.int k (Int.ofNat n)) h) .fail = .ok v h' := e
        rcases hc : (Nat.blt x (topK k) && Nat.blt y (topK k)) with _ | _
        · rw [hc] at e'; cases e'
        · rw [hc, sel_true, force_eq] at e'
          injection e' with e1 e2
          simp at hc
          obtain ⟨n, hn, hn2⟩ := top_pow k
          refine ⟨e2.symm, ?_⟩
          have h1 : (F (BitVec.ofInt k.bits (Int.ofNat x)) (BitVec.ofInt k.bits (Int.ofNat y))).toNat = f x y := by
            rw [hF]
            rw [show (Int.ofNat x) = (x : Int) from rfl, show (Int.ofNat y) = (y : Int) from rfl, ofInt_nat k x hc.1, ofInt_nat k y hc.2]
          rw [h1, wrap_small k _ (by rw [hn]; exact hf n x y (by rw [← hn]; exact hc.1) (by rw [← hn]; exact hc.2))]
          exact e1.symm
  cases op
  case eql => exact absurd rfl hne
  case neq => exact absurd rfl hne2
  case add => obtain rfl := hk rfl; obtain ⟨rfl, rfl⟩ := num e; exact ⟨rfl, _, rfl, by simp [binOp, Op.intArith]; try rfl⟩
  case sub => obtain rfl := hk rfl; obtain ⟨rfl, rfl⟩ := num e; exact ⟨rfl, _, rfl, by simp [binOp, Op.intArith]; try rfl⟩
  case mul => obtain rfl := hk rfl; obtain ⟨rfl, rfl⟩ := num e; exact ⟨rfl, _, rfl, by simp [binOp, Op.intArith]; try rfl⟩
  case quo =>
    obtain rfl := hk rfl
    have e' : sel (eqI y 0) .fail (iNum (Int.tdiv x y) k h) = .ok v h' := e
    rw [eqI_eq] at e'
    by_cases hy : y = 0
    · simp [hy] at e'
    · simp only [hy, decide_false, sel_false] at e'
      obtain ⟨rfl, rfl⟩ := num e'
      exact ⟨rfl, _, rfl, by simp [binOp, Op.intDiv, hy]⟩
  case rem =>
    obtain rfl := hk rfl
    have e' : sel (eqI y 0) RV.fail (forceI (Int.tmod x y) fun n => RV.ok (.int k n) h) = RV.ok v h' := e
    rw [eqI_eq] at e'
    by_cases hy : y = 0
    · simp [hy] at e'
    · simp only [hy, decide_false, sel_false, forceI_eq] at e'
      injection e' with e1 e2
      subst e1 e2
      exact ⟨rfl, _, rfl, by simp [binOp, Op.intDiv, hy]⟩
  case and => obtain rfl := hk rfl; obtain ⟨rfl, rfl⟩ := bit Nat.land (· &&& ·) (fun p q => BitVec.toNat_and p q) (fun n p q hp _ => Nat.and_lt_two_pow _ ‹_›) e; exact ⟨rfl, _, rfl, by simp [binOp, Op.intBits]⟩
  case or => obtain rfl := hk rfl; obtain ⟨rfl, rfl⟩ := bit Nat.lor (· ||| ·) (fun p q => BitVec.toNat_or p q) (fun n p q hp hq => Nat.or_lt_two_pow hp hq) e; exact ⟨rfl, _, rfl, by simp [binOp, Op.intBits]⟩
  case xor => obtain rfl := hk rfl; obtain ⟨rfl, rfl⟩ := bit Nat.xor (· ^^^ ·) (fun p q => BitVec.toNat_xor p q) (fun n p q hp hq => Nat.xor_lt_two_pow hp hq) e; exact ⟨rfl, _, rfl, by simp [binOp, Op.intBits]⟩
  case lss => obtain rfl := hk rfl; obtain ⟨rfl, rfl⟩ := bl e; exact ⟨rfl, _, rfl, by simp [binOp, Op.intCmp, ltI_eq]⟩
  case leq => obtain rfl := hk rfl; obtain ⟨rfl, rfl⟩ := bl e; exact ⟨rfl, _, rfl, by simp only [binOp, Op.intCmp, not_ltI]; simp⟩
  case gtr => obtain rfl := hk rfl; obtain ⟨rfl, rfl⟩ := bl e; exact ⟨rfl, _, rfl, by simp [binOp, Op.intCmp, ltI_eq]⟩
  case geq => obtain rfl := hk rfl; obtain ⟨rfl, rfl⟩ := bl e; exact ⟨rfl, _, rfl, by simp only [binOp, Op.intCmp, not_ltI]; simp⟩
  case shl =>
    cases y with
    | negSucc y => cases e
    | ofNat n =>
      have e' : sel (Nat.ble n k.bits) (iNum (Int.mul x (Int.ofNat (Nat.pow 2 n))) k h) .fail = .ok v h' := e
      rcases hc : Nat.ble n k.bits with _ | _
      · rw [hc] at e'; cases e'
      · rw [hc, sel_true] at e'
        obtain ⟨rfl, rfl⟩ := num e'
        have hle : n ≤ k.bits := Nat.le_of_ble_eq_true hc
        refine ⟨rfl, _, rfl, ?_⟩
        have h0 : ¬ ((Int.ofNat n) < 0) := by simp
        have h2 : (Int.ofNat n).toNat = n := rfl
        have h3 : Int.mul x (Int.ofNat (Nat.pow 2 n)) = x * 2 ^ n := by
          show x * ((2 ^ n : Nat) : Int) = _
          push_cast
          rfl
        simp only [binOp, Op.shift, h0, if_false, h2, Nat.min_eq_left hle, h3, Sem.run_pure]
  case shr =>
    cases y with
    | negSucc y => cases e
    | ofNat n =>
      have e' : sel (Nat.ble n k.bits) (Int.rec (motive := fun _ => RV) (fun x => force (Nat.div x (Nat.pow 2 n)) fun x => RV.ok (.int k (Int.ofNat x)) h) (fun _ => RV.fail) x) RV.fail = RV.ok v h' := e
      rcases hc : Nat.ble n k.bits with _ | _
      · rw [hc] at e'; cases e'
      · rw [hc, sel_true] at e'
        have hle : n ≤ k.bits := Nat.le_of_ble_eq_true hc
        cases x with
        | negSucc x => cases e'
        | ofNat x =>
          have e'' : (force (Nat.div x (Nat.pow 2 n)) fun x => RV.ok (.int k (Int.ofNat x)) h) = .ok v h' := e'
          rw [force_eq] at e''
          injection e'' with e1 e2
          subst e1 e2
          refine ⟨rfl, _, rfl, ?_⟩
          have h0 : ¬ ((Int.ofNat n) < 0) := by simp
          have h2 : (Int.ofNat n).toNat = n := rfl
          have h3 : (Int.ofNat x).fdiv (2 ^ n) = Int.ofNat (Nat.div x (Nat.pow 2 n)) := by
            show (x : Int).fdiv (2 ^ n) = ((x / 2 ^ n : Nat) : Int)
            rw [show (2 : Int) ^ n = ((2 ^ n : Nat) : Int) by push_cast; rfl, Int.ofNat_fdiv]
          simp only [binOp, Op.shift, h0, if_false, h2, Nat.min_eq_left hle, h3, Sem.run_pure]
  case andNot => cases e

theorem strOp_run {op : BinOp} {t : TypeId} {x y : List Nat} (hx : small x = true) (hy : small y = true) (hne : op ≠ .eql) (hne2 : op ≠ .neq) (e : strOp op x y h = .ok v h') :
    h' = h ∧ ∃ z, conc m v = some z ∧ (binOp op t (.string (bytesA x)) (.string (bytesA y))).run P w = .ok z w := by
  have heq : decide (x = y) = ((bytesA x).toList == (bytesA y).toList) := by
    rw [bytesA_list, bytesA_list]
    by_cases hxy : x = y
    · subst hxy; simp
    · have : ¬ x.map UInt8.ofNat = y.map UInt8.ofNat := fun e => hxy ((map_ofNat_inj hx hy).1 e)
      simp [hxy, this]
  have hlt : bytesLt x y = Op.bytesLess (bytesA x).toList (bytesA y).toList := by rw [bytesA_list, bytesA_list]; exact bytesLt_eq x y hx hy
  cases op <;> simp only [strOp] at e
  case eql => exact absurd rfl hne
  case neq => exact absurd rfl hne2
  case add =>
    simp only [okIf_ok, appN_eq, lenN_eq] at e
    obtain ⟨hl, e⟩ := e
    injection e with e1 e2
    subst e1 e2
    have hl' : x.length + y.length < 1000000 := by simpa using hl
    refine ⟨rfl, .string (bytesA (x ++ y)), by simp [conc, small_append.2 ⟨hx, hy⟩], ?_⟩
    have : ¬ (((bytesA x).size + (bytesA y).size : Nat) : Int) > IntKind.i64.max := by rw [bytesA_size, bytesA_size]; simp [IntKind.max, IntKind.signed, IntKind.bits]; omega
    simp only [binOp, Op.stringOp, this, if_false, Sem.run_pure, bytesA_append]
  case lss => injection e with e1 e2; subst e1 e2; exact ⟨rfl, _, rfl, by simp only [binOp, Op.stringOp, ← hlt]; rfl⟩
  case leq => injection e with e1 e2; subst e1 e2; exact ⟨rfl, _, rfl, by simp only [binOp, Op.stringOp, ← hlt, ← heq, bytesEq_eq]; rfl⟩
  case gtr => injection e with e1 e2; subst e1 e2; exact ⟨rfl, _, rfl, by simp only [binOp, Op.stringOp, ← hlt, ← heq, bytesEq_eq]; rfl⟩
  case geq => injection e with e1 e2; subst e1 e2; exact ⟨rfl, _, rfl, by simp only [binOp, Op.stringOp, ← hlt]; rfl⟩
  all_goals cases e

theorem beq_bytes {x y : List Nat} (hx : small x = true) (hy : small y = true) : bytesEq x y = (bytesA x == bytesA y) := by
  rw [beq_toListBytes, bytesA_list, bytesA_list, bytesEq_eq]
  by_cases hxy : x = y
  · subst hxy; simp
  · have : ¬ x.map UInt8.ofNat = y.map UInt8.ofNat := fun e => hxy ((map_ofNat_inj hx hy).1 e)
    simp [hxy, this]

/-- A comparison by type is the model's. -/
def EqRun (P : Program) (m : M) (w : World) (E : EqF) (d : Nat) : Prop :=
  ∀ t u v r x y, E t u v = some r → conc m u = some x → conc m v = some y → (Op.equalIn d t x y).run P w = .ok r w
theorem eqFields_run {E : EqF} {d : Nat} (hE : EqRun P m w E d) {xs ys : List V} {c c' : List Value} (hc : concL m xs = some c) (hc' : concL m ys = some c') :
    ∀ (fs : List Field) (r : Bool), eqFields P E xs ys fs = some r → (Op.eqFields d c.toArray c'.toArray fs).run P w = .ok r w
  | [], r, e => by
    obtain rfl := Option.some.inj (show some true = some r from e)
    rfl
  | f :: fs, r, e => by
    have e' : sel (f.name == "_") (eqFields P E xs ys fs) ((partO P f.type xs f.offset).bind fun x => (partO P f.type ys f.offset).bind fun y => (E f.type x y).bind fun r => sel r (eqFields P E xs ys fs) (some false)) = some r := e
    by_cases hn : f.name = "_"
    · simp only [hn, beq_self_eq_true, sel_true] at e'
      simp only [Op.eqFields, hn, ne_eq, not_true_eq_false, if_false]
      exact eqFields_run hE hc hc' fs r e'
    · simp only [beq_eq_false_iff_ne.2 hn, sel_false, Option.bind_eq_some_iff] at e'
      obtain ⟨u, hu, v, hv, b, hb, e'⟩ := e'
      obtain ⟨x, hx, hrx⟩ := partO_run hu hc w
      obtain ⟨y, hy, hry⟩ := partO_run hv hc' w
      have := hE _ _ _ _ _ _ hb hx hy
      simp only [Op.eqFields, hn, ne_eq, not_false_eq_true, if_true, Sem.run_bind, hrx, hry, Result.andThen_ok, this]
      cases b
      · obtain rfl := Option.some.inj (show some false = some r from e')
        rfl
      · simpa using eqFields_run hE hc hc' fs r e'
theorem sl_open {b ot n : Nat} {c : Cap} {x : Value} (e : conc m (.sl b ot n c) = some x) : ∃ p c', m.blk[b]? = some p ∧ n ≤ c' ∧ x = .slice (some ⟨p.1, ot, none⟩) n c' := by
  cases c with
  | ex c =>
    simp only [conc, Option.bind_eq_some_iff] at e
    obtain ⟨p, hp, e⟩ := e
    split at e <;> simp at e
    exact ⟨p, c, hp, ‹_›, e.symm⟩
  | un u d s =>
    simp only [conc, Option.bind_eq_some_iff] at e
    obtain ⟨p, hp, c, hc, e⟩ := e
    split at e <;> simp at e
    rename_i hcond
    exact ⟨p, _, hp, hcond.2.1, e.symm⟩
theorem sun_open {b ot o' u d : Nat} {x : Value} (e : conc m (.sun b ot o' u d) = some x) : ∃ A c', x = .slice (some A) 0 c' := by
  simp only [conc, Option.bind_eq_some_iff] at e
  obtain ⟨p, hp, c, hc, e⟩ := e
  split at e <;> simp at e
  exact ⟨_, _, e.symm⟩
set_option maxHeartbeats 4000000 in
theorem eqStep_run {E : EqF} {d : Nat} (hE : EqRun P m w E d) : EqRun P m w (eqStep P E) (d + 1) := by
  intro t u v r x y e hx hy
  simp only [eqStep, Option.bind_eq_some_iff] at e
  obtain ⟨ds, hd, e⟩ := e
  cases ds <;> simp only [] at e <;> try (cases e; done)
  case bool =>
    cases u <;> cases v <;> simp only [] at e <;> try (cases e; done)
    simp only [conc, Option.some.injEq] at hx hy e
    subst hx hy e
    simp [Op.equalIn, run_underlying hd]
  case int k =>
    cases u <;> cases v <;> simp only [] at e <;> try (cases e; done)
    rename_i k1 a1 k2 a2
    rw [sel_ite] at e
    split at e <;> try (cases e; done)
    rename_i hk
    have hk : k1 = k2 := by simpa using hk
    subst hk
    simp only [conc, Option.some.injEq] at hx hy e
    subst hx hy e
    simp [Op.equalIn, run_underlying hd, eqI_eq]
    rfl
  case string =>
    cases u <;> cases v <;> simp only [] at e <;> try (cases e; done)
    simp only [conc, Option.ite_none_right_eq_some, Option.some.injEq] at hx hy e
    obtain ⟨h1, rfl⟩ := hx
    obtain ⟨h2, rfl⟩ := hy
    subst e
    simp [Op.equalIn, run_underlying hd, beq_bytes h1 h2]
  case pointer el =>
    cases u <;> cases v <;> simp only [] at e <;> try (cases e; done)
    case pnil.pnil => simp only [conc, Option.some.injEq] at hx hy e; subst hx hy e; simp [Op.equalIn, run_underlying hd]
    case pnil.ptr => simp only [conc, Option.some.injEq, Option.map_eq_some_iff] at hx hy e; obtain ⟨p, hp, rfl⟩ := hy; subst hx e; simp [Op.equalIn, run_underlying hd]
    case ptr.pnil => simp only [conc, Option.some.injEq, Option.map_eq_some_iff] at hx hy e; obtain ⟨p, hp, rfl⟩ := hx; subst hy e; simp [Op.equalIn, run_underlying hd]
  case slice el =>
    cases u <;> cases v <;> simp only [] at e <;> try (cases e; done)
    case snil.snil => simp only [conc, Option.some.injEq] at hx hy e; subst hx hy e; simp [Op.equalIn, run_underlying hd]
    case snil.sl => obtain ⟨p, c', _, _, rfl⟩ := sl_open hy; simp only [conc, Option.some.injEq] at hx e; subst hx e; simp [Op.equalIn, run_underlying hd]
    case sl.snil => obtain ⟨p, c', _, _, rfl⟩ := sl_open hx; simp only [conc, Option.some.injEq] at hy e; subst hy e; simp [Op.equalIn, run_underlying hd]
    case snil.sun => obtain ⟨A, c', rfl⟩ := sun_open hy; simp only [conc, Option.some.injEq] at hx e; subst hx e; simp [Op.equalIn, run_underlying hd]
    case sun.snil => obtain ⟨A, c', rfl⟩ := sun_open hx; simp only [conc, Option.some.injEq] at hy e; subst hy e; simp [Op.equalIn, run_underlying hd]
  case map k el =>
    cases u <;> cases v <;> simp only [] at e <;> try (cases e; done)
    case mnil.mnil => simp only [conc, Option.some.injEq] at hx hy e; subst hx hy e; simp [Op.equalIn, run_underlying hd]
    case mnil.map => simp only [conc, Option.some.injEq, Option.map_eq_some_iff] at hx hy e; obtain ⟨p, hp, rfl⟩ := hy; subst hx e; simp [Op.equalIn, run_underlying hd]
    case map.mnil => simp only [conc, Option.some.injEq, Option.map_eq_some_iff] at hx hy e; obtain ⟨p, hp, rfl⟩ := hx; subst hy e; simp [Op.equalIn, run_underlying hd]
  case func ps rs va =>
    cases u <;> cases v <;> simp only [] at e <;> try (cases e; done)
    case fnil.fnil => simp only [conc, Option.some.injEq] at hx hy e; subst hx hy e; simp [Op.equalIn, run_underlying hd]
    case fnil.fn => simp only [conc, Option.some.injEq, Option.bind_eq_some_iff, Option.map_eq_some_iff] at hx hy e; obtain ⟨_, _, _, _, rfl⟩ := hy; subst hx e; simp [Op.equalIn, run_underlying hd]
    case fn.fnil => simp only [conc, Option.some.injEq, Option.bind_eq_some_iff, Option.map_eq_some_iff] at hx hy e; obtain ⟨_, _, _, _, rfl⟩ := hx; subst hy e; simp [Op.equalIn, run_underlying hd]
  case interface ms =>
    cases u <;> cases v <;> simp only [eqIface] at e <;> try (cases e; done)
    case inil.inil => simp only [conc, Option.some.injEq] at hx hy e; subst hx hy e; simp [Op.equalIn, run_underlying hd]
    case inil.ifc => simp only [conc, Option.some.injEq, Option.map_eq_some_iff] at hx hy e; obtain ⟨_, _, rfl⟩ := hy; subst hx e; simp [Op.equalIn, run_underlying hd]
    case ifc.inil => simp only [conc, Option.some.injEq, Option.map_eq_some_iff] at hx hy e; obtain ⟨_, _, rfl⟩ := hx; subst hy e; simp [Op.equalIn, run_underlying hd]
    case ifc.ifc t1 u1 t2 u2 =>
      simp only [conc, Option.map_eq_some_iff] at hx hy
      obtain ⟨x1, hx1, rfl⟩ := hx
      obtain ⟨y1, hy1, rfl⟩ := hy
      by_cases ht : t1 = t2
      · subst ht
        rw [Nat.beq_refl, sel_true] at e
        simp only [Option.bind_eq_some_iff] at e
        obtain ⟨i, hi, e⟩ := e
        rcases hci : i.comparable with _ | _
        · rw [hci] at e; cases e
        · rw [hci, sel_true] at e
          have := hE _ _ _ _ _ _ e hx1 hy1
          simp [Op.equalIn, run_underlying hd, run_info hi, hci, this]
      · rw [show Nat.beq t1 t2 = false from Bool.eq_false_iff.2 fun e => ht (Nat.eq_of_beq_eq_true e), sel_false] at e
        simp only [Option.some.injEq] at e
        subst e
        simp [Op.equalIn, run_underlying hd, ht]
  case struct fs =>
    cases u <;> cases v <;> simp only [] at e <;> try (cases e; done)
    rename_i xs ys
    simp only [conc, Option.map_eq_some_iff] at hx hy
    obtain ⟨c, hc, rfl⟩ := hx
    obtain ⟨c', hc', rfl⟩ := hy
    rcases hs : P.stoodInHeld t with _ | _
    · rw [hs, sel_false] at e
      have hfs : P.fieldsOf t = fs := by simp [Program.fieldsOf, hd]
      rw [run_equalIn_struct w d t _ _ (by rw [hfs]; exact hd) hs, hfs]
      exact eqFields_run hE hc hc' _ _ e
    · rw [hs] at e; cases e
theorem eqT_run : ∀ n d, n ≤ d → EqRun P m w (eqT P n) d
  | 0, _, _ => fun _ _ _ _ _ _ e => by cases e
  | n + 1, 0, hd => by omega
  | n + 1, d + 1, hd => eqStep_run (eqT_run n d (by omega))
end
end Go.Ev
