/- Operations that turn the heap, calls, as the evaluator says. Conditions: the heap stands for the world. -/
import Derived.Test.YtkdihjhndebloaaGreatDoorEvQuietB
import Derived.Deep.AppendSrc
import Derived.Lib.AppendZeros
import Derived.Conc.MuLone
set_option linter.unusedSectionVars false
set_option linter.unusedVariables false
set_option linter.unusedSimpArgs false
namespace Go.Ev
open Go Go.MapKept
variable [G : Given]

section
variable {P : Program} {m : M} {h h' : H} {w : World} {tm : TM} {a : Act} {o : Oper} {v : V} {call : Call0}

/-- What an operation's evaluation must give: the world moves on. -/
def Ef (P : Program) (m : M) (o : Oper) (a : Act) (w : World) (h h' : H) (v : V) : Prop :=
  ∃ m' w' x, Tr m h w m' h' w' ∧ Rel m' h' w' ∧ conc m' v = some x ∧ ((execOp a.eval o).run P w = .ok (.value x) w' ∨ x = undef ∧ (execOp a.eval o).run P w = .ok .skip w')
theorem Qt.ef (q : Qt P m o a w h h' v) (hr : Rel m h w) : Ef P m o a w h h' v := by
  obtain ⟨rfl, x, hx, hrun⟩ := q
  exact ⟨m, w, x, .refl _ _ _, hr, hx, .inl hrun⟩

/-- An operation that makes an object, whatever the world. -/
structure Mk (P : Program) (m : M) (o : Oper) (a : Act) (h h' : H) (v : V) (O : O) (ob : Obj) (X : Nat → Value) (sz : Nat) : Prop where
  run : ∀ w, (execOp a.eval o).run P w = .ok (.value (X w.heap.size)) (w.alloc ob)
  push : h' = h.push O
  val : ∀ m' : M, m.le m' → ∀ r, m'.blk[h.next]? = some (r, sz) → conc m' v = some (X r)
  obj : ∀ m' : M, m.le m' → ∀ r W, W.heap[r]? = some ob → OC m' W (r, sz) O
theorem add_at {p : Nat × Nat} (hr : Rel m h w) : (m.add p).blk[h.next]? = some p := by simp [M.add, ← hr.next]
theorem Mk.ef {O : O} {ob : Obj} {X : Nat → Value} {sz : Nat} (k : Mk P m o a h h' v O ob X sz) (hr : Rel m h w) : Ef P m o a w h h' v := by
  have h1 := hr.push (k.obj (m.add (w.heap.size, sz)) (M.le_add _ _) w.heap.size (w.alloc ob) (heap_alloc_new w ob))
  obtain rfl := k.push
  exact ⟨_, _, _, h1.2, h1.1, k.val _ (M.le_add _ _) _ (add_at hr), .inl (k.run w)⟩
theorem cells_obj {t : TypeId} {cs : List V} {c : List Value} (h1 : allOne cs = true) (hc : concL m cs = some c) {m' : M} (hm : m.le m') {r : Nat} {W : World} (hw : W.heap[r]? = some (.cells c.toArray t (0, 0))) : OC m' W (r, c.length) (.cells t cs) :=
  ⟨h1, c, [], concL_mono hm _ _ hc, by simpa using hw, by simp⟩
theorem mk_alloc {e : TypeId} (ho : o.op = .alloc e) (ev : oAlloc e P call tm h = .ok v h') : ∃ O ob X sz, Mk P m o a h h' v O ob X sz := by
  simp only [oAlloc, some_ok, okIf_ok, H.new_eq] at ev
  obtain ⟨z, hz, h1, ev⟩ := ev
  injection ev with e1 e2
  subst e1 e2
  obtain ⟨x, hx, _⟩ := run_zero (P := P) hz m (default : World)
  have hc := cellsV hx
  refine ⟨.cells e z.cells, .cells x.cells e, fun r => .pointer (some ⟨r, 0, none⟩), x.cells.toList.length, fun w => ?_, rfl, fun m' _ r hr => by simp [conc, hr], fun m' hm r W hW => cells_obj h1 hc hm (by simpa using hW)⟩
  obtain ⟨x', hx', hrun⟩ := run_zero (P := P) hz m w
  rw [hx] at hx'
  obtain rfl := Option.some.inj hx'
  simp [execOp, ho, Instr.alloc, hrun, newVar, newRow]
theorem mk_box {e : TypeId} {x : Operand} (ho : o.op = .box e x) (ev : oBox e x P call tm h = .ok v h') (ht : TmR m tm a) : ∃ O ob X sz, Mk P m o a h h' v O ob X sz := by
  simp only [oBox, some_ok, okIf_ok, H.new_eq] at ev
  obtain ⟨z, hz, h1, ev⟩ := ev
  injection ev with e1 e2
  subst e1 e2
  have hx := look_conc ht hz
  have hc := cellsV hx
  refine ⟨.cells e z.cells, .cells (a.eval x).cells e, fun r => .pointer (some ⟨r, 0, none⟩), (a.eval x).cells.toList.length, fun w => ?_, rfl, fun m' _ r hr => by simp [conc, hr], fun m' hm r W hW => cells_obj h1 hc hm (by simpa using hW)⟩
  simp [execOp, ho, Instr.box, newVar, newRow]
theorem rep_list (z : List Value) (n : Nat) : (List.range (n * z.length)).map (fun i => z.toArray[i % z.length]!) = (List.replicate n z).flatten := by
  induction n with
  | zero => simp
  | succ n ih =>
    rw [Nat.succ_mul, List.range_add, List.map_append, ih, List.replicate_succ', List.flatten_append]
    congr 1
    rw [List.map_map]
    simp only [List.flatten_cons, List.flatten_nil, List.append_nil]
    apply List.ext_getElem
    · simp
    · intro i h1 h2
      simp only [List.getElem_map, List.getElem_range, Function.comp]
      rw [Nat.add_comm, Nat.mul_comm, Nat.add_mul_mod_self_left, Nat.mod_eq_of_lt h2]
      simp [h2]
theorem rep_cells (z : Array Value) (n : Nat) : (Array.range (n * z.size)).map (fun i => z[i % z.size]!) = (List.replicate n z.toList).flatten.toArray := by
  obtain ⟨z⟩ := z
  apply Array.ext'
  simp only [List.size_toArray, Array.toList_map, Array.toList_range]
  exact rep_list z n
theorem mk_buildSlice {t : TypeId} {len : Nat} {ps : Array (Nat × Operand)} (ho : o.op = .buildSlice t len ps) (ev : oBuildSlice t len ps P call tm h = .ok v h') (ht : TmR m tm a) : ∃ O ob X sz, Mk P m o a h h' v O ob X sz := by
  simp only [oBuildSlice, some_ok, H.new_eq] at ev
  obtain ⟨ob, hob, ev⟩ := ev
  injection ev with e1 e2
  subst e1 e2
  simp only [buildSliceO, Option.bind_eq_some_iff, repN_eq, lenN_eq] at hob
  obtain ⟨el, hel, n, hn, z, hz, hob⟩ := hob
  rw [sel_ite] at hob
  split at hob <;> try (cases hob; done)
  rename_i hcond
  simp only [Bool.and_eq_true] at hcond
  simp only [Option.bind_eq_some_iff] at hob
  obtain ⟨cs, hcs, hob⟩ := hob
  rw [sel_ite] at hob
  split at hob <;> try (cases hob; done)
  rename_i h1
  obtain rfl := Option.some.inj hob
  obtain ⟨x, hx, _⟩ := run_zero (P := P) hz m (default : World)
  have hc := cellsV hx
  obtain ⟨c', hc', hfill⟩ := fill_run ht ps.toList _ _ _ hcs (concL_flatten hc len)
  have hlt : len * n < 100000 := Nat.le_of_ble_eq_true hcond.1
  have hzl : x.cells.size = n := by have := concL_length hc; simp at this; rw [this]; exact Nat.eq_of_beq_eq_true hcond.2
  refine ⟨.cells el cs, .cells c'.toArray el, fun r => .slice (some ⟨r, 0, none⟩) len len, c'.length, fun w => ?_, rfl, fun m' _ r hr => conc_ex hr (Nat.le_refl _), fun m' hm r W hW => cells_obj h1 hc' hm hW⟩
  obtain ⟨x', hx', hrun⟩ := run_zero (P := P) hz m w
  rw [hx] at hx'
  obtain rfl := Option.some.inj hx'
  have h2 : ¬ (len * n > 2 ^ 24) := by omega
  have hrep := rep_cells x.cells len
  rw [hzl] at hrep
  rw [← hrep] at hfill
  have hparts : (ps.map fun q => (q.1, a.eval q.2)).toList = ps.toList.map fun q => (q.1, a.eval q.2) := by simp
  by_cases h0 : len * n = 0
  · rw [h0, show (Array.range 0).map (fun i => x.cells[i % n]!) = #[] from by simp] at hfill
    have hfill : Instr.fill (fun i => some (i * n, n)) #[] (ps.toList.map fun q => (q.1, a.eval q.2)) = some c'.toArray := hfill
    simp only [execOp, ho, Instr.buildSlice, Sem.run_bind, run_underlying (elemT_u hel), Result.andThen_ok, run_size hn, h0, if_true, Sem.run_pure]
    have hr0 : ∀ f : Nat → Value, (Array.range 0).map f = #[] := fun f => by simp
    simp [hr0, hfill, newRow]
  · have hfill : Instr.fill (fun i => some (i * n, n)) ((Array.range (len * n)).map fun i => x.cells[i % x.cells.size]!) (ps.toList.map fun q => (q.1, a.eval q.2)) = some c'.toArray := by rw [hzl]; exact hfill
    simp only [execOp, ho, Instr.buildSlice, Sem.run_bind, run_underlying (elemT_u hel), Result.andThen_ok, run_size hn, h2, if_false, h0, hrun, Sem.run_pure]
    simp [hfill, newRow]
/-- The heap with one object put in its place. -/
theorem put_obj {g : Nat} {old : Obj} (hg : w.heap[g]? = some old) (ob : Obj) : ({ w with heap := w.heap.setIfInBounds g ob } : World).heap[g]? = some ob ∧ ∀ k, k ≠ g → ({ w with heap := w.heap.setIfInBounds g ob } : World).heap[k]? = w.heap[k]? := by
  have hlt : g < w.heap.size := (Array.getElem?_eq_some_iff.1 hg).1
  constructor
  · simp [hlt]
  · intro k hk
    exact Array.getElem?_setIfInBounds_ne (Ne.symm hk)
theorem Rel.put (hr : Rel m h w) {b : Nat} {ob : O} {p : Nat × Nat} (hg : h.get b = some ob) (hp : m.blk[b]? = some p) {old new : Obj} (hw : w.heap[p.1]? = some old) {o' : O}
    (ho : ∀ W : World, W.heap[p.1]? = some new → OC m W p o') :
    Rel m (h.set b o') { w with heap := w.heap.setIfInBounds p.1 new } ∧ Tr m h w m (h.set b o') { w with heap := w.heap.setIfInBounds p.1 new } := by
  obtain ⟨h1, h2⟩ := put_obj hw new
  exact hr.upd hg hp (by simp) h2 (ho _ h1) rfl rfl rfl
theorem Rel.row (hr : Rel m h w) {b : Nat} {ob : O} {p : Nat × Nat} (hg : h.get b = some ob) (hp : m.blk[b]? = some p) {old : Array Value} {t : TypeId} (hw : w.heap[p.1]? = some (.cells old t (0, 0))) {cs : Array Value} {o' : O}
    (ho : ∀ W : World, W.heap[p.1]? = some (.cells cs t (0, 0)) → OC m W p o') :
    Rel m (h.set b o') (w.setRow p.1 cs) ∧ Tr m h w m (h.set b o') (w.setRow p.1 cs) :=
  hr.upd hg hp (by simp) (fun k hk => setRow_other w p.1 k cs hk) (ho _ (setRow_heap w p.1 old cs t (0, 0) hw)) rfl rfl rfl
/-- Cells put into a row at o. -/
theorem cells_put {t : TypeId} {cs new : List V} {p : Nat × Nat} {ot : Nat} (h1 : allOne cs = true) (h2 : allOne new = true) {c n' rest : List Value} (hc : concL m cs = some c) (hn : concL m new = some n') (hle : ot + new.length ≤ cs.length) (hcnt : c.length + rest.length = p.2 ∧ (cutT t = true → rest = []))
    {W : World} (hw : W.heap[p.1]? = some (.cells ((c ++ rest).take ot ++ n' ++ (c ++ rest).drop (ot + n'.length)).toArray t (0, 0))) : OC m W p (.cells t (putN cs ot new)) := by
  have hl := concL_length hc
  have hl2 := concL_length hn
  rw [putN_eq _ _ _ hle]
  refine ⟨allOne_append.2 ⟨allOne_take h1 _, allOne_append.2 ⟨h2, allOne_drop h1 _⟩⟩, c.take ot ++ (n' ++ c.drop (ot + new.length)), rest, concL_append.2 ⟨_, _, concL_take hc _, concL_append.2 ⟨_, _, hn, concL_drop hc _, rfl⟩, rfl⟩, ?_, ?_⟩
  · rw [hw, List.take_append_of_le_length (by omega), List.drop_append_of_le_length (by omega), hl2]
    simp
  · obtain ⟨hcnt, hct⟩ := hcnt
    exact ⟨by simp; omega, hct⟩
theorem storeH_run {t : TypeId} {b ot : Nat} {u : V} {x : Value} (e : storeH P t h b ot u = .ok v h') (hr : Rel m h w) {p : Nat × Nat} (hp : m.blk[b]? = some p) (hx : conc m u = some x) :
    ∃ w', v = undefV ∧ Tr m h w m h' w' ∧ Rel m h' w' ∧ (storeVar t ⟨p.1, ot, none⟩ x).run P w = .ok () w' := by
  simp only [storeH, some_ok] at e
  obtain ⟨ob, hob, e⟩ := e
  have hobj := hr.at hob hp
  cases ob <;> simp only [some_ok, okIf_ok, lenN_eq] at e <;> try (cases e; done)
  rename_i ty cs
  obtain ⟨n, hn, hlen, hle, h1, e⟩ := e
  injection e with e1 e2
  subst e1 e2
  have hlen : u.cells.length = n := Nat.eq_of_beq_eq_true hlen
  have hle : ot + n ≤ cs.length := Nat.le_of_ble_eq_true hle
  obtain ⟨ha, c, rest, hc, hw, hcnt⟩ := hobj
  have hcell := cellsV hx
  have hl1 := concL_length hcell
  have hl2 := concL_length hc
  have hone : ∀ y ∈ x.cells.toList, y.oneCell' = true := by
    intro y hy
    obtain ⟨i, hi⟩ := List.getElem?_of_mem hy
    have hi' : i < u.cells.length := by rw [← hl1]; exact (List.getElem?_eq_some_iff.1 hi).1
    obtain ⟨y', hy', hcy⟩ := concL_get hcell (List.getElem?_eq_getElem hi')
    rw [hi] at hy'
    obtain rfl := Option.some.inj hy'
    exact conc_one hcy (allOne_mem.1 h1 _ (List.getElem_mem hi'))
  have hst := run_storeCells_at (P := P) p.1 ot ty x.cells.toList 0 (c ++ rest).toArray w hw (by simp only [List.size_toArray, List.length_append]; omega) hone
  simp only [Nat.add_zero] at hst
  have hup := hr.row hob hp hw (cs := ((c ++ rest).take ot ++ x.cells.toList ++ (c ++ rest).drop (ot + x.cells.toList.length)).toArray) (o' := .cells ty (putN cs ot u.cells)) (fun W hW => cells_put ha h1 hc hcell (by omega) hcnt hW)
  refine ⟨_, rfl, hup.2, hup.1, ?_⟩
  have hsz : ¬ (x.cells.size ≠ n) := by have : x.cells.size = n := by rw [← hlen, ← hl1]; simp
                                        simp [this]
  simp only [storeVar, Sem.run_bind, run_size hn, Result.andThen_ok, hsz, if_false, Sem.run_ite]
  simpa using hst
theorem e_store {t : TypeId} {x y : Operand} (ho : o.op = .store t x y) (e : oStore t x y P call tm h = .ok v h') (hr : Rel m h w) (ht : TmR m tm a) : Ef P m o a w h h' v := by
  simp only [oStore, some_ok] at e
  obtain ⟨av, ha, u, hu, e⟩ := e
  have ca := look_conc ht ha
  have cu := look_conc ht hu
  cases av <;> simp only [] at e <;> try (cases e; done)
  simp only [conc, Option.map_eq_some_iff] at ca
  obtain ⟨p, hp, hx⟩ := ca
  obtain ⟨w', rfl, htr, hrel, hrun⟩ := storeH_run e hr hp cu
  refine ⟨m, w', undef, htr, hrel, rfl, .inr ⟨rfl, ?_⟩⟩
  simp only [execOp, ho, ← hx, Instr.storeAt, Instr.sureAddr, Sem.run_bind, Sem.run_pure, Result.andThen_ok, hrun]
theorem undef_conc (m : M) : conc m undefV = some undef := rfl
theorem e_makeMap {t : TypeId} {r : Option Operand} (ho : o.op = .makeMap t r) (e : oMakeMap t r P call tm h = .ok v h') (hr : Rel m h w) (ht : TmR m tm a) : Ef P m o a w h h' v := by
  simp only [oMakeMap, okIf_ok] at e
  obtain ⟨hm, e⟩ := e
  have key : v = .map h.next ∧ h' = h.push (.map [] 0) ∧ (execOp a.eval o).run P w = .ok (.value (.map (some w.heap.size))) (w.alloc (.map #[] 0)) := by
    cases r with
    | none =>
      simp only [H.new_eq] at e
      injection e with e1 e2
      exact ⟨e1.symm, e2.symm, by simp [execOp, ho, Instr.makeMap]⟩
    | some r =>
      simp only [some_ok] at e
      obtain ⟨u, hu, e⟩ := e
      have cu := look_conc ht hu
      cases u <;> simp only [H.new_eq] at e <;> try (cases e; done)
      injection e with e1 e2
      simp only [conc, Option.some.injEq] at cu
      obtain ⟨d, hd⟩ := Option.isSome_iff_exists.1 hm
      obtain ⟨k, hk, _⟩ := mapT_u hd
      exact ⟨e1.symm, e2.symm, by simp [execOp, ho, Instr.makeMap, ← cu, asInt, asIntOf, run_underlying hk]⟩
  obtain ⟨rfl, rfl, hrun⟩ := key
  have h1 := hr.push (o := .map [] 0) (n := 0) (ob := .map #[] 0) ⟨[], rfl, heap_alloc_new w _⟩
  exact ⟨_, _, _, h1.2, h1.1, by simp [conc, add_at hr], .inl hrun⟩
theorem e_makeChan {t : TypeId} {x : Operand} (ho : o.op = .makeChan t x) (e : oMakeChan t x P call tm h = .ok v h') (hr : Rel m h w) (ht : TmR m tm a) : Ef P m o a w h h' v := by
  simp only [oMakeChan, some_ok, okIf_ok, force_eq, H.new_eq] at e
  obtain ⟨u, hu, n, hn, el, hel, hlt, e⟩ := e
  injection e with e1 e2
  subst e1 e2
  obtain ⟨k, rfl⟩ := natOf_int hn
  have cu := look_conc ht hu
  simp only [conc, Option.some.injEq] at cu
  simp only [chanT, Option.bind_eq_some_iff] at hel
  obtain ⟨d, hd, hel⟩ := hel
  cases d <;> simp only [Option.bind_eq_some_iff] at hel <;> try (cases hel; done)
  rename_i dr el'
  obtain ⟨i, hi, hel⟩ := hel
  rw [sel_ite] at hel
  split at hel <;> try (cases hel; done)
  rename_i hb
  have hb : i.bytes < 10000 := Nat.le_of_ble_eq_true hb
  have hlt : n < 100000 := Nat.le_of_ble_eq_true hlt
  have hmul : i.bytes * n ≤ 10000 * 100000 := Nat.mul_le_mul (Nat.le_of_lt hb) (Nat.le_of_lt hlt)
  have hmul' : (i.bytes : Int) * (n : Int) ≤ 1000000000 := by
    have h9 := Int.ofNat_le.2 hmul
    rw [Int.natCast_mul] at h9
    exact Int.le_trans h9 (by decide)
  have h1 := hr.push (o := .chan n []) (n := 0) (ob := .chan n #[] false 0 0 false) ⟨[], 0, 0, rfl, heap_alloc_new w _⟩
  have c1 : ¬ ((n : Int) < 0 ∨ (n : Int) > IntKind.i64.max ∨ (i.bytes : Int) * (n : Int) > 2 ^ 48 - 112) := by
    simp only [IntKind.max, IntKind.signed, IntKind.bits, if_true]
    omega
  refine ⟨_, _, .chan (some w.heap.size), h1.2, h1.1, by simp [conc, add_at hr], .inl ?_⟩
  have cu' : a.eval x = .int k (n : Int) := cu.symm
  simp only [execOp, ho, cu', Instr.makeChan, Sem.run_bind, asInt, asIntOf, Sem.run_pure, Result.andThen_ok, run_underlying hd, run_info hi, c1, if_false, run_newObj]
  rfl
theorem rowT_open {t : TypeId} {r : TypeId × Nat × List V} (e : rowT P t = some r) : ∃ i zv z, P.underlying t = some (.slice r.1) ∧ P.info? r.1 = some i ∧ r.2.1 = i.size ∧ i.bytes < 10000 ∧ i.zero = some zv ∧ absV zv = some z ∧ r.2.2 = z.cells ∧ zv.cells.size = i.size ∧ allOne z.cells = true ∧ cutT r.1 = false := by
  simp only [rowT, Option.bind_eq_some_iff, lenN_eq] at e
  obtain ⟨el, hel, i, hi, z, hz, e⟩ := e
  rw [sel_ite] at e
  split at e <;> try (cases e; done)
  rename_i hc
  simp only [Bool.and_eq_true] at hc
  obtain rfl := Option.some.inj e
  simp only [zeroT, hi, Option.bind_eq_some_iff] at hz
  obtain ⟨i', hi', zv, hzv, hz⟩ := hz
  obtain rfl := Option.some.inj hi'
  have := concL_length (cellsV (absV_conc ⟨[], []⟩ _ _ hz))
  exact ⟨i, zv, z, elemT_u hel, hi, rfl, Nat.le_of_ble_eq_true hc.1.1.1, hzv, hz, rfl, by have h2 := Nat.eq_of_beq_eq_true hc.1.1.2; rw [← h2, ← this]; simp, hc.1.2, by simpa using hc.2⟩
theorem e_makeSlice {t : TypeId} {x y : Operand} (ho : o.op = .makeSlice t x y) (e : oMakeSlice t x y P call tm h = .ok v h') (hr : Rel m h w) (ht : TmR m tm a) : Ef P m o a w h h' v := by
  simp only [oMakeSlice, some_ok, okIf_ok, force_eq, H.new_eq, repN_eq, Bool.and_eq_true] at e
  obtain ⟨u, hu, u2, hu2, l, hl, c, hc, r, hrow, ⟨hlc, hlt⟩, e⟩ := e
  injection e with e1 e2
  subst e1 e2
  obtain ⟨k, rfl⟩ := natOf_int hl
  obtain ⟨k2, rfl⟩ := natOf_int hc
  obtain rfl : l = c := Nat.eq_of_beq_eq_true hlc
  have hlt : l < 100000 := Nat.le_of_ble_eq_true hlt
  have cu := look_conc ht hu
  have cu2 := look_conc ht hu2
  simp only [conc, Option.some.injEq] at cu cu2
  obtain ⟨i, zv, z, hsl, hi, hsz, hb, hz, habs, hzc, hzs, h1, _⟩ := rowT_open hrow
  have hmul : i.bytes * l ≤ 10000 * 100000 := Nat.mul_le_mul (Nat.le_of_lt hb) (Nat.le_of_lt hlt)
  have hmul' : (i.bytes : Int) * (l : Int) ≤ 281474976710656 := by
    have h9 := Int.ofNat_le.2 hmul
    rw [Int.natCast_mul] at h9
    exact Int.le_trans h9 (by decide)
  have hrun := run_make (P := P) w t r.1 i zv hsl hi hz k k2 l l (by omega) (Int.le_refl _) hmul' (by omega)
  have hcell := concL_flatten (cellsV (absV_conc m _ _ habs)) l
  have hmade : madeCells zv.cells ((l : Int).toNat * i.size) = (List.replicate l zv.cells.toList).flatten.toArray := by
    rw [← hzs]
    exact rep_cells zv.cells l
  rw [hmade] at hrun
  rw [hzc]
  have hone : allOne (List.replicate l z.cells).flatten = true := allOne_mem.2 fun v hv => by
    obtain ⟨q, hq, hv⟩ := List.mem_flatten.1 hv
    rw [(List.mem_replicate.1 hq).2] at hv
    exact allOne_mem.1 h1 v hv
  have hp := hr.push (o := .cells r.1 (List.replicate l z.cells).flatten) (n := (List.replicate l zv.cells.toList).flatten.length) (ob := .cells (List.replicate l zv.cells.toList).flatten.toArray r.1) (cells_obj hone hcell (M.le_add _ _) (heap_alloc_new w _))
  refine ⟨_, _, .slice (some ⟨w.heap.size, 0, none⟩) l l, hp.2, hp.1, conc_ex (add_at hr) (Nat.le_refl _), .inl ?_⟩
  have e1 : a.eval x = .int k (l : Int) := cu.symm
  have e2 : a.eval y = .int k2 (l : Int) := cu2.symm
  simp only [execOp, ho, e1, e2, Sem.run_bind, hrun, Result.andThen_ok, Sem.run_pure]
  rfl
end
end Go.Ev
namespace Go.Ev
open Go Go.MapKept
variable [G : Given]

section
variable {P : Program} {m : M} {h h' : H} {w : World} {tm : TM} {a : Act} {o : Oper} {v : V} {call : Call0}

theorem getMap {r : Nat} {es : Array MapEntry} {c : Nat} (hw : w.heap[r]? = some (.map es c)) : (getObj r).run P w = .ok (.map es c) w := by simp [getObj, Sem.run, hw]
theorem setMap {r : Nat} {es : Array MapEntry} {c : Nat} (ob : Obj) (hw : w.heap[r]? = some (.map es c)) : (setObj r ob).run P w = .ok () { w with heap := w.heap.setIfInBounds r ob } := by simp [setObj, Sem.run, hw]
theorem modN_eq {α : Type} (l : List α) (n : Nat) (f : α → α) : modN l n f = l.modify n f := by
  induction l generalizing n with
  | nil => cases n <;> rfl
  | cons x l ih =>
    cases n with
    | zero => rfl
    | succ n => rw [List.modify_succ_cons, ← ih n]; rfl
theorem delN_eq {α : Type} (l : List α) (n : Nat) : delN l n = l.eraseIdx n := by
  induction l generalizing n with
  | nil => cases n <;> rfl
  | cons x l ih =>
    cases n with
    | zero => rfl
    | succ n => rw [List.eraseIdx_cons_succ, ← ih n]; rfl
theorem eqNow_true {k u : V} (e : eqNow k u = some true) : k = u := by
  unfold eqNow at e
  split at e
  · simp at e; rw [e]
  · rw [sel_ite] at e
    split at e <;> try (cases e; done)
    rename_i hk
    have hk := of_decide_eq_true hk
    rw [eqI_eq] at e
    simp at e
    rw [hk, e]
  · rw [bytesEq_eq] at e
    simp at e
    rw [e]
  · cases e
theorem concE_mod {g : V × V × Nat → V × V × Nat} {G : MapEntry → MapEntry} : ∀ {es : List (V × V × Nat)} {l : List MapEntry} {j : Nat}, concE m es = some l → (∀ e E, es[j]? = some e → entryC m e = some E → entryC m (g e) = some (G E)) → concE m (es.modify j g) = some (l.modify j G)
  | [], l, j, hl, _ => by simp [concE] at hl; subst hl; cases j <;> rfl
  | e :: es, l, j, hl, hg => by
    simp only [concE, Option.bind_eq_some_iff, Option.map_eq_some_iff] at hl
    obtain ⟨E, hE, l', hl', rfl⟩ := hl
    cases j with
    | zero =>
      have := hg e E rfl hE
      simp [List.modify_zero_cons, concE, this, hl']
    | succ j =>
      have := concE_mod (g := g) (G := G) (j := j) hl' (fun e E he hE => hg e E (by simpa using he) hE)
      simp [List.modify_succ_cons, concE, hE, this]
theorem concE_del : ∀ {es : List (V × V × Nat)} {l : List MapEntry} {j : Nat}, concE m es = some l → concE m (es.eraseIdx j) = some (l.eraseIdx j)
  | [], l, j, hl => by simp [concE] at hl; subst hl; cases j <;> rfl
  | e :: es, l, j, hl => by
    simp only [concE, Option.bind_eq_some_iff, Option.map_eq_some_iff] at hl
    obtain ⟨E, hE, l', hl', rfl⟩ := hl
    cases j with
    | zero => simpa using hl'
    | succ j => simp [concE, hE, concE_del hl']
theorem concE_app : ∀ {es : List (V × V × Nat)} {l : List MapEntry} {e : V × V × Nat} {E : MapEntry}, concE m es = some l → entryC m e = some E → concE m (es ++ [e]) = some (l ++ [E])
  | [], l, e, E, hl, he => by simp [concE] at hl; subst hl; simp [concE, he]
  | e0 :: es, l, e, E, hl, he => by
    simp only [concE, Option.bind_eq_some_iff, Option.map_eq_some_iff] at hl
    obtain ⟨E0, hE, l', hl', rfl⟩ := hl
    simp [concE, hE, concE_app hl' he]
theorem concE_get {es : List (V × V × Nat)} {l : List MapEntry} (hl : concE m es = some l) {j : Nat} {e : V × V × Nat} (he : es[j]? = some e) : ∃ E, l[j]? = some E ∧ entryC m e = some E := by
  induction es generalizing l j with
  | nil => simp at he
  | cons e0 es ih =>
    simp only [concE, Option.bind_eq_some_iff, Option.map_eq_some_iff] at hl
    obtain ⟨E0, hE, l', hl', rfl⟩ := hl
    cases j with
    | zero => simp at he; subst he; exact ⟨E0, rfl, hE⟩
    | succ j => exact ih hl' (by simpa using he)

theorem e_update {t : TypeId} {x k y : Operand} (ho : o.op = .mapUpdate t x k y ∨ o.op = .insert t x k y) (e : oUpdate t x k y P call tm h = .ok v h') (hr : Rel m h w) (ht : TmR m tm a) : Ef P m o a w h h' v := by
  simp only [oUpdate, updateV, some_ok, okIf_ok] at e
  obtain ⟨xv, hxv, kv, hkv, yv, hyv, d, hd, hkey, e⟩ := e
  have cx := look_conc ht hxv
  have ck := look_conc ht hkv
  have cy := look_conc ht hyv
  obtain ⟨kt, hu, hku⟩ := mapT_u hd
  split at e <;> try (cases e; done)
  rename_i b
  simp only [some_ok] at e
  obtain ⟨ob, hob, e⟩ := e
  simp only [conc, Option.map_eq_some_iff] at cx
  obtain ⟨p, hp, cx⟩ := cx
  have hobj := hr.at hob hp
  cases ob <;> simp only [some_ok] at e <;> try (cases e; done)
  rename_i es c
  obtain ⟨l, hl, hw⟩ := hobj
  obtain ⟨r, hr', e⟩ := e
  have hck := fun b => key_run (w := w) hku hkey ck b
  have fin : ∀ {w'}, (Instr.mapUpdate t (.map (some p.1)) (a.eval k) (a.eval y)).run P w = .ok () w' → (execOp a.eval o).run P w = .ok .skip w' := by
    intro w' hrun
    rcases ho with ho | ho <;> simp [execOp, ho, ← cx, hrun]
  rcases findV_run hkey ck es l 0 r hr' hl with ⟨rfl, hf⟩ | ⟨j, u, n, rfl, _, ⟨kk, hkk, heq⟩, z, hz, hf⟩
  · simp only [force_eq, appN_eq] at e
    injection e with e1 e2
    subst e1 e2
    have hp2 := hr.put hob hp hw (new := .map (l ++ [({ key := a.eval k, val := a.eval y, born := c } : MapEntry)]).toArray (c + 1)) (o' := .map (es ++ [(kv, yv, c)]) (Nat.succ c)) (fun W hW => ⟨_, concE_app hl (by simp [entryC, ck, cy]), hW⟩)
    refine ⟨_, _, undef, hp2.2, hp2.1, rfl, .inr ⟨rfl, fin ?_⟩⟩
    simp [Instr.mapUpdate, run_underlying hu, getMap hw, hck, run_findKey hku hf, setMap _ hw]
  · simp only [modN_eq] at e
    injection e with e1 e2
    subst e1 e2
    have hkk' : es[j]? = some (kk, u, n) := by simpa using hkk
    obtain rfl := eqNow_true heq
    obtain ⟨E, hE, hEc⟩ := concE_get hl hkk'
    have hEk : E.key = a.eval k := by
      simp only [entryC, ck, Option.bind_some, Option.map_eq_some_iff] at hEc
      obtain ⟨_, _, rfl⟩ := hEc
      rfl
    have hp2 := hr.put hob hp hw (new := .map (l.toArray.modify j fun e => { e with key := a.eval k, val := a.eval y }) c) (o' := .map (es.modify j fun e => (e.1, yv, e.2.2)) c) (fun W hW => ⟨l.modify j fun e => { e with key := a.eval k, val := a.eval y }, concE_mod hl (fun e1 E1 he1 hE1 => by
      rw [hkk'] at he1
      obtain rfl := Option.some.inj he1
      simp only [entryC, ck, Option.bind_some, Option.map_eq_some_iff] at hE1 ⊢
      obtain ⟨q, _, rfl⟩ := hE1
      exact ⟨_, cy, rfl⟩), by rw [hW]; simp⟩)
    refine ⟨_, _, undef, hp2.2, hp2.1, rfl, .inr ⟨rfl, fin ?_⟩⟩
    have hst := run_keyThatStays (P := P) (w := w) (d := d.1) (key_is hkey ck)
    simp [Instr.mapUpdate, run_underlying hu, getMap hw, hck, run_findKey hku hf, setMap _ hw, hE, hEk, hst]
theorem e_mapEntry {t : TypeId} {x k : Operand} (ho : o.op = .mapEntry t x k) (e : oMapEntry t x k P call tm h = .ok v h') (hr : Rel m h w) (ht : TmR m tm a) : Ef P m o a w h h' v := by
  simp only [oMapEntry, mapEntryV, some_ok, okIf_ok] at e
  obtain ⟨xv, hxv, kv, hkv, d, hd, hkey, e⟩ := e
  have cx := look_conc ht hxv
  have ck := look_conc ht hkv
  obtain ⟨kt, hu, hku⟩ := mapT_u hd
  split at e <;> try (cases e; done)
  rename_i b
  simp only [some_ok] at e
  obtain ⟨ob, hob, e⟩ := e
  simp only [conc, Option.map_eq_some_iff] at cx
  obtain ⟨p, hp, cx⟩ := cx
  have hobj := hr.at hob hp
  cases ob <;> simp only [some_ok] at e <;> try (cases e; done)
  rename_i es c
  obtain ⟨l, hl, hw⟩ := hobj
  obtain ⟨r, hr', e⟩ := e
  have hck := fun b => key_run (w := w) hku hkey ck b
  rcases findV_run hkey ck es l 0 r hr' hl with ⟨rfl, hf⟩ | ⟨j, u, n, rfl, _, ⟨kk, hkk, heq⟩, z, hz, hf⟩
  · simp only [some_ok, force_eq, appN_eq] at e
    obtain ⟨zz, hzz, e⟩ := e
    injection e with e1 e2
    subst e1 e2
    obtain ⟨y, hy, hzr⟩ := run_zero hzz m w
    have hp2 := hr.put hob hp hw (new := .map (l ++ [({ key := a.eval k, val := y, born := c } : MapEntry)]).toArray (c + 1)) (o' := .map (es ++ [(kv, zz, c)]) (Nat.succ c)) (fun W hW => ⟨_, concE_app hl (by simp [entryC, ck, hy]), hW⟩)
    refine ⟨_, _, .tuple #[y, goInt c], hp2.2, hp2.1, by simp [conc, concL, hy, goInt], .inl ?_⟩
    simp [execOp, ho, ← cx, Instr.mapEntry, run_underlying hu, getMap hw, hck, run_findKey hku hf, setMap _ hw, hzr]
  · injection e with e1 e2
    subst e1 e2
    have hkk' : es[j]? = some (kk, u, n) := by simpa using hkk
    obtain rfl := eqNow_true heq
    obtain ⟨E, hE, hEc⟩ := concE_get hl hkk'
    have hEe : E.key = a.eval k ∧ E.born = n := by
      simp only [entryC, ck, Option.bind_some, Option.map_eq_some_iff] at hEc
      obtain ⟨_, _, rfl⟩ := hEc
      exact ⟨rfl, rfl⟩
    have hmod : l.modify j (fun e => { e with key := a.eval k }) = l := by
      apply List.ext_getElem?
      intro i
      rw [List.getElem?_modify]
      by_cases hij : j = i
      · subst hij
        have : ({ E with key := a.eval k } : MapEntry) = E := by rw [← hEe.1]
        simp [hE, this]
      · simp [hij]
    have hset : ({ w with heap := w.heap.setIfInBounds p.1 (.map l.toArray c) } : World) = w := by
      have hlt : p.1 < w.heap.size := (Array.getElem?_eq_some_iff.1 hw).1
      have : w.heap.setIfInBounds p.1 (.map l.toArray c) = w.heap := by
        apply Array.ext_getElem?
        intro i
        by_cases hi : p.1 = i
        · subst hi; simp [hlt]; exact (Array.getElem?_eq_some_iff.1 hw).2.symm
        · rw [Array.getElem?_setIfInBounds_ne hi]
      rw [this]
    have hst := run_keyThatStays (P := P) (w := w) (d := d.1) (key_is hkey ck)
    refine ⟨_, _, .tuple #[z, goInt n], .refl _ _ _, hr, by simp [conc, concL, hz, goInt], .inl ?_⟩
    simp [execOp, ho, ← cx, Instr.mapEntry, run_underlying hu, getMap hw, hck, run_findKey hku hf, setMap _ hw, hE, hEe.1, hEe.2, hst, hmod, hset]
theorem e_entryStore {t : TypeId} {x s y : Operand} (ho : o.op = .entryStore t x s y) (e : oEntryStore x s y P call tm h = .ok v h') (hr : Rel m h w) (ht : TmR m tm a) : Ef P m o a w h h' v := by
  simp only [oEntryStore, entryStoreV, some_ok] at e
  obtain ⟨xv, hxv, sv, hsv, yv, hyv, e⟩ := e
  have cx := look_conc ht hxv
  have cs := look_conc ht hsv
  have cy := look_conc ht hyv
  split at e <;> try (cases e; done)
  rename_i b
  simp only [some_ok] at e
  obtain ⟨ob, hob, e⟩ := e
  simp only [conc, Option.map_eq_some_iff] at cx
  obtain ⟨p, hp, cx⟩ := cx
  have hobj := hr.at hob hp
  cases ob <;> simp only [some_ok, modN_eq] at e <;> try (cases e; done)
  rename_i es c
  obtain ⟨l, hl, hw⟩ := hobj
  obtain ⟨q, hq, i, hi, e⟩ := e
  injection e with e1 e2
  subst e1 e2
  obtain ⟨k, rfl⟩ := natOf_int hq
  simp only [conc, Option.some.injEq] at cs
  have find : ∀ (es : List (V × V × Nat)) (l : List MapEntry) (s j : Nat), concE m es = some l → bornAt q es s = some j → s ≤ j ∧ l.findIdx? (fun e => (e.born : Int) == (q : Int)) = some (j - s) := by
    intro es
    induction es with
    | nil => intro l s j _ hb; cases hb
    | cons e0 es ih =>
      intro l s j hl hb
      simp only [concE, Option.bind_eq_some_iff, Option.map_eq_some_iff] at hl
      obtain ⟨E0, hE0, l', hl', rfl⟩ := hl
      have hborn : E0.born = e0.2.2 := by
        simp only [entryC, Option.bind_eq_some_iff, Option.map_eq_some_iff] at hE0
        obtain ⟨_, _, _, _, rfl⟩ := hE0
        rfl
      have hb' : sel (Nat.beq e0.2.2 q) (some s) (bornAt q es (s + 1)) = some j := hb
      rw [sel_ite] at hb'
      split at hb'
      · rename_i hq
        obtain rfl := Option.some.inj hb'
        have hq : e0.2.2 = q := Nat.eq_of_beq_eq_true hq
        simp [List.findIdx?_cons, hborn, hq]
      · rename_i hq
        have hq : e0.2.2 ≠ q := fun e => hq (by rw [e]; exact Nat.beq_refl q)
        obtain ⟨h1, h2⟩ := ih l' (s + 1) j hl' hb'
        refine ⟨by omega, ?_⟩
        have : ¬ ((e0.2.2 : Int) = (q : Int)) := by omega
        simp [List.findIdx?_cons, hborn, this, h2]
        omega
  obtain ⟨_, hfind⟩ := find es l 0 i hl hi
  have hp2 := hr.put hob hp hw (new := .map (l.toArray.modify i fun e => { e with val := a.eval y }) c) (o' := .map (es.modify i fun e => (e.1, yv, e.2.2)) c) (fun W hW => ⟨l.modify i fun e => { e with val := a.eval y }, concE_mod hl (fun e1 E1 _ hE1 => by
    simp only [entryC, Option.bind_eq_some_iff, Option.map_eq_some_iff] at hE1 ⊢
    obtain ⟨k1, hk1, q1, _, rfl⟩ := hE1
    exact ⟨k1, hk1, _, cy, rfl⟩), by rw [hW]; simp⟩)
  refine ⟨_, _, undef, hp2.2, hp2.1, rfl, .inr ⟨rfl, ?_⟩⟩
  have cs' : a.eval s = .int k (q : Int) := cs.symm
  simp [execOp, ho, ← cx, cs', Instr.entryStore, getMap hw, asInt, asIntOf, hfind, setMap _ hw]
theorem e_range {t : TypeId} {x : Operand} (ho : o.op = .range t x) (e : oRange t x P call tm h = .ok v h') (hr : Rel m h w) (ht : TmR m tm a) : Ef P m o a w h h' v := by
  simp only [oRange, some_ok] at e
  obtain ⟨xv, hxv, d, hd, e⟩ := e
  have cx := look_conc ht hxv
  obtain ⟨kt, hu, hku⟩ := mapT_u hd
  unfold rangeV at e
  split at e
  · simp only [H.new_eq] at e
    injection e with e1 e2
    subst e1 e2
    simp only [conc, Option.some.injEq] at cx
    have h1 := hr.push (o := .iter none 0 [] 0) (n := 0) (ob := .mapIter none 0 #[] 0) (heap_alloc_new w _)
    refine ⟨_, _, .pointer (some ⟨w.heap.size, 0, none⟩), h1.2, h1.1, by simp [conc, add_at hr], .inl ?_⟩
    simp [execOp, ho, ← cx, Instr.range, run_underlying hu]
  · rename_i b
    simp only [some_ok] at e
    obtain ⟨ob, hob, e⟩ := e
    simp only [conc, Option.map_eq_some_iff] at cx
    obtain ⟨p, hp, cx⟩ := cx
    have hobj := hr.at hob hp
    cases ob <;> simp only [H.new_eq] at e <;> try (cases e; done)
    rename_i es c
    obtain ⟨l, hl, hw⟩ := hobj
    injection e with e1 e2
    subst e1 e2
    have h1 := hr.push (o := .iter (some b) c [] c) (n := 0) (ob := .mapIter (some p.1) c #[] c) ⟨p, (M.le_add _ _).blk hp, heap_alloc_new w _⟩
    refine ⟨_, _, .pointer (some ⟨w.heap.size, 0, none⟩), h1.2, h1.1, by simp [conc, add_at hr], .inl ?_⟩
    simp [execOp, ho, ← cx, Instr.range, run_underlying hu, getMap hw]
  · cases e
theorem e_next {x : Operand} {s : Bool} (ho : o.op = .next x s) (e : oNext x s P call tm h = .ok v h') (hr : Rel m h w) (ht : TmR m tm a) : Ef P m o a w h h' v := by
  simp only [oNext, some_ok] at e
  obtain ⟨xv, hxv, e⟩ := e
  have cx := look_conc ht hxv
  unfold nextV at e
  split at e <;> try (cases e; done)
  rename_i b
  simp only [conc, Option.map_eq_some_iff] at cx
  obtain ⟨p, hp, cx⟩ := cx
  cases s
  case true => rw [sel_true] at e; cases e
  case false =>
    simp only [sel_false, some_ok] at e
    obtain ⟨ob, hob, e⟩ := e
    have hobj := hr.at hob hp
    cases ob <;> try (cases e; done)
    rename_i mm since seen last
    cases mm with
    | none =>
      injection e with e1 e2
      subst e1 e2
      have hw : w.heap[p.1]? = some (.mapIter none since seen.toArray last) := hobj
      refine ⟨m, w, .tuple #[.bool false], .refl _ _ _, hr, rfl, .inl ?_⟩
      simp [execOp, ho, ← cx, Instr.next, getObj, Sem.run, hw]
    | some bm =>
      obtain ⟨q, hq, hw⟩ := hobj
      simp only [some_ok] at e
      obtain ⟨om, hom, e⟩ := e
      have hmo := hr.at hom hq
      cases om <;> try (cases e; done)
      rename_i es c
      obtain ⟨l, hl, hwm⟩ := hmo
      have hne : p.1 ≠ q.1 := by
        intro heq
        rw [heq, hwm] at hw
        cases hw
      cases es with
      | nil =>
        injection e with e1 e2
        subst e1 e2
        simp [concE] at hl
        subst hl
        refine ⟨m, w, .tuple #[.bool false], .refl _ _ _, hr, rfl, .inl ?_⟩
        simp [execOp, ho, ← cx, Instr.next, getObj, Sem.run, hw, hwm, choose, Question.forced]
      | cons en rest =>
        cases rest with
        | cons _ _ => cases e
        | nil =>
          obtain ⟨kx, ux, l', hkx, hux, hl', rfl⟩ := concE_cons.1 hl
          simp [concE] at hl'
          subst hl'
          cases seen with
          | nil =>
            have e : sel (Nat.blt en.2.2 since) (RV.ok (.tup [.bool true, en.1, en.2.1]) (h.set b (.iter (some bm) since [en.2.2] c))) .fail = .ok v h' := e
            rw [sel_ite] at e
            split at e <;> try (cases e; done)
            rename_i hlt
            have hlt : en.2.2 < since := Nat.le_of_ble_eq_true hlt
            injection e with e1 e2
            subst e1 e2
            have hp2 := hr.put hob hp hw (new := .mapIter (some q.1) since #[en.2.2] c) (o' := .iter (some bm) since [en.2.2] c) (fun W hW => ⟨q, hq, hW⟩)
            refine ⟨_, _, .tuple #[.bool true, kx, ux], hp2.2, hp2.1, by simp [conc, concL, hkx, hux], .inl ?_⟩
            have hge : ¬ (since ≤ en.2.2) := by omega
            simp [execOp, ho, ← cx, Instr.next, getObj, setObj, Sem.run, hw, hwm, choose, Question.forced, hlt, hge]
          | cons s rest =>
            cases rest with
            | cons _ _ => cases e
            | nil =>
              have e' : sel (Nat.beq s en.2.2 && Nat.blt en.2.2 last) (RV.ok (.tup [.bool false]) h) .fail = .ok v h' := e
              rw [sel_ite] at e'
              split at e' <;> try (cases e'; done)
              rename_i hc
              simp only [Bool.and_eq_true] at hc
              obtain rfl : s = en.2.2 := Nat.eq_of_beq_eq_true hc.1
              have hlt : en.2.2 < last := Nat.le_of_ble_eq_true hc.2
              clear e
              injection e' with e1 e2
              subst e1 e2
              refine ⟨m, w, .tuple #[.bool false], .refl _ _ _, hr, rfl, .inl ?_⟩
              have hge : ¬ (last ≤ en.2.2) := by omega
              simp [execOp, ho, ← cx, Instr.next, getObj, Sem.run, hw, hwm, choose, Question.forced, hge]
theorem e_entry {x : Operand} (ho : o.op = .entry x) (e : oEntry x P call tm h = .ok v h') (hr : Rel m h w) (ht : TmR m tm a) : Ef P m o a w h h' v := by
  simp only [oEntry, some_ok] at e
  obtain ⟨xv, hxv, e⟩ := e
  have cx := look_conc ht hxv
  unfold entryV at e
  split at e <;> try (cases e; done)
  rename_i b
  simp only [conc, Option.map_eq_some_iff] at cx
  obtain ⟨p, hp, cx⟩ := cx
  simp only [some_ok] at e
  obtain ⟨ob, hob, e⟩ := e
  have hobj := hr.at hob hp
  split at e <;> try (cases e; done)
  rename_i bm since s last
  obtain ⟨q, hq, hw⟩ := hobj
  simp only [some_ok] at e
  obtain ⟨om, hom, e⟩ := e
  have hmo := hr.at hom hq
  split at e <;> try (cases e; done)
  rename_i en c
  obtain ⟨l, hl, hwm⟩ := hmo
  obtain ⟨kx, ux, l', hkx, hux, hl', rfl⟩ := concE_cons.1 hl
  simp [concE] at hl'
  subst hl'
  rw [sel_ite] at e
  split at e <;> try (cases e; done)
  rename_i hc
  simp only [Bool.and_eq_true] at hc
  obtain rfl : s = en.2.2 := Nat.eq_of_beq_eq_true hc.1
  obtain rfl : c = last := Nat.eq_of_beq_eq_true hc.2
  injection e with e1 e2
  subst e1 e2
  refine ⟨m, w, .tuple #[kx, ux], .refl _ _ _, hr, by simp [conc, concL, hkx, hux], .inl ?_⟩
  simp [execOp, ho, ← cx, Instr.entry, getObj, Sem.run, hw, hwm]
end
end Go.Ev
namespace Go.Ev
open Go Go.MapKept
variable [G : Given]

section
variable {P : Program} {m : M} {h h' : H} {w : World} {tm : TM} {a : Act} {o : Oper} {v : V} {call : Call0}

/-- What a builtin's evaluation must give. -/
def Bf (P : Program) (m : M) (w : World) (h h' : H) (v : V) (s : Sem Value) : Prop :=
  ∃ m' w' x, Tr m h w m' h' w' ∧ Rel m' h' w' ∧ conc m' v = some x ∧ s.run P w = .ok x w'

theorem bytes_cells {s : List Nat} (hs : small s = true) : ∀ m : M, concL m (s.map fun c => V.int .u8 (Int.ofNat c)) = some ((s.map UInt8.ofNat).map fun b => Value.int .u8 (b.toNat : Int)) := by
  intro m
  induction s with
  | nil => rfl
  | cons c s ih =>
    simp only [small_cons, Bool.and_eq_true, decide_eq_true_eq] at hs
    simp only [List.map_cons]
    refine concL_cons.2 ⟨_, _, rfl, ih hs.2, ?_⟩
    simp [UInt8.toNat_ofNat', Nat.mod_eq_of_lt hs.1]
theorem str_first {s : List Nat} (sz k : Nat) : (Builtin.firstCells sz k (.string (bytesA s))).run P w = .ok (((s.map UInt8.ofNat).map fun b => Value.int .u8 (b.toNat : Int)).take k).toArray w := by
  have h2 : ((bytesA s).extract 0 k).data = ((s.map UInt8.ofNat).take k).toArray := by
    simp [bytesA, List.extract_eq_take_drop]
  simp only [Builtin.firstCells, h2, Sem.run_pure]
  congr 1
  apply Array.ext'
  simp [List.map_take]
theorem rowOf_run {sz : Nat} {x : V} {xv : Value} {l : List V} {n : Nat} (e : rowOf sz h x = some (l, n)) (hr : Rel m h w) (hx : conc m x = some xv) :
    allOne l = true ∧ l.length = n * sz ∧ ∃ c, concL m l = some c ∧ (Builtin.lenOf xv).run P w = .ok n w ∧ (Builtin.firstCells sz n xv).run P w = .ok c.toArray w := by
  unfold rowOf at e
  split at e
  · obtain ⟨rfl, rfl⟩ := Prod.mk.inj (Option.some.inj e)
    simp only [conc, Option.some.injEq] at hx
    subst hx
    exact ⟨rfl, by simp, [], rfl, rfl, rfl⟩
  · obtain ⟨rfl, rfl⟩ := Prod.mk.inj (Option.some.inj e)
    obtain ⟨A, c', rfl⟩ := sun_open hx
    refine ⟨rfl, by simp, [], rfl, rfl, ?_⟩
    simp [Builtin.firstCells, loadCells, loadCellsFrom]
  · rename_i s
    rw [sel_ite] at e
    split at e <;> try (cases e; done)
    rename_i h1
    obtain rfl : sz = 1 := Nat.eq_of_beq_eq_true h1
    obtain ⟨rfl, rfl⟩ := Prod.mk.inj (Option.some.inj e)
    simp only [conc, Option.ite_none_right_eq_some, Option.some.injEq] at hx
    obtain ⟨hs, rfl⟩ := hx
    refine ⟨allOne_mem.2 fun v hv => by obtain ⟨c, _, rfl⟩ := List.mem_map.1 hv; rfl, by simp, _, bytes_cells hs m, by simp [Builtin.lenOf, bytesA_size], ?_⟩
    rw [str_first, List.take_of_length_le (by simp)]
  · rename_i b ot n' cp
    simp only [Option.bind_eq_some_iff] at e
    obtain ⟨ob, hob, e⟩ := e
    split at e <;> try (cases e; done)
    rename_i t cs
    rw [sel_ite] at e
    split at e <;> try (cases e; done)
    rename_i hle
    simp only [takeN_eq, dropN_eq, lenN_eq] at e hle
    obtain ⟨rfl, rfl⟩ := Prod.mk.inj (Option.some.inj e)
    have hle : ot + n' * sz ≤ cs.length := Nat.le_of_ble_eq_true hle
    obtain ⟨p, c', hp, _, rfl⟩ := sl_open hx
    obtain ⟨h1, c, rest, hc, hw, _⟩ := hr.at hob hp
    have hle' : ot + n' * sz ≤ c.length := by rw [concL_length hc]; exact hle
    refine ⟨allOne_take (allOne_drop h1 _) _, by simp [Nat.mul_eq]; omega, _, concL_take (concL_drop hc ot) (n' * sz), rfl, ?_⟩
    simp only [Builtin.firstCells]
    exact run_cellsAt hw hle'
  · cases e
theorem ones_of {l : List V} {c : List Value} (h1 : allOne l = true) (hc : concL m l = some c) : ∀ y ∈ c, y.oneCell' = true := by
  intro y hy
  obtain ⟨i, hi⟩ := List.getElem?_of_mem hy
  have hi' : i < l.length := by rw [← concL_length hc]; exact (List.getElem?_eq_some_iff.1 hi).1
  obtain ⟨y', hy', hcy⟩ := concL_get hc (List.getElem?_eq_getElem hi')
  rw [hi] at hy'
  obtain rfl := Option.some.inj hy'
  exact conc_one hcy (allOne_mem.1 h1 _ (List.getElem_mem hi'))
theorem b_copy {ts : List TypeId} {ty : TypeId} {d x : V} {dv xv : Value} {as : List Value} (e : copyV P ts d x h = .ok v h') (hr : Rel m h w) (hd : conc m d = some dv) (hx : conc m x = some xv) :
    Bf P m w h h' v (Builtin.copy_ ts.toArray ty (dv :: xv :: as).toArray) := by
  cases ts with
  | nil => cases e
  | cons t ts =>
    simp only [copyV, some_ok] at e
    obtain ⟨r, hrow, ⟨src, n⟩, hsrc, e⟩ := e
    obtain ⟨i, zv, z, hsl, hi, hsz, hb, hz, habs, hzc, hzs, hz1, hct⟩ := rowT_open hrow
    obtain ⟨h1, hlen, c, hc, hl, hf⟩ := rowOf_run (P := P) hsrc hr hx
    have hsize : ∀ w : World, (sizeOf r.1).run P w = .ok r.2.1 w := fun w => by rw [hsz]; simp [sizeOf, typeInfo, hi]
    split at e
    · injection e with e1 e2
      subst e1 e2
      simp only [conc, Option.some.injEq] at hd
      subst hd
      refine ⟨m, w, .int .i64 0, .refl _ _ _, hr, rfl, ?_⟩
      have hf0 : (Builtin.firstCells r.2.1 0 xv).run P w = .ok #[] w := by
        cases x with
        | snil => simp only [conc, Option.some.injEq] at hx; subst hx; rfl
        | sun b o o' u d => obtain ⟨A, c', rfl⟩ := sun_open hx; simp [Builtin.firstCells, loadCells, loadCellsFrom]
        | str s => simp only [conc, Option.ite_none_right_eq_some, Option.some.injEq] at hx; obtain ⟨_, rfl⟩ := hx; simp [Builtin.firstCells]
        | sl b o n c => obtain ⟨p, c', _, _, rfl⟩ := sl_open hx; simp [Builtin.firstCells, loadCells, loadCellsFrom]
        | _ => simp [rowOf] at hsrc
      simp [Builtin.copy_, run_underlying hsl, hl, hsize, hf0, goInt]
    · rename_i b ot dn cp
      simp only [some_ok] at e
      obtain ⟨ob, hob, e⟩ := e
      split at e <;> try (cases e; done)
      rename_i u cs
      simp only [force_eq, okIf_ok, lenN_eq, takeN_eq] at e
      obtain ⟨hle, e⟩ := e
      injection e with e1 e2
      subst e1 e2
      obtain ⟨p, c', hp, _, rfl⟩ := sl_open hd
      obtain ⟨g1, cc, rest, hcc, hw, hcnt⟩ := hr.at hob hp
      have hle : ot + dn * r.2.1 ≤ cs.length := Nat.le_of_ble_eq_true hle
      have hk : sel (Nat.ble n dn) n dn = min n dn := by
        rw [sel_ite]
        by_cases hnd : n ≤ dn
        · rw [if_pos (Nat.ble_eq_true_of_le hnd), Nat.min_eq_left hnd]
        · rw [if_neg (fun e => hnd (Nat.le_of_ble_eq_true e)), Nat.min_eq_right (by omega)]
      rw [hk]
      have hmin : (min n dn) * r.2.1 ≤ dn * r.2.1 := Nat.mul_le_mul_right _ (Nat.min_le_right _ _)
      have hmin2 : (min n dn) * r.2.1 ≤ n * r.2.1 := Nat.mul_le_mul_right _ (Nat.min_le_left _ _)
      have hl2 := concL_length hc
      have hl3 := concL_length hcc
      have hnew : concL m (src.take (min n dn * r.2.1)) = some (c.take (min n dn * r.2.1)) := concL_take hc _
      have hf0 : (Builtin.firstCells r.2.1 (min n dn) xv).run P w = .ok (c.take (min n dn * r.2.1)).toArray w := by
        cases x with
        | snil => simp only [conc, Option.some.injEq] at hx; subst hx; simp [Builtin.firstCells] at hf ⊢; subst hf; simp
        | sun b o o' u d =>
          obtain ⟨A, c', rfl⟩ := sun_open hx
          simp [rowOf] at hsrc
          obtain ⟨rfl, rfl⟩ := hsrc
          simp [concL] at hc
          subst hc
          simp [Builtin.firstCells, loadCells, loadCellsFrom]
        | str s =>
          have hrow := hsrc
          simp only [conc, Option.ite_none_right_eq_some, Option.some.injEq] at hx
          obtain ⟨hs, rfl⟩ := hx
          simp only [rowOf] at hrow
          rw [sel_ite] at hrow
          split at hrow <;> try (cases hrow; done)
          rename_i hone
          have hone : r.2.1 = 1 := Nat.eq_of_beq_eq_true hone
          obtain ⟨rfl, rfl⟩ := Prod.mk.inj (Option.some.inj hrow)
          have hcc := bytes_cells hs m
          rw [hc] at hcc
          obtain rfl := Option.some.inj hcc
          rw [str_first, hone, Nat.mul_one]
        | sl b2 o2 n2 c2 =>
          obtain ⟨p2, c2', hp2, _, rfl⟩ := sl_open hx
          have hrow := hsrc
          simp only [rowOf, Option.bind_eq_some_iff] at hrow
          obtain ⟨ob2, hob2, hrow⟩ := hrow
          split at hrow <;> try (cases hrow; done)
          rename_i t2 cs2
          rw [sel_ite] at hrow
          split at hrow <;> try (cases hrow; done)
          rename_i hle2
          simp only [takeN_eq, dropN_eq, lenN_eq] at hrow hle2
          obtain ⟨rfl, rfl⟩ := Prod.mk.inj (Option.some.inj hrow)
          have hle2 : o2 + n2 * r.2.1 ≤ cs2.length := Nat.le_of_ble_eq_true hle2
          obtain ⟨_, cc2, rest2, hcc2, hw2, _⟩ := hr.at hob2 hp2
          have hl4 := concL_length hcc2
          have := concL_take (concL_drop hcc2 o2) (n2 * r.2.1)
          rw [show Nat.mul n2 r.2.1 = n2 * r.2.1 from rfl, this] at hc
          obtain rfl := Option.some.inj hc
          simp only [Builtin.firstCells]
          rw [run_cellsAt hw2 (by omega), List.take_take, Nat.min_eq_left hmin2]
        | _ => simp [rowOf] at hsrc
      have hst := run_storeCells_at (P := P) p.1 ot u (c.take (min n dn * r.2.1)) 0 (cc ++ rest).toArray w hw (by simp only [List.size_toArray, List.length_append, List.length_take]; omega) (fun y hy => ones_of h1 hc y (List.mem_of_mem_take hy))
      simp only [Nat.add_zero] at hst
      have hup := hr.row hob hp hw (cs := ((cc ++ rest).take ot ++ c.take (min n dn * r.2.1) ++ (cc ++ rest).drop (ot + (c.take (min n dn * r.2.1)).length)).toArray) (o' := .cells u (putN cs ot (src.take (min n dn * r.2.1))))
        (fun W hW => cells_put g1 (allOne_take h1 _) hcc hnew (by simp; omega) hcnt hW)
      refine ⟨_, _, .int .i64 ((min n dn : Nat) : Int), hup.2, hup.1, rfl, ?_⟩
      have hnm : Nat.min n dn = min n dn := rfl
      generalize w.setRow p.1 _ = W at hst
      simp [Builtin.copy_, run_underlying hsl, hl, hsize, hnm, hf0, goInt, hst]
    · cases e
theorem b_clear {ts : List TypeId} {ty : TypeId} {x : V} {xv : Value} {as : List Value} (e : clearV P ts x h = .ok v h') (hr : Rel m h w) (hx : conc m x = some xv) :
    Bf P m w h h' v (Builtin.clear_ ts.toArray ty (xv :: as).toArray) := by
  cases ts with
  | nil => cases e
  | cons t ts =>
    simp only [clearV] at e
    split at e
    · simp only [some_ok] at e
      obtain ⟨r, hrow, e⟩ := e
      obtain ⟨i, zv, z, hsl, hi, hsz, hb, hz, habs, hzc, hzs, hz1, hct⟩ := rowT_open hrow
      injection e with e1 e2
      subst e1 e2
      simp only [conc, Option.some.injEq] at hx
      subst hx
      exact ⟨m, w, undef, .refl _ _ _, hr, rfl, by simp [Builtin.clear_, run_underlying hsl, undef]⟩
    · rename_i b ot n cp
      simp only [some_ok] at e
      obtain ⟨r, hrow, ob, hob, e⟩ := e
      obtain ⟨i, zv, z, hsl, hi, hsz, hb, hz, habs, hzc, hzs, hz1, hct⟩ := rowT_open hrow
      split at e <;> try (cases e; done)
      rename_i u cs
      simp only [okIf_ok, lenN_eq, repN_eq] at e
      obtain ⟨hle, e⟩ := e
      injection e with e1 e2
      subst e1 e2
      have hle : ot + n * r.2.1 ≤ cs.length := Nat.le_of_ble_eq_true hle
      obtain ⟨p, c', hp, _, rfl⟩ := sl_open hx
      obtain ⟨g1, cc, rest, hcc, hw, hcnt⟩ := hr.at hob hp
      have hl3 := concL_length hcc
      have hzcell := cellsV (absV_conc m _ _ habs)
      rw [hzc]
      have hone : allOne (List.replicate n z.cells).flatten = true := allOne_mem.2 fun v hv => by
        obtain ⟨q, hq, hv⟩ := List.mem_flatten.1 hv
        rw [(List.mem_replicate.1 hq).2] at hv
        exact allOne_mem.1 hz1 v hv
      have hnew := concL_flatten hzcell n
      have hlen : ((List.replicate n zv.cells.toList).flatten).length = n * r.2.1 := by rw [hsz, ← hzs]; simp
      have hlen2 := concL_length hnew
      have hst := run_storeCells_at (P := P) p.1 ot u (List.replicate n zv.cells.toList).flatten 0 (cc ++ rest).toArray w hw (by simp only [List.size_toArray, List.length_append, hlen]; omega) (fun y hy => ones_of hone hnew y hy)
      simp only [Nat.add_zero] at hst
      have hup := hr.row hob hp hw (cs := ((cc ++ rest).take ot ++ (List.replicate n zv.cells.toList).flatten ++ (cc ++ rest).drop (ot + ((List.replicate n zv.cells.toList).flatten).length)).toArray) (o' := .cells u (putN cs ot (List.replicate n z.cells).flatten))
        (fun W hW => cells_put g1 hone hcc hnew (by rw [← hlen2, hlen]; exact hle) hcnt hW)
      have hz0 : (zeroValue r.1).run P w = .ok zv w := by simp [zeroValue, typeInfo, hi, hz]
      have hzcs : Builtin.zeroCells zv.cells n = (List.replicate n zv.cells.toList).flatten.toArray := rep_cells zv.cells n
      by_cases hn : n = 0
      · subst hn
        have hself : (w.setRow p.1 ((cc ++ rest).take ot ++ (List.replicate 0 zv.cells.toList).flatten ++ (cc ++ rest).drop (ot + ((List.replicate 0 zv.cells.toList).flatten).length)).toArray) = w := by
          simp
          exact setRow_self w p.1 _ u (0, 0) hw
        rw [hself] at hup
        exact ⟨_, _, undef, hup.2, hup.1, rfl, by simp [Builtin.clear_, run_underlying hsl, undef]⟩
      · refine ⟨_, _, undef, hup.2, hup.1, rfl, ?_⟩
        generalize w.setRow p.1 _ = W at hst
        cases n with
        | zero => exact absurd rfl hn
        | succ n => simp [Builtin.clear_, run_underlying hsl, undef, hz0, hzcs, hst]
    · cases e
theorem b_delete {ts : List TypeId} {ty : TypeId} {x k : V} {xv kv : Value} {as : List Value} (e : deleteV P ts x k h = .ok v h') (hr : Rel m h w) (hx : conc m x = some xv) (hk : conc m k = some kv) :
    Bf P m w h h' v (Builtin.delete_ ts.toArray ty (xv :: kv :: as).toArray) := by
  cases ts with
  | nil => cases e
  | cons t ts =>
    simp only [deleteV] at e
    simp only [some_ok, okIf_ok] at e
    obtain ⟨d, hd, hkey, e⟩ := e
    obtain ⟨kt, hu, hku⟩ := mapT_u hd
    have hck := fun b => key_run (w := w) hku hkey hk b
    split at e
    · injection e with e1 e2
      subst e1 e2
      simp only [conc, Option.some.injEq] at hx
      subst hx
      exact ⟨m, w, undef, .refl _ _ _, hr, rfl, by simp [Builtin.delete_, run_underlying hu, hck, undef]⟩
    · rename_i b
      simp only [some_ok] at e
      obtain ⟨ob, hob, e⟩ := e
      simp only [conc, Option.map_eq_some_iff] at hx
      obtain ⟨p, hp, rfl⟩ := hx
      have hobj := hr.at hob hp
      split at e <;> try (cases e; done)
      rename_i es c
      obtain ⟨l, hl, hw⟩ := hobj
      simp only [some_ok] at e
      obtain ⟨r, hr', e⟩ := e
      rcases findV_run hkey hk es l 0 r hr' hl with ⟨rfl, hf⟩ | ⟨j, u, n, rfl, _, ⟨kk, hkk, heq⟩, z, hz, hf⟩
      · injection e with e1 e2
        subst e1 e2
        have hp2 := hr.put hob hp hw (new := .map l.toArray c) (o' := .map es c) (fun W hW => ⟨l, hl, hW⟩)
        exact ⟨_, _, undef, hp2.2, hp2.1, rfl, by simp [Builtin.delete_, run_underlying hu, getMap hw, hck, run_findKey hku hf, setMap _ hw, undef]⟩
      · simp only [delN_eq] at e
        injection e with e1 e2
        subst e1 e2
        have hkk' : es[j]? = some (kk, u, n) := by simpa using hkk
        have hj : j < l.length := by rw [concE_length hl]; exact (List.getElem?_eq_some_iff.1 hkk').1
        have hp2 := hr.put hob hp hw (new := .map (l.eraseIdx j).toArray c) (o' := .map (es.eraseIdx j) c) (fun W hW => ⟨_, concE_del hl, hW⟩)
        have her : l.toArray.eraseIdxIfInBounds j = (l.eraseIdx j).toArray := by
          simp [Array.eraseIdxIfInBounds, hj]
        exact ⟨_, _, undef, hp2.2, hp2.1, rfl, by simp [Builtin.delete_, run_underlying hu, getMap hw, hck, run_findKey hku hf, setMap _ hw, undef]⟩
    · cases e
theorem grow_le (n : Nat) : ∀ r c, Builtin.growBy n r c ≤ max c (n + (n + 768) / 4)
  | 0, c => by simp [Builtin.growBy]; omega
  | r + 1, c => by
    simp only [Builtin.growBy]
    split
    · omega
    · have := grow_le n r (c + (c + 768) / 4)
      omega
theorem next_le {n c : Nat} (h : c < n) : Builtin.nextslicecap n c ≤ 2 * n + 768 := by
  unfold Builtin.nextslicecap
  split
  · omega
  · split
    · omega
    · have := grow_le n 4 c
      omega
theorem grown_ge (w : World) (need old : Nat) (e : TypeId) : need ≤ grownCap w need old e := by
  simp [grownCap, Question.cut]
theorem zeros_eq (z : Array Value) (n : Nat) : Builtin.zeroCells z n = (List.replicate n z.toList).flatten.toArray := rep_cells z n
theorem row_src {sz : Nat} {x : V} {xv : Value} {l : List V} {n : Nat} {xt : TypeId} {d : TypeDesc} (e : rowOf sz h x = some (l, n)) (hr : Rel m h w) (hx : conc m x = some xv) (hd : P.underlying xt = some d) (hk : (∃ e, d = .slice e) ∨ d = .string) :
    allOne l = true ∧ ∃ c, concL m l = some c ∧ Src P sz xt xv n c w := by
  obtain ⟨h1, hlen, c, hc, hl, hf⟩ := rowOf_run (P := P) e hr hx
  obtain ⟨_, _, c2, hc2, _, hf2⟩ := rowOf_run (P := P) e hr.drew.1 hx
  rw [hc] at hc2
  obtain rfl := Option.some.inj hc2
  refine ⟨h1, c, hc, ⟨?_, fun w' => ?_, hf, hf2, by rw [concL_length hc, hlen], ones_of h1 hc⟩⟩
  · rcases hk with ⟨e, rfl⟩ | rfl
    · exact .inl ⟨e, hd⟩
    · exact .inr hd
  · cases xv <;> first | (simp [Builtin.lenOf] at hl ⊢; exact hl) | (simp [Builtin.lenOf] at hl)
theorem addRow_at {p : Nat × Nat} {c : Nat} (hr : Rel m h w) : (m.addRow p c).blk[h.next]? = some p ∧ (m.addRow p c).caps[h.nc]? = some c := by simp [M.addRow, ← hr.next, ← hr.nc.1]
theorem b_append {ts : List TypeId} {ty : TypeId} {s x : V} {sv xv : Value} (e : appendV P ts s x h = .ok v h') (hr : Rel m h w) (hs : conc m s = some sv) (hx : conc m x = some xv) :
    Bf P m w h h' v (Builtin.append_ ts.toArray ty #[sv, xv]) := by
  unfold appendV at e
  split at e <;> try (cases e; done)
  rename_i st xt
  simp only [some_ok] at e
  obtain ⟨r, hrow, d, hd, e⟩ := e
  obtain ⟨i, zv, z, hsl, hi, hsz, hb, hz, habs, hzc, hzs, hz1, hct⟩ := rowT_open hrow
  have gen : ((∃ e, d = .slice e) ∨ d = .string) → grows r s x h = .ok v h' → Bf P m w h h' v (Builtin.append_ [st, xt].toArray ty #[sv, xv]) := by
    clear e
    intro hk e
    simp only [grows, some_ok] at e
    obtain ⟨⟨new, n⟩, hnew, ⟨old, sn⟩, hold, e⟩ := e
    obtain ⟨g1, cn, hcn, hsrc⟩ := row_src (P := P) hnew hr hx hd hk
    obtain ⟨o1, olen, co, hco, _, hof⟩ := rowOf_run (P := P) hold hr.drew.1 hs
    obtain ⟨_, _, co', hco', _, hof0⟩ := rowOf_run (P := P) hold hr hs
    rw [hco] at hco'
    obtain rfl := Option.some.inj hco'
    rw [hsz] at hsrc hof hof0
    have hnl := hsrc.newsLen
    have hnl2 := concL_length hcn
    have hol := concL_length hco
    rw [sel_ite] at e
    split at e
    · rename_i hn0
      have hn0 : n = 0 := Nat.eq_of_beq_eq_true hn0
      subst hn0
      have hnil : cn = [] := by apply List.eq_nil_of_length_eq_zero; rw [hnl]; simp
      subst hnil
      have hc0 := hsrc.cells
      split at e <;> try (cases e; done)
      · injection e with e1 e2
        subst e1 e2
        obtain ⟨p, c', hp, hle, rfl⟩ := sl_open hs
        refine ⟨m, w, _, .refl _ _ _, hr, hs, ?_⟩
        rcases hsrc.kind with ⟨e', hk'⟩ | hk' <;> simp [Builtin.append_, run_underlying hsl, run_underlying hk', sizeOf, typeInfo, hi, hsrc.len, hle, hc0, storeCells]
      · injection e with e1 e2
        subst e1 e2
        simp only [conc, Option.some.injEq] at hs
        subst hs
        refine ⟨m, w, _, .refl _ _ _, hr, rfl, ?_⟩
        rcases hsrc.kind with ⟨e', hk'⟩ | hk' <;> simp [Builtin.append_, run_underlying hsl, run_underlying hk', sizeOf, typeInfo, hi, hsrc.len, hc0]
    · rename_i hn0
      have hn0 : n ≠ 0 := fun e => hn0 (by rw [e]; rfl)
      have hpos : 0 < n := Nat.pos_of_ne_zero hn0
      -- no room: a new row
      have grow : ∀ (base : Option Addr) (sc : Nat), sv = .slice base sn sc → sc < sn + n → sn + n < 100000 → ∃ w' c, (∀ (H1 : H) (m1 : M), Rel m1 H1 w → Tr m h w m1 H1 w → Rel (m1.addRow (w.heap.size, c * i.size) c) (H1.pushRow (.cells r.1 (old ++ new))) w' ∧ Tr m h w (m1.addRow (w.heap.size, c * i.size) c) (H1.pushRow (.cells r.1 (old ++ new))) w') ∧
          sn + n ≤ c ∧ (Builtin.append_ [st, xt].toArray ty #[sv, xv]).run P w = .ok (.slice (some ⟨w.heap.size, 0, none⟩) (sn + n) c) w' := by
        rintro base sc rfl hlt hbig
        have hfit : Builtin.nextslicecap (sn + n) sc * i.bytes ≤ 281474976710656 := by
          have h1 := next_le hlt
          have h2 : Builtin.nextslicecap (sn + n) sc * i.bytes ≤ 300000 * 10000 := Nat.mul_le_mul (by omega) (Nat.le_of_lt hb)
          exact Nat.le_trans h2 (by decide)
        have hrun := run_append_grow_src w st xt ty r.1 i zv hsl hi hz base sn sc co hof xv n cn hsrc hlt (by omega) hfit
        have hge := grown_ge w (sn + n) sc r.1
        have hmx := grownCap_le_maxLen w (sn + n) sc r.1 (by unfold maxLen; omega)
        generalize grownCap w (sn + n) sc r.1 = c at hrun hge hmx
        rw [zeros_eq] at hrun
        refine ⟨_, c, fun H1 m1 hr1 ht1 => ?_, hge, hrun⟩
        have hp := hr1.pushRow (hc := hmx) (o := .cells r.1 (old ++ new)) (n := c * i.size) (c := c) (ob := .cells ((co ++ cn).toArray ++ (List.replicate (c - (sn + n)) zv.cells.toList).flatten.toArray) r.1)
          ⟨allOne_append.2 ⟨o1, g1⟩, co ++ cn, (List.replicate (c - (sn + n)) zv.cells.toList).flatten, concL_append.2 ⟨_, _, concL_mono (ht1.le.trans (M.le_addRow _ _ _)) _ _ hco, concL_mono (ht1.le.trans (M.le_addRow _ _ _)) _ _ hcn, rfl⟩, by show (w.drew.alloc _).heap[w.drew.heap.size]? = _; rw [heap_alloc_new]; simp, by
            have h3 : ((List.replicate (c - (sn + n)) zv.cells.toList).flatten).length = (c - (sn + n)) * i.size := by rw [← hzs]; simp
            rw [List.length_append, h3, hnl, hol, olen, hsz, ← Nat.add_mul, ← Nat.add_mul]
            exact ⟨by congr 1; omega, fun h => by rw [hct] at h; cases h⟩⟩
        exact ⟨hp.1, ht1.trans hp.2⟩
      unfold onto at e
      split at e
      · -- onto nil
        simp only [okIf_ok, H.row_eq] at e
        obtain ⟨hbig, e⟩ := e
        injection e with e1 e2
        subst e1 e2
        have hbig : n < 100000 := Nat.le_of_ble_eq_true hbig
        simp only [conc, Option.some.injEq] at hs
        subst hs
        obtain ⟨rfl, rfl⟩ := Prod.mk.inj (Option.some.inj hold)
        obtain ⟨w', c, hw', hge, hrun⟩ := grow none 0 rfl (by omega) (by omega)
        obtain ⟨q1, q2⟩ := hw' h m hr (.refl _ _ _)
        have hat := addRow_at (p := (w.heap.size, c * i.size)) (c := c) hr
        refine ⟨_, w', _, q2, q1, ?_, hrun⟩
        have := conc_un (ot := 0) (n := n) (u := h.nc) (d := 0) (s := r.2.1) hat.1 hat.2 (Nat.zero_le _) (by omega) (by rw [hsz]; simp)
        simpa using this
      · rename_i b ot sl cp
        simp only [okIf_ok] at e
        obtain ⟨hbig, e⟩ := e
        have hbig : sl + n < 100000 := Nat.le_of_ble_eq_true hbig
        have hold0 := hold
        simp only [rowOf, Option.bind_eq_some_iff] at hold0
        obtain ⟨ob, hob, hold0⟩ := hold0
        split at hold0 <;> try (cases hold0; done)
        rename_i t cs
        rw [sel_ite] at hold0
        split at hold0 <;> try (cases hold0; done)
        rename_i hle0
        obtain ⟨rfl, rfl⟩ := Prod.mk.inj (Option.some.inj hold0)
        simp only [takeN_eq, dropN_eq] at *
        have hle0 : ot + sl * r.2.1 ≤ cs.length := by simpa using Nat.le_of_ble_eq_true hle0
        cases cp with
        | ex cap =>
          obtain ⟨p, hp, hlc, rfl⟩ := ex_conc hs
          obtain ⟨c1, cc, rest, hcc, hw, hcnt⟩ := hr.at hob hp
          have hl3 := concL_length hcc
          simp only [] at e
          rw [sel_ite] at e
          split at e
          · rename_i hroom
            have hroom : sl + n ≤ cap := Nat.le_of_ble_eq_true hroom
            simp only [some_ok, hob, Option.some.injEq] at e
            obtain ⟨ob2, rfl, e⟩ := e
            simp only [okIf_ok, force_eq, lenN_eq] at e
            obtain ⟨hle, e⟩ := e
            injection e with e1 e2
            subst e1 e2
            have hle : ot + (sl + n) * r.2.1 ≤ cs.length := Nat.le_of_ble_eq_true hle
            have hmul : (sl + n) * r.2.1 = sl * r.2.1 + n * r.2.1 := Nat.add_mul _ _ _
            have hnl3 : cn.length = n * r.2.1 := by rw [hnl, hsz]
            have hst := run_storeCells_at (P := P) p.1 (ot + sl * i.size) t cn 0 (cc ++ rest).toArray w hw (by simp only [List.size_toArray, List.length_append]; rw [← hsz]; omega) hsrc.one
            simp only [Nat.add_zero] at hst
            have hup := hr.row hob hp hw (cs := ((cc ++ rest).take (ot + sl * i.size) ++ cn ++ (cc ++ rest).drop (ot + sl * i.size + cn.length)).toArray) (o' := .cells t (putN cs (ot + sl * i.size) new))
              (fun W hW => cells_put c1 g1 hcc hcn (by rw [← hnl2, hnl3, ← hsz]; omega) hcnt hW)
            rw [← hsz] at hup
            refine ⟨_, _, .slice (some ⟨p.1, ot, none⟩) (sl + n) cap, hup.2, hup.1, conc_ex hp hroom, ?_⟩
            rw [← hsz] at hst
            generalize w.setRow p.1 _ = W at hst
            have hst' : (storeCells ((⟨p.1, ot, none⟩ : Addr).add (sl * i.size)) cn).run P w = .ok () W := by rw [add_plain, ← hsz]; exact hst
            rcases hsrc.kind with ⟨e', hk'⟩ | hk' <;> simp [Builtin.append_, run_underlying hsl, run_underlying hk', sizeOf, typeInfo, hi, hsrc.len, hroom, hsrc.cells, hst']
          · rename_i hroom
            have hroom : cap < sl + n := Nat.lt_of_not_le fun e => hroom (Nat.ble_eq_true_of_le e)
            simp only [H.row_eq, appN_eq] at e
            injection e with e1 e2
            subst e1 e2
            obtain ⟨w', c, hw', hge, hrun⟩ := grow _ cap rfl hroom hbig
            obtain ⟨q1, q2⟩ := hw' h m hr (.refl _ _ _)
            have hat := addRow_at (p := (w.heap.size, c * i.size)) (c := c) hr
            refine ⟨_, w', _, q2, q1, ?_, hrun⟩
            have := conc_un (ot := 0) (n := sl + n) (u := h.nc) (d := 0) (s := r.2.1) hat.1 hat.2 (Nat.zero_le _) (by omega) (by rw [hsz]; simp)
            simpa using this
        | un u d s =>
          obtain ⟨p, cc0, hp, hcc0, hdc, hnc, hroom0, rfl⟩ := un_conc hs
          obtain ⟨c1, cc, rest, hcc, hw, hcnt⟩ := hr.at hob hp
          have hl3 := concL_length hcc
          simp only [some_ok, hob, Option.some.injEq] at e
          obtain ⟨ob2, rfl, e⟩ := e
          simp only [okIf_ok, H.row_eq, appN_eq, H.drop_next, H.drop_nc, Bool.and_eq_true] at e
          obtain ⟨⟨⟨hss, ho0⟩, ht0⟩, e⟩ := e
          obtain rfl : s = r.2.1 := Nat.eq_of_beq_eq_true hss
          obtain rfl : ot = 0 := Nat.eq_of_beq_eq_true ho0
          obtain rfl : t = r.1 := Nat.eq_of_beq_eq_true ht0
          injection e with e1 e2
          subst e1 e2
          obtain ⟨hd1, hd2⟩ := hr.drop b
          by_cases hroom : sl + n ≤ cc0 - d
          · -- in place
            have hnl3 : cn.length = n * r.2.1 := by rw [hnl, hsz]
            have hmul : (sl + n) * r.2.1 = sl * r.2.1 + n * r.2.1 := Nat.add_mul _ _ _
            have hmul2 : (sl + n) * r.2.1 ≤ (cc0 - d) * r.2.1 := Nat.mul_le_mul_right _ hroom
            have hst := run_storeCells_at (P := P) p.1 (sl * r.2.1) r.1 cn 0 (cc ++ rest).toArray w hw (by simp only [List.size_toArray, List.length_append]; omega) hsrc.one
            simp only [Nat.add_zero] at hst
            have hw' := setRow_heap w p.1 _ (((cc ++ rest).take (sl * r.2.1) ++ cn ++ (cc ++ rest).drop (sl * r.2.1 + cn.length)).toArray) r.1 (0, 0) hw
            have hnl4 : ¬ live m (h.drop b) p.1 := by
              rintro ⟨b1, o1', p1, hg1, hp1, he⟩
              rw [H.get_drop] at hg1
              split at hg1
              · cases hg1
              · rename_i hne
                exact hne (hr.inj hob hg1 hp hp1 he.symm)
            simp only [Nat.zero_add] at hle0
            have hcoe : co = cc.take (sl * r.2.1) := by
              have := concL_take (concL_drop hcc 0) (sl * r.2.1)
              rw [show Nat.mul sl r.2.1 = sl * r.2.1 from rfl, this] at hco
              simpa using (Option.some.inj hco).symm
            have hlen0 : cc.length = cs.length := concL_length hcc
            have htk : (cc ++ rest).take (sl * r.2.1) = co := by
              rw [hcoe, List.take_append_of_le_length (by omega)]
            rw [htk] at hst hw'
            have hpu := pushed (w' := w.setRow p.1 (co ++ cn ++ (cc ++ rest).drop (sl * r.2.1 + cn.length)).toArray) hd1 (m' := m.addRow p (cc0 - d)) (h' := (h.drop b).pushRow (.cells r.1 (List.take (Nat.mul sl r.2.1) (List.drop 0 cs) ++ new)))
              (o := .cells r.1 (List.take (Nat.mul sl r.2.1) (List.drop 0 cs) ++ new)) (p := p) rfl (M.le_addRow _ _ _) (by simp [H.pushRow]) (addRow_nc hd1 (by have := hr.nc.2 cc0 (List.mem_of_getElem? hcc0); omega)) (fun b => H.get_pushRow _ b _)
              (.inr ⟨(Array.getElem?_eq_some_iff.1 hw).1, hnl4⟩) (fun k _ hk => setRow_other w p.1 k _ hk)
              ⟨allOne_append.2 ⟨o1, g1⟩, co ++ cn, (cc ++ rest).drop (sl * r.2.1 + cn.length), concL_append.2 ⟨_, _, concL_mono (M.le_addRow _ _ _) _ _ hco, concL_mono (M.le_addRow _ _ _) _ _ hcn, rfl⟩, hw', by
                obtain ⟨hcnt, _⟩ := hcnt
                rw [← htk]
                simp only [List.length_append, List.length_take, List.length_drop]
                exact ⟨by omega, fun h => by rw [hct] at h; cases h⟩⟩
            have hlive : live m h p.1 := ⟨b, _, p, hob, hp, rfl⟩
            have htr : Tr m h w (m.addRow p (cc0 - d)) ((h.drop b).pushRow (.cells r.1 (List.take (Nat.mul sl r.2.1) (List.drop 0 cs) ++ new))) (w.setRow p.1 (co ++ cn ++ (cc ++ rest).drop (sl * r.2.1 + cn.length)).toArray) :=
              ⟨M.le_addRow _ _ _, rfl, rfl, rfl, by simp, fun k hk hn => setRow_other w p.1 k _ (fun he => hn (he ▸ hlive)), fun k hk => by
                rcases hpu.2 k hk with h1 | rfl
                · exact hd2.sub k h1
                · exact .inl hlive⟩
            have hat := addRow_at (p := p) (c := cc0 - d) hd1
            simp only [H.drop_next, H.drop_nc] at hat
            refine ⟨_, _, .slice (some ⟨p.1, 0, none⟩) (sl + n) (cc0 - d), htr, hpu.1, ?_, ?_⟩
            · have := conc_un (ot := 0) (n := sl + n) (u := h.nc) (d := 0) (s := r.2.1) hat.1 hat.2 (Nat.zero_le _) (by omega) (by simpa using hroom0)
              simpa using this
            · generalize w.setRow p.1 _ = W at hst
              have hst' : (storeCells ((⟨p.1, 0, none⟩ : Addr).add (sl * i.size)) cn).run P w = .ok () W := by rw [add_plain, ← hsz, Nat.zero_add]; exact hst
              rcases hsrc.kind with ⟨e', hk'⟩ | hk' <;> simp [Builtin.append_, run_underlying hsl, run_underlying hk', sizeOf, typeInfo, hi, hsrc.len, hroom, hsrc.cells, hst']
          · obtain ⟨w', c, hw', hge, hrun⟩ := grow _ (cc0 - d) rfl (by omega) hbig
            obtain ⟨q1, q2⟩ := hw' (h.drop b) m hd1 hd2
            have hat := addRow_at (p := (w.heap.size, c * i.size)) (c := c) hd1
            simp only [H.drop_next, H.drop_nc] at hat
            refine ⟨_, w', _, q2, q1, ?_, hrun⟩
            have := conc_un (ot := 0) (n := sl + n) (u := h.nc) (d := 0) (s := r.2.1) hat.1 hat.2 (Nat.zero_le _) (by omega) (by rw [hsz]; simp)
            simpa using this
      · cases e
  split at e
  · rename_i kn
    split at e <;> try (cases e; done)
    simp only [some_ok, okIf_ok, H.row_eq, Bool.and_eq_true, repN_eq] at e
    obtain ⟨n, hn, ⟨⟨hn0, hn1⟩, hs0⟩, e⟩ := e
    injection e with e1 e2
    subst e1 e2
    simp only [conc, Option.some.injEq] at hs
    subst hs
    have hn0 : 0 < n := by simpa using hn0
    have hn1 : n < 100000 := by simpa using hn1
    have hs0 : 0 < i.size := by rw [← hsz]; simpa using hs0
    obtain ⟨k, rfl⟩ : ∃ k, x = .int k (Int.ofNat n) := by
      cases x <;> try (cases hn; done)
      rename_i k z
      cases z <;> simp [natOf] at hn
      subst hn
      exact ⟨_, rfl⟩
    simp only [conc, Option.some.injEq] at hx
    subst hx
    have hrun := Go.Lib.run_append_nil_zeros w st xt ty r.1 i zv k kn hsl hd hi hz n hn0 hs0 (by omega) (Nat.le_trans (Nat.mul_le_mul (Nat.le_of_lt hn1) (Nat.le_of_lt hb)) (by decide))
    have hge := grown_ge w n 0 r.1
    have hmx := grownCap_le_maxLen w n 0 r.1 (by unfold maxLen; omega)
    generalize grownCap w n 0 r.1 = c at hrun hge hmx
    rw [zeros_eq, zeros_eq] at hrun
    have hzcell : concL m z.cells = some zv.cells.toList := cellsV (absV_conc m _ _ habs)
    have hzl := concL_length hzcell
    have hone : allOne (List.replicate n z.cells).flatten = true := allOne_mem.2 fun v hv => by
      obtain ⟨q, hq, hv⟩ := List.mem_flatten.1 hv
      rw [(List.mem_replicate.1 hq).2] at hv
      exact allOne_mem.1 hz1 v hv
    have hp := hr.pushRow (hc := hmx) (o := .cells r.1 (List.replicate n z.cells).flatten) (n := c * i.size) (c := c) (ob := .cells ((List.replicate n zv.cells.toList).flatten.toArray ++ (List.replicate (c - n) zv.cells.toList).flatten.toArray) r.1)
      ⟨hone, (List.replicate n zv.cells.toList).flatten, (List.replicate (c - n) zv.cells.toList).flatten, concL_mono (M.le_addRow _ _ _) _ _ (concL_flatten hzcell n), by show (w.drew.alloc _).heap[w.drew.heap.size]? = _; rw [heap_alloc_new]; simp, by
        have h3 : ∀ k, ((List.replicate k zv.cells.toList).flatten).length = k * i.size := fun k => by rw [← hzs]; simp
        rw [h3, h3, ← Nat.add_mul]
        exact ⟨by congr 1; omega, fun h => by rw [hct] at h; cases h⟩⟩
    have hat := addRow_at (p := (w.heap.size, c * i.size)) (c := c) hr
    rw [hzc]
    refine ⟨_, _, _, hp.2, hp.1, ?_, hrun⟩
    have := conc_un (ot := 0) (n := n) (u := h.nc) (d := 0) (s := r.2.1) hat.1 hat.2 (Nat.zero_le _) (by omega) (by rw [hsz]; simp)
    simpa using this
  · exact gen (.inl ⟨_, rfl⟩) e
  · exact gen (.inr rfl) e
  · cases e
end
end Go.Ev
namespace Go.Ev
open Go Go.MapKept
variable [G : Given]

section
variable {P : Program} {m : M} {h h' : H} {w : World} {tm : TM} {a : Act} {o : Oper} {v : V} {call : Call0}

/-- No function of the program is one of the run-time's own that the machine takes for itself. -/
def NoNG (P : Program) : Prop := ∀ (f : Nat) (fn : Func), P.funcs[f]? = some fn → (fn.name == "runtime.NumGoroutine") = false
/-- What a call's evaluation must give. -/
def Gives (m : M) (h : H) (w : World) (h' : H) (v : V) : Ending → World → Prop
  | .returned x, w' => ∃ m', Tr m h w m' h' w' ∧ Rel m' h' w' ∧ conc m' v = some x
  | _, _ => False
def CallOk (P : Program) (call : Call0) : Prop := ∀ f l h v h', call f l h = .ok v h' →
  (∃ fn c, P.funcs[f]? = some fn ∧ fn.body = some c) ∧ ∀ m w args, Rel m h w → concL m l = some args → Calls P f args.toArray w (Gives m h w h' v)
/-- The world moves on to where the value is x. -/
def Moved (m : M) (h : H) (w : World) (h' : H) (v : V) (x : Value) (w' : World) : Prop := ∃ m', Tr m h w m' h' w' ∧ Rel m' h' w' ∧ conc m' v = some x
def OxR (P : Program) (m : M) (w : World) (h h' : H) (v : V) : Result Next → Prop
  | .ok (.value x) w' => Moved m h w h' v x w'
  | .ok .skip w' => Moved m h w h' v undef w'
  | .ok (.enter f args) w' => Calls P f args w' (Gives m h w h' v)
  | _ => False
/-- What an operation's evaluation must give, whatever follows. -/
def Ox (P : Program) (m : M) (o : Oper) (a : Act) (w : World) (h h' : H) (v : V) : Prop := OxR P m w h h' v ((execOp a.eval o).run P w)
theorem Ox.congr {a' : Act} (x : Ox P m o a w h h' v) (e : execOp a'.eval o = execOp a.eval o) : Ox P m o a' w h h' v := by unfold Ox; rw [e]; exact x
theorem Ox.wp {K : Act → World → Prop} {Q : Exit → Act → World → Prop} (x : Ox P m o a w h h' v) (hK : ∀ x w', Moved m h w h' v x w' → K (a.put o.dst x) w') : o.wp P a w K Q := by
  unfold Ox at x
  unfold Oper.wp
  generalize (execOp a.eval o).run P w = r at *
  unfold OxR at x
  split at x
  · exact hK _ _ x
  · exact hK _ _ x
  · refine Calls.mono x fun en w' he => ?_
    cases en with
    | returned x => exact hK _ _ he
    | panicked _ => exact he.elim
    | outgrown => exact he.elim
  · exact x.elim
theorem Ef.ox (e : Ef P m o a w h h' v) : Ox P m o a w h h' v := by
  obtain ⟨m', w', x, ht, hr, hc, hrun | ⟨rfl, hrun⟩⟩ := e
  · unfold Ox; rw [hrun]; exact ⟨m', ht, hr, hc⟩
  · unfold Ox; rw [hrun]; exact ⟨m', ht, hr, hc⟩
theorem Bf.ef {b : Sem Value} (e : Bf P m w h h' v b) (hb : ∀ w' x, b.run P w = .ok x w' → (execOp a.eval o).run P w = .ok (.value x) w') : Ef P m o a w h h' v := by
  obtain ⟨m', w', x, ht, hr, hc, hrun⟩ := e
  exact ⟨m', w', x, ht, hr, hc, .inl (hb _ _ hrun)⟩
theorem x_value {c : Call} {f : Operand} (ho : o.op = .call c) (hcal : c.callee = .value f) (e : oCall c P call tm h = .ok v h') (hn : NoNG P) (hk : CallOk P call) (hr : Rel m h w) (ht : TmR m tm a) : Ox P m o a w h h' v := by
  simp only [oCall, callV, some_ok, hcal] at e
  obtain ⟨l, hl, fv, hfv, e⟩ := e
  have hc := lookAll_conc ht hl
  have hf := look_conc ht hfv
  split at e <;> try (cases e; done)
  rename_i g first cap
  simp only [conc, Option.bind_eq_some_iff, Option.map_eq_some_iff] at hf
  obtain ⟨xf, hxf, xc, hxc, hf⟩ := hf
  simp only [appN_eq] at e
  obtain ⟨⟨fn, c', hfn, hbody⟩, hcalls⟩ := hk _ _ _ _ _ e
  have hargs := hcalls m w _ hr (concL_append.2 ⟨_, _, hxf, concL_append.2 ⟨_, _, hc, hxc, rfl⟩, rfl⟩)
  have hrun : (execOp a.eval o).run P w = .ok (.enter g (xf ++ (c.args.toList.map a.eval ++ xc)).toArray) w := by
    have := Go.MuLone.run_callFunc_enter (P := P) hfn (hn _ _ hfn) hbody (xf ++ (c.args.toList.map a.eval ++ xc)).toArray w
    simp [execOp, ho, resolve, hcal, ← hf, Deferred.ofValue, invoke]
    rw [← this]
    congr 2
    apply Array.ext'
    simp
  unfold Ox
  rw [hrun]
  exact hargs
theorem x_builtin {c : Call} {b : Builtin} (ho : o.op = .call c) (hcal : c.callee = .builtin b) (hnq : quiet o.op = false) (e : oCall c P call tm h = .ok v h') (hr : Rel m h w) (ht : TmR m tm a) : Ef P m o a w h h' v := by
  simp only [oCall, callV, some_ok, hcal] at e
  obtain ⟨l, hl, e⟩ := e
  have hc := lookAll_conc ht hl
  rw [ho] at hnq
  simp only [quiet, hcal] at hnq
  have hargs : c.args.map a.eval = (c.args.toList.map a.eval).toArray := by cases c.args; simp
  have hty : c.argTypes = c.argTypes.toList.toArray := by simp
  cases b <;> first | (cases hnq; done) | skip
  all_goals simp only [builtinV] at e
  all_goals first | (cases e; done) | skip
  case append =>
    split at e <;> try (cases e; done)
    obtain ⟨y, l', hy, hl1, hl2⟩ := concL_cons.1 hc
    obtain ⟨z, l'', hz, hl3, rfl⟩ := concL_cons.1 hl1
    obtain rfl := concL_nil.1 hl3
    refine (b_append (ty := o.type) e hr hy hz).ef fun w' x hx => ?_
    rw [← hty] at hx
    simp [execOp, ho, resolve, hcal, invoke, builtin, hargs, hl2, hx]
  case copy =>
    split at e <;> try (cases e; done)
    obtain ⟨y, l', hy, hl1, hl2⟩ := concL_cons.1 hc
    obtain ⟨z, l'', hz, hl3, rfl⟩ := concL_cons.1 hl1
    refine (b_copy (ty := o.type) (as := l'') e hr hy hz).ef fun w' x hx => ?_
    rw [← hty] at hx
    simp [execOp, ho, resolve, hcal, invoke, builtin, hargs, hl2, hx]
  case delete =>
    split at e <;> try (cases e; done)
    obtain ⟨y, l', hy, hl1, hl2⟩ := concL_cons.1 hc
    obtain ⟨z, l'', hz, hl3, rfl⟩ := concL_cons.1 hl1
    refine (b_delete (ty := o.type) (as := l'') e hr hy hz).ef fun w' x hx => ?_
    rw [← hty] at hx
    simp [execOp, ho, resolve, hcal, invoke, builtin, hargs, hl2, hx]
  case clear =>
    split at e <;> try (cases e; done)
    obtain ⟨y, l', hy, hl1, hl2⟩ := concL_cons.1 hc
    refine (b_clear (ty := o.type) (as := l') e hr hy).ef fun w' x hx => ?_
    rw [← hty] at hx
    simp [execOp, ho, resolve, hcal, invoke, builtin, hargs, hl2, hx]
/-- Every operation that is no send and no select. -/
theorem op_run (hcm : ∀ c x, o.op ≠ .send c x) (hcs : ∀ c b, o.op ≠ .select c b) (hn : NoNG P) (hk : CallOk P call) (e : opV o.op P call tm h = .ok v h') (hr : Rel m h w) (ht : TmR m tm a) : Ox P m o a w h h' v := by
  cases hq : quiet o.op with
  | true => exact ((quiet_run hq e hr ht).ef hr).ox
  | false =>
    have hq0 := hq
    generalize ho : o.op = op at *
    cases op <;> first | (cases hq; done) | (cases e; done) | skip
    case alloc t => obtain ⟨_, _, _, _, k⟩ := mk_alloc (call := call) (m := m) (a := a) (tm := tm) ho e; exact (k.ef hr).ox
    case box t x => obtain ⟨_, _, _, _, k⟩ := mk_box (call := call) ho e ht; exact (k.ef hr).ox
    case buildSlice t n ps => obtain ⟨_, _, _, _, k⟩ := mk_buildSlice (call := call) ho e ht; exact (k.ef hr).ox
    case store t x y => exact (e_store (call := call) ho e hr ht).ox
    case makeMap t r => exact (e_makeMap (call := call) ho e hr ht).ox
    case makeChan t x => exact (e_makeChan (call := call) ho e hr ht).ox
    case makeSlice t x y => exact (e_makeSlice (call := call) ho e hr ht).ox
    case mapUpdate t x k y => exact (e_update (call := call) (.inl ho) e hr ht).ox
    case insert t x k y => exact (e_update (call := call) (.inr ho) e hr ht).ox
    case mapEntry t x k => exact (e_mapEntry (call := call) ho e hr ht).ox
    case entryStore t x k y => exact (e_entryStore (call := call) ho e hr ht).ox
    case range t x => exact (e_range (call := call) ho e hr ht).ox
    case next x s => exact (e_next (call := call) ho e hr ht).ox
    case entry x => exact (e_entry (call := call) ho e hr ht).ox
    case send c x => exact absurd rfl (hcm c x)
    case select c b => exact absurd rfl (hcs c b)
    case call c =>
      cases hcal : c.callee with
      | value f => exact x_value (call := call) ho hcal e hn hk hr ht
      | builtin b => exact (x_builtin (call := call) ho hcal (by rw [ho]; exact hq0) e hr ht).ox
      | invoke r n => exact absurd e (by simp [opV, oCall, callV, hcal, some?]; cases lookAll tm c.args.toList <;> simp)
end
end Go.Ev
