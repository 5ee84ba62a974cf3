/- Operations that turn nothing, as the evaluator says (second part). Conditions: the heap stands for the world. -/
import Derived.Test.YtkdihjhndebloaaGreatDoorEvQuietA
import Derived.Laws.Tables
set_option linter.unusedSectionVars false
set_option linter.unusedVariables false
set_option linter.unusedSimpArgs false
namespace Go.Ev
open Go
variable [G : Given]

section
variable {P : Program} {m : M} {h h' : H} {w : World} {tm : TM} {a : Act} {o : Oper} {v : V} {call : Call0}

def isRaw (v : V) : Bool := match v with | .raw _ => true | _ => false
/-- Whatever stands for a value of a plain kind is that kind. -/
theorem conc_kind {u : V} {x : Value} (e : conc m u = some x) (hr : isRaw u = false) :
    (∀ k n, x = .int k n → u = .int k n) ∧ (∀ s, x = .string s → ∃ l, u = .str l) ∧ (∀ k n, x ≠ .float k n) ∧ (∀ k p q, x ≠ .complex k p q) ∧ (x = .nilIface → u = .inil) ∧ (∀ l, x = .agg l → ∃ l', u = .agg l') := by
  cases u with
  | raw y => simp [isRaw] at hr
  | sl b ot n c => obtain ⟨p, c', _, _, rfl⟩ := sl_open e; simp
  | sun b ot o' u d => obtain ⟨A, c', rfl⟩ := sun_open e; simp
  | fn f c d => simp only [conc, Option.bind_eq_some_iff, Option.map_eq_some_iff] at e; obtain ⟨_, _, _, _, rfl⟩ := e; simp
  | str s => simp only [conc, Option.ite_none_right_eq_some, Option.some.injEq] at e; obtain ⟨_, rfl⟩ := e; simp
  | agg l => simp only [conc, Option.map_eq_some_iff] at e; obtain ⟨y, hy, rfl⟩ := e; simp
  | tup l => simp only [conc, Option.map_eq_some_iff] at e; obtain ⟨y, hy, rfl⟩ := e; simp
  | ifc t u => simp only [conc, Option.map_eq_some_iff] at e; obtain ⟨y, hy, rfl⟩ := e; simp
  | ptr b ot => simp only [conc, Option.map_eq_some_iff] at e; obtain ⟨y, hy, rfl⟩ := e; simp
  | map b => simp only [conc, Option.map_eq_some_iff] at e; obtain ⟨y, hy, rfl⟩ := e; simp
  | chan b => simp only [conc, Option.map_eq_some_iff] at e; obtain ⟨y, hy, rfl⟩ := e; simp
  | int k n => simp only [conc, Option.some.injEq] at e; subst e; simp
  | _ => simp only [conc, Option.some.injEq] at e; subst e; simp
theorem eqGuard_other (op : BinOp) (hop : op = .eql ∨ op = .neq) (t : TypeId) (x y : Operand) (p q : Value) (h1 : p = .nilIface → q = .nilIface → isConstO x = true ∨ isConstO y = true)
    (h2 : ∀ l l', p = .agg l → q = .agg l' → P.eqGuardType P.depth t = false) : (eqGuard op t x y p q).run P w = .ok () w := by
  have n1 : p = .nilIface → q = .nilIface → (eqGuard op t x y .nilIface .nilIface).run P w = .ok () w := fun e1 e2 => by
    rcases h1 e1 e2 with hc | hc
    · cases x <;> simp [isConstO] at hc
      rcases hop with rfl | rfl <;> simp [eqGuard]
    · cases y <;> simp [isConstO] at hc
      rcases hop with rfl | rfl <;> simp [eqGuard]
  have n2 : ∀ l l', p = .agg l → q = .agg l' → (eqGuard op t x y (.agg l) (.agg l')).run P w = .ok () w := fun l l' e1 e2 => by
    have := h2 l l' e1 e2
    rcases hop with rfl | rfl <;> simp [eqGuard, this]
  rcases hop with rfl | rfl <;> cases p <;> cases q <;> first | exact n1 rfl rfl | exact n2 _ _ rfl rfl | rfl
theorem binOp_eq (t : TypeId) (p q : Value) (hi : ∀ k n k' n', p = .int k n → q ≠ .int k' n') (hf : ∀ k n, p ≠ .float k n) (hc : ∀ k n n', p ≠ .complex k n n') (hs : ∀ s s', p = .string s → q ≠ .string s') :
    (binOp .eql t p q).run P w = ((Op.equal t p q).run P w).andThen (fun b w' => .ok (.bool b) w') ∧ (binOp .neq t p q).run P w = ((Op.equal t p q).run P w).andThen (fun b w' => .ok (.bool (!b)) w') := by
  constructor
  · unfold binOp
    split <;> first | (exfalso; exact hi _ _ _ _ rfl rfl) | (exfalso; exact hf _ _ rfl) | (exfalso; exact hc _ _ _ rfl) | (exfalso; exact hs _ _ rfl rfl) | (simp_all; done)
  · unfold binOp
    split <;> first | (exfalso; exact hi _ _ _ _ rfl rfl) | (exfalso; exact hf _ _ rfl) | (exfalso; exact hc _ _ _ rfl) | (exfalso; exact hs _ _ rfl rfl) | (simp_all; done)
theorem eqlV_run {t : TypeId} {neg : Bool} {x y : Operand} {u1 u2 : V} {p q : Value} (e : eqlV P t (isConstO x || isConstO y) neg u1 u2 h = .ok v h') (h1 : conc m u1 = some p) (h2 : conc m u2 = some q) :
    h' = h ∧ ∃ z, conc m v = some z ∧ ((do eqGuard (if neg then .neq else .eql) t x y p q; binOp (if neg then .neq else .eql) t p q) : Sem Value).run P w = .ok z w := by
  have gen : okIf (eqOk P t (isConstO x || isConstO y) u1 u2) (some? (eqT P 5 t u1 u2) fun r => RV.ok (.bool (sel neg (!r) r)) h) = .ok v h' → (∀ k n k' n', u1 = .int k n → u2 ≠ .int k' n') → (∀ s s', u1 = .str s → u2 ≠ .str s') →
      h' = h ∧ ∃ z, conc m v = some z ∧ ((do eqGuard (if neg then .neq else .eql) t x y p q; binOp (if neg then .neq else .eql) t p q) : Sem Value).run P w = .ok z w := by
    intro e hni hns
    simp only [okIf_ok, some_ok] at e
    obtain ⟨hok, r, hr, e⟩ := e
    injection e with e1 e2
    subst e1 e2
    have r1 : isRaw u1 = false := by cases u1 <;> first | rfl | (simp [eqOk] at hok)
    have r2 : isRaw u2 = false := by cases u2 <;> first | rfl | (cases u1 <;> simp [eqOk] at hok)
    obtain ⟨i1, s1, f1, c1, n1, a1⟩ := conc_kind h1 r1
    obtain ⟨i2, s2, f2, c2, n2, a2⟩ := conc_kind h2 r2
    have hg : ∀ op, op = .eql ∨ op = .neq → (eqGuard op t x y p q).run P w = .ok () w := fun op hop => eqGuard_other op hop t x y p q (fun e1 e2 => by
        have := n1 e1; have := n2 e2; subst_vars
        simp only [eqOk, Bool.or_eq_true] at hok
        rcases hok with hok | hok
        · exact .inl hok
        · exact .inr hok)
      (fun l l' e1 e2 => by
        obtain ⟨l1, rfl⟩ := a1 l e1
        obtain ⟨l2, rfl⟩ := a2 l' e2
        simpa [eqOk] using hok)
    obtain ⟨b1, b2⟩ := binOp_eq (P := P) (w := w) t p q (fun k n k' n' e1 e2 => hni k n k' n' (i1 k n e1) (i2 k' n' e2)) (fun k n => f1 k n) (fun k n n' => c1 k n n') (fun s s' e1 e2 => by
      obtain ⟨l1, e3⟩ := s1 s e1
      obtain ⟨l2, e4⟩ := s2 s' e2
      exact hns l1 l2 e3 e4)
    have heq : (Op.equal t p q).run P w = .ok r w := by
      unfold Op.equal
      exact eqT_run (P := P) (m := m) (w := w) 5 10000 (by decide) t u1 u2 r p q hr h1 h2
    cases neg
    · refine ⟨rfl, _, rfl, ?_⟩
      simp [hg .eql (.inl rfl), b1, heq]
    · refine ⟨rfl, _, rfl, ?_⟩
      simp [hg .neq (.inr rfl), b2, heq]
  unfold eqlV at e
  split at e
  · rename_i k n k' n'
    rw [sel_ite] at e
    split at e
    · rename_i hk
      have hk : k = k' := by simpa using hk
      subst hk
      injection e with e1 e2
      subst e1 e2
      simp only [conc, Option.some.injEq] at h1 h2
      subst h1 h2
      have hg : ∀ op, op = .eql ∨ op = .neq → (eqGuard op t x y (.int k n) (.int k n')).run P w = .ok () w := fun op hop => eqGuard_other op hop t x y _ _ (fun e1 => by cases e1) (fun l l' e1 => by cases e1)
      cases neg
      · refine ⟨rfl, _, rfl, ?_⟩
        simp [hg .eql (.inl rfl), binOp, Op.intCmp, eqI_eq]
        rfl
      · refine ⟨rfl, _, rfl, ?_⟩
        simp [hg .neq (.inr rfl), binOp, Op.intCmp, eqI_eq]
        rfl
    · cases e
  · rename_i s1 s2
    injection e with e1 e2
    subst e1 e2
    simp only [conc, Option.ite_none_right_eq_some, Option.some.injEq] at h1 h2
    obtain ⟨hs1, rfl⟩ := h1
    obtain ⟨hs2, rfl⟩ := h2
    have hg : ∀ op, op = .eql ∨ op = .neq → (eqGuard op t x y (.string (bytesA s1)) (.string (bytesA s2))).run P w = .ok () w := fun op hop => eqGuard_other op hop t x y _ _ (fun e1 => by cases e1) (fun l l' e1 => by cases e1)
    have hb : bytesEq s1 s2 = ((bytesA s1).toList == (bytesA s2).toList) := by rw [← beq_toListBytes]; exact beq_bytes hs1 hs2
    cases neg
    · refine ⟨rfl, _, rfl, ?_⟩
      simp only [Bool.false_eq_true, if_false, Sem.run_bind, hg .eql (.inl rfl), Result.andThen_ok, binOp, Op.stringOp, ← hb, Sem.run_pure, sel_false]
    · refine ⟨rfl, _, rfl, ?_⟩
      simp only [if_true, Sem.run_bind, hg .neq (.inr rfl), Result.andThen_ok, binOp, Op.stringOp, ← hb, Sem.run_pure, sel_true]
  · rename_i hn1 hn2
    exact gen e (fun k n k' n' e1 e2 => hn1 k n k' n' e1 e2) (fun s s' e1 e2 => hn2 s s' e1 e2)
theorem q_bin {op : BinOp} {t t' : TypeId} {x y : Operand} (ho : o.op = .binOp op t x y t') (e : oBin op t x y P call tm h = .ok v h') (ht : TmR m tm a) : Qt P m o a w h h' v := by
  simp only [oBin, some_ok] at e
  obtain ⟨u1, h1, u2, h2, e⟩ := e
  have c1 := look_conc ht h1
  have c2 := look_conc ht h2
  have fin : ∀ {z : Value}, ((do eqGuard op t x y (a.eval x) (a.eval y); binOp op t (a.eval x) (a.eval y)) : Sem Value).run P w = .ok z w → Yl P o a w z := by
    intro z hz
    simp only [Sem.run_bind] at hz
    simp only [Yl, execOp, ho, Sem.run_bind, hz, Result.andThen_ok, Sem.run_pure]
  by_cases he : op = .eql
  · subst he
    obtain ⟨rfl, z, hz, hrun⟩ := eqlV_run (neg := false) e c1 c2 (w := w)
    exact ⟨rfl, z, hz, fin hrun⟩
  by_cases hn : op = .neq
  · subst hn
    obtain ⟨rfl, z, hz, hrun⟩ := eqlV_run (neg := true) e c1 c2 (w := w)
    exact ⟨rfl, z, hz, fin hrun⟩
  have hg : (eqGuard op t x y (a.eval x) (a.eval y)).run P w = .ok () w := by
    cases op <;> first | exact absurd rfl he | exact absurd rfl hn | rfl
  have e' : (match u1, u2 with
    | .int k x, .int k' y => intOp op k x k' y h
    | .str x, .str y => strOp op x y h
    | _, _ => .fail) = .ok v h' := by
    cases op <;> first | exact absurd rfl he | exact absurd rfl hn | exact e
  split at e'
  · simp only [conc, Option.some.injEq] at c1 c2
    rw [← c1, ← c2] at fin hg
    obtain ⟨rfl, z, hz, hrun⟩ := intOp_run (m := m) (w := w) (P := P) (t := t) he hn e'
    exact ⟨rfl, z, hz, fin (by simp [hg, hrun])⟩
  · simp only [conc, Option.ite_none_right_eq_some, Option.some.injEq] at c1 c2
    obtain ⟨s1, c1⟩ := c1
    obtain ⟨s2, c2⟩ := c2
    rw [← c1, ← c2] at fin hg
    obtain ⟨rfl, z, hz, hrun⟩ := strOp_run (m := m) (w := w) (P := P) (t := t) s1 s2 he hn e'
    exact ⟨rfl, z, hz, fin (by simp [hg, hrun])⟩
  · cases e'
theorem q_un {op : UnOp} {t : TypeId} {x : Operand} (ho : o.op = .unOp op t x) (e : oUn op x P call tm h = .ok v h') (ht : TmR m tm a) : Qt P m o a w h h' v := by
  simp only [oUn, some_ok] at e
  obtain ⟨u, hu, e⟩ := e
  have c := look_conc ht hu
  unfold unV at e
  split at e
  · injection e with e1 e2
    subst e1 e2
    simp only [conc, Option.some.injEq] at c
    refine ⟨rfl, _, rfl, ?_⟩
    simp [Yl, execOp, ho, ← c, Op.unary]
  · rename_i k n
    obtain ⟨rfl, rfl⟩ := iNum_ok e
    simp only [conc, Option.some.injEq] at c
    refine ⟨rfl, _, rfl, ?_⟩
    have h0 : Int.sub 0 n = -n := Int.zero_sub n
    simp [Yl, execOp, ho, ← c, Op.unary, Op.intArith, h0]
  · cases e
end
end Go.Ev
namespace Go.Ev
open Go
variable [G : Given]

section
variable {P : Program} {m : M} {h h' : H} {w : World} {tm : TM} {a : Act} {o : Oper} {v : V} {call : Call0}

theorem bytesOf_int {v : V} {r : Option (List Nat)} {s : List Nat} (e : (match v with | .int .u8 (.ofNat n) => r.map (n :: ·) | _ => none) = some s) : ∃ n s', v = .int .u8 (Int.ofNat n) ∧ r = some s' ∧ s = n :: s' := by
  split at e
  · simp only [Option.map_eq_some_iff] at e
    obtain ⟨s', hs', rfl⟩ := e
    exact ⟨_, s', rfl, hs', rfl⟩
  · cases e
theorem bytesOf_conc {l : List V} {c : List Value} {s : List Nat} (e : bytesOf l = some s) (hc : concL m l = some c) : c = s.map (fun b : Nat => Value.int .u8 (b : Int)) ∧ s.length = l.length := by
  induction l generalizing c s with
  | nil =>
    obtain rfl := Option.some.inj (show some [] = some s from e)
    simp [concL] at hc
    subst hc
    simp
  | cons v l ih =>
    obtain ⟨n, s', rfl, hs', rfl⟩ := bytesOf_int (v := v) (r := bytesOf l) (s := s) e
    obtain ⟨y, l', hy, hl, rfl⟩ := concL_cons.1 hc
    simp only [conc, Option.some.injEq] at hy
    subst hy
    obtain ⟨rfl, h2⟩ := ih hs' hl
    exact ⟨rfl, by simp [h2]⟩
theorem q_conv {s d : TypeId} {x : Operand} (ho : o.op = .convert s d x) (e : oConv s d x P call tm h = .ok v h') (hr : Rel m h w) (ht : TmR m tm a) : Qt P m o a w h h' v := by
  simp only [oConv, some_ok, convV] at e
  obtain ⟨u, hu, dd, hd, sd, hs, e⟩ := e
  have c := look_conc ht hu
  cases u <;> simp only [] at e <;> try (cases e; done)
  case int k n =>
    split at e <;> try (cases e; done)
    rename_i k'
    obtain ⟨rfl, rfl⟩ := iNum_ok e
    simp only [conc, Option.some.injEq] at c
    refine ⟨rfl, _, rfl, ?_⟩
    cases sd <;> simp [Yl, execOp, ho, ← c, convert, run_underlying hs, run_underlying hd, Conv.intToInt]
  case str l =>
    split at e <;> try (cases e; done)
    injection e with e1 e2
    subst e1 e2
    refine ⟨rfl, _, c, ?_⟩
    simp only [conc, Option.ite_none_right_eq_some, Option.some.injEq] at c
    obtain ⟨_, c⟩ := c
    cases sd <;> simp [Yl, execOp, ho, ← c, convert, run_underlying hs, run_underlying hd]
  case snil =>
    split at e <;> try (cases e; done)
    simp only [okIf_ok] at e
    obtain ⟨hb, e⟩ := e
    injection e with e1 e2
    subst e1 e2
    simp only [conc, Option.some.injEq] at c
    refine ⟨rfl, .string .empty, by simp [conc, bytesA]; rfl, ?_⟩
    unfold isBytes at hb
    split at hb <;> try (cases hb; done)
    rename_i el hel
    split at hb <;> try (cases hb; done)
    rename_i hu8
    have hsl := elemT_u hel
    rw [hs] at hsl
    obtain rfl := Option.some.inj hsl
    simp [Yl, execOp, ho, ← c, convert, run_underlying hs, run_underlying hd, run_underlying hu8, Conv.bytesToString]
  case sl b ot n cp =>
    split at e <;> try (cases e; done)
    simp only [okIf_ok, some_ok] at e
    obtain ⟨hb, ob, hob, e⟩ := e
    unfold isBytes at hb
    split at hb <;> try (cases hb; done)
    rename_i el hel
    split at hb <;> try (cases hb; done)
    rename_i hu8
    have hsl := elemT_u hel
    rw [hs] at hsl
    obtain rfl := Option.some.inj hsl
    obtain ⟨p, c', hp, _, hx⟩ := sl_open c
    have hobj := hr.at hob hp
    cases ob <;> simp only [okIf_ok, some_ok, lenN_eq, takeN_eq, dropN_eq] at e <;> try (cases e; done)
    rename_i u cs
    obtain ⟨hle, l, hl, hsm, e⟩ := e
    injection e with e1 e2
    subst e1 e2
    obtain ⟨_, cc, rest, hcc, hw, _⟩ := hobj
    have hle' : ot + n ≤ cc.length := by rw [concL_length hcc]; exact Nat.le_of_ble_eq_true hle
    obtain ⟨hcs, hlen⟩ := bytesOf_conc hl (concL_take (concL_drop hcc ot) n)
    refine ⟨rfl, .string (bytesA l), by simp [conc, hsm], ?_⟩
    have hln : l.length = n := by rw [hlen]; simp; have := concL_length hcc; omega
    have hrun := run_convert_bytes_back (P := P) w s d el ⟨p.1, ot, none⟩ c' (l.map UInt8.ofNat) hs hu8 hd (fun j hj => by
      have hj' : j < l.length := by simpa using hj
      rw [add_plain, cell_of_row w p.1 (ot + j) _ u (0, 0) hw, List.getElem?_toArray, List.getElem?_append_left (by omega)]
      have h1 : ((cc.drop ot).take n)[j]? = some (.int .u8 ((l[j] : Nat) : Int)) := by rw [hcs]; simp [hj']
      rw [List.getElem?_take_of_lt (by omega), List.getElem?_drop] at h1
      rw [h1]
      have : l[j] < 256 := small_iff.1 hsm _ (List.getElem_mem hj')
      simp [UInt8.toNat_ofNat', Nat.mod_eq_of_lt this])
    rw [List.length_map, hln] at hrun
    simp only [Yl, execOp, ho, hx, Sem.run_bind, hrun, Result.andThen_ok, Sem.run_pure]
    rfl

theorem optNat_conc (ht : TmR m tm a) {x : Option Operand} {d n : Nat} (e : optNat tm x d = some n) : (x = none ∧ n = d) ∨ ∃ y k, x = some y ∧ a.eval y = .int k (n : Int) := by
  unfold optNat at e
  split at e
  · left; exact ⟨rfl, (Option.some.inj e).symm⟩
  · right
    rename_i y
    simp only [Option.bind_eq_some_iff] at e
    obtain ⟨u, hu, hn⟩ := e
    obtain ⟨k, rfl⟩ := natOf_int hn
    have := look_conc ht hu
    simp only [conc, Option.some.injEq] at this
    exact ⟨y, k, rfl, this.symm⟩
theorem bounds_run (ht : TmR m tm a) {lo hi mx : Option Operand} {len cap p q r : Nat} {isS : Bool} (hlo : optNat tm lo 0 = some p) (hhi : optNat tm hi len = some q) (hmx : mx = none ∧ r = cap ∨ ∃ y k, mx = some y ∧ a.eval y = .int k (r : Int))
    (h1 : p ≤ q) (h2 : q ≤ r) (h3 : r ≤ cap) (hmh : mx ≠ none → hi ≠ none) :
    (Instr.sliceBounds isS len cap (lo.map a.eval) (hi.map a.eval) (mx.map a.eval)).run P w = .ok (p, q, r) w := by
  have hb : ∀ (k : IntKind) (i y : Nat) (code : BoundsCode), i ≤ y → (Instr.sliceBound (.int k (i : Int)) y code).run P w = .ok i w := by
    intro k i y code hiy
    simp [Instr.sliceBound, asIntOf, hiy]
  rcases optNat_conc ht hlo with ⟨rfl, rfl⟩ | ⟨y1, k1, rfl, hy1⟩ <;> rcases optNat_conc ht hhi with ⟨rfl, rfl⟩ | ⟨y2, k2, rfl, hy2⟩ <;> rcases hmx with ⟨rfl, rfl⟩ | ⟨y3, k3, rfl, hy3⟩ <;>
    first
    | (exfalso; revert hmh; simp; done)
    | simp [Instr.sliceBounds, hy1, hy2, hy3, hb _ _ _ _ h1, hb _ _ _ _ h2, hb _ _ _ _ h3]
    | simp [Instr.sliceBounds, hy1, hy2, hb _ _ _ _ h1, hb _ _ _ _ h2]
    | simp [Instr.sliceBounds, hy2, hy3, hb _ _ _ _ h2, hb _ _ _ _ h3]
    | simp [Instr.sliceBounds, hy1, hb _ _ _ _ h1]
    | simp [Instr.sliceBounds, hy2, hb _ _ _ _ h2]
    | simp [Instr.sliceBounds]
theorem un_conc {b ot n u d s : Nat} {x : Value} (e : conc m (.sl b ot n (.un u d s)) = some x) : ∃ p c, m.blk[b]? = some p ∧ m.caps[u]? = some c ∧ d ≤ c ∧ n ≤ c - d ∧ ot + (c - d) * s ≤ p.2 ∧ x = .slice (some ⟨p.1, ot, none⟩) n (c - d) := by
  simp only [conc, Option.bind_eq_some_iff] at e
  obtain ⟨p, hp, c, hc, e⟩ := e
  split at e <;> simp at e
  rename_i hcond
  exact ⟨p, c, hp, hc, hcond.1, hcond.2.1, hcond.2.2, e.symm⟩
theorem conc_un {b ot n u d s : Nat} {p : Nat × Nat} {c : Nat} (hp : m.blk[b]? = some p) (hc : m.caps[u]? = some c) (h1 : d ≤ c) (h2 : n ≤ c - d) (h3 : ot + (c - d) * s ≤ p.2) :
    conc m (.sl b ot n (.un u d s)) = some (.slice (some ⟨p.1, ot, none⟩) n (c - d)) := by
  simp only [conc, Option.bind_eq_some_iff]
  exact ⟨p, hp, c, hc, by rw [if_pos ⟨h1, h2, h3⟩]⟩
theorem ex_conc {b ot n c : Nat} {x : Value} (e : conc m (.sl b ot n (.ex c)) = some x) : ∃ p, m.blk[b]? = some p ∧ n ≤ c ∧ x = .slice (some ⟨p.1, ot, none⟩) n c := by
  simp only [conc, Option.bind_eq_some_iff] at e
  obtain ⟨p, hp, e⟩ := e
  split at e <;> simp at e
  exact ⟨p, hp, ‹_›, e.symm⟩
theorem conc_ex {b ot n c : Nat} {p : Nat × Nat} (hp : m.blk[b]? = some p) (h1 : n ≤ c) : conc m (.sl b ot n (.ex c)) = some (.slice (some ⟨p.1, ot, none⟩) n c) := by
  simp only [conc, Option.bind_eq_some_iff]
  exact ⟨p, hp, by rw [if_pos h1]⟩
theorem slice_run {t e : TypeId} {A : Option Addr} {len cap p q r sz : Nat} {lo hi mx : Option Value} (hu : P.underlying t = some (.slice e)) (hs : sizeT P e = some sz)
    (hb : (Instr.sliceBounds true len cap lo hi mx).run P w = .ok (p, q, r) w) :
    (Instr.sliceAt t (.slice A len cap) lo hi mx).run P w = .ok (.slice (if r = p then A else A.map (·.add (p * sz))) (q - p) (r - p)) w := by
  simp only [Instr.sliceAt, Instr.slice, Sem.run_bind, run_underlying hu, Result.andThen_ok, hb, run_size hs, Sem.run_pure]
theorem q_slice {t : TypeId} {x : Operand} {lo hi mx : Option Operand} (ho : o.op = .slice t x lo hi mx) (e : oSlice t x lo hi mx P call tm h = .ok v h') (ht : TmR m tm a) : Qt P m o a w h h' v := by
  simp only [oSlice, some_ok] at e
  obtain ⟨u, hu, e⟩ := e
  have c := look_conc ht hu
  have fin : ∀ {z : Value}, (Instr.sliceAt t (a.eval x) (lo.map a.eval) (hi.map a.eval) (mx.map a.eval)).run P w = .ok z w → Yl P o a w z := by
    intro z hz
    simp only [Yl, execOp, ho, Sem.run_bind, hz, Result.andThen_ok, Sem.run_pure]
  unfold sliceV at e
  split at e
  · -- a string
    rename_i s
    simp only [some_ok, force_eq, takeN_eq, dropN_eq, lenN_eq] at e
    obtain ⟨d, hd, e⟩ := e
    cases d <;> simp only [some_ok, okIf_ok, Bool.and_eq_true] at e <;> try (cases e; done)
    obtain ⟨q, hq, p, hp, ⟨⟨hmx, h1⟩, h2⟩, e⟩ := e
    injection e with e1 e2
    subst e1 e2
    have h1 : p ≤ q := Nat.le_of_ble_eq_true h1
    have h2 : q ≤ s.length := Nat.le_of_ble_eq_true h2
    obtain rfl : mx = none := by cases mx <;> simp at hmx ⊢
    simp only [conc, Option.ite_none_right_eq_some, Option.some.injEq] at c
    obtain ⟨hs, c⟩ := c
    have hsm : small ((s.drop p).take (q - p)) = true := small_iff.2 fun c hc => small_iff.1 hs c (List.mem_of_mem_drop (List.mem_of_mem_take hc))
    refine ⟨rfl, .string (bytesA ((s.drop p).take (q - p))), by simp only [conc, Nat.sub_eq, hsm, if_true], fin ?_⟩
    have hb := bounds_run (P := P) (w := w) (isS := false) (cap := s.length) (r := s.length) ht hp hq (.inl ⟨rfl, rfl⟩) h1 h2 (Nat.le_refl _) (by simp)
    have hsz := bytesA_size s
    have hx : (bytesA s).extract p q = bytesA ((s.drop p).take (q - p)) := by
      apply ByteArray.ext
      simp [bytesA, List.extract_eq_take_drop, List.map_drop]
    rw [← c]
    simp only [Option.map_none] at hb ⊢
    simp [Instr.sliceAt, Instr.slice, run_underlying hd, hsz, hb, hx]
  · -- a slice
    rename_i b ot n cp
    simp only [some_ok, force_eq] at e
    obtain ⟨el, hel, sz, hsz, q, hq, p, hp, e⟩ := e
    have hsl := elemT_u hel
    split at e
    · rename_i mo
      simp only [some_ok, okIf_ok, Bool.and_eq_true, Nat.sub_eq, Nat.add_eq, Nat.mul_eq] at e
      obtain ⟨r, hr, ⟨⟨⟨h0, h1⟩, h2⟩, h3⟩, e⟩ := e
      have h1 : p ≤ q := Nat.le_of_ble_eq_true h1
      have h2 : q ≤ r := Nat.le_of_ble_eq_true h2
      have h3 : r ≤ n := Nat.le_of_ble_eq_true h3
      obtain ⟨pp, c', hpp, hnc, hx⟩ := sl_open c
      simp only [Option.bind_eq_some_iff] at hr
      obtain ⟨mu, hmu, hmn⟩ := hr
      obtain ⟨k, rfl⟩ := natOf_int hmn
      have hmc := look_conc ht hmu
      simp only [conc, Option.some.injEq] at hmc
      have hb := bounds_run (P := P) (w := w) (isS := true) (cap := c') (r := r) (mx := some mo) ht hp hq (.inr ⟨mo, k, rfl, hmc.symm⟩) h1 h2 (by omega) (by intro _ hh; subst hh; simp at h0)
      have hrun := slice_run (A := some ⟨pp.1, ot, none⟩) hsl hsz hb
      rw [← hx] at hrun
      by_cases hrp : r = p
      · subst hrp
        rw [Nat.beq_refl, sel_true] at e
        injection e with e1 e2
        subst e1 e2
        refine ⟨rfl, _, conc_ex hpp (by omega), fin ?_⟩
        rw [hrun, if_pos rfl]
      · rw [show Nat.beq r p = false from Bool.eq_false_iff.2 fun e => hrp (Nat.eq_of_beq_eq_true e), sel_false] at e
        injection e with e1 e2
        subst e1 e2
        refine ⟨rfl, _, conc_ex hpp (by omega), fin ?_⟩
        rw [hrun, if_neg hrp, Option.map_some, add_plain]
    · simp only [okIf_ok, Bool.and_eq_true] at e
      obtain ⟨⟨h1, h2⟩, e⟩ := e
      have h1 : p ≤ q := Nat.le_of_ble_eq_true h1
      have h2 : q ≤ n := Nat.le_of_ble_eq_true h2
      cases cp with
      | ex cap =>
        obtain ⟨pp, hpp, hnc, hx⟩ := ex_conc c
        have hb := bounds_run (P := P) (w := w) (isS := true) (cap := cap) (r := cap) (mx := none) ht hp hq (.inl ⟨rfl, rfl⟩) h1 (by omega) (Nat.le_refl _) (by simp)
        have hrun := slice_run (A := some ⟨pp.1, ot, none⟩) hsl hsz hb
        rw [← hx] at hrun
        simp only [Nat.sub_eq, Nat.add_eq, Nat.mul_eq] at e
        by_cases hrp : cap = p
        · subst hrp
          rw [Nat.sub_self, Nat.beq_refl, sel_true] at e
          injection e with e1 e2
          subst e1 e2
          refine ⟨rfl, _, conc_ex hpp (by omega), fin ?_⟩
          rw [hrun, if_pos rfl, Nat.sub_self]
        · rw [show Nat.beq (cap - p) 0 = false from Bool.eq_false_iff.2 fun e => by have := Nat.eq_of_beq_eq_true e; omega, sel_false] at e
          injection e with e1 e2
          subst e1 e2
          refine ⟨rfl, _, conc_ex hpp (by omega), fin ?_⟩
          rw [hrun, if_neg hrp, Option.map_some, add_plain]
      | un u d s =>
        obtain ⟨pp, cc, hpp, hcc, hd, hnc, hroom, hx⟩ := un_conc c
        have hb := bounds_run (P := P) (w := w) (isS := true) (cap := cc - d) (r := cc - d) (mx := none) ht hp hq (.inl ⟨rfl, rfl⟩) h1 (by omega) (Nat.le_refl _) (by simp)
        have hrun := slice_run (A := some ⟨pp.1, ot, none⟩) hsl hsz hb
        rw [← hx] at hrun
        simp only [Nat.sub_eq, Nat.add_eq, Nat.mul_eq] at e
        by_cases hpn : p = n
        · subst hpn
          obtain rfl : q = p := by omega
          rw [Nat.beq_refl, sel_true] at e
          by_cases hp0 : q = 0
          · subst hp0
            rw [Nat.beq_refl, sel_true] at e
            injection e with e1 e2
            subst e1 e2
            refine ⟨rfl, _, conc_un hpp hcc hd (by omega) hroom, fin ?_⟩
            rw [hrun]
            simp [add_plain]
          · rw [show Nat.beq q 0 = false from Bool.eq_false_iff.2 fun e => hp0 (Nat.eq_of_beq_eq_true e), sel_false] at e
            simp only [okIf_ok] at e
            obtain ⟨_, e⟩ := e
            injection e with e1 e2
            subst e1 e2
            refine ⟨rfl, .slice (some ⟨pp.1, if cc - (d + q) = 0 then ot else ot + q * sz, none⟩) 0 (cc - (d + q)), ?_, fin ?_⟩
            · simp only [conc, Option.bind_eq_some_iff]
              exact ⟨pp, hpp, cc, hcc, by rw [if_pos (by omega)]⟩
            · rw [hrun]
              have e1 : cc - d - q = cc - (d + q) := by omega
              rw [Nat.sub_self, e1]
              by_cases hz : cc - d = q
              · rw [if_pos hz, if_pos (by omega)]
              · rw [if_neg hz, if_neg (by omega), Option.map_some, add_plain]
        · rw [show Nat.beq p n = false from Bool.eq_false_iff.2 fun e => hpn (Nat.eq_of_beq_eq_true e), sel_false] at e
          simp only [okIf_ok] at e
          obtain ⟨hss, e⟩ := e
          obtain rfl : s = sz := Nat.eq_of_beq_eq_true hss
          injection e with e1 e2
          subst e1 e2
          have e1 : cc - d - p = cc - (d + p) := by omega
          have hroom' : ot + p * s + (cc - (d + p)) * s ≤ pp.2 := by
            have : (cc - d) * s = p * s + (cc - (d + p)) * s := by rw [← Nat.add_mul]; congr 1; omega
            omega
          refine ⟨rfl, _, conc_un hpp hcc (by omega) (by omega) hroom', fin ?_⟩
          rw [hrun, if_neg (by omega), Option.map_some, add_plain, e1]
  · simp only [some_ok, okIf_ok, Bool.and_eq_true] at e
    obtain ⟨el, hel, sz, hsz, q, hq, p, hp, ⟨⟨hmx, h1⟩, h2⟩, e⟩ := e
    injection e with e1 e2
    subst e1 e2
    obtain rfl : p = 0 := Nat.eq_of_beq_eq_true h1
    obtain rfl : q = 0 := Nat.eq_of_beq_eq_true h2
    obtain rfl : mx = none := by cases mx <;> simp at hmx ⊢
    have hb := bounds_run (P := P) (w := w) (isS := true) (len := 0) (cap := 0) (r := 0) (mx := none) ht hp hq (.inl ⟨rfl, rfl⟩) (Nat.le_refl _) (Nat.le_refl _) (Nat.le_refl _) (by simp)
    have hrun := slice_run (A := none) (elemT_u hel) hsz hb
    simp only [conc, Option.some.injEq] at c
    rw [← c] at fin
    refine ⟨rfl, .slice none 0 0, rfl, fin ?_⟩
    rw [hrun]
    simp
  · rename_i b ot
    simp only [some_ok] at e
    obtain ⟨d, hd, e⟩ := e
    cases d <;> simp only [some_ok, okIf_ok, force_eq, Bool.and_eq_true, Nat.sub_eq, Nat.add_eq, Nat.mul_eq] at e <;> try (cases e; done)
    rename_i n el
    obtain ⟨sz, hsz, q, hq, p, hp, ⟨⟨⟨hmx, h1⟩, h2⟩, h3⟩, e⟩ := e
    injection e with e1 e2
    subst e1 e2
    have h1 : p ≤ q := Nat.le_of_ble_eq_true h1
    have h2 : q ≤ n := Nat.le_of_ble_eq_true h2
    have h3 : p < n := by simpa using h3
    obtain rfl : mx = none := by cases mx <;> simp at hmx ⊢
    have hb := bounds_run (P := P) (w := w) (isS := false) (len := n) (cap := n) (r := n) (mx := none) ht hp hq (.inl ⟨rfl, rfl⟩) h1 h2 (Nat.le_refl _) (by simp)
    simp only [conc, Option.map_eq_some_iff] at c
    obtain ⟨pp, hpp, hx⟩ := c
    refine ⟨rfl, _, conc_ex hpp (by omega), fin ?_⟩
    rw [← hx]
    have hne : ¬ n = p := by omega
    simp only [Option.map_none] at hb ⊢
    simp [Instr.sliceAt, run_underlying hd, Instr.sureAddr, hb, run_size hsz, hne, add_plain]
  · cases e
end
end Go.Ev
namespace Go.Ev
open Go Go.MapKept
variable [G : Given]

section
variable {P : Program} {m : M} {h h' : H} {w : World} {tm : TM} {a : Act} {o : Oper} {v : V} {call : Call0}

theorem foldl_put (cells : Array Value) (off : Nat) : ∀ (l : List Value) (k : Nat) (cs : Array Value), off + k + l.length ≤ cs.size →
    (l.zipIdx k).foldl (fun cs (x : Value × Nat) => cs.setIfInBounds (off + x.2) x.1) cs = (cs.toList.take (off + k) ++ (l ++ cs.toList.drop (off + k + l.length))).toArray
  | [], k, cs, _ => by simp
  | c :: l, k, cs, hl => by
    simp only [List.zipIdx_cons, List.foldl_cons]
    simp only [List.length_cons] at hl
    rw [foldl_put cells off l (k + 1) _ (by simp; omega)]
    obtain ⟨cs⟩ := cs
    simp only [List.length_cons]
    have h1 : off + k < cs.length := by simp at hl; omega
    congr 1
    simp only [List.setIfInBounds_toArray]
    have e1 : (cs.set (off + k) c).take (off + (k + 1)) = cs.take (off + k) ++ [c] := by
      rw [show off + (k + 1) = (off + k) + 1 by omega, List.take_set, List.take_succ_eq_append_getElem h1, List.set_append_right _ _ (by simp; omega)]
      simp [List.length_take, Nat.min_eq_left (Nat.le_of_lt h1)]
    have e2 : (cs.set (off + k) c).drop (off + (k + 1) + l.length) = cs.drop (off + k + (l.length + 1)) := by
      rw [List.drop_set_of_lt (by omega)]
      congr 1
      omega
    rw [e1, e2]
    simp
/-- Parts laid in: the evaluator's and the model's. -/
theorem fill_run (ht : TmR m tm a) {place : Nat → Option (Nat × Nat)} : ∀ (ps : List (Nat × Operand)) (cs out : List V) (c : List Value), fillV place tm ps cs = some out → concL m cs = some c →
    ∃ c', concL m out = some c' ∧ Instr.fill place c.toArray (ps.map fun q => (q.1, a.eval q.2)) = some c'.toArray
  | [], cs, out, c, e, hc => by
    obtain rfl := Option.some.inj (show some cs = some out from e)
    exact ⟨c, hc, rfl⟩
  | q :: ps, cs, out, c, e, hc => by
    have e' : ((look tm q.2).bind fun v => (place q.1).bind fun r => sel (Nat.beq (lenN v.cells) r.2 && Nat.ble (Nat.add r.1 r.2) (lenN cs)) (fillV place tm ps (putN cs r.1 v.cells)) none) = some out := e
    simp only [Option.bind_eq_some_iff, lenN_eq] at e'
    obtain ⟨v, hv, r, hr, e'⟩ := e'
    rw [sel_ite] at e'
    split at e' <;> try (cases e'; done)
    rename_i hcond
    simp only [Bool.and_eq_true] at hcond
    have h1 : v.cells.length = r.2 := Nat.eq_of_beq_eq_true hcond.1
    have h2 : r.1 + r.2 ≤ cs.length := Nat.le_of_ble_eq_true hcond.2
    have hx := look_conc ht hv
    have hcell := cellsV hx
    have hl1 : (a.eval q.2).cells.toList.length = r.2 := by rw [concL_length hcell, h1]
    have hl2 := concL_length hc
    rw [putN_eq _ _ _ (by omega)] at e'
    have hnew : concL m (cs.take r.1 ++ (v.cells ++ cs.drop (r.1 + v.cells.length))) = some (c.take r.1 ++ ((a.eval q.2).cells.toList ++ c.drop (r.1 + v.cells.length))) :=
      concL_append.2 ⟨_, _, concL_take hc _, concL_append.2 ⟨_, _, hcell, concL_drop hc _, rfl⟩, rfl⟩
    obtain ⟨c', hc', hfill⟩ := fill_run ht ps _ _ _ e' hnew
    refine ⟨c', hc', ?_⟩
    simp only [List.map_cons, Instr.fill, hr]
    have hsz : (a.eval q.2).cells.size = r.2 := by simpa using hl1
    rw [if_neg (by simp [hsz]; omega)]
    have := foldl_put (a.eval q.2).cells r.1 (a.eval q.2).cells.toList 0 c.toArray (by simp; omega)
    rw [← hfill]
    congr 1
    have e1 : (a.eval q.2).cells.zipIdx = ((a.eval q.2).cells.toList.zipIdx).toArray := by
      apply Array.ext'; simp
    rw [e1, List.foldl_toArray]
    rw [this]
    simp [hl1, h1]
theorem placesT_eq : ∀ {fs : List Field} {pl : List (Nat × Nat)}, placesT P fs = some pl → fs.mapM (fun f => (P.info? f.type).map fun i => (f.offset, i.size)) = some pl
  | [], pl, e => by
    obtain rfl := Option.some.inj (show some [] = some pl from e)
    rfl
  | f :: fs, pl, e => by
    have e' : ((sizeT P f.type).bind fun n => (placesT P fs).map ((f.offset, n) :: ·)) = some pl := e
    simp only [sizeT, Option.bind_eq_some_iff, Option.map_eq_some_iff] at e'
    obtain ⟨n, ⟨i, hi, rfl⟩, pl', hpl, rfl⟩ := e'
    simp [List.mapM_cons, hi, placesT_eq hpl]
theorem q_build {t : TypeId} {ps : Array (Nat × Operand)} (ho : o.op = .build t ps) (e : oBuild t ps P call tm h = .ok v h') (ht : TmR m tm a) : Qt P m o a w h h' v := by
  simp only [oBuild, buildV, some_ok] at e
  obtain ⟨z, hz, d, hd, e⟩ := e
  have hz0 := hz
  simp only [zeroT, Option.bind_eq_some_iff] at hz
  obtain ⟨i, hi, zv, hzv, hz⟩ := hz
  have hzc := cellsV (absV_conc m _ _ hz)
  have fin : ∀ {c : List Value}, P.built t (ps.toList.map fun q => (q.1, a.eval q.2)) = some c.toArray → Yl P o a w (.agg c.toArray) := by
    intro c hc
    have := run_build (P := P) w t (ps.map fun q => (q.1, a.eval q.2)) c.toArray (by simpa using hc)
    simp only [Yl, execOp, ho, Sem.run_bind, this, Result.andThen_ok, Sem.run_pure]
  have zarr : zv.cells.toList.toArray = zv.cells := by simp
  cases d <;> simp only [some_ok] at e <;> try (cases e; done)
  case struct fs =>
    obtain ⟨pl, hpl, cs, hcs, e⟩ := e
    injection e with e1 e2
    subst e1 e2
    obtain ⟨c', hc', hfill⟩ := fill_run ht ps.toList _ _ _ hcs hzc
    refine ⟨rfl, .agg c'.toArray, by simp [conc, hc'], fin ?_⟩
    rw [zarr] at hfill
    simp only [nthN_eq] at hfill
    simp only [Program.built, hi, hd, hzv, placesT_eq hpl, List.getElem?_toArray]
    exact hfill
  case array n el =>
    obtain ⟨sz, hsz, cs, hcs, e⟩ := e
    injection e with e1 e2
    subst e1 e2
    obtain ⟨c', hc', hfill⟩ := fill_run ht ps.toList _ _ _ hcs hzc
    refine ⟨rfl, .agg c'.toArray, by simp [conc, hc'], fin ?_⟩
    rw [zarr] at hfill
    simp only [sizeT, Option.map_eq_some_iff] at hsz
    obtain ⟨ie, hie, rfl⟩ := hsz
    simp only [Program.built, hi, hd, hzv, hie]
    exact hfill
theorem concE_cons {e : V × V × Nat} {l : List (V × V × Nat)} {x : List MapEntry} : concE m (e :: l) = some x ↔ ∃ k u l', conc m e.1 = some k ∧ conc m e.2.1 = some u ∧ concE m l = some l' ∧ x = { key := k, val := u, born := e.2.2 } :: l' := by
  simp only [concE, entryC, Option.bind_eq_some_iff, Option.map_eq_some_iff]
  constructor
  · rintro ⟨y, ⟨k, hk, u, hu, rfl⟩, l', hl, rfl⟩; exact ⟨k, u, l', hk, hu, hl, rfl⟩
  · rintro ⟨k, u, l', hk, hu, hl, rfl⟩; exact ⟨_, ⟨k, hk, u, hu, rfl⟩, l', hl, rfl⟩
theorem concE_length {l : List (V × V × Nat)} {x : List MapEntry} (h : concE m l = some x) : x.length = l.length := by
  induction l generalizing x with
  | nil => simp [concE] at h; subst h; rfl
  | cons v l ih =>
    obtain ⟨_, _, l', _, _, hl, rfl⟩ := concE_cons.1 h
    simp [ih hl]
theorem mapT_u {t : TypeId} {d : TypeDesc × TypeId} (e : mapT P t = some d) : ∃ k, P.underlying t = some (.map k d.2) ∧ P.underlying k = some d.1 := by
  simp only [mapT, Option.bind_eq_some_iff] at e
  obtain ⟨x, hx, e⟩ := e
  cases x <;> simp only [Option.map_eq_some_iff] at e <;> try (cases e; done)
  obtain ⟨y, hy, rfl⟩ := e
  exact ⟨_, hx, hy⟩
/-- A key of its kind: what it is. -/
theorem key_is {d : TypeDesc} {k : V} {x : Value} (e : isKeyV d k = true) (hc : conc m k = some x) : IsKey d x := by
  unfold isKeyV at e
  split at e
  · simp only [conc, Option.some.injEq] at hc; subst hc; trivial
  · simp only [conc, Option.some.injEq] at hc; subst hc; simpa [IsKey] using e
  · simp only [conc, Option.ite_none_right_eq_some, Option.some.injEq] at hc; obtain ⟨_, rfl⟩ := hc; trivial
  · cases e
theorem sameNow_run {d : TypeDesc} {k u : V} {x y : Value} {b : Bool} (hk : isKeyV d k = true) (e : eqNow k u = some b) (hx : conc m k = some x) (hy : conc m u = some y) : Instr.sameNow d x y = some b := by
  unfold eqNow at e
  split at e
  · simp only [conc, Option.some.injEq] at hx hy e; subst hx hy e
    unfold isKeyV at hk
    split at hk <;> simp_all [Instr.sameNow]
  · rw [sel_ite] at e
    split at e <;> try (cases e; done)
    rename_i hkk
    have hkk := of_decide_eq_true hkk
    simp only [conc, Option.some.injEq] at hx hy e; subst hx hy e hkk
    rw [eqI_eq]
    unfold isKeyV at hk
    split at hk <;> simp_all [Instr.sameNow]
    rfl
  · simp only [Option.some.injEq] at e
    subst e
    simp only [conc, Option.ite_none_right_eq_some, Option.some.injEq] at hx hy
    obtain ⟨h1, rfl⟩ := hx
    obtain ⟨h2, rfl⟩ := hy
    rw [beq_bytes h1 h2]
    unfold isKeyV at hk
    split at hk <;> simp_all [Instr.sameNow]
  · cases e
theorem findV_run {d : TypeDesc} {k : V} {x : Value} (hk : isKeyV d k = true) (hx : conc m k = some x) : ∀ (es : List (V × V × Nat)) (l : List MapEntry) (i : Nat) (r : Option (Nat × V × Nat)), findV k es i = some r → concE m es = some l →
    (r = none ∧ Instr.findNow d x l i = some none) ∨
    ∃ j u n, r = some (j, u, n) ∧ i ≤ j ∧ (∃ kk, es[j - i]? = some (kk, u, n) ∧ eqNow k kk = some true) ∧ ∃ y, conc m u = some y ∧ Instr.findNow d x l i = some (some (j, y))
  | [], l, i, r, e, hl => by
    obtain rfl := Option.some.inj (show some none = some r from e)
    simp [concE] at hl
    subst hl
    exact .inl ⟨rfl, rfl⟩
  | q :: es, l, i, r, e, hl => by
    have e' : ((eqNow k q.1).bind fun b => sel b (some (some (i, q.2))) (findV k es (i + 1))) = some r := e
    simp only [Option.bind_eq_some_iff] at e'
    obtain ⟨b, hb, e'⟩ := e'
    obtain ⟨kx, ux, l', hkx, hux, hl', rfl⟩ := concE_cons.1 hl
    have hs := sameNow_run hk hb hx hkx
    cases b
    · rw [sel_false] at e'
      have ih := findV_run hk hx es l' (i + 1) r e' hl'
      simp only [Instr.findNow, hs]
      rcases ih with ih | ⟨j, u, n, rfl, hij, ⟨kk, hkk, hkk2⟩, y, hy, hf⟩
      · exact .inl ih
      · refine .inr ⟨j, u, n, rfl, by omega, ⟨kk, ?_, hkk2⟩, y, hy, hf⟩
        rw [show j - i = (j - (i + 1)) + 1 by omega, List.getElem?_cons_succ]
        exact hkk
    · rw [sel_true] at e'
      obtain rfl := Option.some.inj e'
      exact .inr ⟨i, q.2.1, q.2.2, rfl, Nat.le_refl _, ⟨q.1, by simp, hb⟩, ux, hux, by simp [Instr.findNow, hs]⟩
theorem key_run {d : TypeDesc} {kt : TypeId} {k : V} {x : Value} (hd : P.underlying kt = some d) (hk : isKeyV d k = true) (hx : conc m k = some x) (b : Bool) : (Instr.checkKey b 10000 kt x).run P w = .ok () w :=
  run_checkKey hd (key_is hk hx) b 9999
theorem q_lookup {t : TypeId} {x k : Operand} {ok : Bool} (ho : o.op = .lookup t x k ok) (e : oLookup t x k ok P call tm h = .ok v h') (hr : Rel m h w) (ht : TmR m tm a) : Qt P m o a w h h' v := by
  simp only [oLookup, lookupV, some_ok, okIf_ok] at e
  obtain ⟨xv, hxv, kv, hkv, d, hd, hkey, e⟩ := e
  have cx := look_conc ht hxv
  have ck := look_conc ht hkv
  obtain ⟨kt, hu, hku⟩ := mapT_u hd
  have hck := fun b => key_run (w := w) hku hkey ck b
  have fin : ∀ (es : List MapEntry) (r : Option V) (rr : Option (Nat × Value)), foundV P d.2 ok h r = .ok v h' → Instr.findNow d.1 (a.eval k) es 0 = some rr → (∀ u, r = some u → ∃ i y, rr = some (i, y) ∧ conc m u = some y) → (r = none → rr = none) →
      (a.eval x = .map none ∧ es = []) ∨ (∃ g c, a.eval x = .map (some g) ∧ w.heap[g]? = some (.map es.toArray c)) → Qt P m o a w h h' v := by
    intro es r rr e hfind hsome hnone hmem
    have hfk : (Instr.findKey kt (a.eval k) es).run P w = .ok rr w := run_findKey hku hfind
    have allS : ∀ i y, rr = some (i, y) → Yl P o a w (if ok then .tuple #[y, .bool true] else y) := by
      rintro i y rfl
      clear e hsome hnone
      rcases hmem with ⟨hxe, rfl⟩ | ⟨g, c, hxe, hg⟩
      · simp [Yl, execOp, ho, hxe, Instr.lookup, run_underlying hu, hck, hfk]
      · simp [Yl, execOp, ho, hxe, Instr.lookup, run_underlying hu, hck, hfk, getObj, Sem.run, hg]
    have allN : ∀ y, rr = none → (zeroValue d.2).run P w = .ok y w → Yl P o a w (if ok then .tuple #[y, .bool false] else y) := by
      rintro y rfl hz
      clear e hsome hnone
      rcases hmem with ⟨hxe, rfl⟩ | ⟨g, c, hxe, hg⟩
      · simp [Yl, execOp, ho, hxe, Instr.lookup, run_underlying hu, hck, hfk, hz]
      · simp [Yl, execOp, ho, hxe, Instr.lookup, run_underlying hu, hck, hfk, getObj, Sem.run, hg, hz]
    cases r with
    | some u =>
      obtain ⟨i, y, rfl, hy⟩ := hsome u rfl
      cases ok
      · injection (show RV.ok u h = .ok v h' from e) with e1 e2
        subst e1 e2
        exact ⟨rfl, y, hy, allS i y rfl⟩
      · injection (show RV.ok (.tup [u, .bool true]) h = .ok v h' from e) with e1 e2
        subst e1 e2
        exact ⟨rfl, .tuple #[y, .bool true], by simp [conc, concL, hy], allS i y rfl⟩
    | none =>
      obtain rfl := hnone rfl
      have e' : some? (zeroT P d.2) (fun z => sel ok (.ok (.tup [z, .bool false]) h) (.ok z h)) = .ok v h' := e
      simp only [some_ok] at e'
      obtain ⟨z, hz, e'⟩ := e'
      obtain ⟨y, hy, hzr⟩ := run_zero hz m w
      cases ok
      · injection (show RV.ok z h = .ok v h' from e') with e1 e2
        subst e1 e2
        exact ⟨rfl, y, hy, allN y rfl hzr⟩
      · injection (show RV.ok (.tup [z, .bool false]) h = .ok v h' from e') with e1 e2
        subst e1 e2
        exact ⟨rfl, .tuple #[y, .bool false], by simp [conc, concL, hy], allN y rfl hzr⟩
  split at e
  · simp only [conc, Option.some.injEq] at cx
    exact fin [] none none e rfl (fun u hu => by cases hu) (fun _ => rfl) (.inl ⟨cx.symm, rfl⟩)
  · rename_i b
    simp only [some_ok] at e
    obtain ⟨ob, hob, e⟩ := e
    simp only [conc, Option.map_eq_some_iff] at cx
    obtain ⟨p, hp, cx⟩ := cx
    have hobj := hr.at hob hp
    cases ob <;> simp only [some_ok] at e <;> try (cases e; done)
    rename_i es c
    obtain ⟨l, hl, hw⟩ := hobj
    obtain ⟨r, hr', e⟩ := e
    rcases findV_run hkey ck es l 0 r hr' hl with ⟨rfl, hf⟩ | ⟨j, u, n, rfl, _, _, y, hy, hf⟩
    · exact fin l none none e hf (fun u hu => by cases hu) (fun _ => rfl) (.inr ⟨p.1, c, cx.symm, hw⟩)
    · exact fin l (some u) (some (j, y)) e hf (fun u' hu' => by obtain rfl := Option.some.inj hu'; exact ⟨j, y, rfl, hy⟩) (fun hn => by cases hn) (.inr ⟨p.1, c, cx.symm, hw⟩)
  · cases e
end
end Go.Ev
namespace Go.Ev
open Go
variable [G : Given]

section
variable {P : Program} {m : M} {h h' : H} {w : World} {tm : TM} {a : Act} {o : Oper} {v : V} {call : Call0}

theorem outN_ok {n : Nat} (e : outN n h = .ok v h') : v = .int .i64 (n : Int) ∧ h' = h := by
  rw [outN, force_eq] at e
  injection e with e1 e2
  exact ⟨e1.symm, e2.symm⟩
theorem lenV_run {t ty : TypeId} {x : V} {xv : Value} {ts : Array TypeId} {as : Array Value} (h0 : ts[0]? = some t) (h1 : as[0]? = some xv) (e : lenV P t x h = .ok v h') (hr : Rel m h w) (hx : conc m x = some xv) :
    h' = h ∧ ∃ z, conc m v = some z ∧ (Builtin.len_ ts ty as).run P w = .ok z w := by
  simp only [lenV, some_ok] at e
  obtain ⟨d, hd, e⟩ := e
  have fin : ∀ n : Nat, outN n h = .ok v h' → (Builtin.len_ ts ty as).run P w = .ok (goInt n) w → h' = h ∧ ∃ z, conc m v = some z ∧ (Builtin.len_ ts ty as).run P w = .ok z w := by
    intro n e hrun
    obtain ⟨rfl, rfl⟩ := outN_ok e
    exact ⟨rfl, _, rfl, hrun⟩
  cases d <;> simp only [] at e <;> try (cases e; done)
  case string =>
    cases x <;> simp only [lenN_eq] at e <;> try (cases e; done)
    simp only [conc, Option.ite_none_right_eq_some, Option.some.injEq] at hx
    obtain ⟨_, rfl⟩ := hx
    exact fin _ e (by simp [Builtin.len_, h0, h1, run_underlying hd, bytesA_size])
  case slice el =>
    cases x <;> simp only [] at e <;> try (cases e; done)
    · obtain ⟨p, c', _, _, rfl⟩ := sl_open hx
      exact fin _ e (by simp [Builtin.len_, h0, h1, run_underlying hd])
    · simp only [conc, Option.some.injEq] at hx
      subst hx
      exact fin _ e (by simp [Builtin.len_, h0, h1, run_underlying hd])
    · obtain ⟨A, c', rfl⟩ := sun_open hx
      exact fin _ e (by simp [Builtin.len_, h0, h1, run_underlying hd])
  case map k el =>
    cases x <;> simp only [some_ok] at e <;> try (cases e; done)
    · obtain ⟨ob, hob, e⟩ := e
      simp only [conc, Option.map_eq_some_iff] at hx
      obtain ⟨p, hp, rfl⟩ := hx
      have hobj := hr.at hob hp
      cases ob <;> simp only [lenN_eq] at e <;> try (cases e; done)
      obtain ⟨l, hl, hw⟩ := hobj
      exact fin _ e (by simp [Builtin.len_, h0, h1, run_underlying hd, getObj, Sem.run, hw, concE_length hl])
    · simp only [conc, Option.some.injEq] at hx
      subst hx
      exact fin _ e (by simp [Builtin.len_, h0, h1, run_underlying hd])
  case chan dr el =>
    cases x <;> simp only [some_ok] at e <;> try (cases e; done)
    · obtain ⟨ob, hob, e⟩ := e
      simp only [conc, Option.map_eq_some_iff] at hx
      obtain ⟨p, hp, rfl⟩ := hx
      have hobj := hr.at hob hp
      cases ob <;> simp only [lenN_eq] at e <;> try (cases e; done)
      obtain ⟨l, s, r, hl, hw⟩ := hobj
      exact fin _ e (by simp [Builtin.len_, h0, h1, run_underlying hd, getObj, Sem.run, hw, concL_length hl])
    · simp only [conc, Option.some.injEq] at hx
      subst hx
      exact fin _ e (by simp [Builtin.len_, h0, h1, run_underlying hd])
theorem capV_run {ts : List TypeId} {ty : TypeId} {x : V} {xv : Value} {as : Array Value} (h1 : as[0]? = some xv) (e : capV P ts x h = .ok v h') (hx : conc m x = some xv) :
    h' = h ∧ ∃ z, conc m v = some z ∧ (Builtin.cap_ ts.toArray ty as).run P w = .ok z w := by
  cases ts with
  | nil => cases e
  | cons t ts =>
    simp only [capV, some_ok] at e
    obtain ⟨el, hel, e⟩ := e
    have hd := elemT_u hel
    split at e
    · injection e with e1 e2
      subst e1 e2
      simp only [conc, Option.some.injEq] at hx
      subst hx
      exact ⟨rfl, _, rfl, by simp [Builtin.cap_, h1, run_underlying hd]; rfl⟩
    · injection e with e1 e2
      subst e1 e2
      obtain ⟨p, hp, _, rfl⟩ := ex_conc hx
      exact ⟨rfl, _, rfl, by simp [Builtin.cap_, h1, run_underlying hd]; rfl⟩
    · cases e
theorem minV_run {b : Bool} {l : List V} {ls : List Value} (e : minV b l h = .ok v h') (hl : concL m l = some ls) (ts : Array TypeId) (ty : TypeId) :
    h' = h ∧ ∃ z, conc m v = some z ∧ (if b then (Builtin.max_ ts ty ls.toArray).run P w = .ok z w else (Builtin.min_ ts ty ls.toArray).run P w = .ok z w) := by
  unfold minV at e
  split at e
  · rename_i k x l
    obtain ⟨y, l', hy, hl', rfl⟩ := concL_cons.1 hl
    simp only [conc, Option.some.injEq] at hy
    subst hy
    have key : ∀ (l : List V) (l' : List Value) (x : Int), concL m l = some l' → (List.rec (motive := fun _ => Int → RV) (fun x => RV.ok (.int k x) h) (fun v _ ih x => match v with
        | .int _ y => sel (sel b (ltI x y) (ltI y x)) (ih y) (ih x)
        | _ => .fail) l) x = .ok v h' → h' = h ∧ ∃ z, conc m v = some z ∧ (if b then (l'.foldlM Builtin.max2 (.int k x)).run P w = .ok z w else (l'.foldlM Builtin.min2 (.int k x)).run P w = .ok z w) := by
      intro l
      induction l with
      | nil =>
        intro l' x hl e
        simp [concL] at hl
        subst hl
        injection (show RV.ok (.int k x) h = .ok v h' from e) with e1 e2
        subst e1 e2
        exact ⟨rfl, _, rfl, by cases b <;> rfl⟩
      | cons u l ih =>
        intro l' x hl e
        obtain ⟨y, l'', hy, hl'', rfl⟩ := concL_cons.1 hl
        cases u <;> try (cases e; done)
        rename_i k2 n2
        simp only [conc, Option.some.injEq] at hy
        subst hy
        have e' : sel (sel b (ltI x n2) (ltI n2 x)) ((List.rec (motive := fun _ => Int → RV) (fun x => RV.ok (.int k x) h) (fun v _ ih x => match v with
          | .int _ y => sel (sel b (ltI x y) (ltI y x)) (ih y) (ih x)
          | _ => .fail) l) n2) ((List.rec (motive := fun _ => Int → RV) (fun x => RV.ok (.int k x) h) (fun v _ ih x => match v with
          | .int _ y => sel (sel b (ltI x y) (ltI y x)) (ih y) (ih x)
          | _ => .fail) l) x) = .ok v h' := e
        rw [sel_ite, sel_ite, ltI_eq, ltI_eq] at e'
        cases b
        · simp only [Bool.false_eq_true, if_false, decide_eq_true_eq] at e' ⊢
          by_cases hc : n2 < x
          · rw [if_pos hc] at e'
            have := ih l'' n2 hl'' e'
            simpa [List.foldlM_cons, Builtin.min2, hc] using this
          · rw [if_neg hc] at e'
            have := ih l'' x hl'' e'
            simpa [List.foldlM_cons, Builtin.min2, hc] using this
        · simp only [if_true, decide_eq_true_eq] at e' ⊢
          by_cases hc : x < n2
          · rw [if_pos hc] at e'
            have := ih l'' n2 hl'' e'
            simpa [List.foldlM_cons, Builtin.max2, hc] using this
          · rw [if_neg hc] at e'
            have := ih l'' x hl'' e'
            simpa [List.foldlM_cons, Builtin.max2, hc] using this
    obtain ⟨h1, z, hz, hrun⟩ := key l l' x hl' e
    exact ⟨h1, z, hz, by cases b <;> simpa [Builtin.max_, Builtin.min_] using hrun⟩
  · cases e
theorem q_call {c : Call} (ho : o.op = .call c) (hq : quiet o.op = true) (e : oCall c P call tm h = .ok v h') (hr : Rel m h w) (ht : TmR m tm a) : Qt P m o a w h h' v := by
  simp only [oCall, callV, some_ok] at e
  obtain ⟨l, hl, e⟩ := e
  have hc := lookAll_conc ht hl
  rw [ho] at hq
  simp only [quiet] at hq
  have hargs : c.args.map a.eval = (c.args.toList.map a.eval).toArray := by cases c.args; simp
  split at hq <;> try (cases hq; done)
  all_goals
    rename_i hcal
    rw [hcal] at e
    simp only [builtinV] at e
  · split at e
    · rename_i t ts x xs hts
      obtain ⟨y, l', hy, _, hl2⟩ := concL_cons.1 hc
      obtain ⟨rfl, z, hz, hrun⟩ := lenV_run (ts := c.argTypes) (as := c.args.map a.eval) (ty := o.type) (w := w) (by rw [← Array.getElem?_toList, hts]; rfl) (by rw [hargs, hl2]; rfl) e hr hy
      exact ⟨rfl, z, hz, by simp [Yl, execOp, ho, resolve, hcal, invoke, builtin, hrun]⟩
    · cases e
  · obtain ⟨rfl, z, hz, hrun⟩ := minV_run (P := P) (w := w) e hc c.argTypes o.type
    exact ⟨rfl, z, hz, by rw [← hargs] at hrun; simp at hrun; simp [Yl, execOp, ho, resolve, hcal, invoke, builtin, hrun]⟩
  · obtain ⟨rfl, z, hz, hrun⟩ := minV_run (P := P) (w := w) e hc c.argTypes o.type
    exact ⟨rfl, z, hz, by rw [← hargs] at hrun; simp at hrun; simp [Yl, execOp, ho, resolve, hcal, invoke, builtin, hrun]⟩
  · split at e
    · rename_i x xs
      obtain ⟨y, l', hy, _, hl2⟩ := concL_cons.1 hc
      obtain ⟨rfl, z, hz, hrun⟩ := capV_run (as := c.args.map a.eval) (ty := o.type) (w := w) (by rw [hargs, hl2]; rfl) e hy
      exact ⟨rfl, z, hz, by simp at hrun; simp [Yl, execOp, ho, resolve, hcal, invoke, builtin, hrun]⟩
    · cases e
/-- Whatever the evaluator says of a quiet operation holds. -/
theorem quiet_run (hq : quiet o.op = true) (e : opV o.op P call tm h = .ok v h') (hr : Rel m h w) (ht : TmR m tm a) : Qt P m o a w h h' v := by
  generalize ho : o.op = op at *
  cases op <;> first | (cases hq; done) | skip
  case move x => exact q_move (call := call) (.inl ho) e ht
  case assign x => exact q_move (call := call) (.inr ho) e ht
  case pick c x y => exact q_pick (call := call) ho e ht
  case build t ps => exact q_build (call := call) ho e ht
  case load t x => exact q_load (call := call) ho e hr ht
  case nilCheck x => exact q_nil (call := call) ho e ht
  case binOp op t x y t' => exact q_bin (call := call) ho e ht
  case unOp op t x => exact q_un (call := call) ho e ht
  case convert s d x => exact q_conv (call := call) ho e hr ht
  case makeInterface t x => exact q_iface (call := call) ho e ht
  case makeFunc fn x y => exact q_func (call := call) ho e ht
  case slice t x lo hi mx => exact q_slice (call := call) ho e ht
  case fieldAddr t x f => exact q_fieldAddr (call := call) ho e ht
  case field t x f => exact q_field (call := call) ho e ht
  case indexAddr t x i => exact q_indexAddr (call := call) ho e ht
  case index t x i => exact q_index (call := call) ho e ht
  case lookup t x k ok => exact q_lookup (call := call) ho e hr ht
  case extract x i => exact q_extract (call := call) ho e ht
  case call c => exact q_call (call := call) ho (by rw [ho]; exact hq) e hr ht
end
end Go.Ev
