/- What the evaluator's values and heaps stand for in a world. Conditions: each lemma's own. -/
import Derived.Test.YtkdihjhndebloaaGreatDoorEvBase
import Derived.Laws.AppendOwn
set_option linter.unusedSectionVars false
set_option linter.unusedVariables false
set_option linter.unusedSimpArgs false
namespace Go.Ev
open Go

/-! ### the evaluator's own words are the library's -/
@[simp] theorem sel_true {α : Sort _} (x y : α) : sel true x y = x := rfl
@[simp] theorem sel_false {α : Sort _} (x y : α) : sel false x y = y := rfl
theorem sel_ite {α : Type _} (b : Bool) (x y : α) : sel b x y = if b then x else y := by cases b <;> rfl
@[simp] theorem force_eq {α : Sort _} (n : Nat) (k : Nat → α) : force n k = k n := by cases n <;> rfl
@[simp] theorem forceI_eq {α : Sort _} (z : Int) (k : Int → α) : forceI z k = k z := by
  cases z with
  | ofNat n => exact force_eq n (fun n => k (Int.ofNat n))
  | negSucc n => exact force_eq n (fun n => k (Int.negSucc n))
@[simp] theorem okIf_ok {b : Bool} {r : RV} {v : V} {h : H} : okIf b r = .ok v h ↔ b = true ∧ r = .ok v h := by
  cases b <;> simp [okIf]
@[simp] theorem some_ok {α : Type} {o : Option α} {k : α → RV} {v : V} {h : H} : some? o k = .ok v h ↔ ∃ a, o = some a ∧ k a = .ok v h := by
  cases o <;> simp [some?]
theorem sel_ok {b : Bool} {x y : RV} {v : V} {h : H} : sel b x y = .ok v h ↔ (b = true ∧ x = .ok v h) ∨ (b = false ∧ y = .ok v h) := by cases b <;> simp
@[simp] theorem takeN_eq {α : Type} (l : List α) (n : Nat) : takeN l n = l.take n := by
  induction l generalizing n with
  | nil => cases n <;> rfl
  | cons a l ih => cases n with
    | zero => rfl
    | succ n => simp only [List.take_succ_cons]; rw [← ih n]; rfl
@[simp] theorem dropN_eq {α : Type} (l : List α) (n : Nat) : dropN l n = l.drop n := by
  induction l generalizing n with
  | nil => cases n <;> rfl
  | cons a l ih => cases n with
    | zero => rfl
    | succ n => simp only [List.drop_succ_cons]; rw [← ih n]; rfl
@[simp] theorem lenN_eq {α : Type} (l : List α) : lenN l = l.length := by
  induction l with
  | nil => rfl
  | cons a l ih => simp only [List.length_cons]; rw [← ih]; rfl
@[simp] theorem nthN_eq {α : Type} (l : List α) (n : Nat) : nthN l n = l[n]? := by
  induction l generalizing n with
  | nil => rfl
  | cons a l ih => cases n with
    | zero => rfl
    | succ n => simp only [List.getElem?_cons_succ]; rw [← ih n]; rfl
@[simp] theorem appN_eq {α : Type} (l m : List α) : appN l m = l ++ m := by
  induction l with
  | nil => rfl
  | cons a l ih => simp only [List.cons_append]; rw [← ih]; rfl
theorem putN_eq {α : Type} (l : List α) (n : Nat) (new : List α) (h : n + new.length ≤ l.length) : putN l n new = l.take n ++ (new ++ l.drop (n + new.length)) := by
  induction l generalizing n new with
  | nil => simp at h; obtain ⟨rfl, rfl⟩ := h; rfl
  | cons a l ih =>
    cases n with
    | zero =>
      cases new with
      | nil => simp; rfl
      | cons b m =>
        simp at h
        have := ih 0 m (by simpa using h)
        simp at this
        simp only [List.take_zero, List.nil_append, List.length_cons, List.cons_append]
        rw [show 0 + (m.length + 1) = m.length + 1 by omega, List.drop_succ_cons, ← this]; rfl
    | succ n =>
      simp at h
      have := ih n new (by omega)
      simp only [List.take_succ_cons, List.cons_append]
      rw [show n + 1 + new.length = (n + new.length) + 1 by omega, List.drop_succ_cons, ← this]; rfl
@[simp] theorem repN_eq {α : Type} (l : List α) (n : Nat) : repN l n = (List.replicate n l).flatten := by
  induction n with
  | zero => rfl
  | succ n ih => simp only [List.replicate_succ, List.flatten_cons]; rw [← ih, ← appN_eq]; rfl

/-! ### tries -/
theorem T.get_e {α : Type} (i : Nat) : (T.e : T α).get i = none := rfl
theorem T.get_n {α : Type} (l : T α) (v : Option α) (r : T α) (i : Nat) :
    (T.n l v r).get i = if i = 0 then v else if i % 2 = 1 then l.get (i / 2) else r.get (i / 2 - 1) := by
  show sel (Nat.beq i 0) v (sel (Nat.beq (i % 2) 1) (l.get (i / 2)) (r.get (i / 2 - 1))) = _
  rw [sel_ite, sel_ite]
  simp
theorem T.one_succ {α : Type} (f i : Nat) (v : Option α) :
    T.one (f + 1) i v = if i = 0 then .n .e v .e else if i % 2 = 1 then .n (T.one f (i / 2) v) none .e else .n .e none (T.one f (i / 2 - 1) v) := by
  show sel (Nat.beq i 0) _ (sel (Nat.beq (i % 2) 1) _ _) = _
  rw [sel_ite, sel_ite]
  simp
  rfl
theorem T.get_one {α : Type} (f i j : Nat) (v : Option α) (h : i ≤ f) : (T.one f i v).get j = if i = j then v else none := by
  induction f generalizing i j with
  | zero =>
    obtain rfl : i = 0 := by omega
    show (T.n T.e v T.e).get j = _
    rw [T.get_n]
    by_cases hj : j = 0
    · simp [hj]
    · simp [hj, T.get_e, Ne.symm hj]
  | succ f ih =>
    rw [T.one_succ]
    by_cases hi : i = 0
    · subst hi
      simp only [if_pos]
      rw [T.get_n]
      by_cases hj : j = 0
      · simp [hj]
      · simp [hj, T.get_e, Ne.symm hj]
    · simp only [if_neg hi]
      by_cases ho : i % 2 = 1
      · simp only [if_pos ho]
        rw [T.get_n]
        by_cases hj : j = 0
        · simp [hj, hi]
        · simp only [if_neg hj]
          by_cases hjo : j % 2 = 1
          · simp only [if_pos hjo]
            rw [ih _ _ (by omega)]
            by_cases hij : i = j
            · simp [hij]
            · rw [if_neg hij, if_neg (by omega)]
          · simp only [if_neg hjo, T.get_e]
            rw [if_neg (by omega)]
      · simp only [if_neg ho]
        rw [T.get_n]
        by_cases hj : j = 0
        · simp [hj, hi]
        · simp only [if_neg hj]
          by_cases hjo : j % 2 = 1
          · simp only [if_pos hjo, T.get_e]
            rw [if_neg (by omega)]
          · simp only [if_neg hjo]
            rw [ih _ _ (by omega)]
            by_cases hij : i = j
            · simp [hij]
            · rw [if_neg hij, if_neg (by omega)]
theorem T.set_e {α : Type} (i : Nat) (v : Option α) : (T.e : T α).set i v = T.one i i v := rfl
theorem T.set_n {α : Type} (l : T α) (w : Option α) (r : T α) (i : Nat) (v : Option α) :
    (T.n l w r).set i v = if i = 0 then .n l v r else if i % 2 = 1 then .n (l.set (i / 2) v) w r else .n l w (r.set (i / 2 - 1) v) := by
  show sel (Nat.beq i 0) _ (sel (Nat.beq (i % 2) 1) _ _) = _
  rw [sel_ite, sel_ite]
  simp
  rfl
theorem T.get_set {α : Type} (t : T α) (i j : Nat) (v : Option α) : (t.set i v).get j = if i = j then v else t.get j := by
  induction t generalizing i j with
  | e => rw [T.set_e, T.get_one i i j v (Nat.le_refl _), T.get_e]
  | n l w r ihl ihr =>
    rw [T.set_n]
    by_cases hi : i = 0
    · subst hi
      simp only [if_pos]
      rw [T.get_n, T.get_n]
      by_cases hj : j = 0
      · simp [hj]
      · simp [hj, Ne.symm hj]
    · simp only [if_neg hi]
      by_cases ho : i % 2 = 1
      · simp only [if_pos ho]
        rw [T.get_n, T.get_n]
        by_cases hj : j = 0
        · simp [hj, hi]
        · simp only [if_neg hj]
          by_cases hjo : j % 2 = 1
          · simp only [if_pos hjo]
            rw [ihl]
            by_cases hij : i = j
            · simp [hij]
            · rw [if_neg hij, if_neg (by omega)]
          · simp only [if_neg hjo]
            rw [if_neg (by omega)]
      · simp only [if_neg ho]
        rw [T.get_n, T.get_n]
        by_cases hj : j = 0
        · simp [hj, hi]
        · simp only [if_neg hj]
          by_cases hjo : j % 2 = 1
          · simp only [if_pos hjo]
            rw [if_neg (by omega)]
          · simp only [if_neg hjo]
            rw [ihr]
            by_cases hij : i = j
            · simp [hij]
            · rw [if_neg hij, if_neg (by omega)]

/-! ### heaps -/
noncomputable def H.push (h : H) (o : O) : H := ⟨h.objs.set h.next (some o), h.next + 1, h.nc⟩
noncomputable def H.pushRow (h : H) (o : O) : H := ⟨h.objs.set h.next (some o), h.next + 1, h.nc + 1⟩
theorem H.get_eq (h : H) (b : Nat) : h.get b = h.objs.get b := by cases h; rfl
theorem H.new_eq (h : H) (o : O) (k : Nat → H → RV) : h.new o k = k h.next (h.push o) := by
  cases h with
  | mk t n c => exact force_eq n (fun n => k n ⟨t.set n (some o), Nat.succ n, c⟩)
theorem H.row_eq (h : H) (e : TypeId) (cs : List V) (n sz : Nat) : h.row e cs n sz = .ok (.sl h.next 0 n (.un h.nc 0 sz)) (h.pushRow (.cells e cs)) := by
  cases h with
  | mk t i c =>
    unfold H.row
    simp only [force_eq]
    rfl
@[simp] theorem H.get_set (h : H) (b b' : Nat) (o : O) : (h.set b o).get b' = if b = b' then some o else h.get b' := by
  cases h with
  | mk t n c =>
    show (t.set b (some o)).get b' = _
    rw [T.get_set]
    rfl
@[simp] theorem H.get_drop (h : H) (b b' : Nat) : (h.drop b).get b' = if b = b' then none else h.get b' := by
  cases h with
  | mk t n c =>
    show (t.set b none).get b' = _
    rw [T.get_set]
    rfl
@[simp] theorem H.get_push (h : H) (b' : Nat) (o : O) : (h.push o).get b' = if h.next = b' then some o else h.get b' := by
  rw [H.get_eq, H.get_eq]
  exact T.get_set _ _ _ _
@[simp] theorem H.get_pushRow (h : H) (b' : Nat) (o : O) : (h.pushRow o).get b' = if h.next = b' then some o else h.get b' := by
  rw [H.get_eq, H.get_eq]
  exact T.get_set _ _ _ _
@[simp] theorem H.set_next (h : H) (b : Nat) (o : O) : (h.set b o).next = h.next := by cases h; rfl
@[simp] theorem H.set_nc (h : H) (b : Nat) (o : O) : (h.set b o).nc = h.nc := by cases h; rfl
@[simp] theorem H.drop_next (h : H) (b : Nat) : (h.drop b).next = h.next := by cases h; rfl
@[simp] theorem H.drop_nc (h : H) (b : Nat) : (h.drop b).nc = h.nc := by cases h; rfl

/-! ### what a value stands for -/
/-- Where each block lies, how many cells it has; what each unknown room is. -/
structure M where
  blk : List (Nat × Nat)
  caps : List Nat
structure M.le (m m' : M) : Prop where
  blk : ∀ {i : Nat} {p : Nat × Nat}, m.blk[i]? = some p → m'.blk[i]? = some p
  caps : ∀ {i c : Nat}, m.caps[i]? = some c → m'.caps[i]? = some c
theorem M.le.refl (m : M) : m.le m := ⟨fun h => h, fun h => h⟩
theorem M.le.trans {a b c : M} (h : a.le b) (k : b.le c) : a.le c := ⟨fun x => k.blk (h.blk x), fun x => k.caps (h.caps x)⟩

def bytesA (s : List Nat) : ByteArray := ⟨(s.map UInt8.ofNat).toArray⟩
@[simp] theorem small_nil : small [] = true := rfl
@[simp] theorem small_cons (c : Nat) (l : List Nat) : small (c :: l) = (decide (c < 256) && small l) := by
  show (Bool.rec false (small l) (Nat.blt c 256) : Bool) = _
  by_cases hc : c < 256
  · rw [show Nat.blt c 256 = true from by simpa using hc]; simp [hc]
  · rw [show Nat.blt c 256 = false from Bool.eq_false_iff.2 (by simpa using hc)]; simp [hc]
theorem small_iff {s : List Nat} : small s = true ↔ ∀ c ∈ s, c < 256 := by
  induction s with
  | nil => simp
  | cons c l ih => simp [ih]

/-- What is given of the world: two objects of which nothing is known, values of which nothing is known. -/
class Given where
  blk : Nat
  obj : Obj
  kblk : Nat
  kobj : Obj
  val : Nat → Value
  one : ∀ i, (val i).oneCell' = true
variable [G : Given]
mutual
noncomputable def conc (m : M) : V → Option Value
  | .bool b => some (.bool b)
  | .int k n => some (.int k n)
  | .str s => if small s then some (.string (bytesA s)) else none
  | .ptr b o => (m.blk[b]?).map fun p => .pointer (some ⟨p.1, o, none⟩)
  | .pnil => some (.pointer none)
  | .sl b o n (.ex c) => (m.blk[b]?).bind fun p => if n ≤ c then some (.slice (some ⟨p.1, o, none⟩) n c) else none
  | .sl b o n (.un u d sz) => (m.blk[b]?).bind fun p => (m.caps[u]?).bind fun c => if d ≤ c ∧ n ≤ c - d ∧ o + (c - d) * sz ≤ p.2 then some (.slice (some ⟨p.1, o, none⟩) n (c - d)) else none
  | .snil => some (.slice none 0 0)
  | .sun b o o' u d => (m.blk[b]?).bind fun p => (m.caps[u]?).bind fun c => if d ≤ c then some (.slice (some ⟨p.1, if c - d = 0 then o else o', none⟩) 0 (c - d)) else none
  | .map b => (m.blk[b]?).map fun p => .map (some p.1)
  | .mnil => some (.map none)
  | .chan b => (m.blk[b]?).map fun p => .chan (some p.1)
  | .cnil => some (.chan none)
  | .fn f a c => (concL m a).bind fun a => (concL m c).map fun c => .func (.func f) a.toArray c.toArray
  | .fnil => some .nilFunc
  | .ifc t v => (conc m v).map (.iface t)
  | .inil => some .nilIface
  | .agg l => (concL m l).map fun l => .agg l.toArray
  | .tup l => (concL m l).map fun l => .tuple l.toArray
  | .raw i => some (G.val i)
noncomputable def concL (m : M) : List V → Option (List Value)
  | [] => some []
  | v :: l => (conc m v).bind fun x => (concL m l).map (x :: ·)
end

mutual
theorem conc_mono {m m' : M} (h : m.le m') : ∀ (v : V) (x : Value), conc m v = some x → conc m' v = some x
  | .bool _, _, e => by simpa [conc] using e
  | .int _ _, _, e => by simpa [conc] using e
  | .str _, _, e => by simpa [conc] using e
  | .ptr b o, x, e => by
    simp only [conc, Option.map_eq_some_iff] at e ⊢
    obtain ⟨p, hp, rfl⟩ := e
    exact ⟨p, h.blk hp, rfl⟩
  | .pnil, _, e => by simpa [conc] using e
  | .sl b o n (.ex c), x, e => by
    simp only [conc, Option.bind_eq_some_iff] at e ⊢
    obtain ⟨p, hp, e⟩ := e
    exact ⟨p, h.blk hp, e⟩
  | .sl b o n (.un u d sz), x, e => by
    simp only [conc, Option.bind_eq_some_iff] at e ⊢
    obtain ⟨p, hp, c, hc, e⟩ := e
    exact ⟨p, h.blk hp, c, h.caps hc, e⟩
  | .snil, _, e => by simpa [conc] using e
  | .sun b o o' u d, x, e => by
    simp only [conc, Option.bind_eq_some_iff] at e ⊢
    obtain ⟨p, hp, c, hc, e⟩ := e
    exact ⟨p, h.blk hp, c, h.caps hc, e⟩
  | .map b, x, e => by
    simp only [conc, Option.map_eq_some_iff] at e ⊢
    obtain ⟨p, hp, rfl⟩ := e
    exact ⟨p, h.blk hp, rfl⟩
  | .mnil, _, e => by simpa [conc] using e
  | .chan b, x, e => by
    simp only [conc, Option.map_eq_some_iff] at e ⊢
    obtain ⟨p, hp, rfl⟩ := e
    exact ⟨p, h.blk hp, rfl⟩
  | .cnil, _, e => by simpa [conc] using e
  | .fn f a c, x, e => by
    simp only [conc, Option.bind_eq_some_iff, Option.map_eq_some_iff] at e ⊢
    obtain ⟨a', ha, c', hc, rfl⟩ := e
    exact ⟨a', concL_mono h a a' ha, c', concL_mono h c c' hc, rfl⟩
  | .fnil, _, e => by simpa [conc] using e
  | .ifc t v, x, e => by
    simp only [conc, Option.map_eq_some_iff] at e ⊢
    obtain ⟨y, hy, rfl⟩ := e
    exact ⟨y, conc_mono h v y hy, rfl⟩
  | .inil, _, e => by simpa [conc] using e
  | .agg l, x, e => by
    simp only [conc, Option.map_eq_some_iff] at e ⊢
    obtain ⟨y, hy, rfl⟩ := e
    exact ⟨y, concL_mono h l y hy, rfl⟩
  | .tup l, x, e => by
    simp only [conc, Option.map_eq_some_iff] at e ⊢
    obtain ⟨y, hy, rfl⟩ := e
    exact ⟨y, concL_mono h l y hy, rfl⟩
  | .raw i, x, e => by simpa [conc] using e
theorem concL_mono {m m' : M} (h : m.le m') : ∀ (l : List V) (x : List Value), concL m l = some x → concL m' l = some x
  | [], _, e => by simpa [concL] using e
  | v :: l, x, e => by
    simp only [concL, Option.bind_eq_some_iff, Option.map_eq_some_iff] at e ⊢
    obtain ⟨y, hy, l', hl, rfl⟩ := e
    exact ⟨y, conc_mono h v y hy, l', concL_mono h l l' hl, rfl⟩
end

section
variable {m m' : M}
theorem concL_nil {x : List Value} : concL m [] = some x ↔ x = [] := by simp [concL, eq_comm]
theorem concL_cons {v : V} {l : List V} {x : List Value} : concL m (v :: l) = some x ↔ ∃ y l', conc m v = some y ∧ concL m l = some l' ∧ x = y :: l' := by
  simp only [concL, Option.bind_eq_some_iff, Option.map_eq_some_iff]
  constructor
  · rintro ⟨y, hy, l', hl, rfl⟩; exact ⟨y, l', hy, hl, rfl⟩
  · rintro ⟨y, l', hy, hl, rfl⟩; exact ⟨y, hy, l', hl, rfl⟩
theorem concL_append {a b : List V} {x : List Value} : concL m (a ++ b) = some x ↔ ∃ y z, concL m a = some y ∧ concL m b = some z ∧ x = y ++ z := by
  induction a generalizing x with
  | nil => simp [concL]
  | cons v a ih =>
    simp only [List.cons_append, concL_cons, ih]
    constructor
    · rintro ⟨y, l', hy, ⟨p, q, hp, hq, rfl⟩, rfl⟩; exact ⟨_, q, ⟨y, p, hy, hp, rfl⟩, hq, rfl⟩
    · rintro ⟨_, q, ⟨y, p, hy, hp, rfl⟩, hq, rfl⟩; exact ⟨y, _, hy, ⟨p, q, hp, hq, rfl⟩, rfl⟩
theorem concL_length {l : List V} {x : List Value} (h : concL m l = some x) : x.length = l.length := by
  induction l generalizing x with
  | nil => simp [concL] at h; subst h; rfl
  | cons v l ih =>
    obtain ⟨y, l', _, hl, rfl⟩ := concL_cons.1 h
    simp [ih hl]
theorem concL_get {l : List V} {x : List Value} (h : concL m l = some x) {i : Nat} {v : V} (hv : l[i]? = some v) : ∃ y, x[i]? = some y ∧ conc m v = some y := by
  induction l generalizing x i with
  | nil => simp at hv
  | cons u l ih =>
    obtain ⟨y, l', hy, hl, rfl⟩ := concL_cons.1 h
    cases i with
    | zero => simp at hv; subst hv; exact ⟨y, rfl, hy⟩
    | succ i => exact ih hl hv
theorem concL_take {l : List V} {x : List Value} (h : concL m l = some x) (n : Nat) : concL m (l.take n) = some (x.take n) := by
  induction l generalizing x n with
  | nil => simp [concL] at h; subst h; simp [concL]
  | cons u l ih =>
    obtain ⟨y, l', hy, hl, rfl⟩ := concL_cons.1 h
    cases n with
    | zero => simp [concL]
    | succ n => simp only [List.take_succ_cons]; exact concL_cons.2 ⟨y, _, hy, ih hl n, rfl⟩
theorem concL_drop {l : List V} {x : List Value} (h : concL m l = some x) (n : Nat) : concL m (l.drop n) = some (x.drop n) := by
  induction l generalizing x n with
  | nil => simp [concL] at h; subst h; simp [concL]
  | cons u l ih =>
    obtain ⟨y, l', hy, hl, rfl⟩ := concL_cons.1 h
    cases n with
    | zero => exact concL_cons.2 ⟨y, _, hy, hl, rfl⟩
    | succ n => exact ih hl n
theorem concL_flatten {l : List V} {x : List Value} (h : concL m l = some x) (n : Nat) : concL m (List.replicate n l).flatten = some (List.replicate n x).flatten := by
  induction n with
  | zero => simp [concL]
  | succ n ih => simp only [List.replicate_succ, List.flatten_cons]; exact concL_append.2 ⟨_, _, h, ih, rfl⟩
theorem allOne_cons {v : V} {l : List V} : allOne (v :: l) = true ↔ v.one = true ∧ allOne l = true := by
  show sel v.one (allOne l) false = true ↔ _
  cases v.one <;> simp
theorem allOne_append {a b : List V} : allOne (a ++ b) = true ↔ allOne a = true ∧ allOne b = true := by
  induction a with
  | nil => simp [show allOne [] = true from rfl]
  | cons v a ih => simp only [List.cons_append, allOne_cons, ih, and_assoc]
theorem allOne_mem {l : List V} : allOne l = true ↔ ∀ v ∈ l, v.one = true := by
  induction l with
  | nil => simp [show allOne [] = true from rfl]
  | cons v l ih => simp [allOne_cons, ih]
theorem allOne_take {l : List V} (h : allOne l = true) (n : Nat) : allOne (l.take n) = true := allOne_mem.2 fun v hv => allOne_mem.1 h v (List.mem_of_mem_take hv)
theorem allOne_drop {l : List V} (h : allOne l = true) (n : Nat) : allOne (l.drop n) = true := allOne_mem.2 fun v hv => allOne_mem.1 h v (List.mem_of_mem_drop hv)
theorem conc_one {v : V} {x : Value} (h : conc m v = some x) (ho : v.one = true) : x.oneCell' = true := by
  cases v with
  | sl b o n c => cases c <;> simp [conc, Option.bind_eq_some_iff] at h <;> (try obtain ⟨_, _, _, _, _, _, _, rfl⟩ := h) <;> simp_all [Value.oneCell'] <;> grind [Value.oneCell']
  | agg l => simp [V.one] at ho
  | tup l => simp [V.one] at ho
  | raw i => simp [conc] at h; subst h; exact G.one i
  | fn f a c => simp [conc, Option.bind_eq_some_iff] at h; obtain ⟨_, _, _, _, rfl⟩ := h; rfl
  | sun b o o' u d => simp [conc, Option.bind_eq_some_iff] at h; obtain ⟨_, _, _, _, _, _, _, rfl⟩ := h; rfl
  | str s => simp [conc] at h; obtain ⟨_, rfl⟩ := h; rfl
  | ptr b o => simp [conc] at h; obtain ⟨_, _, _, rfl⟩ := h; rfl
  | map b => simp [conc] at h; obtain ⟨_, _, _, rfl⟩ := h; rfl
  | chan b => simp [conc] at h; obtain ⟨_, _, _, rfl⟩ := h; rfl
  | ifc t v => simp [conc] at h; obtain ⟨_, _, rfl⟩ := h; rfl
  | _ => simp [conc] at h; subst h; rfl
end
end Go.Ev
namespace Go.Ev
open Go
variable [G : Given]

noncomputable def entryC (m : M) (e : V × V × Nat) : Option MapEntry := (conc m e.1).bind fun k => (conc m e.2.1).map fun v => { key := k, val := v, born := e.2.2 }
noncomputable def concE (m : M) : List (V × V × Nat) → Option (List MapEntry)
  | [] => some []
  | e :: l => (entryC m e).bind fun x => (concE m l).map (x :: ·)

def OC (m : M) (w : World) (p : Nat × Nat) : O → Prop
  | .cells t cs => allOne cs = true ∧ ∃ c rest, concL m cs = some c ∧ w.heap[p.1]? = some (.cells (c ++ rest).toArray t (0, 0)) ∧ c.length + rest.length = p.2 ∧ (cutT t = true → rest = [])
  | .map es clock => ∃ l, concE m es = some l ∧ w.heap[p.1]? = some (.map l.toArray clock)
  | .chan cap buf => ∃ l s r, concL m buf = some l ∧ w.heap[p.1]? = some (.chan cap l.toArray false s r false)
  | .raw => p.1 = G.blk ∧ w.heap[p.1]? = some G.obj
  | .kept => p.1 = G.kblk ∧ w.heap[p.1]? = some G.kobj
  | .iter none since seen last => w.heap[p.1]? = some (.mapIter none since seen.toArray last)
  | .iter (some b) since seen last => ∃ q, m.blk[b]? = some q ∧ w.heap[p.1]? = some (.mapIter (some q.1) since seen.toArray last)

structure Rel (m : M) (h : H) (w : World) : Prop where
  next : m.blk.length = h.next
  nc : m.caps.length = h.nc ∧ ∀ c ∈ m.caps, c ≤ maxLen
  obj : ∀ {b : Nat} {o : O}, h.get b = some o → ∃ p, m.blk[b]? = some p ∧ OC m w p o
  inj : ∀ {b b' : Nat} {o o' : O} {p p' : Nat × Nat}, h.get b = some o → h.get b' = some o' → m.blk[b]? = some p → m.blk[b']? = some p' → p.1 = p'.1 → b = b'

/-- A block that the heap holds. -/
def live (m : M) (h : H) (k : Nat) : Prop := ∃ b o p, h.get b = some o ∧ m.blk[b]? = some p ∧ p.1 = k

structure Tr (m : M) (h : H) (w : World) (m' : M) (h' : H) (w' : World) : Prop where
  le : m.le m'
  os : w'.os = w.os
  tape : w'.tape = w.tape
  output : w'.output = w.output
  size : w.heap.size ≤ w'.heap.size
  block : ∀ k, k < w.heap.size → ¬ live m h k → w'.heap[k]? = w.heap[k]?
  sub : ∀ k, live m' h' k → live m h k ∨ w.heap.size ≤ k

section
variable {m m' m1 m2 : M} {h h' h1 h2 : H} {w w' w1 w2 : World}
theorem Tr.refl (m : M) (h : H) (w : World) : Tr m h w m h w := ⟨.refl _, rfl, rfl, rfl, Nat.le_refl _, fun _ _ _ => rfl, fun _ hk => .inl hk⟩
theorem Tr.trans (a : Tr m h w m1 h1 w1) (b : Tr m1 h1 w1 m2 h2 w2) : Tr m h w m2 h2 w2 :=
  ⟨a.le.trans b.le, b.os.trans a.os, b.tape.trans a.tape, b.output.trans a.output, Nat.le_trans a.size b.size,
    fun k hk hn => (b.block k (Nat.lt_of_lt_of_le hk a.size) fun hl => by rcases a.sub k hl with h1 | h1; exact hn h1; omega).trans (a.block k hk hn),
    fun k hk => by
      rcases b.sub k hk with h1 | h1
      · exact a.sub k h1
      · exact .inr (Nat.le_trans a.size h1)⟩
theorem concE_mono (hm : m.le m') : ∀ (l : List (V × V × Nat)) (x : List MapEntry), concE m l = some x → concE m' l = some x
  | [], x, e => by simpa [concE] using e
  | p :: l, x, e => by
    simp only [concE, entryC, Option.bind_eq_some_iff, Option.map_eq_some_iff] at e ⊢
    obtain ⟨y, ⟨k, hk, v, hv, rfl⟩, l', hl, rfl⟩ := e
    exact ⟨_, ⟨k, conc_mono hm _ _ hk, v, conc_mono hm _ _ hv, rfl⟩, l', concE_mono hm l l' hl, rfl⟩
theorem OC.mono {p : Nat × Nat} {o : O} (ho : OC m w p o) (hm : m.le m') (hw : w'.heap[p.1]? = w.heap[p.1]?) : OC m' w' p o := by
  cases o with
  | cells t cs => obtain ⟨ha, c, rest, hc, hp, hl⟩ := ho; exact ⟨ha, c, rest, concL_mono hm _ _ hc, hw.trans hp, hl⟩
  | map es cl => obtain ⟨l, hl, hp⟩ := ho; exact ⟨l, concE_mono hm _ _ hl, hw.trans hp⟩
  | chan c b => obtain ⟨l, s, r, hl, hp⟩ := ho; exact ⟨l, s, r, concL_mono hm _ _ hl, hw.trans hp⟩
  | raw => exact ⟨ho.1, hw.trans ho.2⟩
  | kept => exact ⟨ho.1, hw.trans ho.2⟩
  | iter mm a b c =>
    cases mm with
    | none => exact hw.trans ho
    | some q => obtain ⟨q', hq, hp⟩ := ho; exact ⟨q', hm.blk hq, hw.trans hp⟩
theorem OC.lt {p : Nat × Nat} {o : O} (ho : OC m w p o) : p.1 < w.heap.size := by
  have : ∃ x, w.heap[p.1]? = some x := by
    cases o with
    | cells t cs => obtain ⟨_, _, _, _, hp, _⟩ := ho; exact ⟨_, hp⟩
    | map es cl => obtain ⟨_, _, hp⟩ := ho; exact ⟨_, hp⟩
    | chan c b => obtain ⟨_, _, _, _, hp⟩ := ho; exact ⟨_, hp⟩
    | raw => exact ⟨_, ho.2⟩
    | kept => exact ⟨_, ho.2⟩
    | iter mm a b c =>
      cases mm with
      | none => exact ⟨_, ho⟩
      | some q => obtain ⟨_, _, hp⟩ := ho; exact ⟨_, hp⟩
  obtain ⟨x, hx⟩ := this
  exact (Array.getElem?_eq_some_iff.1 hx).1
theorem Rel.lt (hr : Rel m h w) {b : Nat} {o : O} (hg : h.get b = some o) : b < h.next := by
  obtain ⟨p, hp, _⟩ := hr.obj hg
  have := (List.getElem?_eq_some_iff.1 hp).1
  rw [hr.next] at this
  exact this
theorem Rel.live_lt (hr : Rel m h w) {k : Nat} (hk : live m h k) : k < w.heap.size := by
  obtain ⟨b, o, p, hg, hp, rfl⟩ := hk
  obtain ⟨p', hp', ho⟩ := hr.obj hg
  rw [hp] at hp'
  obtain rfl := Option.some.inj hp'
  exact ho.lt
theorem Rel.at (hr : Rel m h w) {b : Nat} {o : O} (hg : h.get b = some o) {p : Nat × Nat} (hp : m.blk[b]? = some p) : OC m w p o := by
  obtain ⟨p', hp', ho⟩ := hr.obj hg
  rw [hp] at hp'
  obtain rfl := Option.some.inj hp'
  exact ho

/-- One object is turned. -/
theorem Rel.upd (hr : Rel m h w) {b : Nat} {o o' : O} {p : Nat × Nat} (hg : h.get b = some o) (hp : m.blk[b]? = some p) (hs : w'.heap.size = w.heap.size)
    (hw : ∀ k, k ≠ p.1 → w'.heap[k]? = w.heap[k]?) (ho : OC m w' p o') (e1 : w'.os = w.os) (e2 : w'.tape = w.tape) (e3 : w'.output = w.output) :
    Rel m (h.set b o') w' ∧ Tr m h w m (h.set b o') w' := by
  have hlive : ∀ k, live m (h.set b o') k → live m h k := by
    rintro k ⟨b1, o1, p1, hg1, hp1, rfl⟩
    rw [H.get_set] at hg1
    by_cases hb : b = b1
    · subst hb; exact ⟨_, _, _, hg, hp1, rfl⟩
    · rw [if_neg hb] at hg1; exact ⟨_, _, _, hg1, hp1, rfl⟩
  refine ⟨⟨by simp [hr.next], by simpa using hr.nc, fun {b1 o1} hg1 => ?_, fun {b1 b2 o1 o2 p1 p2} h1 h2 q1 q2 hq => ?_⟩, ⟨.refl _, e1, e2, e3, by omega, fun k _ hn => ?_, fun k hk => .inl (hlive k hk)⟩⟩
  · rw [H.get_set] at hg1
    by_cases hb : b = b1
    · subst hb
      rw [if_pos rfl] at hg1
      obtain rfl := Option.some.inj hg1
      exact ⟨p, hp, ho⟩
    · rw [if_neg hb] at hg1
      obtain ⟨p1, hp1, ho1⟩ := hr.obj hg1
      exact ⟨p1, hp1, ho1.mono (.refl _) (hw _ fun he => hb (hr.inj hg hg1 hp hp1 he.symm))⟩
  · have f1 : ∃ o, h.get b1 = some o := by
      rw [H.get_set] at h1
      by_cases hb : b = b1
      · subst hb; exact ⟨_, hg⟩
      · rw [if_neg hb] at h1; exact ⟨_, h1⟩
    have f2 : ∃ o, h.get b2 = some o := by
      rw [H.get_set] at h2
      by_cases hb : b = b2
      · subst hb; exact ⟨_, hg⟩
      · rw [if_neg hb] at h2; exact ⟨_, h2⟩
    obtain ⟨_, f1⟩ := f1
    obtain ⟨_, f2⟩ := f2
    exact hr.inj f1 f2 q1 q2 hq
  · exact hw k fun he => hn ⟨b, o, p, hg, hp, he.symm⟩

def M.add (m : M) (p : Nat × Nat) : M := ⟨m.blk ++ [p], m.caps⟩
def M.addRow (m : M) (p : Nat × Nat) (c : Nat) : M := ⟨m.blk ++ [p], m.caps ++ [c]⟩
theorem getElem?_append_some {α : Type} {l : List α} {i : Nat} {p : α} (r : List α) (h : l[i]? = some p) : (l ++ r)[i]? = some p := by
  rw [List.getElem?_append_left (List.getElem?_eq_some_iff.1 h).1]; exact h
theorem M.le_add (m : M) (p : Nat × Nat) : m.le (m.add p) := ⟨fun h => getElem?_append_some _ h, fun h => h⟩
theorem M.le_addRow (m : M) (p : Nat × Nat) (c : Nat) : m.le (m.addRow p c) := ⟨fun h => getElem?_append_some _ h, fun h => getElem?_append_some _ h⟩

theorem pushed (hr : Rel m h w) {m' : M} {h' : H} {o : O} {p : Nat × Nat} (hblk : m'.blk = m.blk ++ [p]) (hle : m.le m') (hn : h'.next = h.next + 1) (hc : m'.caps.length = h'.nc ∧ ∀ c ∈ m'.caps, c ≤ maxLen)
    (hget : ∀ b, h'.get b = if h.next = b then some o else h.get b) (hp : w.heap.size ≤ p.1 ∨ p.1 < w.heap.size ∧ ¬ live m h p.1)
    (hw : ∀ k, k < w.heap.size → k ≠ p.1 → w'.heap[k]? = w.heap[k]?) (ho : OC m' w' p o) :
    Rel m' h' w' ∧ ∀ k, live m' h' k → live m h k ∨ k = p.1 := by
  have hnew : m'.blk[h.next]? = some p := by rw [hblk, ← hr.next]; simp
  have hp' : ∀ {b : Nat} {q : Nat × Nat}, h.next ≠ b → m'.blk[b]? = some q → m.blk[b]? = some q := by
    intro b q hb hq
    rw [hblk, List.getElem?_append] at hq
    split at hq
    · exact hq
    · rename_i hlt
      rw [hr.next] at hlt
      have : b - h.next ≠ 0 := by omega
      rw [hr.next] at hq
      cases hz : b - h.next with
      | zero => exact absurd hz this
      | succ n => rw [hz] at hq; simp at hq
  have hfresh : ∀ {b : Nat} {o1 : O} {q : Nat × Nat}, h.get b = some o1 → m.blk[b]? = some q → q.1 ≠ p.1 := by
    intro b o1 q hg hq he
    rcases hp with hp | ⟨_, hp⟩
    · have := hr.live_lt ⟨b, o1, q, hg, hq, rfl⟩; omega
    · exact hp ⟨b, o1, q, hg, hq, he⟩
  refine ⟨⟨by rw [hblk, hn]; simp [hr.next], hc, fun {b o1} hg => ?_, fun {b1 b2 o1 o2 p1 p2} h1 h2 q1 q2 hq => ?_⟩, fun k hk => ?_⟩
  · rw [hget] at hg
    by_cases hb : h.next = b
    · subst hb
      rw [if_pos rfl] at hg
      obtain rfl := Option.some.inj hg
      exact ⟨p, hnew, ho⟩
    · rw [if_neg hb] at hg
      obtain ⟨q, hq, ho1⟩ := hr.obj hg
      exact ⟨q, hle.blk hq, ho1.mono hle (hw _ ho1.lt (hfresh hg hq))⟩
  · rw [hget] at h1 h2
    by_cases hb1 : h.next = b1 <;> by_cases hb2 : h.next = b2
    · omega
    · subst hb1
      rw [if_neg hb2] at h2
      rw [hnew] at q1
      obtain rfl := Option.some.inj q1
      exact absurd hq.symm (hfresh h2 (hp' hb2 q2))
    · subst hb2
      rw [if_neg hb1] at h1
      rw [hnew] at q2
      obtain rfl := Option.some.inj q2
      exact absurd hq (hfresh h1 (hp' hb1 q1))
    · rw [if_neg hb1] at h1
      rw [if_neg hb2] at h2
      exact hr.inj h1 h2 (hp' hb1 q1) (hp' hb2 q2) hq
  · obtain ⟨b, o1, q, hg, hq, rfl⟩ := hk
    rw [hget] at hg
    by_cases hb : h.next = b
    · subst hb
      rw [hnew] at hq
      obtain rfl := Option.some.inj hq
      exact .inr rfl
    · rw [if_neg hb] at hg
      exact .inl ⟨b, o1, q, hg, hp' hb hq, rfl⟩

/-- A new object. -/
theorem Rel.push (hr : Rel m h w) {o : O} {n : Nat} {ob : Obj} (ho : OC (m.add (w.heap.size, n)) (w.alloc ob) (w.heap.size, n) o) :
    Rel (m.add (w.heap.size, n)) (h.push o) (w.alloc ob) ∧ Tr m h w (m.add (w.heap.size, n)) (h.push o) (w.alloc ob) := by
  obtain ⟨a, b⟩ := pushed (w' := w.alloc ob) hr (m' := m.add (w.heap.size, n)) (h' := h.push o) (o := o) (p := (w.heap.size, n)) rfl (M.le_add _ _) rfl hr.nc (fun b => H.get_push h b o) (.inl (Nat.le_refl _)) (fun k hk _ => heap_alloc_old w ob hk) ho
  exact ⟨a, M.le_add _ _, rfl, rfl, rfl, by simp, fun k hk _ => heap_alloc_old w ob hk, fun k hk => (b k hk).imp id (fun e => by omega)⟩
theorem addRow_nc (hr : Rel m h w) {p : Nat × Nat} {o : O} {c : Nat} (hc : c ≤ maxLen) : (m.addRow p c).caps.length = (h.pushRow o).nc ∧ ∀ x ∈ (m.addRow p c).caps, x ≤ maxLen :=
  ⟨by simp [M.addRow, H.pushRow, hr.nc.1], fun x hx => by rcases List.mem_append.1 hx with h1 | h1; exact hr.nc.2 x h1; rw [List.mem_singleton.1 h1]; exact hc⟩
/-- A new row, its room drawn. -/
theorem Rel.pushRow (hr : Rel m h w) {o : O} {n c : Nat} {ob : Obj} (hc : c ≤ maxLen) (ho : OC (m.addRow (w.heap.size, n) c) (w.drew.alloc ob) (w.heap.size, n) o) :
    Rel (m.addRow (w.heap.size, n) c) (h.pushRow o) (w.drew.alloc ob) ∧ Tr m h w (m.addRow (w.heap.size, n) c) (h.pushRow o) (w.drew.alloc ob) := by
  obtain ⟨a, b⟩ := pushed (w' := w.drew.alloc ob) hr (m' := m.addRow (w.heap.size, n) c) (h' := h.pushRow o) (o := o) (p := (w.heap.size, n)) rfl (M.le_addRow _ _ _) rfl (addRow_nc hr hc) (fun b => H.get_pushRow h b o) (.inl (Nat.le_refl _)) (fun k hk _ => heap_alloc_old w.drew ob hk) ho
  exact ⟨a, M.le_addRow _ _ _, rfl, rfl, rfl, by simp, fun k hk _ => heap_alloc_old w.drew ob hk, fun k hk => (b k hk).imp id (fun e => by omega)⟩
/-- A block is forgotten. -/
theorem Rel.drop (hr : Rel m h w) (b : Nat) : Rel m (h.drop b) w ∧ Tr m h w m (h.drop b) w := by
  have key : ∀ {b1 : Nat} {o : O}, (h.drop b).get b1 = some o → h.get b1 = some o := by
    intro b1 o hg
    rw [H.get_drop] at hg
    split at hg
    · cases hg
    · exact hg
  exact ⟨⟨by simp [hr.next], by simpa using hr.nc, fun hg => hr.obj (key hg), fun h1 h2 => hr.inj (key h1) (key h2)⟩,
    .refl _, rfl, rfl, rfl, Nat.le_refl _, fun _ _ _ => rfl, fun k ⟨b1, o, p, hg, hp, e⟩ => .inl ⟨b1, o, p, key hg, hp, e⟩⟩
theorem Rel.drew (hr : Rel m h w) : Rel m h w.drew ∧ Tr m h w m h w.drew :=
  ⟨⟨hr.next, hr.nc, fun hg => let ⟨p, hp, ho⟩ := hr.obj hg; ⟨p, hp, ho.mono (.refl _) rfl⟩, hr.inj⟩, .refl _, rfl, rfl, rfl, Nat.le_refl _, fun _ _ _ => rfl, fun _ hk => .inl hk⟩

/-! ### temporaries -/
structure TmR (m : M) (tm : TM) (a : Act) : Prop where
  size : a.tmps.size = tm.size
  defers : a.defers = []
  get : ∀ {t : Nat} {v : V}, getTm tm t = some v → ∃ x, a.tmps[t]? = some x ∧ conc m v = some x
theorem Ts.get_nil (i : Nat) (d : Option V) : Ts.nil.get i d = d := rfl
theorem Ts.get_cons (j : Nat) (v : V) (r : Ts) (i : Nat) (d : Option V) : (Ts.cons j v r).get i d = if j = i then some v else r.get i d := by
  show sel (Nat.beq j i) (some v) (r.get i d) = _
  rw [sel_ite]; simp
theorem Ts.get_put (l : Ts) (i : Nat) (w : V) (j : Nat) : (l.put i w).get j none = if i = j then some w else l.get j none := by
  induction l with
  | nil => show (Ts.cons i w .nil).get j none = _; rw [Ts.get_cons]
  | cons k v r ih =>
    show (sel (Nat.beq k i) (Ts.cons i w r) (Ts.cons k v (r.put i w))).get j none = _
    by_cases hk : k = i
    · subst hk
      rw [Nat.beq_refl, sel_true, Ts.get_cons, Ts.get_cons]
      by_cases hj : k = j <;> simp [hj]
    · rw [show Nat.beq k i = false from Bool.eq_false_iff.2 fun e => hk (Nat.eq_of_beq_eq_true e), sel_false, Ts.get_cons, Ts.get_cons, ih]
      by_cases hj : k = j
      · subst hj; simp [Ne.symm hk]
      · simp [hj]
theorem getTm_mk (mk n : Nat) (vs ts : Ts) (t : Nat) : getTm ⟨mk, n, vs, ts⟩ t = if isVar mk t then vs.get t none else ts.get t none := by
  show sel (isVar mk t) _ _ = _
  rw [sel_ite]
theorem put_mk (mk n : Nat) (vs ts : Ts) (t : Nat) (v : V) : TM.put ⟨mk, n, vs, ts⟩ t v = if t < n then (if isVar mk t then ⟨mk, n, vs.put t v, ts⟩ else ⟨mk, n, vs, .cons t v ts⟩) else ⟨mk, n, .nil, .nil⟩ := by
  show sel (Nat.blt t n) (sel (isVar mk t) _ _) _ = _
  rw [sel_ite, sel_ite]
  simp
theorem TM.size_put (tm : TM) (t : Nat) (v : V) : (tm.put t v).size = tm.size := by
  cases tm with
  | mk mk n vs ts => rw [put_mk]; split <;> (try split) <;> rfl
theorem TmR.put {tm : TM} {a : Act} (ht : TmR m tm a) {v : V} {x : Value} (hv : conc m v = some x) (d : Nat) : TmR m (tm.put d v) (a.put (some d) x) := by
  refine ⟨?_, ht.defers, fun {t u} hg => ?_⟩
  · rw [TM.size_put]; simp [Act.put, ht.size]
  · have hsz := ht.size
    have hget := @ht.get
    cases tm with
    | mk mk n vs ts =>
      simp only at hsz
      rw [put_mk] at hg
      split at hg
      · rename_i hd
        have hold : d ≠ t → getTm ⟨mk, n, vs, ts⟩ t = some u → ∃ x', (a.put (some d) x).tmps[t]? = some x' ∧ conc m u = some x' := by
          intro hne hold
          obtain ⟨y, hy, hc⟩ := hget hold
          exact ⟨y, by simpa [Act.put, Array.getElem?_setIfInBounds_ne hne] using hy, hc⟩
        have hnew : d = t → u = v → ∃ x', (a.put (some d) x).tmps[t]? = some x' ∧ conc m u = some x' := by
          rintro rfl rfl
          exact ⟨x, by simp [Act.put, hsz, hd], hv⟩
        split at hg
        · rename_i hm
          rw [getTm_mk] at hg
          split at hg
          · rename_i hm2
            rw [Ts.get_put] at hg
            split at hg
            · exact hnew ‹_› (Option.some.inj hg).symm
            · exact hold ‹_› (by rw [getTm_mk, if_pos hm2]; exact hg)
          · rename_i hm2
            refine hold (fun e => hm2 (e ▸ hm)) (by rw [getTm_mk, if_neg hm2]; exact hg)
        · rename_i hm
          rw [getTm_mk] at hg
          split at hg
          · rename_i hm2
            refine hold (fun e => hm (e ▸ hm2)) (by rw [getTm_mk, if_pos hm2]; exact hg)
          · rename_i hm2
            rw [Ts.get_cons] at hg
            split at hg
            · exact hnew ‹_› (Option.some.inj hg).symm
            · exact hold ‹_› (by rw [getTm_mk, if_neg hm2]; exact hg)
      · rw [getTm_mk] at hg
        split at hg <;> cases hg
theorem TmR.mono {tm : TM} {a : Act} (ht : TmR m tm a) (hm : m.le m') : TmR m' tm a :=
  ⟨ht.size, ht.defers, fun hg => let ⟨x, hx, hc⟩ := ht.get hg; ⟨x, hx, conc_mono hm _ _ hc⟩⟩
theorem TmR.clear {tm : TM} {a : Act} (ht : TmR m tm a) : TmR m tm.clear a := by
  have h1 := ht.size; have h2 := ht.defers; have h3 := @ht.get
  cases tm with
  | mk mk n vs ts =>
    refine ⟨h1, h2, fun {t v} hg => h3 ?_⟩
    show getTm ⟨mk, n, vs, ts⟩ t = some v
    have hg' : getTm ⟨mk, n, vs, .nil⟩ t = some v := hg
    rw [getTm_mk] at hg' ⊢
    split at hg'
    · rename_i hm; rw [if_pos hm]; exact hg'
    · cases hg'
theorem TmR.putO {tm : TM} {a : Act} (ht : TmR m tm a) {v : V} {x : Value} (hv : conc m v = some x) (d : Option Tmp) : TmR m (putTm tm d v) (a.put d x) := by
  cases d with
  | none => exact ht
  | some d => exact ht.put hv d

/-! ### operands -/
mutual
theorem absV_conc (m : M) : ∀ (x : Value) (v : V), absV x = some v → conc m v = some x
  | .bool b, v, e => by simp [absV] at e; subst e; rfl
  | .int k n, v, e => by simp [absV] at e; subst e; rfl
  | .string s, v, e => by
    simp [absV] at e
    subst e
    have h1 : small (s.data.toList.map UInt8.toNat) = true := by
      rw [small_iff]
      intro c hc
      obtain ⟨b, _, rfl⟩ := List.mem_map.1 hc
      exact b.toNat_lt
    have h2 : bytesA (s.data.toList.map UInt8.toNat) = s := by
      simp only [bytesA, List.map_map]
      have : (UInt8.ofNat ∘ UInt8.toNat) = id := funext fun b => by simp
      rw [this]; simp
    simp [conc, h1, h2]
  | .pointer none, v, e => by simp [absV] at e; subst e; rfl
  | .pointer (some a), v, e => by simp [absV] at e
  | .slice none 0 0, v, e => by simp [absV] at e; subst e; rfl
  | .slice none 0 (_ + 1), v, e => by simp [absV] at e
  | .slice none (_ + 1) _, v, e => by simp [absV] at e
  | .slice (some _) _ _, v, e => by simp [absV] at e
  | .map none, v, e => by simp [absV] at e; subst e; rfl
  | .map (some _), v, e => by simp [absV] at e
  | .chan none, v, e => by simp [absV] at e; subst e; rfl
  | .chan (some _), v, e => by simp [absV] at e
  | .nilFunc, v, e => by simp [absV] at e; subst e; rfl
  | .nilIface, v, e => by simp [absV] at e; subst e; rfl
  | .iface t x, v, e => by
    simp only [absV, Option.map_eq_some_iff] at e
    obtain ⟨y, hy, rfl⟩ := e
    simp [conc, absV_conc m x y hy]
  | .agg l, v, e => by
    obtain ⟨l⟩ := l
    simp only [absV, Option.map_eq_some_iff] at e
    obtain ⟨y, hy, rfl⟩ := e
    simp [conc, absL_conc m l y hy]
  | .tuple l, v, e => by
    obtain ⟨l⟩ := l
    simp only [absV, Option.map_eq_some_iff] at e
    obtain ⟨y, hy, rfl⟩ := e
    simp [conc, absL_conc m l y hy]
  | .float _ _, v, e => by simp [absV] at e
  | .complex _ _ _, v, e => by simp [absV] at e
  | .func _ _ _, v, e => by simp [absV] at e
theorem absL_conc (m : M) : ∀ (x : List Value) (v : List V), absL x = some v → concL m v = some x
  | [], v, e => by simp [absL] at e; subst e; rfl
  | x :: l, v, e => by
    simp only [absL, Option.bind_eq_some_iff, Option.map_eq_some_iff] at e
    obtain ⟨y, hy, l', hl, rfl⟩ := e
    exact concL_cons.2 ⟨x, l, absV_conc m x y hy, absL_conc m l l' hl, rfl⟩
end
theorem look_conc {tm : TM} {a : Act} (ht : TmR m tm a) {x : Operand} {v : V} (h : look tm x = some v) : conc m v = some (a.eval x) := by
  cases x with
  | tmp t =>
    obtain ⟨y, hy, hc⟩ := ht.get h
    simp only [Act.eval, Array.getD_eq_getD_getElem?, hy, Option.getD_some]
    exact hc
  | const v' => exact absV_conc m _ _ h
  | global g => cases h
  | func f => obtain rfl := Option.some.inj (show some (V.fn f [] []) = some v from h); rfl
theorem lookAll_conc {tm : TM} {a : Act} (ht : TmR m tm a) {xs : List Operand} {l : List V} (h : lookAll tm xs = some l) : concL m l = some (xs.map a.eval) := by
  induction xs generalizing l with
  | nil => obtain rfl := Option.some.inj (show some [] = some l from h); rfl
  | cons x xs ih =>
    have h' : ((look tm x).bind fun v => (lookAll tm xs).map (v :: ·)) = some l := h
    simp only [Option.bind_eq_some_iff, Option.map_eq_some_iff] at h'
    obtain ⟨v, hv, l', hl, rfl⟩ := h'
    exact concL_cons.2 ⟨_, _, look_conc ht hv, ih hl, rfl⟩
end
end Go.Ev
