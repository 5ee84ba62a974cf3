/- Pieces of code one behind another, from known state to known state, to the end. Conditions: what is given beside the bodies is right. -/
import Derived.Test.YtkdihjhndebloaaGreatDoorEvCode
set_option linter.unusedSectionVars false
set_option linter.unusedVariables false
set_option linter.unusedSimpArgs false
namespace Go.Ev
open Go Go.Conc

noncomputable def mkT (l : List (Nat × O)) : T O := List.rec .e (fun p _ ih => ih.set p.1 (some p.2)) l
noncomputable def mkH (l : List (Nat × O)) (n c : Nat) : H := ⟨mkT l, n, c⟩
def sameE : List (V × V × Nat) → List (V × V × Nat) → Bool
  | [], [] => true
  | a :: l, b :: m => sameV a.1 b.1 && sameV a.2.1 b.2.1 && Nat.beq a.2.2 b.2.2 && sameE l m
  | _, _ => false
def sameO (o p : O) : Bool :=
  match o, p with
  | .cells t a, .cells u b => Nat.beq t u && sameL a b
  | .map es c, .map fs d => sameE es fs && Nat.beq c d
  | .chan n a, .chan m b => Nat.beq n m && sameL a b
  | .raw, .raw => true
  | .kept, .kept => true
  | _, _ => false
noncomputable def subH (l : List (Nat × O)) (h : H) : Bool := List.rec true (fun p _ ih => match h.get p.1 with | some o => sel (sameO p.2 o) ih false | none => false) l
noncomputable def subT (vs : Ts) (tm : TM) : Bool := Ts.rec true (fun i v _ ih => match getTm tm i with | some u => sel (sameV v u) ih false | none => false) vs
structure Sta where
  vs : Ts
  l : List (Nat × O)
  n : Nat
  c : Nat
noncomputable def Sta.h (s : Sta) : H := mkH s.l s.n s.c
noncomputable def Sta.tm (mk sz : Nat) (s : Sta) : TM := ⟨mk, sz, s.vs, .nil⟩
noncomputable def ckS (sz : Nat) (s : Sta) (tm : TM) (h : H) : Bool := sel (Nat.beq tm.size sz && Nat.beq h.next s.n && Nat.beq h.nc s.c) (sel (subT s.vs tm) (subH s.l h) false) false
noncomputable def ckR (sz : Nat) (s : Sta) (ex : Exit) (r : R) : Bool :=
  match r, ex with
  | .norm tm h, .normal => ckS sz s tm h
  | .exit i tm h, .exit j => sel (Nat.beq i j) (ckS sz s tm h) false
  | .ret tm h, .ret => ckS sz s tm h
  | _, _ => false

variable [G : Given]
omit G in
theorem mkT_get {l : List (Nat × O)} {b : Nat} {o : O} (h : (mkT l).get b = some o) : (b, o) ∈ l := by
  induction l with
  | nil => cases h
  | cons p l ih =>
    have h' : ((mkT l).set p.1 (some p.2)).get b = some o := h
    rw [T.get_set] at h'
    split at h'
    · rename_i hp
      injection h' with h'
      subst hp h'
      exact List.mem_cons_self
    · exact List.mem_cons_of_mem _ (ih h')
theorem sameE_eq : ∀ (a b : List (V × V × Nat)), sameE a b = true → a = b
  | [], [], _ => rfl
  | [], _ :: _, e => by simp [sameE] at e
  | _ :: _, [], e => by simp [sameE] at e
  | (a1, a2, a3) :: l, (b1, b2, b3) :: m, e => by
    simp [sameE] at e
    rw [sameV_eq _ _ e.1.1.1, sameV_eq _ _ e.1.1.2, e.1.2, sameE_eq _ _ e.2]
theorem sameO_eq {o p : O} (h : sameO o p = true) : o = p := by
  cases o <;> cases p <;> simp [sameO] at h <;> try rfl
  · rw [h.1, sameL_eq _ _ h.2]
  · rw [sameE_eq _ _ h.1, h.2]
  · rw [h.1, sameL_eq _ _ h.2]
theorem subH_get {l : List (Nat × O)} {h : H} (e : subH l h = true) {b : Nat} {o : O} (hm : (b, o) ∈ l) : h.get b = some o := by
  induction l with
  | nil => cases hm
  | cons p l ih =>
    have e' : (match h.get p.1 with | some o => sel (sameO p.2 o) (subH l h) false | none => false) = true := e
    split at e'
    · rename_i o' ho
      rw [sel_ite] at e'
      split at e'
      · rename_i hs
        rcases List.mem_cons.1 hm with hm | hm
        · subst hm; exact ho.trans (congrArg some (sameO_eq hs).symm)
        · exact ih e' hm
      · cases e'
    · cases e'
theorem subT_get {vs : Ts} {tm : TM} (e : subT vs tm = true) {t : Nat} {v : V} (hg : vs.get t none = some v) : getTm tm t = some v := by
  induction vs with
  | nil => cases hg
  | cons i u r ih =>
    have e' : (match getTm tm i with | some x => sel (sameV u x) (subT r tm) false | none => false) = true := e
    rw [Ts.get_cons] at hg
    split at e'
    · rename_i x hx
      rw [sel_ite] at e'
      split at e'
      · rename_i hs
        split at hg
        · rename_i hi
          injection hg with hg
          subst hi hg
          rw [hx, sameV_eq _ _ hs]
        · exact ih e' hg
      · cases e'
    · cases e'

section
variable {P : Program} {X : Ex} {E : Two} {m m' : M} {h h' : H} {w w' : World} {tm tm' : TM} {a : Act} {v : V} {r : R} {f : FuncId} {c c1 c2 : Code} {s s1 s2 : Sta} {mk sz : Nat} {ex : Exit}
/-- A heap of which less is known. -/
theorem Rel.less (hr : Rel m h w) (hs : ∀ {b : Nat} {o : O}, h'.get b = some o → h.get b = some o) (hn : h'.next = h.next) (hc : h'.nc = h.nc) : Rel m h' w ∧ Tr m h w m h' w :=
  ⟨⟨hr.next.trans hn.symm, by rw [hc]; exact hr.nc, fun hg => hr.obj (hs hg), fun h1 h2 => hr.inj (hs h1) (hs h2)⟩,
    .refl _, rfl, rfl, rfl, Nat.le_refl _, fun _ _ _ => rfl, fun k ⟨b1, o, p, hg, hp, e⟩ => .inl ⟨b1, o, p, hs hg, hp, e⟩⟩
theorem ckS_run (e : ckS sz s tm h = true) (hr : Rel m h w) (ht : TmR m tm a) : Rel m s.h w ∧ Tr m h w m s.h w ∧ TmR m (s.tm mk sz) a := by
  unfold ckS at e
  rw [sel_ite, sel_ite] at e
  split at e
  · rename_i h1
    simp only [Bool.and_eq_true] at h1
    split at e
    · rename_i h2
      obtain ⟨r1, r2⟩ := hr.less (h' := s.h) (fun {b o} hg => subH_get e (mkT_get (by rw [H.get_eq] at hg; exact hg))) (Nat.eq_of_beq_eq_true h1.1.2).symm (Nat.eq_of_beq_eq_true h1.2).symm
      refine ⟨r1, r2, ⟨ht.size.trans (Nat.eq_of_beq_eq_true h1.1.1), ht.defers, fun {t v} hg => ht.get (subT_get h2 ?_)⟩⟩
      rw [Sta.tm, getTm_mk] at hg
      split at hg
      · exact hg
      · cases hg
    · cases e
  · cases e
/-- A piece of code goes from a state to a state. -/
def To (P : Program) (mk sz : Nat) (c : Code) (ex : Exit) (s s' : Sta) : Prop := ∀ m w a, Rel m s.h w → TmR m (s.tm mk sz) a → c.wp P (fun e a' w' => e = ex ∧ ∃ m', Tr m s.h w m' s'.h w' ∧ Rel m' s'.h w' ∧ TmR m' (s'.tm mk sz) a') a w
def LoopTo (P : Program) (mk sz : Nat) (c : Code) (ex : Exit) (s s' : Sta) : Prop := ∀ m w a, Rel m s.h w → TmR m (s.tm mk sz) a → LoopWp P c (fun e a' w' => e = ex ∧ ∃ m', Tr m s.h w m' s'.h w' ∧ Rel m' s'.h w' ∧ TmR m' (s'.tm mk sz) a') a w
theorem to_of_ck (hE : EvOk P X E) (hok : okC X f c = true) (e : ckR sz s1 ex (E.code f c (s.tm mk sz) s.h) = true) : To P mk sz c ex s s1 := by
  intro m w a hr ht
  cases hr1 : E.code f c (s.tm mk sz) s.h with
  | fail => rw [hr1] at e; cases ex <;> cases e
  | norm tm' h' =>
    rw [hr1] at e
    cases ex <;> try (cases e; done)
    refine wp_mono (hE.code f c _ _ _ hok hr1 (by simp) m w a hr ht) fun ex a' w' ho => ?_
    cases ex <;> first | exact ho.elim | skip
    obtain ⟨m', t1, r1, m1⟩ := ho
    obtain ⟨x1, x2, x3⟩ := ckS_run (mk := mk) e r1 m1
    exact ⟨rfl, m', t1.trans x2, x1, x3⟩
  | exit id tm' h' =>
    rw [hr1] at e
    cases ex <;> try (cases e; done)
    rename_i j
    have e' : sel (Nat.beq id j) (ckS sz s1 tm' h') false = true := e
    rw [sel_ite] at e'
    split at e'
    · rename_i hij
      refine wp_mono (hE.code f c _ _ _ hok hr1 (by simp) m w a hr ht) fun ex a' w' ho => ?_
      cases ex <;> first | exact ho.elim | skip
      obtain ⟨hid, m', t1, r1, m1⟩ := ho
      obtain ⟨x1, x2, x3⟩ := ckS_run (mk := mk) e' r1 m1
      exact ⟨by rw [hid, Nat.eq_of_beq_eq_true hij], m', t1.trans x2, x1, x3⟩
    · cases e'
  | ret tm' h' =>
    rw [hr1] at e
    cases ex <;> try (cases e; done)
    refine wp_mono (hE.code f c _ _ _ hok hr1 (by simp) m w a hr ht) fun ex a' w' ho => ?_
    cases ex <;> first | exact ho.elim | skip
    obtain ⟨m', t1, r1, m1⟩ := ho
    obtain ⟨x1, x2, x3⟩ := ckS_run (mk := mk) e r1 m1
    exact ⟨rfl, m', t1.trans x2, x1, x3⟩
theorem To.seq (h1 : To P mk sz c1 .normal s s1) (h2 : To P mk sz c2 ex s1 s2) : To P mk sz (.seq c1 c2) ex s s2 := by
  intro m w a hr ht
  refine wp_seq (wp_mono (h1 m w a hr ht) ?_)
  rintro e a' w' ⟨rfl, m', t1, r1, m1⟩
  refine wp_mono (h2 m' w' a' r1 m1) ?_
  rintro e a2 w2 ⟨rfl, m2, t2, r2, m2'⟩
  exact ⟨rfl, m2, t1.trans t2, r2, m2'⟩
theorem To.seq_exit {i : Nat} (h1 : To P mk sz c1 (.exit i) s s2) : To P mk sz (.seq c1 c2) (.exit i) s s2 := by
  intro m w a hr ht
  refine wp_seq (wp_mono (h1 m w a hr ht) ?_)
  rintro e a' w' ⟨rfl, h⟩
  exact ⟨rfl, h⟩
theorem LoopTo.more (h1 : To P mk sz c .normal s s1) (h2 : LoopTo P mk sz c ex s1 s2) : LoopTo P mk sz c ex s s2 := by
  intro m w a hr ht
  refine loop_round (wp_mono (h1 m w a hr ht) ?_)
  rintro e a' w' ⟨rfl, m', t1, r1, m1⟩
  intro b k cs
  obtain ⟨e, a2, w2, ⟨he, m2, t2, r2, m2'⟩, ar⟩ := h2 m' w' a' r1 m1 b k cs
  exact ⟨e, a2, w2, ⟨he, m2, t1.trans t2, r2, m2'⟩, ar⟩
theorem LoopTo.last {i : Nat} (h1 : To P mk sz c (.exit i) s s1) : LoopTo P mk sz c (.exit i) s s1 := by
  intro m w a hr ht
  refine loop_round (wp_mono (h1 m w a hr ht) ?_)
  rintro e a' w' ⟨rfl, h⟩
  exact ⟨rfl, h⟩
theorem To.block {i : Nat} (h1 : LoopTo P mk sz c (.exit i) s s1) : To P mk sz (.block i (.loop c)) .normal s s1 := by
  intro m w a hr ht
  refine wp_block (wp_mono (wp_loop_of (h1 m w a hr ht)) ?_)
  rintro e a' w' ⟨rfl, h⟩
  show Exit.inBlock i _ (.exit i) a' w'
  simp only [Exit.inBlock, if_pos]
  exact ⟨by first | rfl | trivial, h⟩
end
end Go.Ev
namespace Go.Ev
open Go Go.Conc

/-- A value under other names: the new one, the old one. -/
noncomputable def renV (σ τ : List Nat) (v u : V) : Bool :=
  match v, u with
  | .bool a, .bool b => a == b
  | .int k a, .int j b => decide (k = j) && a == b
  | .str a, .str b => a == b
  | .ptr a o, .ptr b p => (nthN σ a == some b) && Nat.beq o p
  | .pnil, .pnil => true
  | .snil, .snil => true
  | .inil, .inil => true
  | .raw a, .raw b => Nat.beq a b
  | .sl a o n (.un u d z), .sl b o' n' (.un u' d' z') => (nthN σ a == some b) && (nthN τ u == some u') && Nat.beq o o' && Nat.beq n n' && Nat.beq d d' && Nat.beq z z'
  | .sl a o n (.ex c), .sl b o' n' (.ex c') => (nthN σ a == some b) && Nat.beq o o' && Nat.beq n n' && Nat.beq c c'
  | .sun a o p u d, .sun b o' p' u' d' => (nthN σ a == some b) && (nthN τ u == some u') && Nat.beq o o' && Nat.beq p p' && Nat.beq d d'
  | _, _ => false
noncomputable def renL (σ τ : List Nat) (a : List V) : List V → Bool :=
  List.rec (motive := fun _ => List V → Bool) (fun _ => true) (fun v _ ih b => match b with | u :: m => sel (renV σ τ v u) (ih m) false | [] => false) a
noncomputable def renO (σ τ : List Nat) (o p : O) : Bool :=
  match o, p with
  | .cells t a, .cells u b => Nat.beq t u && (!cutT t) && renL σ τ a b
  | .raw, .raw => true
  | .kept, .kept => true
  | _, _ => false
noncomputable def renH (σ τ : List Nat) (l : List (Nat × O)) (h : H) : Bool :=
  List.rec true (fun p _ ih => match (nthN σ p.1).bind fun b => h.get b with | some o => sel (renO σ τ p.2 o) ih false | none => false) l
noncomputable def renT (σ τ : List Nat) (vs : Ts) (tm : TM) : Bool := Ts.rec true (fun i v _ ih => match getTm tm i with | some u => sel (renV σ τ v u) ih false | none => false) vs
noncomputable def ckN (sz : Nat) (s : Sta) (σ τ : List Nat) (r : R) : Bool :=
  match r with
  | .norm tm h => sel (Nat.beq tm.size sz && Nat.beq (lenN σ) s.n && Nat.beq (lenN τ) s.c && decide σ.Nodup) (sel (renT σ τ s.vs tm) (renH σ τ s.l h) false) false
  | _ => false

variable [G : Given]
section
variable {P : Program} {X : Ex} {E : Two} {m m' : M} {h h' : H} {w w' : World} {tm tm' : TM} {a : Act} {v u : V} {r : R} {f : FuncId} {c c1 c2 : Code} {s s1 s2 : Sta} {mk sz : Nat} {ex : Exit} {σ τ : List Nat}
def M.ren (m : M) (σ τ : List Nat) : M := ⟨σ.map fun b => (m.blk[b]?).getD (0, 0), τ.map fun u => (m.caps[u]?).getD 0⟩
omit G in
theorem ren_blk {b b' : Nat} {p : Nat × Nat} (h1 : (nthN σ b == some b') = true) (h2 : m.blk[b']? = some p) : (m.ren σ τ).blk[b]? = some p := by
  have h1 : σ[b]? = some b' := by simpa using h1
  simp [M.ren, h1, h2]
omit G in
theorem ren_cap {b b' c : Nat} (h1 : (nthN τ b == some b') = true) (h2 : m.caps[b']? = some c) : (m.ren σ τ).caps[b]? = some c := by
  have h1 : τ[b]? = some b' := by simpa using h1
  simp [M.ren, h1, h2]
theorem renV_conc {x : Value} (e : renV σ τ v u = true) (hc : conc m u = some x) : conc (m.ren σ τ) v = some x := by
  unfold renV at e
  split at e <;> try (cases e; done)
  · simp at e; subst e; simpa [conc] using hc
  · simp at e; obtain ⟨rfl, rfl⟩ := e; simpa [conc] using hc
  · simp at e; subst e; simpa [conc] using hc
  · rename_i a o b p
    simp only [Bool.and_eq_true] at e
    obtain ⟨e1, e2⟩ := e
    obtain rfl : o = p := Nat.eq_of_beq_eq_true e2
    simp only [conc, Option.map_eq_some_iff] at hc ⊢
    obtain ⟨q, hq, rfl⟩ := hc
    exact ⟨q, ren_blk e1 hq, rfl⟩
  · simpa [conc] using hc
  · simpa [conc] using hc
  · simpa [conc] using hc
  · obtain rfl := Nat.eq_of_beq_eq_true e; simpa [conc] using hc
  · rename_i a o n u d z b o' n' u' d' z'
    simp only [Bool.and_eq_true] at e
    obtain ⟨⟨⟨⟨⟨e1, e2⟩, e3⟩, e4⟩, e5⟩, e6⟩ := e
    obtain rfl := Nat.eq_of_beq_eq_true e3
    obtain rfl := Nat.eq_of_beq_eq_true e4
    obtain rfl := Nat.eq_of_beq_eq_true e5
    obtain rfl := Nat.eq_of_beq_eq_true e6
    simp only [conc, Option.bind_eq_some_iff] at hc ⊢
    obtain ⟨q, hq, c, hcc, hi⟩ := hc
    exact ⟨q, ren_blk e1 hq, c, ren_cap e2 hcc, hi⟩
  · rename_i a o n c b o' n' c'
    simp only [Bool.and_eq_true] at e
    obtain ⟨⟨⟨e1, e3⟩, e4⟩, e5⟩ := e
    obtain rfl := Nat.eq_of_beq_eq_true e3
    obtain rfl := Nat.eq_of_beq_eq_true e4
    obtain rfl := Nat.eq_of_beq_eq_true e5
    simp only [conc, Option.bind_eq_some_iff] at hc ⊢
    obtain ⟨q, hq, hi⟩ := hc
    exact ⟨q, ren_blk e1 hq, hi⟩
  · rename_i a o n u d b o' n' u' d'
    simp only [Bool.and_eq_true] at e
    obtain ⟨⟨⟨⟨e1, e2⟩, e3⟩, e4⟩, e5⟩ := e
    obtain rfl := Nat.eq_of_beq_eq_true e3
    obtain rfl := Nat.eq_of_beq_eq_true e4
    obtain rfl := Nat.eq_of_beq_eq_true e5
    simp only [conc, Option.bind_eq_some_iff] at hc ⊢
    obtain ⟨q, hq, c, hcc, hi⟩ := hc
    exact ⟨q, ren_blk e1 hq, c, ren_cap e2 hcc, hi⟩
omit G in
theorem renV_one (e : renV σ τ v u = true) : v.one = true := by
  unfold renV at e
  split at e <;> first | rfl | (cases e; done)
theorem renL_conc {a b : List V} {x : List Value} (e : renL σ τ a b = true) (hc : concL m b = some x) : allOne a = true ∧ concL (m.ren σ τ) a = some (x.take a.length) := by
  induction a generalizing b x with
  | nil => exact ⟨rfl, rfl⟩
  | cons v a ih =>
    cases b with
    | nil => cases e
    | cons u b =>
      have e' : sel (renV σ τ v u) (renL σ τ a b) false = true := e
      rw [sel_ite] at e'
      split at e'
      · rename_i h1
        obtain ⟨y, l', hy, hl, rfl⟩ := concL_cons.1 hc
        obtain ⟨h2, h3⟩ := ih e' hl
        exact ⟨allOne_cons.2 ⟨renV_one h1, h2⟩, concL_cons.2 ⟨y, _, renV_conc h1 hy, h3, rfl⟩⟩
      · cases e'
theorem renO_run {p : Nat × Nat} {o o' : O} (e : renO σ τ o' o = true) (ho : OC m w p o) : OC (m.ren σ τ) w p o' := by
  unfold renO at e
  split at e <;> try (cases e; done)
  · rename_i t a u b
    simp only [Bool.and_eq_true] at e
    obtain ⟨⟨e1, e2⟩, e3⟩ := e
    obtain rfl := Nat.eq_of_beq_eq_true e1
    obtain ⟨_, c, rest, hc, hw, hl, _⟩ := ho
    obtain ⟨h1, h2⟩ := renL_conc e3 hc
    refine ⟨h1, c.take a.length, c.drop a.length ++ rest, h2, ?_, ?_, fun ht => by simp [ht] at e2⟩
    · rw [← List.append_assoc, List.take_append_drop]; exact hw
    · simp only [List.length_take, List.length_append, List.length_drop]; omega
  · exact ho
  · exact ho
omit G in
theorem renH_get {l : List (Nat × O)} (e : renH σ τ l h = true) {b : Nat} {o : O} (hm : (b, o) ∈ l) : ∃ b' o', σ[b]? = some b' ∧ h.get b' = some o' ∧ renO σ τ o o' = true := by
  induction l with
  | nil => cases hm
  | cons p l ih =>
    have e' : (match (nthN σ p.1).bind fun b => h.get b with | some o => sel (renO σ τ p.2 o) (renH σ τ l h) false | none => false) = true := e
    split at e'
    · rename_i o' ho
      rw [sel_ite] at e'
      split at e'
      · rename_i hs
        rcases List.mem_cons.1 hm with hm | hm
        · subst hm
          simp only [nthN_eq, Option.bind_eq_some_iff] at ho
          obtain ⟨b', h1, h2⟩ := ho
          exact ⟨b', o', h1, h2, hs⟩
        · exact ih e' hm
      · cases e'
    · cases e'
theorem renT_get {vs : Ts} {tm : TM} (e : renT σ τ vs tm = true) {t : Nat} {v : V} (hg : vs.get t none = some v) : ∃ u, getTm tm t = some u ∧ renV σ τ v u = true := by
  induction vs with
  | nil => cases hg
  | cons i u r ih =>
    have e' : (match getTm tm i with | some x => sel (renV σ τ u x) (renT σ τ r tm) false | none => false) = true := e
    rw [Ts.get_cons] at hg
    split at e'
    · rename_i x hx
      rw [sel_ite] at e'
      split at e'
      · rename_i hs
        split at hg
        · rename_i hi
          injection hg with hg
          subst hi hg
          exact ⟨x, hx, hs⟩
        · exact ih e' hg
      · cases e'
    · cases e'
/-- What is told of the end: true is returned, what is given stays. -/
structure FinW (m : M) (h : H) (w : World) (a' : Act) (w' : World) : Prop where
  res : a'.tmps[6]? = some (.bool true)
  defers : a'.defers = []
  os : w'.os = w.os
  tape : w'.tape = w.tape
  output : w'.output = w.output
  size : w.heap.size ≤ w'.heap.size
  block : ∀ k, k < w.heap.size → ¬ live m h k → w'.heap[k]? = w.heap[k]?
  raw : w'.heap[G.blk]? = some G.obj
  kept : w'.heap[G.kblk]? = some G.kobj
  sub : ∀ k, live m h k → k < w.heap.size
def Fin (P : Program) (mk sz : Nat) (c : Code) (s : Sta) : Prop := ∀ m w a, Rel m s.h w → TmR m (s.tm mk sz) a → c.wp P (fun e a' w' => e = .ret ∧ FinW m s.h w a' w') a w
theorem fin_of_to (h1 : To P mk sz c .ret s s1) (ht : getTm (s1.tm mk sz) 6 = some (.bool true)) (hr : ∃ b, s1.h.get b = some .raw) (hk : ∃ b, s1.h.get b = some .kept) : Fin P mk sz c s := by
  intro m w a hr0 ht0
  refine wp_mono (h1 m w a hr0 ht0) ?_
  rintro e a' w' ⟨rfl, m', t1, r1, m1⟩
  obtain ⟨b, hb⟩ := hr
  obtain ⟨k, hk⟩ := hk
  obtain ⟨p, hp, o1, o2⟩ := r1.obj hb
  obtain ⟨q, hq, q1, q2⟩ := r1.obj hk
  obtain ⟨x, hx, hc⟩ := m1.get ht
  simp only [conc, Option.some.injEq] at hc
  subst hc
  exact ⟨rfl, hx, m1.defers, t1.os, t1.tape, t1.output, t1.size, t1.block, o1 ▸ o2, q1 ▸ q2, fun k => hr0.live_lt⟩
theorem FinW.trans (t : Tr m h w m' h' w') (hl : ∀ k, live m h k → k < w.heap.size) {a' : Act} {w2 : World} (f : FinW m' h' w' a' w2) : FinW m h w a' w2 :=
  ⟨f.res, f.defers, f.os.trans t.os, f.tape.trans t.tape, f.output.trans t.output, Nat.le_trans t.size f.size,
    fun k hk hn => (f.block k (Nat.lt_of_lt_of_le hk t.size) fun hl => by rcases t.sub k hl with h1 | h1; exact hn h1; omega).trans (t.block k hk hn), f.raw, f.kept, hl⟩
theorem To.fin (h1 : To P mk sz c1 .normal s s1) (h2 : Fin P mk sz c2 s1) : Fin P mk sz (.seq c1 c2) s := by
  intro m w a hr ht
  refine wp_seq (wp_mono (h1 m w a hr ht) ?_)
  rintro e a' w' ⟨rfl, m', t1, r1, m1⟩
  refine wp_mono (h2 m' w' a' r1 m1) ?_
  rintro e a2 w2 ⟨rfl, f⟩
  exact ⟨rfl, f.trans t1 fun k => hr.live_lt⟩
theorem ren_run (e : ckN sz s1 σ τ (.norm tm h) = true) (hr : Rel m h w) (ht : TmR m tm a) :
    Rel (m.ren σ τ) s1.h w ∧ TmR (m.ren σ τ) (s1.tm mk sz) a ∧ ∀ k, live (m.ren σ τ) s1.h k → live m h k := by
  have e' : sel (Nat.beq tm.size sz && Nat.beq (lenN σ) s1.n && Nat.beq (lenN τ) s1.c && decide σ.Nodup) (sel (renT σ τ s1.vs tm) (renH σ τ s1.l h) false) false = true := e
  rw [sel_ite, sel_ite] at e'
  split at e' <;> try (cases e'; done)
  rename_i h1
  split at e' <;> try (cases e'; done)
  rename_i h2
  simp only [Bool.and_eq_true, decide_eq_true_eq, lenN_eq] at h1
  obtain ⟨⟨⟨z1, z2⟩, z3⟩, z4⟩ := h1
  have z1 := Nat.eq_of_beq_eq_true z1
  have z2 := Nat.eq_of_beq_eq_true z2
  have z3 := Nat.eq_of_beq_eq_true z3
  have key : ∀ {b : Nat} {o : O}, s1.h.get b = some o → ∃ b' o' p, σ[b]? = some b' ∧ h.get b' = some o' ∧ renO σ τ o o' = true ∧ m.blk[b']? = some p ∧ OC m w p o' ∧ (m.ren σ τ).blk[b]? = some p := by
    intro b o hg
    obtain ⟨b', o', x1, x2, x3⟩ := renH_get e' (mkT_get (by rw [H.get_eq] at hg; exact hg))
    obtain ⟨p, hp, ho⟩ := hr.obj x2
    exact ⟨b', o', p, x1, x2, x3, hp, ho, ren_blk (by simpa using x1) hp⟩
  refine ⟨⟨?_, ⟨?_, ?_⟩, ?_, ?_⟩, ⟨?_, ht.defers, ?_⟩, ?_⟩
  · show (m.ren σ τ).blk.length = s1.n; simp [M.ren, z2]
  · show (m.ren σ τ).caps.length = s1.c; simp [M.ren, z3]
  · intro c hc
    simp only [M.ren, List.mem_map] at hc
    obtain ⟨u, _, rfl⟩ := hc
    cases hcu : m.caps[u]? with
    | none => simp
    | some y => simpa using hr.nc.2 y (List.mem_of_getElem? hcu)
  · intro b o hg
    obtain ⟨b', o', p, x1, x2, x3, hp, ho, hp'⟩ := key hg
    exact ⟨p, hp', renO_run x3 ho⟩
  · intro b1 b2 o1 o2 p1 p2 g1 g2 q1 q2 hq
    obtain ⟨b1', _, p1', x1, x2, _, hp1, _, hp1'⟩ := key g1
    obtain ⟨b2', _, p2', y1, y2, _, hp2, _, hp2'⟩ := key g2
    rw [hp1'] at q1; obtain rfl := Option.some.inj q1
    rw [hp2'] at q2; obtain rfl := Option.some.inj q2
    obtain rfl := hr.inj x2 y2 hp1 hp2 hq
    obtain ⟨i1, j1⟩ := List.getElem?_eq_some_iff.1 x1
    obtain ⟨i2, j2⟩ := List.getElem?_eq_some_iff.1 y1
    exact (List.getElem_inj z4).1 (j1.trans j2.symm)
  · exact ht.size.trans z1
  · intro t v hg
    have hg' : s1.vs.get t none = some v := by
      rw [Sta.tm, getTm_mk] at hg
      split at hg
      · exact hg
      · cases hg
    obtain ⟨u, hu, hv⟩ := renT_get h2 hg'
    obtain ⟨x, hx, hc⟩ := ht.get hu
    exact ⟨x, hx, renV_conc hv hc⟩
  · rintro k ⟨b, o, p, hg, hp, rfl⟩
    obtain ⟨b', o', p', x1, x2, x3, hp1, ho, hp'⟩ := key hg
    rw [hp'] at hp
    obtain rfl := Option.some.inj hp
    exact ⟨b', o', _, x2, hp1, rfl⟩
/-- A piece of code, then the end, from a state under other names. -/
theorem fin_ren (hE : EvOk P X E) (hok : okC X f c1 = true) (e : ckN sz s1 σ τ (E.code f c1 (s.tm mk sz) s.h) = true) (h2 : Fin P mk sz c2 s1) : Fin P mk sz (.seq c1 c2) s := by
  intro m w a hr ht
  cases hr1 : E.code f c1 (s.tm mk sz) s.h with
  | fail => rw [hr1] at e; cases e
  | exit i tm' h' => rw [hr1] at e; cases e
  | ret tm' h' => rw [hr1] at e; cases e
  | norm tm' h' =>
    rw [hr1] at e
    refine wp_seq (wp_mono (hE.code f c1 _ _ _ hok hr1 (by simp) m w a hr ht) fun ex a' w' ho => ?_)
    cases ex <;> first | exact ho.elim | skip
    obtain ⟨m', t1, r1, m1⟩ := ho
    obtain ⟨x1, x2, x3⟩ := ren_run (mk := mk) e r1 m1
    refine wp_mono (h2 _ w' a' x1 x2) ?_
    rintro e a2 w2 ⟨rfl, f⟩
    refine ⟨rfl, FinW.trans t1 (fun k => hr.live_lt) ⟨f.res, f.defers, f.os, f.tape, f.output, f.size, fun k hk hn => f.block k hk fun hl => hn (x3 k hl), f.raw, f.kept, fun k => r1.live_lt⟩⟩
end
end Go.Ev
