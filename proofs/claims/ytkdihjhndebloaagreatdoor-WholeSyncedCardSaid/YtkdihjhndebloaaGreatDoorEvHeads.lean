/- Pieces of the law's body that look at what is given. Conditions: what is given is what the law was called with. -/
import Derived.Test.YtkdihjhndebloaaGreatDoorEvRight
import Derived.Test.YtkdihjhndebloaaGreatDoorEvTo
set_option linter.unusedSectionVars false
set_option linter.unusedVariables false
set_option linter.unusedSimpArgs false
namespace Go.Ev
open Go Go.Conc Go.RowKit Go.Proofs Go.Proofs.YtkdihjhndebloaaGreatDoor Go.Proofs.Tryz
noncomputable def rTm (r : R) : TM := match r with | .norm t _ => t | .exit _ t _ => t | .ret t _ => t | .fail => ⟨0, 0, .nil, .nil⟩
variable [G : Given]
section
variable {P : Program} {X : Ex} {E : Two} {m m' : M} {h h' : H} {w w' : World} {tm tm' : TM} {a : Act} {v : V} {r : R} {f : FuncId} {c c1 c2 : Code} {s s1 s2 : Sta} {mk sz : Nat} {ex : Exit}
/-- Each of these variables holds what stands for as much. -/
def okTs (tm : TM) : Ts → Prop
  | .nil => True
  | .cons i v r => (∃ u, getTm tm i = some u ∧ ∀ m x, conc m u = some x → conc m v = some x) ∧ okTs tm r
theorem okTs_get {vs : Ts} (h : okTs tm vs) {t : Nat} {v : V} (hg : vs.get t none = some v) : ∃ u, getTm tm t = some u ∧ ∀ m x, conc m u = some x → conc m v = some x := by
  induction vs with
  | nil => cases hg
  | cons i u r ih =>
    rw [Ts.get_cons] at hg
    split at hg
    · rename_i hi
      injection hg with hg
      subst hi hg
      exact h.1
    · exact ih h.2 hg
theorem TmR.conv {vs : Ts} (ht : TmR m tm a) (hs : tm.size = sz) (h : okTs tm vs) : TmR m ⟨mk, sz, vs, .nil⟩ a := by
  refine ⟨ht.size.trans hs, ht.defers, fun {t v} hg => ?_⟩
  rw [getTm_mk] at hg
  split at hg
  · obtain ⟨u, hu, hc⟩ := okTs_get h hg
    obtain ⟨x, hx, hcx⟩ := ht.get hu
    exact ⟨x, hx, hc m x hcx⟩
  · cases hg
/-- A piece of code that leaves the heap as it is. -/
theorem to_quiet (hE : EvOk P X E) (hok : okC X f c = true) (vsIn : Ts) (hl : s1.l = s.l) (hn : s1.n = s.n) (hc : s1.c = s.c) (hin : okTs (s.tm mk sz) vsIn)
    (hr : E.code f c ⟨mk, sz, vsIn, .nil⟩ s.h = r) (hx : (r = .norm (rTm r) s.h ∧ ex = .normal) ∨ ∃ i, r = .exit i (rTm r) s.h ∧ ex = .exit i) (hsz : (rTm r).size = sz) (hout : okTs (rTm r) s1.vs) : To P mk sz c ex s s1 := by
  intro m w a hr0 ht0
  have hh : s1.h = s.h := by unfold Sta.h; rw [hl, hn, hc]
  have h1 := TmR.conv (mk := mk) ht0 (sz := sz) rfl hin
  rcases hx with ⟨hx, rfl⟩ | ⟨i, hx, rfl⟩
  · refine wp_mono (hE.code f c _ _ _ hok (hr.trans hx) (by simp) m w a hr0 h1) fun e a' w' ho => ?_
    cases e <;> first | exact ho.elim | skip
    obtain ⟨m', t1, r1, m1⟩ := ho
    exact ⟨rfl, m', hh ▸ t1, hh ▸ r1, m1.conv hsz hout⟩
  · refine wp_mono (hE.code f c _ _ _ hok (hr.trans hx) (by simp) m w a hr0 h1) fun e a' w' ho => ?_
    cases e <;> first | exact ho.elim | skip
    obtain ⟨rfl, m', t1, r1, m1⟩ := ho
    exact ⟨rfl, m', hh ▸ t1, hh ▸ r1, m1.conv hsz hout⟩
end
end Go.Ev
namespace Go.Ev
open Go Go.Conc Go.RowKit Go.Proofs Go.Proofs.YtkdihjhndebloaaGreatDoor Go.Proofs.Tryz
noncomputable def B3 : Code := bodyOf 3
noncomputable def at3 (i : Nat) : Code := sq1 (sqn i B3)
noncomputable def LB1 : Code := inn (inn (sq2 (at3 7)))
noncomputable def LB2 : Code := inn (inn (sq2 (at3 11)))
noncomputable def opsOf (c : Code) : List Oper := match c with | .region _ ops _ => ops.toList | _ => []
def pm : V := .ptr 1633 0
def vs0 : Ts := .cons 0 (.raw 0) (.cons 1 (.raw 1) (.cons 2 (.raw 2) (.cons 7 pm .nil)))
def vsB : Ts := .cons 1 (.raw 1) (.cons 2 (.raw 2) (.cons 7 pm (.cons 8 (.raw 8) .nil)))
def vs9 (i : Nat) : Ts := .cons 1 (.raw 1) (.cons 2 (.raw 2) (.cons 7 pm (.cons 8 (.raw 8) (.cons 9 (.int .i64 (.ofNat i)) .nil))))
def vsT (i : Nat) : Ts := .cons 1 (.raw 1) (.cons 2 (.raw 2) (.cons 7 pm (.cons 8 (.raw 8) (.cons 10 (.int .i64 (.ofNat i)) .nil))))
def vsE (k : Nat) : Ts := .cons 2 (.raw 2) (.cons 7 pm (.cons 8 (.int .i64 (.ofNat k)) .nil))
/-- These variables hold just this. -/
def eqTs (tm : TM) : Ts → Prop
  | .nil => True
  | .cons i v r => getTm tm i = some v ∧ eqTs tm r
/-- A run that leaves the heap as it is. -/
structure Quiet (r : R) (h : H) (ex : Exit) (vs : Ts) : Prop where
  out : (r = .norm (rTm r) h ∧ ex = .normal) ∨ ∃ i, r = .exit i (rTm r) h ∧ ex = .exit i
  size : (rTm r).size = 115
  get : eqTs (rTm r) vs
def vs9k (k i : Nat) : Ts := .cons 1 (.raw 1) (.cons 2 (.raw 2) (.cons 7 pm (.cons 8 (.int .i64 (.ofNat k)) (.cons 9 (.int .i64 (.ofNat i)) .nil))))
def vsBk (k : Nat) : Ts := .cons 1 (.raw 1) (.cons 2 (.raw 2) (.cons 7 pm (.cons 8 (.int .i64 (.ofNat k)) .nil)))
def vs0x (x : Nat) : Ts := .cons 0 (.int .u8 (.ofNat x)) (.cons 1 (.raw 1) (.cons 2 (.raw 2) (.cons 7 pm .nil)))
def vsS (x i : Nat) : Ts := .cons 1 (.int .u8 (.ofNat x)) (.cons 2 (.raw 2) (.cons 7 pm (.cons 8 (.raw 8) (.cons 10 (.int .i64 (.ofNat i)) .nil))))
noncomputable def run3 (c : Code) (vs : Ts) (h : H) : R := (ev prog X0 4000).code 3 c ⟨mk3, 115, vs, .nil⟩ h
variable [G : Given]
section
variable {l : List (Nat × O)} {n c : Nat} {cd : Code} {vs vsIn vsO vs' : Ts} {tm : TM} {ex : Exit}
theorem ok_same {i : Nat} {v : V} {r : Ts} (h : getTm tm i = some v) (h2 : okTs tm r) : okTs tm (.cons i v r) := ⟨⟨v, h, fun _ _ h => h⟩, h2⟩
theorem ok_to {i j : Nat} {v : V} {r : Ts} {x : Value} (h : getTm tm i = some (.raw j)) (hv : G.val j = x) (hx : ∀ m, conc m v = some x) (h2 : okTs tm r) : okTs tm (.cons i v r) :=
  ⟨⟨_, h, fun m y hy => by simp only [conc, Option.some.injEq] at hy; rw [hx, ← hy, hv]⟩, h2⟩
theorem ok_of {i j : Nat} {v : V} {r : Ts} {x : Value} (h : getTm tm i = some v) (hv : G.val j = x) (hx : ∀ m, conc m v = some x) (h2 : okTs tm r) : okTs tm (.cons i (.raw j) r) :=
  ⟨⟨_, h, fun m y hy => by rw [hx] at hy; simp only [conc, hv]; exact hy⟩, h2⟩
theorem q_run (hE : EvOk prog X0 (ev prog X0 4000)) (hok : okC X0 3 cd = true) (hin : ∀ tm, eqTs tm vs → okTs tm vsIn) (hvs : eqTs ⟨mk3, 115, vs, .nil⟩ vs) (F : Quiet (run3 cd vsIn (mkH l n c)) (mkH l n c) ex vsO) (hout : ∀ tm, eqTs tm vsO → okTs tm vs') :
    To prog mk3 115 cd ex ⟨vs, l, n, c⟩ ⟨vs', l, n, c⟩ := by
  obtain ⟨h1, h2, h3⟩ := F
  exact to_quiet hE hok vsIn rfl rfl rfl (hin _ hvs) (r := run3 cd vsIn (mkH l n c)) rfl h1 h2 (hout _ h3)
theorem in9 (k i : Nat) (hv : G.val 8 = .int .i64 (k : Int)) (tm : TM) (h : eqTs tm (vs9 i)) : okTs tm (vs9k k i) :=
  ok_same h.1 (ok_same h.2.1 (ok_same h.2.2.1 (ok_to (v := .int .i64 (.ofNat k)) h.2.2.2.1 hv (fun _ => rfl) (ok_same h.2.2.2.2.1 trivial))))
theorem out9 (k i : Nat) (hv : G.val 8 = .int .i64 (k : Int)) (tm : TM) (h : eqTs tm (vs9k k i)) : okTs tm (vs9 i) :=
  ok_same h.1 (ok_same h.2.1 (ok_same h.2.2.1 (ok_of (v := .int .i64 (.ofNat k)) h.2.2.2.1 hv (fun _ => rfl) (ok_same h.2.2.2.2.1 trivial))))
theorem outB (k : Nat) (hv : G.val 8 = .int .i64 (k : Int)) (tm : TM) (h : eqTs tm (vsBk k)) : okTs tm vsB :=
  ok_same h.1 (ok_same h.2.1 (ok_same h.2.2.1 (ok_of (v := .int .i64 (.ofNat k)) h.2.2.2.1 hv (fun _ => rfl) trivial)))
theorem at9 (i : Nat) : eqTs ⟨mk3, 115, vs9 i, .nil⟩ (vs9 i) := ⟨by kernel_rfl, by kernel_rfl, by kernel_rfl, by kernel_rfl, by kernel_rfl, trivial⟩
theorem atT (i : Nat) : eqTs ⟨mk3, 115, vsT i, .nil⟩ (vsT i) := ⟨by kernel_rfl, by kernel_rfl, by kernel_rfl, by kernel_rfl, by kernel_rfl, trivial⟩
theorem atB : eqTs ⟨mk3, 115, vsB, .nil⟩ vsB := ⟨by kernel_rfl, by kernel_rfl, by kernel_rfl, by kernel_rfl, trivial⟩
theorem at0 : eqTs ⟨mk3, 115, vs0, .nil⟩ vs0 := ⟨by kernel_rfl, by kernel_rfl, by kernel_rfl, by kernel_rfl, trivial⟩
/-- The head of the first loop. -/
theorem hd1_ok : okC X0 3 (sq1 LB1) = true := by kernel_rfl
theorem hd1_lt_q1 (i : Nat) (hi : i < 1) (h : H) : Quiet (run3 (sq1 LB1) (vs9k 1 i) h) h .normal (vs9k 1 i) := by
  have : i = 0 := by omega
  rcases this with rfl <;> exact ⟨.inl ⟨by kernel_rfl, rfl⟩, by kernel_rfl, by kernel_rfl, by kernel_rfl, by kernel_rfl, by kernel_rfl, by kernel_rfl, trivial⟩
theorem hd1_lt_q2 (i : Nat) (hi : i < 2) (h : H) : Quiet (run3 (sq1 LB1) (vs9k 2 i) h) h .normal (vs9k 2 i) := by
  have : i = 0 ∨ i = 1 := by omega
  rcases this with rfl | rfl <;> exact ⟨.inl ⟨by kernel_rfl, rfl⟩, by kernel_rfl, by kernel_rfl, by kernel_rfl, by kernel_rfl, by kernel_rfl, by kernel_rfl, trivial⟩
theorem hd1_lt_q3 (i : Nat) (hi : i < 3) (h : H) : Quiet (run3 (sq1 LB1) (vs9k 3 i) h) h .normal (vs9k 3 i) := by
  have : i = 0 ∨ i = 1 ∨ i = 2 := by omega
  rcases this with rfl | rfl | rfl <;> exact ⟨.inl ⟨by kernel_rfl, rfl⟩, by kernel_rfl, by kernel_rfl, by kernel_rfl, by kernel_rfl, by kernel_rfl, by kernel_rfl, trivial⟩
theorem hd1_lt_q4 (i : Nat) (hi : i < 4) (h : H) : Quiet (run3 (sq1 LB1) (vs9k 4 i) h) h .normal (vs9k 4 i) := by
  have : i = 0 ∨ i = 1 ∨ i = 2 ∨ i = 3 := by omega
  rcases this with rfl | rfl | rfl | rfl <;> exact ⟨.inl ⟨by kernel_rfl, rfl⟩, by kernel_rfl, by kernel_rfl, by kernel_rfl, by kernel_rfl, by kernel_rfl, by kernel_rfl, trivial⟩
theorem hd1_lt_q5 (i : Nat) (hi : i < 5) (h : H) : Quiet (run3 (sq1 LB1) (vs9k 5 i) h) h .normal (vs9k 5 i) := by
  have : i = 0 ∨ i = 1 ∨ i = 2 ∨ i = 3 ∨ i = 4 := by omega
  rcases this with rfl | rfl | rfl | rfl | rfl <;> exact ⟨.inl ⟨by kernel_rfl, rfl⟩, by kernel_rfl, by kernel_rfl, by kernel_rfl, by kernel_rfl, by kernel_rfl, by kernel_rfl, trivial⟩
theorem hd1_lt_q (k i : Nat) (hik : i < k) (hk : k ≤ 5) (h : H) : Quiet (run3 (sq1 LB1) (vs9k k i) h) h .normal (vs9k k i) := by
  have : k = 1 ∨ k = 2 ∨ k = 3 ∨ k = 4 ∨ k = 5 := by omega
  rcases this with rfl | rfl | rfl | rfl | rfl
  · exact hd1_lt_q1 i hik h
  · exact hd1_lt_q2 i hik h
  · exact hd1_lt_q3 i hik h
  · exact hd1_lt_q4 i hik h
  · exact hd1_lt_q5 i hik h
theorem hd1_end_q (k : Nat) (hk : k ≤ 5) (h : H) : Quiet (run3 (sq1 LB1) (vs9k k k) h) h (.exit 0) (vsBk k) := by
  have hk : k = 0 ∨ k = 1 ∨ k = 2 ∨ k = 3 ∨ k = 4 ∨ k = 5 := by omega
  rcases hk with rfl | rfl | rfl | rfl | rfl | rfl <;> exact ⟨.inr ⟨0, by kernel_rfl, rfl⟩, by kernel_rfl, by kernel_rfl, by kernel_rfl, by kernel_rfl, by kernel_rfl, trivial⟩
theorem hd1_lt (hE : EvOk prog X0 (ev prog X0 4000)) (k i : Nat) (hv : G.val 8 = .int .i64 (k : Int)) (hik : i < k) (hk : k ≤ 5) : To prog mk3 115 (sq1 LB1) .normal ⟨vs9 i, l, n, c⟩ ⟨vs9 i, l, n, c⟩ :=
  q_run hE hd1_ok (in9 k i hv) (at9 i) (hd1_lt_q k i hik hk _) (out9 k i hv)
theorem hd1_end (hE : EvOk prog X0 (ev prog X0 4000)) (k : Nat) (hv : G.val 8 = .int .i64 (k : Int)) (hk : k ≤ 5) : To prog mk3 115 (sq1 LB1) (.exit 0) ⟨vs9 k, l, n, c⟩ ⟨vsB, l, n, c⟩ :=
  q_run hE hd1_ok (in9 k k hv) (at9 k) (hd1_end_q k hk _) (outB k hv)
/-- The loops' first numbers. -/
theorem r9_run (hE : EvOk prog X0 (ev prog X0 4000)) : To prog mk3 115 (sq1 (at3 7)) .normal ⟨vsB, l, n, c⟩ ⟨vs9 0, l, n, c⟩ :=
  q_run hE (by kernel_rfl) (vsIn := vsB) (vsO := vs9 0) (fun tm h => ok_same h.1 (ok_same h.2.1 (ok_same h.2.2.1 (ok_same h.2.2.2.1 trivial)))) atB ⟨.inl ⟨by kernel_rfl, rfl⟩, by kernel_rfl, by kernel_rfl, by kernel_rfl, by kernel_rfl, by kernel_rfl, by kernel_rfl, trivial⟩
    (fun tm h => ok_same h.1 (ok_same h.2.1 (ok_same h.2.2.1 (ok_same h.2.2.2.1 (ok_same h.2.2.2.2.1 trivial)))))
theorem r19_run (hE : EvOk prog X0 (ev prog X0 4000)) : To prog mk3 115 (sq1 (at3 11)) .normal ⟨vsB, l, n, c⟩ ⟨vsT 0, l, n, c⟩ :=
  q_run hE (by kernel_rfl) (vsIn := vsB) (vsO := vsT 0) (fun tm h => ok_same h.1 (ok_same h.2.1 (ok_same h.2.2.1 (ok_same h.2.2.2.1 trivial)))) atB ⟨.inl ⟨by kernel_rfl, rfl⟩, by kernel_rfl, by kernel_rfl, by kernel_rfl, by kernel_rfl, by kernel_rfl, by kernel_rfl, trivial⟩
    (fun tm h => ok_same h.1 (ok_same h.2.1 (ok_same h.2.2.1 (ok_same h.2.2.2.1 (ok_same h.2.2.2.2.1 trivial)))))
/-- How many commits. -/
noncomputable def r8F (x : Nat) (_ : H) (z : RV) : R := opGo (some 29) (fun tm h => runOps (opsOf (at3 6)) ((opsOf (at3 6)).drop 2) prog (ev prog X0 3999).call tm h) (TM.put ⟨mk3, 115, vs0x x, .nil⟩ 28 (.int .u8 (.ofNat x))) z
theorem r8_eq (x : Nat) (h : H) : run3 (at3 6) (vs0x x) h = r8F x h (forceI (Int.tmod (.ofNat x) (.ofNat 6)) fun z => .ok (.int .u8 z) h) := by kernel_rfl
theorem r8_q (x k : Nat) (hk : k ≤ 5) (h : H) : Quiet (r8F x h (.ok (.int .u8 (.ofNat k)) h)) h .normal (vsBk k) := by
  have hk : k = 0 ∨ k = 1 ∨ k = 2 ∨ k = 3 ∨ k = 4 ∨ k = 5 := by omega
  rcases hk with rfl | rfl | rfl | rfl | rfl | rfl <;> exact ⟨.inl ⟨by kernel_rfl, rfl⟩, by kernel_rfl, by kernel_rfl, by kernel_rfl, by kernel_rfl, by kernel_rfl, trivial⟩
theorem r8_run (hE : EvOk prog X0 (ev prog X0 4000)) (x k : Nat) (h0 : G.val 0 = .int .u8 (x : Int)) (hv : G.val 8 = .int .i64 (k : Int)) (hx : x % 6 = k) : To prog mk3 115 (at3 6) .normal ⟨vs0, l, n, c⟩ ⟨vsB, l, n, c⟩ := by
  have e := r8_eq x (mkH l n c)
  rw [forceI_eq, show Int.tmod (.ofNat x) (.ofNat 6) = .ofNat k from by show Int.ofNat (x % 6) = _; rw [hx]] at e
  have q := r8_q x k (by omega) (mkH l n c)
  rw [← e] at q
  exact q_run hE (by kernel_rfl) (vsIn := vs0x x) (fun tm h => ok_to (v := .int .u8 (.ofNat x)) h.1 h0 (fun _ => rfl) (ok_same h.2.1 (ok_same h.2.2.1 (ok_same h.2.2.2.1 trivial)))) at0 q (outB k hv)
/-- The head of the second loop. -/
noncomputable def hd2F (x i : Nat) (_ : H) (z : RV) : R :=
  rThen (opGo (some 65) (fun tm h => runOps (opsOf (sq1 (sq1 LB2))) ((opsOf (sq1 (sq1 LB2))).drop 3) prog (ev prog X0 3998).call tm h) (TM.put (TM.put ⟨mk3, 115, vsS x i, .nil⟩ 63 (.int .i64 (.ofNat i))) 64 (.int .u8 (.ofNat x))) z) ((ev prog X0 3999).code 3 (sq2 (sq1 LB2)))
theorem hd2_eq (x i : Nat) (h : H) : run3 (sq1 LB2) (vsS x i) h = hd2F x i h (forceI (Int.tmod (.ofNat x) (.ofNat 12)) fun z => .ok (.int .u8 z) h) := by kernel_rfl
theorem hd2_lt_q1 (x i : Nat) (hi : i < 1) (h : H) : Quiet (hd2F x i h (.ok (.int .u8 (.ofNat 1)) h)) h .normal (vsS x i) := by
  have : i = 0 := by omega
  rcases this with rfl <;> exact ⟨.inl ⟨by kernel_rfl, rfl⟩, by kernel_rfl, by kernel_rfl, by kernel_rfl, by kernel_rfl, by kernel_rfl, by kernel_rfl, trivial⟩
theorem hd2_lt_q2 (x i : Nat) (hi : i < 2) (h : H) : Quiet (hd2F x i h (.ok (.int .u8 (.ofNat 2)) h)) h .normal (vsS x i) := by
  have : i = 0 ∨ i = 1 := by omega
  rcases this with rfl | rfl <;> exact ⟨.inl ⟨by kernel_rfl, rfl⟩, by kernel_rfl, by kernel_rfl, by kernel_rfl, by kernel_rfl, by kernel_rfl, by kernel_rfl, trivial⟩
theorem hd2_lt_q3 (x i : Nat) (hi : i < 3) (h : H) : Quiet (hd2F x i h (.ok (.int .u8 (.ofNat 3)) h)) h .normal (vsS x i) := by
  have : i = 0 ∨ i = 1 ∨ i = 2 := by omega
  rcases this with rfl | rfl | rfl <;> exact ⟨.inl ⟨by kernel_rfl, rfl⟩, by kernel_rfl, by kernel_rfl, by kernel_rfl, by kernel_rfl, by kernel_rfl, by kernel_rfl, trivial⟩
theorem hd2_lt_q4 (x i : Nat) (hi : i < 4) (h : H) : Quiet (hd2F x i h (.ok (.int .u8 (.ofNat 4)) h)) h .normal (vsS x i) := by
  have : i = 0 ∨ i = 1 ∨ i = 2 ∨ i = 3 := by omega
  rcases this with rfl | rfl | rfl | rfl <;> exact ⟨.inl ⟨by kernel_rfl, rfl⟩, by kernel_rfl, by kernel_rfl, by kernel_rfl, by kernel_rfl, by kernel_rfl, by kernel_rfl, trivial⟩
theorem hd2_lt_q5 (x i : Nat) (hi : i < 5) (h : H) : Quiet (hd2F x i h (.ok (.int .u8 (.ofNat 5)) h)) h .normal (vsS x i) := by
  have : i = 0 ∨ i = 1 ∨ i = 2 ∨ i = 3 ∨ i = 4 := by omega
  rcases this with rfl | rfl | rfl | rfl | rfl <;> exact ⟨.inl ⟨by kernel_rfl, rfl⟩, by kernel_rfl, by kernel_rfl, by kernel_rfl, by kernel_rfl, by kernel_rfl, by kernel_rfl, trivial⟩
theorem hd2_lt_q6 (x i : Nat) (hi : i < 6) (h : H) : Quiet (hd2F x i h (.ok (.int .u8 (.ofNat 6)) h)) h .normal (vsS x i) := by
  have : i = 0 ∨ i = 1 ∨ i = 2 ∨ i = 3 ∨ i = 4 ∨ i = 5 := by omega
  rcases this with rfl | rfl | rfl | rfl | rfl | rfl <;> exact ⟨.inl ⟨by kernel_rfl, rfl⟩, by kernel_rfl, by kernel_rfl, by kernel_rfl, by kernel_rfl, by kernel_rfl, by kernel_rfl, trivial⟩
theorem hd2_lt_q7 (x i : Nat) (hi : i < 7) (h : H) : Quiet (hd2F x i h (.ok (.int .u8 (.ofNat 7)) h)) h .normal (vsS x i) := by
  have : i = 0 ∨ i = 1 ∨ i = 2 ∨ i = 3 ∨ i = 4 ∨ i = 5 ∨ i = 6 := by omega
  rcases this with rfl | rfl | rfl | rfl | rfl | rfl | rfl <;> exact ⟨.inl ⟨by kernel_rfl, rfl⟩, by kernel_rfl, by kernel_rfl, by kernel_rfl, by kernel_rfl, by kernel_rfl, by kernel_rfl, trivial⟩
theorem hd2_lt_q8 (x i : Nat) (hi : i < 8) (h : H) : Quiet (hd2F x i h (.ok (.int .u8 (.ofNat 8)) h)) h .normal (vsS x i) := by
  have : i = 0 ∨ i = 1 ∨ i = 2 ∨ i = 3 ∨ i = 4 ∨ i = 5 ∨ i = 6 ∨ i = 7 := by omega
  rcases this with rfl | rfl | rfl | rfl | rfl | rfl | rfl | rfl <;> exact ⟨.inl ⟨by kernel_rfl, rfl⟩, by kernel_rfl, by kernel_rfl, by kernel_rfl, by kernel_rfl, by kernel_rfl, by kernel_rfl, trivial⟩
theorem hd2_lt_q9 (x i : Nat) (hi : i < 9) (h : H) : Quiet (hd2F x i h (.ok (.int .u8 (.ofNat 9)) h)) h .normal (vsS x i) := by
  have : i = 0 ∨ i = 1 ∨ i = 2 ∨ i = 3 ∨ i = 4 ∨ i = 5 ∨ i = 6 ∨ i = 7 ∨ i = 8 := by omega
  rcases this with rfl | rfl | rfl | rfl | rfl | rfl | rfl | rfl | rfl <;> exact ⟨.inl ⟨by kernel_rfl, rfl⟩, by kernel_rfl, by kernel_rfl, by kernel_rfl, by kernel_rfl, by kernel_rfl, by kernel_rfl, trivial⟩
theorem hd2_lt_q10 (x i : Nat) (hi : i < 10) (h : H) : Quiet (hd2F x i h (.ok (.int .u8 (.ofNat 10)) h)) h .normal (vsS x i) := by
  have : i = 0 ∨ i = 1 ∨ i = 2 ∨ i = 3 ∨ i = 4 ∨ i = 5 ∨ i = 6 ∨ i = 7 ∨ i = 8 ∨ i = 9 := by omega
  rcases this with rfl | rfl | rfl | rfl | rfl | rfl | rfl | rfl | rfl | rfl <;> exact ⟨.inl ⟨by kernel_rfl, rfl⟩, by kernel_rfl, by kernel_rfl, by kernel_rfl, by kernel_rfl, by kernel_rfl, by kernel_rfl, trivial⟩
theorem hd2_lt_q11 (x i : Nat) (hi : i < 11) (h : H) : Quiet (hd2F x i h (.ok (.int .u8 (.ofNat 11)) h)) h .normal (vsS x i) := by
  have : i = 0 ∨ i = 1 ∨ i = 2 ∨ i = 3 ∨ i = 4 ∨ i = 5 ∨ i = 6 ∨ i = 7 ∨ i = 8 ∨ i = 9 ∨ i = 10 := by omega
  rcases this with rfl | rfl | rfl | rfl | rfl | rfl | rfl | rfl | rfl | rfl | rfl <;> exact ⟨.inl ⟨by kernel_rfl, rfl⟩, by kernel_rfl, by kernel_rfl, by kernel_rfl, by kernel_rfl, by kernel_rfl, by kernel_rfl, trivial⟩
theorem hd2_lt_q (x i st : Nat) (hi : i < st) (hst : st < 12) (h : H) : Quiet (hd2F x i h (.ok (.int .u8 (.ofNat st)) h)) h .normal (vsS x i) := by
  have : st = 1 ∨ st = 2 ∨ st = 3 ∨ st = 4 ∨ st = 5 ∨ st = 6 ∨ st = 7 ∨ st = 8 ∨ st = 9 ∨ st = 10 ∨ st = 11 := by omega
  rcases this with rfl | rfl | rfl | rfl | rfl | rfl | rfl | rfl | rfl | rfl | rfl
  · exact hd2_lt_q1 x i hi h
  · exact hd2_lt_q2 x i hi h
  · exact hd2_lt_q3 x i hi h
  · exact hd2_lt_q4 x i hi h
  · exact hd2_lt_q5 x i hi h
  · exact hd2_lt_q6 x i hi h
  · exact hd2_lt_q7 x i hi h
  · exact hd2_lt_q8 x i hi h
  · exact hd2_lt_q9 x i hi h
  · exact hd2_lt_q10 x i hi h
  · exact hd2_lt_q11 x i hi h
theorem hd2_end_q (x st : Nat) (hst : st < 12) (h : H) : Quiet (hd2F x st h (.ok (.int .u8 (.ofNat st)) h)) h (.exit 2) (vsS x st) := by
  have : st = 0 ∨ st = 1 ∨ st = 2 ∨ st = 3 ∨ st = 4 ∨ st = 5 ∨ st = 6 ∨ st = 7 ∨ st = 8 ∨ st = 9 ∨ st = 10 ∨ st = 11 := by omega
  rcases this with rfl | rfl | rfl | rfl | rfl | rfl | rfl | rfl | rfl | rfl | rfl | rfl <;> exact ⟨.inr ⟨2, by kernel_rfl, rfl⟩, by kernel_rfl, by kernel_rfl, by kernel_rfl, by kernel_rfl, by kernel_rfl, by kernel_rfl, trivial⟩
theorem hd2_ok : okC X0 3 (sq1 LB2) = true := by kernel_rfl
theorem inS (x i : Nat) (hv : G.val 1 = .int .u8 (x : Int)) (tm : TM) (h : eqTs tm (vsT i)) : okTs tm (vsS x i) :=
  ok_to (v := .int .u8 (.ofNat x)) h.1 hv (fun _ => rfl) (ok_same h.2.1 (ok_same h.2.2.1 (ok_same h.2.2.2.1 (ok_same h.2.2.2.2.1 trivial))))
theorem outS (x i : Nat) (hv : G.val 1 = .int .u8 (x : Int)) (tm : TM) (h : eqTs tm (vsS x i)) : okTs tm (vsT i) :=
  ok_of (v := .int .u8 (.ofNat x)) h.1 hv (fun _ => rfl) (ok_same h.2.1 (ok_same h.2.2.1 (ok_same h.2.2.2.1 (ok_same h.2.2.2.2.1 trivial))))
theorem outE (x i k : Nat) (hk : G.val 8 = .int .i64 (k : Int)) (tm : TM) (h : eqTs tm (vsS x i)) : okTs tm (vsE k) :=
  ok_same h.2.1 (ok_same h.2.2.1 (ok_to (v := .int .i64 (.ofNat k)) h.2.2.2.1 hk (fun _ => rfl) trivial))
theorem hd2_lt (hE : EvOk prog X0 (ev prog X0 4000)) (x i st : Nat) (h1 : G.val 1 = .int .u8 (x : Int)) (hx : x % 12 = st) (hi : i < st) : To prog mk3 115 (sq1 LB2) .normal ⟨vsT i, l, n, c⟩ ⟨vsT i, l, n, c⟩ := by
  have e := hd2_eq x i (mkH l n c)
  rw [forceI_eq, show Int.tmod (.ofNat x) (.ofNat 12) = .ofNat st from by show Int.ofNat (x % 12) = _; rw [hx]] at e
  have q := hd2_lt_q x i st hi (by omega) (mkH l n c)
  rw [← e] at q
  exact q_run hE hd2_ok (inS x i h1) (atT i) q (outS x i h1)
theorem hd2_end (hE : EvOk prog X0 (ev prog X0 4000)) (x st k : Nat) (h1 : G.val 1 = .int .u8 (x : Int)) (hk : G.val 8 = .int .i64 (k : Int)) (hx : x % 12 = st) : To prog mk3 115 (sq1 LB2) (.exit 2) ⟨vsT st, l, n, c⟩ ⟨vsE k, l, n, c⟩ := by
  have e := hd2_eq x st (mkH l n c)
  rw [forceI_eq, show Int.tmod (.ofNat x) (.ofNat 12) = .ofNat st from by show Int.ofNat (x % 12) = _; rw [hx]] at e
  have q := hd2_end_q x st (by omega) (mkH l n c)
  rw [← e] at q
  exact q_run hE hd2_ok (inS x st h1) (atT st) q (outE x st k hk)
/-- The loops. -/
theorem loop1 (hE : EvOk prog X0 (ev prog X0 4000)) (k : Nat) (hv : G.val 8 = .int .i64 (k : Int)) (hk : k ≤ 5) (L : Nat → List (Nat × O)) (N C : Nat → Nat)
    (hb : ∀ i, i < k → To prog mk3 115 (sq2 LB1) .normal ⟨vs9 i, L i, N i, C i⟩ ⟨vs9 (i + 1), L (i + 1), N (i + 1), C (i + 1)⟩) :
    To prog mk3 115 (at3 7) .normal ⟨vsB, L 0, N 0, C 0⟩ ⟨vsB, L k, N k, C k⟩ := by
  have hc : at3 7 = .seq (sq1 (at3 7)) (.block 0 (.loop LB1)) := by kernel_rfl
  have hc2 : LB1 = .seq (sq1 LB1) (sq2 LB1) := by kernel_rfl
  rw [hc]
  refine (r9_run hE).seq (To.block ?_)
  have go : ∀ d i, i + d = k → LoopTo prog mk3 115 LB1 (.exit 0) ⟨vs9 i, L i, N i, C i⟩ ⟨vsB, L k, N k, C k⟩ := by
    intro d
    induction d with
    | zero => intro i hi; obtain rfl : i = k := (by omega); rw [hc2]; exact LoopTo.last (To.seq_exit (hd1_end hE i hv hk))
    | succ d ih => intro i hi; refine LoopTo.more ?_ (ih (i + 1) (by omega)); rw [hc2]; exact (hd1_lt hE k i hv (by omega) hk).seq (hb i (by omega))
  exact go k 0 (by omega)
theorem loop2 (hE : EvOk prog X0 (ev prog X0 4000)) (x st k : Nat) (h1 : G.val 1 = .int .u8 (x : Int)) (hk : G.val 8 = .int .i64 (k : Int)) (hx : x % 12 = st) (L : Nat → List (Nat × O)) (N C : Nat → Nat)
    (hb : ∀ i, i < st → To prog mk3 115 (sq2 LB2) .normal ⟨vsT i, L i, N i, C i⟩ ⟨vsT (i + 1), L (i + 1), N (i + 1), C (i + 1)⟩) :
    To prog mk3 115 (at3 11) .normal ⟨vsB, L 0, N 0, C 0⟩ ⟨vsE k, L st, N st, C st⟩ := by
  have hc : at3 11 = .seq (sq1 (at3 11)) (.block 2 (.loop LB2)) := by kernel_rfl
  have hc2 : LB2 = .seq (sq1 LB2) (sq2 LB2) := by kernel_rfl
  rw [hc]
  refine (r19_run hE).seq (To.block ?_)
  have go : ∀ d i, i + d = st → LoopTo prog mk3 115 LB2 (.exit 2) ⟨vsT i, L i, N i, C i⟩ ⟨vsE k, L st, N st, C st⟩ := by
    intro d
    induction d with
    | zero => intro i hi; obtain rfl : i = st := (by omega); rw [hc2]; exact LoopTo.last (To.seq_exit (hd2_end hE x i k h1 hk hx))
    | succ d ih => intro i hi; refine LoopTo.more ?_ (ih (i + 1) (by omega)); rw [hc2]; exact (hd2_lt hE x i st h1 hx (by omega)).seq (hb i (by omega))
  exact go st 0 (by omega)
end
end Go.Ev
