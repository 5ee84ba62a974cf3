/- Contracts in the evaluator's words: numbers, sums, cuts, errors.As, maps.Clone. Conditions: each lemma's own. -/
import Derived.Test.YtkdihjhndebloaaGreatDoorEvCode
import Derived.Test.YtkdihjhndebloaaGreatDoorEvGiven
import Derived.Test.YtkdihjhndebloaaGreatDoorPackCutNum
import Derived.Test.YtkdihjhndebloaaGreatDoorPackSum
import Derived.Test.YtkdihjhndebloaaGreatDoorAs
set_option linter.unusedSectionVars false
set_option linter.unusedVariables false
set_option linter.unusedSimpArgs false
namespace Go.Ev
open Go Go.Conc Go.Proofs.YtkdihjhndebloaaGreatDoor
variable [G : Given]

section
variable {P : Program} {m : M} {h h' : H} {w w' : World} {v : V}
/-- A given function's contract. -/
def FnOk (P : Program) (f : FuncId) (g : List V → H → RV) : Prop := ∀ l h v h', g l h = .ok v h' →
  (∃ fn c, P.funcs[f]? = some fn ∧ fn.body = some c) ∧ ∀ m w args, Rel m h w → concL m l = some args → Calls P f args.toArray w (Gives m h w h' v)
theorem kept_rel (hr : Rel m h w) (hk : Kept [] w w') : Rel m h w' ∧ Tr m h w m h w' :=
  ⟨⟨hr.next, hr.nc, fun hg => let ⟨p, hp, ho⟩ := hr.obj hg; ⟨p, hp, ho.mono (.refl _) (hk.block _ ho.lt (by simp))⟩, hr.inj⟩,
    .refl _, hk.os, hk.tape, hk.output, hk.size, fun k hk' _ => hk.block k hk' (by simp), fun _ hk => .inl hk⟩
/-- One object is turned, new blocks beside. -/
theorem kept_upd (hr : Rel m h w) {b : Nat} {o o' : O} {p : Nat × Nat} (hg : h.get b = some o) (hp : m.blk[b]? = some p) (hk : Kept [p.1] w w') (ho : OC m w' p o') :
    Rel m (h.set b o') w' ∧ Tr m h w m (h.set b o') w' := by
  have hlive : ∀ k, live m (h.set b o') k → live m h k := by
    rintro k ⟨b1, o1, p1, hg1, hp1, rfl⟩
    rw [H.get_set] at hg1
    by_cases hb : b = b1
    · subst hb; exact ⟨_, _, _, hg, hp1, rfl⟩
    · rw [if_neg hb] at hg1; exact ⟨_, _, _, hg1, hp1, rfl⟩
  have f : ∀ {b1 : Nat} {o1 : O}, (h.set b o').get b1 = some o1 → ∃ o, h.get b1 = some o := by
    intro b1 o1 h1
    rw [H.get_set] at h1
    by_cases hb : b = b1
    · subst hb; exact ⟨_, hg⟩
    · rw [if_neg hb] at h1; exact ⟨_, h1⟩
  refine ⟨⟨by simp [hr.next], by simpa using hr.nc, fun {b1 o1} hg1 => ?_, fun {b1 b2 o1 o2 p1 p2} h1 h2 q1 q2 hq => ?_⟩, .refl _, hk.os, hk.tape, hk.output, hk.size, fun k hlt hn => hk.block k hlt (by simp; intro he; exact hn ⟨b, o, p, hg, hp, he.symm⟩), fun k hk => .inl (hlive k hk)⟩
  · rw [H.get_set] at hg1
    by_cases hb : b = b1
    · subst hb
      rw [if_pos rfl] at hg1
      obtain rfl := Option.some.inj hg1
      exact ⟨p, hp, ho⟩
    · rw [if_neg hb] at hg1
      obtain ⟨p1, hp1, ho1⟩ := hr.obj hg1
      exact ⟨p1, hp1, ho1.mono (.refl _) (hk.block _ ho1.lt (by simp; intro he; exact hb (hr.inj hg hg1 hp hp1 he.symm)))⟩
  · obtain ⟨_, f1⟩ := f h1
    obtain ⟨_, f2⟩ := f h2
    exact hr.inj f1 f2 q1 q2 hq
end

section
theorem le8_eq (n k : Nat) : le8 n (k + 1) = n % 256 :: le8 (n / 256) k := by
  show force (Nat.mod n 256) (fun b => b :: le8 (Nat.div n 256) k) = _
  rw [force_eq]; rfl
theorem num_bytes (n : Nat) : small (le8 n 8) = true ∧ bytesA (le8 n 8) = numS (n : Int) := by
  have h8 : le8 n 8 = [n % 256, n / 256 % 256, n / 256 / 256 % 256, n / 256 / 256 / 256 % 256, n / 256 / 256 / 256 / 256 % 256, n / 256 / 256 / 256 / 256 / 256 % 256, n / 256 / 256 / 256 / 256 / 256 / 256 % 256, n / 256 / 256 / 256 / 256 / 256 / 256 / 256 % 256] := by
    simp only [le8_eq]; rfl
  rw [h8]
  refine ⟨?_, ?_⟩
  · rw [small_iff]; intro c hc; simp at hc; omega
  · unfold bytesA numS strOfNums numL
    congr 1
    simp only [List.map_cons, List.map_nil]
    congr 1
    have e : ∀ a : Nat, ∀ z : Int, z = (a : Int) → UInt8.ofNat a = UInt8.ofNat z.toNat := by rintro a z rfl; simp
    simp only [List.cons.injEq, and_true]
    refine ⟨e _ _ ?_, e _ _ ?_, e _ _ ?_, e _ _ ?_, e _ _ ?_, e _ _ ?_, e _ _ ?_, e _ _ ?_⟩ <;> omega
theorem num_fn {f : FuncId} {P : Program} (hb : ∃ fn c, P.funcs[f]? = some fn ∧ fn.body = some c)
    (hc : ∀ (n : Int) (_ : 0 ≤ n) (_ : n < 18446744073709551616) (w : World), Calls P f #[.int .u64 n] w fun e w' => e = .returned (.string (numS n)) ∧ Kept [] w w') : FnOk P f xNum := by
  intro l h v h' e
  refine ⟨hb, fun m w args hr ha => ?_⟩
  unfold xNum at e
  split at e <;> try (cases e; done)
  rename_i n
  simp only [okIf_ok] at e
  obtain ⟨hlt, e⟩ := e
  injection e with e1 e2
  subst e1 e2
  have hlt : n < 18446744073709551616 := by simpa using hlt
  obtain ⟨y, l', hy, hl', rfl⟩ := concL_cons.1 ha
  obtain rfl := concL_nil.1 hl'
  simp only [conc, Option.some.injEq] at hy
  subst hy
  refine (hc (Int.ofNat n) (by simp) (by simp; omega) w).mono ?_
  rintro _ w' ⟨rfl, hk⟩
  obtain ⟨h1, h2⟩ := kept_rel hr hk
  obtain ⟨b1, b2⟩ := num_bytes n
  exact ⟨m, h2, h1, by simp [conc, b1, b2]⟩
theorem sum_step (n c : Nat) (hc : c < 256) (_ : n < 18446744073709551616) : sumStep (n : Int) (UInt8.ofNat c) = (((n * 33 + c) % 18446744073709551616 : Nat) : Int) := by
  have h1 : (UInt8.ofNat c).toNat = c := by simp [UInt8.toNat_ofNat', Nat.mod_eq_of_lt hc]
  unfold sumStep
  rw [h1, IntKind.wrap_u64, IntKind.wrap_u64, IntKind.wrap_u64]
  omega
theorem sumN_eq (s : List Nat) : ∀ n : Nat, n < 18446744073709551616 → small s = true → ((sumN s n : Nat) : Int) = (s.map UInt8.ofNat).foldl sumStep (n : Int) := by
  induction s with
  | nil => intro n _ _; rfl
  | cons c s ih =>
    intro n hn hs
    simp only [small_cons, Bool.and_eq_true, decide_eq_true_eq] at hs
    have e : sumN (c :: s) n = sumN s ((n * 33 + c) % 18446744073709551616) := by
      show force (Nat.mod (Nat.add (Nat.mul n 33) c) 18446744073709551616) (fun n => sumN s n) = _
      rw [force_eq]; rfl
    rw [e, ih _ (Nat.mod_lt _ (by decide)) hs.2, List.map_cons, List.foldl_cons, sum_step n c hs.1 hn]
theorem sum_fn {f : FuncId} {P : Program} (hb : ∃ fn c, P.funcs[f]? = some fn ∧ fn.body = some c)
    (hc : ∀ (s : ByteArray) (_ : s.size ≤ 9223372036854775807) (w : World), Calls P f #[.string s] w fun e w' => e = .returned (.int .u64 (sumS s)) ∧ w = w') : FnOk P f xSum := by
  intro l h v h' e
  refine ⟨hb, fun m w args hr ha => ?_⟩
  unfold xSum at e
  split at e <;> try (cases e; done)
  rename_i s
  simp only [okIf_ok, force_eq, lenN_eq] at e
  obtain ⟨hlt, e⟩ := e
  injection e with e1 e2
  subst e1 e2
  have hlt : s.length < 1000000 := by simpa using hlt
  obtain ⟨y, l', hy, hl', rfl⟩ := concL_cons.1 ha
  obtain rfl := concL_nil.1 hl'
  simp only [conc, Option.ite_none_right_eq_some, Option.some.injEq] at hy
  obtain ⟨hs, rfl⟩ := hy
  refine (hc (bytesA s) (by rw [bytesA_size]; omega) w).mono ?_
  rintro _ _ ⟨rfl, rfl⟩
  refine ⟨m, .refl _ _ _, hr, ?_⟩
  have := sumN_eq s 5381 (by decide) hs
  simp only [conc, Option.some.injEq, Value.int.injEq, true_and]
  show ((sumN s 5381 : Nat) : Int) = _
  rw [this]
  rfl
theorem ofLe_eq (l : List Nat) (hs : small l = true) : (ofLe l : Nat) = leV (l.map UInt8.ofNat) := by
  induction l with
  | nil => rfl
  | cons c l ih =>
    simp only [small_cons, Bool.and_eq_true, decide_eq_true_eq] at hs
    have h1 : (UInt8.ofNat c).toNat = c := by simp [UInt8.toNat_ofNat', Nat.mod_eq_of_lt hs.1]
    have e : ofLe (c :: l) = c + 256 * ofLe l := rfl
    rw [e, ih hs.2]
    simp only [leV, List.map_cons, List.foldr_cons, h1]
    omega
theorem small_take {l : List Nat} (h : small l = true) (n : Nat) : small (l.take n) = true := small_iff.2 fun c hc => small_iff.1 h c (List.mem_of_mem_take hc)
theorem small_drop {l : List Nat} (h : small l = true) (n : Nat) : small (l.drop n) = true := small_iff.2 fun c hc => small_iff.1 h c (List.mem_of_mem_drop hc)
theorem bytesA_take (s : List Nat) (n : Nat) : (bytesA s).extract 0 n = bytesA (s.take n) := by
  apply ByteArray.ext
  simp [bytesA, List.extract_eq_take_drop]
theorem bytesA_drop (s : List Nat) (n : Nat) : (bytesA s).extract n (bytesA s).size = bytesA (s.drop n) := by
  apply ByteArray.ext
  simp [bytesA, ByteArray.size, List.take_of_length_le]
theorem cutN_bad (s : List Nat) (bad : Bool) (h : bad = true ∨ s.length < 8) : cutN (bytesA s) bad = 0 ∧ takeS (bytesA s) bad 8 = bytesA s ∧ takeB (bytesA s) bad 8 = true := by
  have hb : takeB (bytesA s) bad 8 = true := by
    unfold takeB
    rcases h with h | h
    · simp [h]
    · simp [bytesA_size, h]
  refine ⟨?_, by simp [takeS, hb], hb⟩
  simp only [cutN, takeV, hb, if_true]
  rfl
theorem cutN_good (s : List Nat) (hs : small s = true) (h : 8 ≤ s.length) : cutN (bytesA s) false = ((ofLe (s.take 8) : Nat) : Int) ∧ takeS (bytesA s) false 8 = bytesA (s.drop 8) ∧ takeB (bytesA s) false 8 = false := by
  have hb : takeB (bytesA s) false 8 = false := by simp [takeB, bytesA_size]; omega
  refine ⟨?_, by simp only [takeS, hb, Bool.false_eq_true, if_false, bytesA_drop], hb⟩
  simp only [cutN, takeV, hb, Bool.false_eq_true, if_false, bytesA_take]
  rw [ofLe_eq _ (small_take hs 8)]
  have : (bytesA (s.take 8)).data.toList = (s.take 8).map UInt8.ofNat := rfl
  rw [this, numF_leV _ (by simp; omega)]
theorem cut_fn {f : FuncId} {P : Program} {t0 : TypeId} {short okv : V} {ev : Bool → Value} (hshort : ∀ m, conc m short = some (ev true)) (hok : ∀ m, conc m okv = some (ev false)) (h1 : short.one = true) (h2 : okv.one = true)
    (hb : ∃ fn c, P.funcs[f]? = some fn ∧ fn.body = some c)
    (hct : cutT t0 = true) (hc : ∀ (g : Nat) (s : ByteArray) (bad : Bool) (w : World) (_ : s.size ≤ 9223372036854775807) (_ : Blk w g t0 #[.string s, ev bad]),
      Calls P f #[.pointer (some ⟨g, 0, none⟩)] w fun e w' => e = .returned (.int .u64 (cutN s bad)) ∧ Blk w' g t0 #[.string (takeS s bad 8), ev (takeB s bad 8)] ∧ Kept [g] w w') : FnOk P f (xCut t0 short okv) := by
  intro l h v h' e
  refine ⟨hb, fun m w args hr ha => ?_⟩
  unfold xCut at e
  split at e <;> try (cases e; done)
  rename_i b
  simp only [some_ok] at e
  obtain ⟨o, hob, e⟩ := e
  split at e <;> try (cases e; done)
  rename_i t s ev'
  simp only [okIf_ok, lenN_eq, Bool.and_eq_true] at e
  obtain ⟨⟨ht, hlt⟩, e⟩ := e
  obtain rfl : t = t0 := Nat.eq_of_beq_eq_true ht
  have hlt : s.length < 1000000 := by simpa using hlt
  obtain ⟨y, l', hy, hl', rfl⟩ := concL_cons.1 ha
  obtain rfl := concL_nil.1 hl'
  simp only [conc, Option.map_eq_some_iff] at hy
  obtain ⟨p, hp, rfl⟩ := hy
  obtain ⟨hone, c, rest, hcc, hw, hcnt⟩ := hr.at hob hp
  obtain ⟨y1, l1, hy1, hl1, rfl⟩ := concL_cons.1 hcc
  obtain ⟨y2, l2, hy2, hl2, rfl⟩ := concL_cons.1 hl1
  obtain rfl := concL_nil.1 hl2
  simp only [conc, Option.ite_none_right_eq_some, Option.some.injEq] at hy1
  obtain ⟨hs, rfl⟩ := hy1
  obtain ⟨hcnt, hnil⟩ := hcnt
  obtain rfl := hnil hct
  simp only [List.append_nil] at hw
  have hgen : ∀ (bad : Bool) (n : Nat) (s' : List Nat) (e2 : V), y2 = ev bad → small s' = true → (∀ m, conc m e2 = some (ev (takeB (bytesA s) bad 8))) → e2.one = true → cutN (bytesA s) bad = ((n : Nat) : Int) → takeS (bytesA s) bad 8 = bytesA s' →
      .ok (.int .u64 (Int.ofNat n)) (h.set b (.cells t [.str s', e2])) = RV.ok v h' → Calls P f #[.pointer (some ⟨p.1, 0, none⟩)] w (Gives m h w h' v) := by
    intro bad n s' e2 hy hs' he2 ho2 hn hS e
    injection e with e1 e2'
    subst e1 e2'
    refine (hc p.1 (bytesA s) bad w (by rw [bytesA_size]; omega) (by rw [← hy]; exact hw)).mono ?_
    rintro _ w' ⟨rfl, hblk, hk⟩
    obtain ⟨r1, r2⟩ := kept_upd (o' := .cells t [.str s', e2]) hr hob hp hk ⟨by rw [allOne_cons, allOne_cons]; exact ⟨rfl, ho2, rfl⟩, _, [], concL_cons.2 ⟨_, _, by simp only [conc, hs']; rfl, concL_cons.2 ⟨_, _, he2 m, concL_nil.2 rfl, rfl⟩, rfl⟩, by rw [← hS]; simp only [List.append_nil]; exact hblk, by simpa using hcnt, fun _ => rfl⟩
    exact ⟨m, r2, r1, by simp only [conc, hn]; rfl⟩
  rw [sel_ite] at e
  split at e
  · rename_i hsame
    obtain rfl := sameV_eq _ _ hsame
    rw [hok m] at hy2
    obtain rfl := Option.some.inj hy2
    rw [sel_ite] at e
    split at e
    · rename_i h8
      have h8 : 8 ≤ s.length := Nat.le_of_ble_eq_true h8
      obtain ⟨c1, c2, c3⟩ := cutN_good s hs h8
      simp only [force_eq, takeN_eq, dropN_eq] at e
      exact hgen false _ _ _ rfl (small_drop hs 8) (by rw [c3]; exact hok) h2 c1 c2 e
    · rename_i h8
      have h8 : s.length < 8 := Nat.lt_of_not_le fun e => h8 (Nat.ble_eq_true_of_le e)
      obtain ⟨c1, c2, c3⟩ := cutN_bad s false (.inr h8)
      exact hgen false 0 _ _ rfl hs (by rw [c3]; exact hshort) h1 c1 c2 e
  · simp only [okIf_ok] at e
    obtain ⟨hsame, e⟩ := e
    obtain rfl := sameV_eq _ _ hsame
    rw [hshort m] at hy2
    obtain rfl := Option.some.inj hy2
    obtain ⟨c1, c2, c3⟩ := cutN_bad s true (.inl rfl)
    exact hgen true 0 _ _ rfl hs (by rw [c3]; exact hshort) h1 c1 c2 e
end
end Go.Ev
namespace Go.Ev
open Go Go.Conc Go.Proofs.YtkdihjhndebloaaGreatDoor
variable [G : Given]

section
variable {P : Program} {m : M} {h h' : H} {w w' : World} {v : V}
theorem as_fn {f : FuncId} {P : Program} {te tp : TypeId} (hg : ∀ w : World, w.heap[G.blk]? = some G.obj → ErrVar w) (hb : ∃ fn c, P.funcs[f]? = some fn ∧ fn.body = some c)
    (hnil : ∀ (t : Value) (w : World), Calls P f #[.nilIface, t] w fun e w' => e = .returned (.bool false) ∧ w' = w)
    (hhit : ∀ (n : Int) (t : Addr) (old : Value) (w : World) (_ : ErrVar w) (_ : w.cell? t = some old) (_ : w.frozen? t = false),
      Calls P f #[.iface te (.int .i64 n), .iface tp (.pointer (some t))] w fun ev w' => ev = .returned (.bool true) ∧ ∃ w1, Kept [] w w1 ∧ w' = w1.setCell t (.int .i64 n)) : FnOk P f (xAs te tp) := by
  intro l h v h' e
  refine ⟨hb, fun m w args hr ha => ?_⟩
  unfold xAs at e
  split at e <;> try (cases e; done)
  · injection e with e1 e2
    subst e1 e2
    obtain ⟨y, l', hy, hl', rfl⟩ := concL_cons.1 ha
    obtain ⟨z, l'', hz, hl'', rfl⟩ := concL_cons.1 hl'
    obtain rfl := concL_nil.1 hl''
    simp only [conc, Option.some.injEq] at hy
    subst hy
    refine (hnil z w).mono ?_
    rintro _ w' ⟨rfl, rfl⟩
    exact ⟨m, .refl _ _ _, hr, rfl⟩
  · rename_i t n u b
    simp only [okIf_ok, some_ok, Bool.and_eq_true] at e
    obtain ⟨⟨ht, hu⟩, g, hgo, e⟩ := e
    obtain rfl : t = te := Nat.eq_of_beq_eq_true ht
    obtain rfl : u = tp := Nat.eq_of_beq_eq_true hu
    split at e <;> try (cases e; done)
    simp only [some_ok] at e
    obtain ⟨o, hob, e⟩ := e
    split at e <;> try (cases e; done)
    rename_i ty old
    injection e with e1 e2
    subst e1 e2
    obtain ⟨y, l', hy, hl', rfl⟩ := concL_cons.1 ha
    obtain ⟨z, l'', hz, hl'', rfl⟩ := concL_cons.1 hl'
    obtain rfl := concL_nil.1 hl''
    simp only [conc, Option.map_some, Option.some.injEq] at hy
    subst hy
    simp only [conc, Option.map_eq_some_iff] at hz
    obtain ⟨_, ⟨p, hp, rfl⟩, rfl⟩ := hz
    obtain ⟨q, hq, hraw⟩ := hr.obj hgo
    have hev := hg w (by rw [← hraw.1]; exact hraw.2)
    obtain ⟨hone, c, rest, hcc, hw, hcnt⟩ := hr.at hob hp
    obtain ⟨y1, l1, hy1, hl1, rfl⟩ := concL_cons.1 hcc
    obtain rfl := concL_nil.1 hl1
    have hcell : w.cell? ⟨p.1, 0, none⟩ = some y1 := by rw [cell_of_row w p.1 0 _ ty (0, 0) hw]; rfl
    have hfree : w.frozen? ⟨p.1, 0, none⟩ = false := Blk.free (show Blk w p.1 ty _ from hw) _
    refine (hhit n ⟨p.1, 0, none⟩ y1 w hev hcell hfree).mono ?_
    rintro _ w' ⟨rfl, w1, hk, rfl⟩
    have hk' : Kept [p.1] w (w1.setCell ⟨p.1, 0, none⟩ (.int .i64 n)) := (hk.more (by simp)).setCell (.inl (by simp)) _
    have hw1 : Blk w1 p.1 ty ([y1] ++ rest).toArray := (hk.block _ (hr.at hob hp).lt (by simp)).trans hw
    have hset := hw1.set 0 (.int .i64 n)
    obtain ⟨r1, r2⟩ := kept_upd (o' := .cells ty [.int .i64 n]) hr hob hp hk' ⟨rfl, [.int .i64 n], rest, rfl, by simpa [Blk] using hset, by simpa using hcnt⟩
    exact ⟨m, r2, r1, rfl⟩
end
end Go.Ev
namespace Go.Ev
open Go Go.Conc Go.Proofs.YtkdihjhndebloaaGreatDoor
variable [G : Given]

section
theorem clone_fn {f : FuncId} {P : Program} (hb : ∃ fn c, P.funcs[f]? = some fn ∧ fn.body = some c)
    (hnil : ∀ w : World, Calls P f #[.map none] w fun e w' => e = .returned (.map none) ∧ w' = w)
    (hc : ∀ (b : Nat) (es : Array MapEntry) (clock : Nat) (w : World) (_ : w.heap[b]? = some (.map es clock)), Calls P f #[.map (some b)] w fun e w' => e = .returned (.map (some w.heap.size)) ∧ w' = w.alloc (.map es clock)) : FnOk P f xClone := by
  intro l h v h' e
  refine ⟨hb, fun m w args hr ha => ?_⟩
  unfold xClone at e
  split at e <;> try (cases e; done)
  · injection e with e1 e2
    subst e1 e2
    obtain ⟨y, l', hy, hl', rfl⟩ := concL_cons.1 ha
    obtain rfl := concL_nil.1 hl'
    simp only [conc, Option.some.injEq] at hy
    subst hy
    refine (hnil w).mono ?_
    rintro _ w' ⟨rfl, rfl⟩
    exact ⟨m, .refl _ _ _, hr, rfl⟩
  · rename_i b
    simp only [some_ok] at e
    obtain ⟨o, hob, e⟩ := e
    split at e <;> try (cases e; done)
    rename_i es c
    simp only [H.new_eq] at e
    injection e with e1 e2
    subst e1 e2
    obtain ⟨y, l', hy, hl', rfl⟩ := concL_cons.1 ha
    obtain rfl := concL_nil.1 hl'
    simp only [conc, Option.map_eq_some_iff] at hy
    obtain ⟨p, hp, rfl⟩ := hy
    obtain ⟨es', hes, hw⟩ := hr.at hob hp
    refine (hc p.1 es'.toArray c w hw).mono ?_
    rintro _ w' ⟨rfl, rfl⟩
    obtain ⟨r1, r2⟩ := hr.push (o := .map es c) (n := 0) (ob := .map es'.toArray c) ⟨es', concE_mono (M.le_add _ _) _ _ hes, heap_alloc_new w _⟩
    exact ⟨_, r2, r1, by simp [conc, add_at hr]⟩
end
end Go.Ev
