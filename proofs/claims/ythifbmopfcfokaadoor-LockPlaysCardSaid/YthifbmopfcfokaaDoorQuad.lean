/- The program's lock and processes beside the document's, each call on each. Conditions: at most 64 live, numbers fit their types. -/
import Derived.Test.YthifbmopfcfokaaDoorSame
import Derived.Test.YthifbmopfcfokaaDoorCode
namespace Go.Proofs.YthifbmopfcfokaaDoor
open Go.RowKit

/-- What a lock holds. -/
structure LS where
  ow : Int
  p : Nat → Int
  t : Nat → Int
/-- Its numbers fit. -/
def LS.fit (s : LS) : Prop := 0 ≤ s.ow ∧ s.ow < 9223372036854775808 ∧ ∀ k, k < 8 → 0 ≤ s.p k ∧ s.p k < 9223372036854775808 ∧ 0 ≤ s.t k ∧ s.t k < 18446744073709551616
theorem LS.fit.bytes {s : LS} (h : s.fit) : ∀ k, k < 8 → 0 ≤ s.p k ∧ s.p k < 18446744073709551616 ∧ 0 ≤ s.t k ∧ s.t k < 18446744073709551616 := fun k hk => by
  have := h.2.2 k hk
  omega
theorem LS.fit.own {s : LS} (h : s.fit) {q : Int} (h0 : 0 ≤ q) (h1 : q < 9223372036854775808) : (LS.mk q s.p s.t).fit := ⟨h0, h1, h.2.2⟩
theorem LS.fit.slot {s : LS} (h : s.fit) (j : Nat) {q x : Int} (h0 : 0 ≤ q) (h1 : q < 9223372036854775808) (h2 : 0 ≤ x) (h3 : x < 18446744073709551616) : (LS.mk s.ow (upd s.p j q) (upd s.t j x)).fit := ⟨h.1, h.2.1, fun k hk => by
  have := h.2.2 k hk
  show 0 ≤ upd s.p j q k ∧ upd s.p j q k < _ ∧ 0 ≤ upd s.t j x k ∧ upd s.t j x k < _
  unfold upd
  split
  · exact ⟨h0, h1, h2, h3⟩
  · exact this⟩
theorem LS.fit.txn {s : LS} (h : s.fit) (j : Nat) {x : Int} (h2 : 0 ≤ x) (h3 : x < 18446744073709551616) : (LS.mk s.ow s.p (upd s.t j x)).fit := ⟨h.1, h.2.1, fun k hk => by
  have := h.2.2 k hk
  show 0 ≤ s.p k ∧ s.p k < _ ∧ 0 ≤ upd s.t j x k ∧ upd s.t j x k < _
  unfold upd
  split
  · exact ⟨this.1, this.2.1, h2, h3⟩
  · exact this⟩
theorem LS.fit.swept {s : LS} (h : s.fit) (l : List Int) : (LS.mk s.ow (swp s.p s.p l 8) (swp s.p s.t l 8)).fit := ⟨h.1, h.2.1, fun k hk => by
  have := h.2.2 k hk
  show 0 ≤ swp s.p s.p l 8 k ∧ swp s.p s.p l 8 k < _ ∧ 0 ≤ swp s.p s.t l 8 k ∧ swp s.p s.t l 8 k < _
  unfold swp
  split
  · omega
  · exact this⟩

section
variable {a w w' : World} {g : Nat} {l : List Int} {last : Int} {S S' T : List Nat}
theorem Live.turn (h : Live a w g l last S) (k : Kept T w w') (hT : ∀ b ∈ T, b ∈ S ∧ a.heap.size ≤ b) (hn : ∀ b ∈ S', b ∈ S ∨ (w.heap.size ≤ b ∧ b < w'.heap.size)) : Live a w' g l last S' := by
  obtain ⟨v, hp, hk, hg, hs⟩ := h
  have h1 : g ∉ T := fun h => (hs g (hT g h).1).2.1 rfl
  have h2 : ∀ b, v.ownBlock = some b → b ∉ T := fun b hb h => (hs b (hT b h).1).2.2 (blk_mem hb)
  refine ⟨v, hp.kept k h1 h2, hk.trans k (fun x hx => .inr (hT x hx).2), hg, fun b hb' => ?_⟩
  rcases hn b hb' with h3 | ⟨h3, h4⟩
  · obtain ⟨h5, h6, h7⟩ := hs b h3
    exact ⟨Nat.lt_of_lt_of_le h5 k.size, h6, h7⟩
  · exact ⟨h4, fun e => by have := hp.1.lt; omega, fun hx => by have := (hp.2.lt b (mem_blk hx)).2; omega⟩
theorem Live.less (h : Live a w g l last S) (hn : ∀ b ∈ S', b ∈ S) : Live a w g l last S' := h.turn (T := []) (Kept.refl _ _) (by simp) (fun b hb => .inl (hn b hb))
theorem Live.in (h : Live a w g l last S) {b : Nat} (hb : b ∈ S) : b < w.heap.size := by
  obtain ⟨v, hp, hk, hg, hs⟩ := h
  exact (hs b hb).1
end

/-- The program's lock at gl and processes at g; the document's at rl and rp; the blocks X as in o. -/
def Quad (a o w : World) (X : List Nat) (gl g rl rp : Nat) (s s' : LS) (l : List Int) (last : Int) (m : List Int) (lastr : Int) : Prop :=
  ∃ v, LockAt w gl s.ow s.p s.t ∧ RLockAt w rl s'.ow s'.p s'.t ∧ RefProcs w a.heap.size rp v m lastr ∧ (a.heap.size ≤ gl ∧ a.heap.size ≤ rl ∧ a.heap.size ≤ rp) ∧
    Live a w g l last (gl :: rl :: rp :: (X ++ blk v)) ∧ ∀ b ∈ X, w.heap[b]? = o.heap[b]? ∧ b ≠ gl ∧ b ≠ rl ∧ b ≠ rp ∧ b ∉ blk v

section
variable {a o w w' : World} {X : List Nat} {gl g rl rp : Nat} {s s' s1 : LS} {l l1 : List Int} {last last1 : Int} {m m1 : List Int} {lastr lastr1 : Int}
theorem Quad.all (h : Quad a o w X gl g rl rp s s' l last m lastr) : Kept [] a w := by
  obtain ⟨v, _, _, _, _, h, _⟩ := h
  exact h.all
theorem Quad.kept0 (h : Quad a o w X gl g rl rp s s' l last m lastr) (k : Kept [] w w') : Quad a o w' X gl g rl rp s s' l last m lastr := by
  obtain ⟨v, h1, h2, h3, h4, h5, h6⟩ := h
  exact ⟨v, Blk.kept0 h1 k, Blk.kept0 h2 k, ⟨h3.1.kept0 k, h3.2.kept0 k⟩, h4, h5.kept0 k, fun b hb => ⟨(k.block b (h5.in (by simp [hb])) (by simp)).trans (h6 b hb).1, (h6 b hb).2⟩⟩
theorem Quad.drop (h : Quad a o w X gl g rl rp s s' l last m lastr) (o' : World) : Quad a o' w [] gl g rl rp s s' l last m lastr := by
  obtain ⟨v, h1, h2, h3, h4, h5, h6⟩ := h
  exact ⟨v, h1, h2, h3, h4, h5.less (fun b hb => by
    simp only [List.nil_append, List.mem_cons] at hb
    simp only [List.mem_cons, List.mem_append]
    rcases hb with hb | hb | hb | hb
    · exact .inl hb
    · exact .inr (.inl hb)
    · exact .inr (.inr (.inl hb))
    · exact .inr (.inr (.inr (.inr hb)))), by simp⟩
theorem Quad.made (h : Quad a o w [] gl g rl rp s s' l last m lastr) (t : TypeId) (cs : Array Value) : Quad a (w.alloc (.cells cs t)) (w.alloc (.cells cs t)) [w.heap.size] gl g rl rp s s' l last m lastr := by
  obtain ⟨v, h1, h2, h3, h4, h5, h6⟩ := h
  have k := (Kept.refl [] w).alloc (.cells cs t)
  refine ⟨v, Blk.kept0 h1 k, Blk.kept0 h2 k, ⟨h3.1.kept0 k, h3.2.kept0 k⟩, h4, h5.turn k (by simp) (fun b hb => ?_), fun b hb => ?_⟩
  · simp only [List.mem_cons, List.mem_append, List.nil_append, List.not_mem_nil, or_false] at hb ⊢
    rcases hb with hb | hb | hb | hb | hb
    · exact .inl (.inl hb)
    · exact .inl (.inr (.inl hb))
    · exact .inl (.inr (.inr (.inl hb)))
    · exact .inr ⟨by omega, by simp; omega⟩
    · exact .inl (.inr (.inr (.inr hb)))
  · obtain rfl : b = w.heap.size := by simpa using hb
    have q1 := Blk.lt h1
    have q2 := Blk.lt h2
    have q3 := h3.1.lt
    refine ⟨rfl, by omega, by omega, by omega, fun hx => ?_⟩
    have := (h3.2.lt _ (mem_blk hx)).2
    omega
theorem Quad.cell (h : Quad a o w X gl g rl rp s s' l last m lastr) {b i : Nat} (hb : b ∈ X) : w.cell? ⟨b, i, none⟩ = o.cell? ⟨b, i, none⟩ := by
  obtain ⟨v, h1, h2, h3, h4, h5, h6⟩ := h
  exact World.cell?_of_block (h6 b hb).1
theorem Quad.stepL (h : Quad a o w X gl g rl rp s s' l last m lastr) (h' : LockAt w' gl s1.ow s1.p s1.t) (k : Kept [gl] w w') : Quad a o w' X gl g rl rp s1 s' l last m lastr := by
  obtain ⟨v, h1, h2, h3, h4, h5, h6⟩ := h
  have hne : rl ≠ gl := Blk.ne h2 h1 (by decide)
  exact ⟨v, h', Blk.kept h2 k (by simpa using hne), h3.far h1 (by decide) (by decide) k, h4, h5.turn k (fun b hb => by simp at hb; subst hb; exact ⟨by simp, h4.1⟩) (fun b hb => .inl hb), fun b hb => ⟨(k.block b (h5.in (by simp [hb])) (by simpa using (h6 b hb).2.1)).trans (h6 b hb).1, (h6 b hb).2⟩⟩
theorem Quad.stepR (h : Quad a o w X gl g rl rp s s' l last m lastr) (h' : RLockAt w' rl s1.ow s1.p s1.t) (k : Kept [rl] w w') : Quad a o w' X gl g rl rp s s1 l last m lastr := by
  obtain ⟨v, h1, h2, h3, h4, h5, h6⟩ := h
  have hne : gl ≠ rl := Blk.ne h1 h2 (by decide)
  exact ⟨v, Blk.kept h1 k (by simpa using hne), h', h3.far h2 (by decide) (by decide) k, h4, h5.turn k (fun b hb => by simp at hb; subst hb; exact ⟨by simp, h4.2.1⟩) (fun b hb => .inl hb), fun b hb => ⟨(k.block b (h5.in (by simp [hb])) (by simpa using (h6 b hb).2.2.1)).trans (h6 b hb).1, (h6 b hb).2⟩⟩
theorem Quad.stepP {v : Value} (h1 : LockAt w gl s.ow s.p s.t) (h2 : RLockAt w rl s'.ow s'.p s'.t) (h3 : RefProcs w a.heap.size rp v m lastr) (h4 : a.heap.size ≤ gl ∧ a.heap.size ≤ rl ∧ a.heap.size ≤ rp) (h6 : ∀ b ∈ X, w.heap[b]? = o.heap[b]? ∧ b ≠ gl ∧ b ≠ rl ∧ b ≠ rp ∧ b ∉ blk v)
    (h' : Live a w' g l1 last1 (gl :: rl :: rp :: (X ++ blk v))) (k : Same (gl :: rl :: rp :: (X ++ blk v)) w w') : Quad a o w' X gl g rl rp s s' l1 last1 m lastr :=
  ⟨v, (k gl (by simp)).trans h1, (k rl (by simp)).trans h2, ⟨(k rp (by simp)).trans h3.1, h3.2.same k (fun b hb => by simp [blk_mem hb])⟩, h4, h', fun b hb => ⟨(k b (by simp [hb])).trans (h6 b hb).1, (h6 b hb).2⟩⟩
theorem Quad.stepRP {v v' : Value} (h1 : LockAt w gl s.ow s.p s.t) (h2 : RLockAt w rl s'.ow s'.p s'.t) (h3 : RefProcs w a.heap.size rp v m lastr) (h4 : a.heap.size ≤ gl ∧ a.heap.size ≤ rl ∧ a.heap.size ≤ rp) (h5 : Live a w g l last (gl :: rl :: rp :: (X ++ blk v))) (h6 : ∀ b ∈ X, w.heap[b]? = o.heap[b]? ∧ b ≠ gl ∧ b ≠ rl ∧ b ≠ rp ∧ b ∉ blk v)
    (h' : RefProcs w' a.heap.size rp v' m1 lastr1) (k : Kept [rp] w w') (hf : ∀ b, v'.ownBlock = some b → w.heap.size ≤ b) : Quad a o w' X gl g rl rp s s' l last m1 lastr1 := by
  have n1 : gl ≠ rp := Blk.ne h1 h3.1 (by decide)
  have n2 : rl ≠ rp := Blk.ne h2 h3.1 (by decide)
  refine ⟨v', Blk.kept h1 k (by simpa using n1), Blk.kept h2 k (by simpa using n2), h', h4, h5.turn k (fun b hb => by simp at hb; subst hb; exact ⟨by simp, h4.2.2⟩) (fun b hb => ?_), fun b hb => ⟨(k.block b (h5.in (by simp [hb])) (by simpa using (h6 b hb).2.2.2.1)).trans (h6 b hb).1, (h6 b hb).2.1, (h6 b hb).2.2.1, (h6 b hb).2.2.2.1, fun hx => ?_⟩⟩
  · simp only [List.mem_cons, List.mem_append] at hb ⊢
    rcases hb with hb | hb | hb | hb | hb
    · exact .inl (.inl hb)
    · exact .inl (.inr (.inl hb))
    · exact .inl (.inr (.inr (.inl hb)))
    · exact .inl (.inr (.inr (.inr (.inl hb))))
    · exact .inr ⟨hf b (mem_blk hb), (h'.2.lt b (mem_blk hb)).2⟩
  · have := hf b (mem_blk hx)
    have := h5.in (b := b) (by simp [hb])
    omega
end

section
variable (a o w : World) (X : List Nat) (gl g rl rp : Nat) (s s' : LS) (l : List Int) (last : Int) (m : List Int) (lastr : Int)
theorem take_Q (q : Int) (h : Quad a o w X gl g rl rp s s' l last m lastr) : Calls Tryd.prog 7 #[.pointer (some ⟨gl, 0, none⟩), .int .i64 q, .pointer (some ⟨g, 0, none⟩)] w fun e w' => e = .returned (.bool (takes s.ow q l)) ∧ Quad a o w' X gl g rl rp ⟨if takes s.ow q l then q else s.ow, s.p, s.t⟩ s' l last m lastr := by
  have h' := h
  obtain ⟨v, h1, h2, h3, h4, h5, h6⟩ := h'
  by_cases hq : 0 < q
  · by_cases hw : s.ow = q
    · have e : takes s.ow q l = false := by simp [takes, hw]
      rw [e]
      refine (?_ : Calls _ _ _ _ _)
      rw [← hw]
      exact (take_mine gl s.ow s.p s.t w _ h1 (by omega)).mono fun _ _ ⟨he, hw⟩ => ⟨he, hw ▸ h⟩
    · by_cases h0 : 0 < s.ow
      · by_cases hl : s.ow ∈ l
        · have e : takes s.ow q l = false := by simp [takes, hl, h0]
          rw [e]
          exact (take_held a gl g s.ow s.p s.t l last _ w q h1 h5 hq h0 hw hl).mono fun _ _ ⟨he, hw⟩ => ⟨he, hw ▸ h⟩
        · have e : takes s.ow q l = true := by simp [takes, hl, hq, hw]
          rw [e]
          exact (take_dead a gl g s.ow s.p s.t l last _ w q h1 h5 hq h0 hw hl).mono fun _ _ ⟨he, h1, k⟩ => ⟨he, h.stepL (s1 := ⟨q, s.p, s.t⟩) h1 k⟩
      · have e : takes s.ow q l = true := by simp [takes, h0, hq, hw]
        rw [e]
        exact (take_free gl s.ow s.p s.t w q _ h1 hq (by omega)).mono fun _ _ ⟨he, h1, k⟩ => ⟨he, h.stepL (s1 := ⟨q, s.p, s.t⟩) h1 k⟩
  · have e : takes s.ow q l = false := by simp [takes, hq]
    rw [e]
    exact (take_nobody gl s.ow s.p s.t w q _ h1 (by omega)).mono fun _ _ ⟨he, hw⟩ => ⟨he, hw ▸ h⟩
theorem rtake_Q (q : Int) (h : Quad a o w X gl g rl rp s s' l last m lastr) (hf : s'.fit) : Calls Tryd.prog 8 #[.pointer (some ⟨rl, 0, none⟩), .int .i64 q, .pointer (some ⟨rp, 0, none⟩)] w fun e w' => e = .returned (.bool (takes s'.ow q m)) ∧ Quad a o w' X gl g rl rp s ⟨if takes s'.ow q m then q else s'.ow, s'.p, s'.t⟩ l last m lastr := by
  have h' := h
  obtain ⟨v, h1, h2, h3, h4, h5, h6⟩ := h'
  cases e : takes s'.ow q m
  · exact (rtake_no rl s'.ow s'.p s'.t w a.heap.size rp v m lastr q h2 h3 hf.1 e).mono fun _ _ ⟨he, hw⟩ => ⟨he, hw ▸ h⟩
  · exact (rtake_yes rl s'.ow s'.p s'.t w a.heap.size rp v m lastr q h2 h3 hf.1 e).mono fun _ _ ⟨he, h1, k⟩ => ⟨he, h.stepR (s1 := ⟨q, s'.p, s'.t⟩) h1 k⟩
/-- Whether Release lets go. -/
def lets (ow q : Int) : Bool := decide (0 < q) && decide (ow = q)
theorem release_Q (q : Int) (h : Quad a o w X gl g rl rp s s' l last m lastr) : Calls Tryd.prog 9 #[.pointer (some ⟨gl, 0, none⟩), .int .i64 q] w fun e w' => e = .returned (.bool (lets s.ow q)) ∧ Quad a o w' X gl g rl rp ⟨if lets s.ow q then 0 else s.ow, s.p, s.t⟩ s' l last m lastr := by
  have h' := h
  obtain ⟨v, h1, h2, h3, h4, h5, h6⟩ := h'
  by_cases hq : 0 < q ∧ s.ow = q
  · have e : lets s.ow q = true := by simp [lets, hq]
    rw [e, ← hq.2]
    exact (release_own gl s.ow s.p s.t w h1 (by omega)).mono fun _ _ ⟨he, h1, k⟩ => ⟨he, h.stepL (s1 := ⟨0, s.p, s.t⟩) h1 k⟩
  · have e : lets s.ow q = false := by
      simp [lets]
      intro h0 h1
      exact hq ⟨h0, h1⟩
    rw [e]
    exact (release_no gl s.ow s.p s.t w q h1 (by
      by_cases h0 : 0 < q
      · exact .inr (fun h1 => hq ⟨h0, h1⟩)
      · exact .inl (by omega))).mono fun _ _ ⟨he, hw⟩ => ⟨he, hw ▸ h⟩
theorem rrelease_Q (q : Int) (h : Quad a o w X gl g rl rp s s' l last m lastr) : Calls Tryd.prog 10 #[.pointer (some ⟨rl, 0, none⟩), .int .i64 q] w fun e w' => e = .returned (.bool (lets s'.ow q)) ∧ Quad a o w' X gl g rl rp s ⟨if lets s'.ow q then 0 else s'.ow, s'.p, s'.t⟩ l last m lastr := by
  have h' := h
  obtain ⟨v, h1, h2, h3, h4, h5, h6⟩ := h'
  by_cases hq : 0 < q ∧ s'.ow = q
  · have e : lets s'.ow q = true := by simp [lets, hq]
    rw [e, ← hq.2]
    exact (rrelease_own rl s'.ow s'.p s'.t w h2 (by omega)).mono fun _ _ ⟨he, h1, k⟩ => ⟨he, h.stepR (s1 := ⟨0, s'.p, s'.t⟩) h1 k⟩
  · have e : lets s'.ow q = false := by
      simp [lets]
      intro h0 h1
      exact hq ⟨h0, h1⟩
    rw [e]
    exact (rrelease_no rl s'.ow s'.p s'.t w q h2 (by
      by_cases h0 : 0 < q
      · exact .inr (fun h1 => hq ⟨h0, h1⟩)
      · exact .inl (by omega))).mono fun _ _ ⟨he, hw⟩ => ⟨he, hw ▸ h⟩
theorem claim_Qy (q : Int) (j : Nat) (r : List Nat) (hq : 0 < q) (hf : fl s.p 8 = j :: r) (h : Quad a o w X gl g rl rp s s' l last m lastr) : Calls Tryd.prog 11 #[.pointer (some ⟨gl, 0, none⟩), .int .i64 q] w fun e w' => e = .returned (.tuple #[.int .i64 j, .nilIface]) ∧ Quad a o w' X gl g rl rp ⟨s.ow, upd s.p j q, upd s.t j 0⟩ s' l last m lastr := by
  have h' := h
  obtain ⟨v, h1, h2, h3, h4, h5, h6⟩ := h'
  exact (claim_first gl s.ow s.p s.t w q j r hq h1 hf).mono fun _ _ ⟨he, h1, k⟩ => ⟨he, h.stepL (s1 := ⟨s.ow, upd s.p j q, upd s.t j 0⟩) h1 k⟩
theorem claim_Qn (q : Int) (hf : q ≤ 0 ∨ fl s.p 8 = []) (h : Quad a o w X gl g rl rp s s' l last m lastr) : Calls Tryd.prog 11 #[.pointer (some ⟨gl, 0, none⟩), .int .i64 q] w fun e w' => e = .returned (.tuple #[.int .i64 (-1), .iface 69 (.int .i64 15)]) ∧ Quad a o w' X gl g rl rp s s' l last m lastr := by
  have h' := h
  obtain ⟨v, h1, h2, h3, h4, h5, h6⟩ := h'
  rcases hf with hf | hf
  · exact (claim_nobody gl s.ow s.p s.t w q h1 hf).mono fun _ _ ⟨he, k⟩ => ⟨he, h.kept0 k⟩
  · exact (claim_full gl s.ow s.p s.t w q h1 (fl_none hf)).mono fun _ _ ⟨he, k⟩ => ⟨he, h.kept0 k⟩
theorem rclaim_Qy (q : Int) (j : Nat) (r : List Nat) (hq : 0 < q) (hf : fl s'.p 8 = j :: r) (h : Quad a o w X gl g rl rp s s' l last m lastr) : Calls Tryd.prog 12 #[.pointer (some ⟨rl, 0, none⟩), .int .i64 q] w fun e w' => e = .returned (.tuple #[.int .i64 j, .int .i64 0]) ∧ Quad a o w' X gl g rl rp s ⟨s'.ow, upd s'.p j q, upd s'.t j 0⟩ l last m lastr := by
  have h' := h
  obtain ⟨v, h1, h2, h3, h4, h5, h6⟩ := h'
  exact (rclaim_first rl s'.ow s'.p s'.t w q j r hq h2 hf).mono fun _ _ ⟨he, h1, k⟩ => ⟨he, h.stepR (s1 := ⟨s'.ow, upd s'.p j q, upd s'.t j 0⟩) h1 k⟩
theorem rclaim_Qn (q : Int) (hf : q ≤ 0 ∨ fl s'.p 8 = []) (h : Quad a o w X gl g rl rp s s' l last m lastr) : Calls Tryd.prog 12 #[.pointer (some ⟨rl, 0, none⟩), .int .i64 q] w fun e w' => e = .returned (.tuple #[.int .i64 (-1), .int .i64 15]) ∧ Quad a o w' X gl g rl rp s s' l last m lastr := by
  have h' := h
  obtain ⟨v, h1, h2, h3, h4, h5, h6⟩ := h'
  by_cases h0 : q ≤ 0
  · exact (rclaim_nobody rl w q h0).mono fun _ _ ⟨he, hw⟩ => ⟨he, hw ▸ h⟩
  · exact (rclaim_full rl s'.ow s'.p s'.t w q h2 (fl_none (hf.resolve_left h0)) (by omega)).mono fun _ _ ⟨he, hw⟩ => ⟨he, hw ▸ h⟩
theorem publish_Qy (k : Nat) (q x : Int) (hk : k < 8) (ho : owns s.p k q = true) (h : Quad a o w X gl g rl rp s s' l last m lastr) : Calls Tryd.prog 14 #[.pointer (some ⟨gl, 0, none⟩), .int .i64 k, .int .i64 q, .int .u64 x] w fun e w' => e = .returned .nilIface ∧ Quad a o w' X gl g rl rp ⟨s.ow, s.p, upd s.t k x⟩ s' l last m lastr := by
  have h' := h
  obtain ⟨v, h1, h2, h3, h4, h5, h6⟩ := h'
  exact (publish_own gl s.ow s.p s.t w k q x hk h1 ho).mono fun _ _ ⟨he, h1, k1⟩ => ⟨he, h.stepL (s1 := ⟨s.ow, s.p, upd s.t k x⟩) h1 k1⟩
theorem publish_Qn (z q x : Int) (ho : owns s.p z q = false) (h : Quad a o w X gl g rl rp s s' l last m lastr) : Calls Tryd.prog 14 #[.pointer (some ⟨gl, 0, none⟩), .int .i64 z, .int .i64 q, .int .u64 x] w fun e w' => e = .returned (.iface 69 (.int .i64 18)) ∧ Quad a o w' X gl g rl rp s s' l last m lastr := by
  have h' := h
  obtain ⟨v, h1, h2, h3, h4, h5, h6⟩ := h'
  exact (publish_no gl s.ow s.p s.t w z q x h1 ho).mono fun _ _ ⟨he, hw⟩ => ⟨he, hw ▸ h⟩
theorem rpublish_Qy (k : Nat) (q x : Int) (hk : k < 8) (ho : owns s'.p k q = true) (h : Quad a o w X gl g rl rp s s' l last m lastr) : Calls Tryd.prog 15 #[.pointer (some ⟨rl, 0, none⟩), .int .i64 k, .int .i64 q, .int .u64 x] w fun e w' => e = .returned (.int .i64 0) ∧ Quad a o w' X gl g rl rp s ⟨s'.ow, s'.p, upd s'.t k x⟩ l last m lastr := by
  have h' := h
  obtain ⟨v, h1, h2, h3, h4, h5, h6⟩ := h'
  exact (rpublish_own rl s'.ow s'.p s'.t w k q x hk h2 ho).mono fun _ _ ⟨he, h1, k1⟩ => ⟨he, h.stepR (s1 := ⟨s'.ow, s'.p, upd s'.t k x⟩) h1 k1⟩
theorem rpublish_Qn (z q x : Int) (ho : owns s'.p z q = false) (h : Quad a o w X gl g rl rp s s' l last m lastr) : Calls Tryd.prog 15 #[.pointer (some ⟨rl, 0, none⟩), .int .i64 z, .int .i64 q, .int .u64 x] w fun e w' => e = .returned (.int .i64 18) ∧ Quad a o w' X gl g rl rp s s' l last m lastr := by
  have h' := h
  obtain ⟨v, h1, h2, h3, h4, h5, h6⟩ := h'
  exact (rpublish_no rl s'.ow s'.p s'.t w z q x h2 ho).mono fun _ _ ⟨he, hw⟩ => ⟨he, hw ▸ h⟩
theorem free_Qy (k : Nat) (q : Int) (hk : k < 8) (ho : owns s.p k q = true) (h : Quad a o w X gl g rl rp s s' l last m lastr) : Calls Tryd.prog 16 #[.pointer (some ⟨gl, 0, none⟩), .int .i64 k, .int .i64 q] w fun e w' => e = .returned .nilIface ∧ Quad a o w' X gl g rl rp ⟨s.ow, upd s.p k 0, upd s.t k 0⟩ s' l last m lastr := by
  have h' := h
  obtain ⟨v, h1, h2, h3, h4, h5, h6⟩ := h'
  exact (free_own gl s.ow s.p s.t w k q hk h1 ho).mono fun _ _ ⟨he, h1, k1⟩ => ⟨he, h.stepL (s1 := ⟨s.ow, upd s.p k 0, upd s.t k 0⟩) h1 k1⟩
theorem free_Qn (z q : Int) (ho : owns s.p z q = false) (h : Quad a o w X gl g rl rp s s' l last m lastr) : Calls Tryd.prog 16 #[.pointer (some ⟨gl, 0, none⟩), .int .i64 z, .int .i64 q] w fun e w' => e = .returned (.iface 69 (.int .i64 18)) ∧ Quad a o w' X gl g rl rp s s' l last m lastr := by
  have h' := h
  obtain ⟨v, h1, h2, h3, h4, h5, h6⟩ := h'
  exact (free_no gl s.ow s.p s.t w z q h1 ho).mono fun _ _ ⟨he, hw⟩ => ⟨he, hw ▸ h⟩
theorem rfree_Qy (k : Nat) (q : Int) (hk : k < 8) (ho : owns s'.p k q = true) (h : Quad a o w X gl g rl rp s s' l last m lastr) : Calls Tryd.prog 17 #[.pointer (some ⟨rl, 0, none⟩), .int .i64 k, .int .i64 q] w fun e w' => e = .returned (.int .i64 0) ∧ Quad a o w' X gl g rl rp s ⟨s'.ow, upd s'.p k 0, upd s'.t k 0⟩ l last m lastr := by
  have h' := h
  obtain ⟨v, h1, h2, h3, h4, h5, h6⟩ := h'
  exact (rfree_own rl s'.ow s'.p s'.t w k q hk h2 ho).mono fun _ _ ⟨he, h1, k1⟩ => ⟨he, h.stepR (s1 := ⟨s'.ow, upd s'.p k 0, upd s'.t k 0⟩) h1 k1⟩
theorem rfree_Qn (z q : Int) (ho : owns s'.p z q = false) (h : Quad a o w X gl g rl rp s s' l last m lastr) : Calls Tryd.prog 17 #[.pointer (some ⟨rl, 0, none⟩), .int .i64 z, .int .i64 q] w fun e w' => e = .returned (.int .i64 18) ∧ Quad a o w' X gl g rl rp s s' l last m lastr := by
  have h' := h
  obtain ⟨v, h1, h2, h3, h4, h5, h6⟩ := h'
  exact (rfree_no rl s'.ow s'.p s'.t w z q h2 ho).mono fun _ _ ⟨he, hw⟩ => ⟨he, hw ▸ h⟩
end
end Go.Proofs.YthifbmopfcfokaaDoor
