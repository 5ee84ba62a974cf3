/- The processes over a whole row of calls: what they are, what lies beside them; the row that the statements on procs hold against the program first.
   Conditions: at most 64 live, the last number is below a million. -/
import Derived.Test.YthifbmopfcfokaaDoorKill
import Derived.Test.YthifbmopfcfokaaDoorErrs
namespace Go.Proofs.YthifbmopfcfokaaDoor
open Go.RowKit

/-- The blocks S hold what they held. -/
def Same (S : List Nat) (w w' : World) : Prop := ∀ b ∈ S, w'.heap[b]? = w.heap[b]?
/-- The processes at g, all made since a; apart from the blocks S. -/
def Live (a w : World) (g : Nat) (l : List Int) (last : Int) (S : List Nat) : Prop :=
  ∃ v, ProcsAt w a.heap.size g v l last ∧ Kept [] a w ∧ a.heap.size ≤ g ∧ ∀ b ∈ S, b < w.heap.size ∧ b ≠ g ∧ b ∉ blk v

section
variable {a w w' : World} {base g : Nat} {v v' : Value} {l l' : List Int} {last last' : Int} {S S' : List Nat}
theorem Kept.same (h : Kept S' w w') (hs : ∀ b ∈ S, b < w.heap.size ∧ b ∉ S') : Same S w w' := fun b hb => h.block b (hs b hb).1 (hs b hb).2
theorem Live.size (h : Live a w g l last S) : a.heap.size ≤ w.heap.size := by
  obtain ⟨_, _, k, _⟩ := h
  exact k.size
theorem Live.all (h : Live a w g l last S) : Kept [] a w := by
  obtain ⟨_, _, k, _⟩ := h
  exact k
theorem Live.step (hp : ProcsAt w a.heap.size g v l last) (hk : Kept [] a w) (hg : a.heap.size ≤ g) (hs : ∀ b ∈ S, b < w.heap.size ∧ b ≠ g ∧ b ∉ blk v)
    (hp' : ProcsAt w' a.heap.size g v' l' last') (k : Kept (g :: blk v) w w') (hf : ∀ b, v'.ownBlock = some b → b ∈ blk v ∨ w.heap.size ≤ b) : Live a w' g l' last' S ∧ Same S w w' := by
  refine ⟨⟨v', hp', hk.trans k ?_, hg, fun b hb => ?_⟩, fun b hb => k.block b (hs b hb).1 ?_⟩
  · intro x hx
    rcases List.mem_cons.1 hx with rfl | hx
    · exact .inr hg
    · exact .inr (hp.2.lt x (mem_blk hx)).1
  · obtain ⟨h1, h2, h3⟩ := hs b hb
    refine ⟨Nat.lt_of_lt_of_le h1 k.size, h2, fun hx => ?_⟩
    rcases hf b (mem_blk hx) with h4 | h4
    · exact h3 h4
    · omega
  · obtain ⟨h1, h2, h3⟩ := hs b hb
    simp [h2, h3]
/-- A call that turns blocks of S or none: the processes are as they were, and apart from what is new. -/
theorem Live.beside (h : Live a w g l last S) (k : Kept S w w') (hb : ∀ b ∈ S, a.heap.size ≤ b) (hn : ∀ b ∈ S', b ∈ S ∨ (w.heap.size ≤ b ∧ b < w'.heap.size)) : Live a w' g l last S' := by
  obtain ⟨v, hp, hk, hg, hs⟩ := h
  have h1 : g ∉ S := fun h => (hs g h).2.1 rfl
  have h2 : ∀ b, v.ownBlock = some b → b ∉ S := fun b hb h => (hs b h).2.2 (blk_mem hb)
  refine ⟨v, hp.kept k h1 h2, hk.trans k (fun x hx => .inr (hb x hx)), hg, fun b hb' => ?_⟩
  rcases hn b hb' with h3 | ⟨h3, h4⟩
  · obtain ⟨h5, h6, h7⟩ := hs b h3
    exact ⟨Nat.lt_of_lt_of_le h5 k.size, h6, h7⟩
  · exact ⟨h4, fun e => by have := hp.1.lt; omega, fun hx => by have := (hp.2.lt b (mem_blk hx)).2; omega⟩
theorem Live.kept0 (h : Live a w g l last S) (k : Kept [] w w') : Live a w' g l last S := by
  obtain ⟨v, hp, hk, hg, hs⟩ := h
  exact ⟨v, hp.kept0 k, hk.trans0 k, hg, fun b hb => ⟨Nat.lt_of_lt_of_le (hs b hb).1 k.size, (hs b hb).2⟩⟩
theorem Live.drewN (h : Live a w g l last S) (n : Nat) : Live a (w.drewN n) g l last S := h.kept0 ((Kept.refl _ _).drewN n)

/-- A row of ints, where its block holds what it held. -/
theorem Own.same (h : Own w base v l) (k : Same S w w') (hs : ∀ b, v.ownBlock = some b → b ∈ S) : Own w' base v l := by
  refine ⟨h.1, ?_⟩
  rcases h.2 with hn | ⟨g, cap, cur, rfl, hb, hg, rest⟩
  · exact .inl hn
  · exact .inr ⟨g, cap, cur, rfl, hb, (k g (hs g rfl)).trans hg, rest⟩
end

section
variable (a : World) (g : Nat) (l : List Int) (last : Int) (S : List Nat) (w : World)
theorem new_L (h : Kept [] a w) (hS : ∀ b ∈ S, b < w.heap.size) : Calls Tryd.prog 6 #[] w fun e w' => ∃ g, e = .returned (.pointer (some ⟨g, 0, none⟩)) ∧ Live a w' g [] 0 S ∧ Kept [] w w' ∧ w.heap.size ≤ g :=
  (newp_any w).mono fun e w' ⟨he, hp, hk⟩ => ⟨_, he, ⟨_, ⟨hp.1, Own.nil _ _⟩, h.trans0 hk, h.size, fun b hb => ⟨Nat.lt_of_lt_of_le (hS b hb) hk.size, Nat.ne_of_lt (hS b hb), by simp [blk, Value.ownBlock]⟩⟩, hk, Nat.le_refl _⟩
theorem spawn_L (h : Live a w g l last S) (hl : l.length < 64) (h0 : 0 ≤ last) (h1 : last < 1000000) :
    Calls Tryd.prog 20 #[.pointer (some ⟨g, 0, none⟩)] w fun e w' => e = .returned (.tuple #[.int .i64 (last + 1), .nilIface]) ∧ Live a w' g (l ++ [last + 1]) (last + 1) S ∧ Same S w w' ∧ w.heap.size ≤ w'.heap.size := by
  obtain ⟨v, hp, hk, hg, hs⟩ := h
  refine (spawn_room a.heap.size g v l last w hp hl h0 h1 hk.size).mono ?_
  rintro e w' ⟨he, v', hp', k, hf⟩
  obtain ⟨h2, h3⟩ := Live.step hp hk hg hs hp' k hf
  exact ⟨he, h2, h3, k.size⟩
theorem spawn_Lf (h : Live a w g l last S) (hl : l.length = 64) :
    Calls Tryd.prog 20 #[.pointer (some ⟨g, 0, none⟩)] w fun e w' => e = .returned (.tuple #[.int .i64 0, .iface 69 (.int .i64 26)]) ∧ Live a w' g l last S ∧ Kept [] w w' := by
  have h' := h
  obtain ⟨v, hp, hk, hg, hs⟩ := h'
  exact (spawn_full a.heap.size g v l last w hp hl).mono fun e w' ⟨he, k⟩ => ⟨he, h.kept0 k, k⟩
theorem kill_L (x : Int) (h : Live a w g l last S) (hx : x ∈ l) :
    Calls Tryd.prog 22 #[.pointer (some ⟨g, 0, none⟩), .int .i64 x] w fun e w' => e = .returned .nilIface ∧ Live a w' g (wo l x) last S ∧ Same S w w' ∧ w.heap.size ≤ w'.heap.size := by
  obtain ⟨v, hp, hk, hg, hs⟩ := h
  refine (kill_some a.heap.size g v l last w x hp hx).mono ?_
  rintro e w' ⟨he, v', hp', hv, k⟩
  obtain ⟨h2, h3⟩ := Live.step hp hk hg hs hp' k (fun b hb => .inl (blk_mem (by rw [← hv]; exact hb)))
  exact ⟨he, h2, h3, k.size⟩
theorem kill_Lf (x : Int) (h : Live a w g l last S) (hx : x ∉ l) :
    Calls Tryd.prog 22 #[.pointer (some ⟨g, 0, none⟩), .int .i64 x] w fun e w' => e = .returned (.iface 69 (.int .i64 25)) ∧ Live a w' g l last S ∧ Kept [] w w' := by
  have h' := h
  obtain ⟨v, hp, hk, hg, hs⟩ := h'
  exact (kill_none a.heap.size g v l last w x hp hx).mono fun e w' ⟨he, k⟩ => ⟨he, h.kept0 k, k⟩
theorem lives_L (x : Int) (h : Live a w g l last S) :
    Calls Tryd.prog 33 #[.pointer (some ⟨g, 0, none⟩), .int .i64 x] w fun e w' => e = .returned (.bool (decide (x ∈ l))) ∧ w = w' := by
  obtain ⟨v, hp, _⟩ := h
  exact lives_any _ g v l last w x hp
end

theorem rd_two (w : World) (x y : Int) : Rd (w.alloc (.cells #[.int .i64 x, .int .i64 y] 3)) (some ⟨w.heap.size, 0, none⟩) 2 (ints [x, y]) := by
  intro k hk
  refine ⟨w.heap.size, 0, rfl, by simp, ?_⟩
  rw [(Blk.new w 3 _).cell]
  match k, hk with
  | 0, _ => rfl
  | 1, _ => rfl

end Go.Proofs.YthifbmopfcfokaaDoor
