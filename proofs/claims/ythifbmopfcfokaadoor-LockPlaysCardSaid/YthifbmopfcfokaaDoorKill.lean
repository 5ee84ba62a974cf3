/- procs.New, Lives, All, Power, Kill. Conditions: the struct lies in a block, its row is the call's own. -/
import Derived.Test.YthifbmopfcfokaaDoorSpawn
import Derived.Test.YthifbmopfcfokaaDoorDel
namespace Go.Proofs.YthifbmopfcfokaaDoor
open Go.RowKit

theorem ProcsAt.kept {w w' : World} {base g : Nat} {v : Value} {l : List Int} {last : Int} {S : List Nat} (h : ProcsAt w base g v l last) (k : Kept S w w') (hg : g ∉ S) (hs : ∀ b, v.ownBlock = some b → b ∉ S) : ProcsAt w' base g v l last := ⟨h.1.kept k hg, h.2.kept k hs⟩
theorem ProcsAt.kept0 {w w' : World} {base g : Nat} {v : Value} {l : List Int} {last : Int} (h : ProcsAt w base g v l last) (k : Kept [] w w') : ProcsAt w' base g v l last := h.kept k (by simp) (by simp)

set_option maxRecDepth 100000 in
theorem newp_any (w : World) : Calls Tryd.prog 6 #[] w fun e w' => e = .returned (.pointer (some ⟨w.heap.size, 0, none⟩)) ∧ ProcsAt w' w.heap.size w.heap.size (.slice none 0 0) [] 0 ∧ Kept [] w w' := by
  go_enter Tryd.func6, Tryd.ntmps6
  go_wp2
  go_ret
  exact ⟨rfl, ⟨Blk.new w _ _, Own.nil _ _⟩, (Kept.refl _ _).alloc _⟩

section
variable (base g : Nat) (v : Value) (l : List Int) (last : Int) (w : World)
set_option maxRecDepth 100000 in
theorem lives_any (x : Int) (hp : ProcsAt w base g v l last) : Calls Tryd.prog 33 #[.pointer (some ⟨g, 0, none⟩), .int .i64 x] w fun e w' => e = .returned (.bool (decide (x ∈ l))) ∧ w = w' := by
  obtain ⟨hs, ho⟩ := hp
  obtain ⟨A, c, rfl, hm, hr, hbk⟩ := ho.shape
  have c0 : w.cell? ⟨g, 0, none⟩ = some (.slice A l.length c) := hs.cell 0
  have hc := contains_any A l.length c l x w rfl (by simp only [maxLen] at hm; omega) hr
  clear hs ho hr hm hbk
  generalize l.length = n at c0 hc
  have HC := hide hc
  clear hc
  go_enter Tryd.func33, Tryd.ntmps33
  go_wp2_with fail
  refine HC.out.mono ?_
  rintro e w' ⟨rfl, rfl⟩
  go_wp2
  go_ret
  exact ⟨rfl, rfl⟩

set_option maxRecDepth 100000 in
theorem kill_none (x : Int) (hp : ProcsAt w base g v l last) (hx : x ∉ l) : Calls Tryd.prog 22 #[.pointer (some ⟨g, 0, none⟩), .int .i64 x] w fun e w' => e = .returned (.iface 69 (.int .i64 25)) ∧ Kept [] w w' := by
  have hlv := lives_any base g v l last (w.alloc (.cells #[.int .i64 x] 3)) x (hp.kept0 ((Kept.refl _ _).alloc _))
  rw [show decide (x ∈ l) = false from by simpa using hx] at hlv
  have HL := hide hlv
  clear hlv hp hx
  go_enter Tryd.func22, Tryd.ntmps22
  go_wp2_with fail
  refine HL.out.mono ?_
  rintro e w' ⟨rfl, rfl⟩
  go_wp2
  go_ret
  exact ⟨rfl, (Kept.refl _ _).alloc _⟩

set_option maxRecDepth 100000 in
theorem kill_some (x : Int) (hp : ProcsAt w base g v l last) (hx : x ∈ l) : Calls Tryd.prog 22 #[.pointer (some ⟨g, 0, none⟩), .int .i64 x] w fun e w' => e = .returned .nilIface ∧ ∃ v', ProcsAt w' base g v' (wo l x) last ∧ v'.ownBlock = v.ownBlock ∧ Kept (g :: blk v) w w' := by
  have hp1 := hp.kept0 ((Kept.refl _ w).alloc (.cells #[.int .i64 x] 3))
  have hlv := lives_any base g v l last (w.alloc (.cells #[.int .i64 x] 3)) x hp1
  rw [show decide (x ∈ l) = true from by simpa using hx] at hlv
  obtain ⟨hs, ho⟩ := hp1
  have hlt := ho.lt
  obtain ⟨A, c, rfl, hm, hr, hbk⟩ := ho.shape
  obtain ⟨bl, hA⟩ : ∃ bl, A = some ⟨bl, 0, none⟩ := by
    rcases ho.2 with ⟨h1, h2⟩ | ⟨g', cap, cur, h1, _⟩
    · rw [List.eq_nil_of_length_eq_zero h2] at hx
      exact absurd hx (by simp)
    · injection h1 with h1
      exact ⟨g', h1⟩
  subst hA
  have hne := own_ne ho hs (by decide)
  have hbg : bl ≠ g := fun e => hne (by rw [e]; rfl)
  have hbw : bl < w.heap.size := by
    have h1 := hp.2.lt bl rfl
    exact h1.2
  have c0 : (w.alloc (.cells #[.int .i64 x] 3)).cell? ⟨g, 0, none⟩ = some (.slice (some ⟨bl, 0, none⟩) l.length c) := hs.cell 0
  have hdel := delete_any base bl l.length c w.heap.size l x (w.alloc (.cells #[.int .i64 x] 3)) ho hx (by simp) (by omega) (by simp)
  have HL := hide hlv
  have HD := hide hdel
  have hs' : Blk (w.alloc (.cells #[.int .i64 x] 3)) g 75 #[.slice (some ⟨bl, 0, none⟩) l.length c, .int .i64 last] := hs
  clear hlv hdel hp hx ho hr hm hbk hlt hs hne
  generalize l.length = n at c0 HD hs'
  have HS := hide hs'
  clear hs'
  go_enter Tryd.func22, Tryd.ntmps22
  go_wp2_with fail
  refine HL.out.mono ?_
  rintro e w' ⟨rfl, rfl⟩
  go_wp2_with fail
  refine HD.out.mono ?_
  rintro e w2 ⟨m, rfl, ho2, hK2⟩
  have hs2 := HS.out.kept hK2 (by simpa using fun e => hbg e.symm)
  have d0 : w2.cell? ⟨g, 0, none⟩ = some (.slice (some ⟨bl, 0, none⟩) n c) := hs2.cell 0
  have f0 := hs2.free 0
  go_wp2
  go_ret
  refine ⟨rfl, _, ⟨Blk.set hs2 0 _, ho2.kept ((Kept.refl [g] w2).setCell (p := ⟨g, 0, none⟩) (by simp) _) (fun b hb => ?_)⟩, rfl, ?_⟩
  · obtain rfl : bl = b := by simpa [Value.ownBlock] using hb
    simpa using hbg
  · exact ((((Kept.refl _ w).alloc _).trans (hK2.more (S' := g :: blk (.slice (some ⟨bl, 0, none⟩) n c)) (by simp [blk, Value.ownBlock])) (fun x hx => .inl hx)).setCell (p := ⟨g, 0, none⟩) (by simp) _)
end
end Go.Proofs.YthifbmopfcfokaaDoor
