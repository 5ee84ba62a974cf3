/- The reference's Spawn: the next number, if there is room; a new list.
   Conditions: the list has at most 64 numbers, the last number is below a million. -/
import Derived.Test.YthifbmopfcfokaaDoorSpawn
namespace Go.Proofs.YthifbmopfcfokaaDoor
open Go.RowKit Go.Conc

/-- The document's processes: the struct at g, its list v, those that live, the last number. -/
def RefProcs (w : World) (base g : Nat) (v : Value) (l : List Int) (last : Int) : Prop := Blk w g 38 #[v, .int .i64 last] ∧ Own w base v l
theorem Own.cap0 {w : World} {base n c : Nat} {A : Option Addr} {l : List Int} (h : Own w base (.slice A n c) l) (hA : A = none) : c = 0 := by
  subst hA
  rcases h.2 with ⟨h1, _⟩ | ⟨g, cap, cur, h1, _⟩
  · injection h1
  · injection h1 with h2
    cases h2

set_option maxRecDepth 100000 in
theorem spawnr_room (base g : Nat) (v : Value) (l : List Int) (last : Int) (w : World) (hp : RefProcs w base g v l last) (hl : l.length < 64) (h0 : 0 ≤ last) (h1 : last < 1000000) (hb : base ≤ w.heap.size) :
    Calls Tryd.prog 21 #[.pointer (some ⟨g, 0, none⟩)] w fun e w' => e = .returned (.tuple #[.int .i64 (last + 1), .int .i64 0]) ∧ ∃ v', RefProcs w' base g v' (l ++ [last + 1]) (last + 1) ∧ Kept [g] w w' ∧ (∀ b, v'.ownBlock = some b → w.heap.size ≤ b) := by
  obtain ⟨hs, ho⟩ := hp
  obtain ⟨A, c, rfl, hm, hr, hbk⟩ := ho.shape
  have c0 : w.cell? ⟨g, 0, none⟩ = some (.slice A l.length c) := hs.cell 0
  have c1 : w.cell? ⟨g, 1, none⟩ = some (.int .i64 last) := hs.cell 1
  have f1 := hs.free 1
  have hgl := hs.lt
  generalize hn : l.length = n at *
  have HN := hide hn
  clear hn
  go_enter Tryd.func21, Tryd.ntmps21
  go_wp2
  have hgb : ∀ b, (Value.slice A n c).ownBlock = some b → b ∉ [g] := by
    intro b hb' hm
    obtain rfl : b = g := by simpa using hm
    exact own_ne ho hs (by decide) hb'
  have hs3 := Blk.set hs 1 (.int .i64 (last + 1))
  have ho3 := ho.kept ((Kept.refl [g] w).setCell (p := ⟨g, 1, none⟩) (by simp) (.int .i64 (last + 1))) hgb
  have hK3 := (Kept.refl [g] w).setCell (p := ⟨g, 1, none⟩) (by simp) (.int .i64 (last + 1))
  generalize w.setCell ⟨g, 1, none⟩ (.int .i64 (last + 1)) = w3 at hs3 ho3 hK3 ⊢
  have hz : w.heap.size ≤ w3.heap.size := hK3.size
  clear c0 c1 f1 hs ho hr
  have c0 : w3.cell? ⟨g, 0, none⟩ = some (.slice A n c) := hs3.cell 0
  have c1 : w3.cell? ⟨g, 1, none⟩ = some (.int .i64 (last + 1)) := hs3.cell 1
  have c0a : (w3.alloc (.cells #[.int .i64 (last + 1)] 3)).cell? ⟨g, 0, none⟩ = some (.slice A n c) := (hs3.alloc _).cell 0
  have hrd : ∀ W, Kept [] w3 W → Rd W A n (ints l) := fun W hk => by
    obtain ⟨A', c', e, _, hr', _⟩ := (ho3.kept0 hk).shape
    injection e with e1 e2 e3
    subst e1
    rw [HN.out] at hr'
    exact hr'
  have hcap : A = none → c = 0 := fun h => ho3.cap0 h
  have HRD := hide hrd
  clear hrd
  have hr1 : Rd (w3.alloc (.cells #[.int .i64 (last + 1)] 3)).drew (some ⟨w3.heap.size, 0, none⟩) 1 (ints [last + 1]) := rd_one w3 (last + 1) 3
  go_region_law (first
    | (refine step_app rfl (.const (.slice none 0 0)) (.tmp 22) rfl w.heap.size (.slice none 0 0) [] rfl (Own.nil _ _) A n c l (by simp [Act.eval]) hcap HN.out (HRD.out _ (by first | exact (Kept.refl _ _).drew | exact ((Kept.refl _ _).alloc _).drew)) (by simp; omega) (Nat.le_trans hz (by simp)) ?_
       intro v5 w5 ho5 hk5 hat5
       rw [List.nil_append] at ho5
       obtain ⟨A5, c5, rfl, _, _, _⟩ := ho5.shape
       have hk5' : Kept [] w3 w5 := by first | exact ((Kept.refl _ _).drew).trans0 hk5 | exact (((Kept.refl _ _).alloc _).drew).trans0 hk5
       have hs5 := hs3.kept0 hk5'
       have hne5 := own_ne ho5 hs5 (by decide)
       have e0 : w5.cell? ⟨g, 0, none⟩ = some (.slice A n c) := hs5.cell 0
       have e1 : w5.cell? ⟨g, 1, none⟩ = some (.int .i64 (last + 1)) := hs5.cell 1
       have hn5 : Kept [] (w3.alloc (.cells #[.int .i64 (last + 1)] 3)).drew w5 → Rd w5 (some ⟨w3.heap.size, 0, none⟩) 1 (ints [last + 1]) := fun hk => hr1.kept0 hk)
    | (refine step_app rfl (.tmp 23) (.tmp 28) rfl w.heap.size (.slice A5 l.length c5) l rfl (ho5.kept0 (by first | exact Kept.refl _ _ | exact (Kept.refl _ _).alloc _)) _ 1 1 [last + 1] rfl (by simp) rfl (by first | exact rd_one _ _ _ | exact hn5 hk5) (by rw [HN.out]; omega) (Nat.le_trans hz (Nat.le_trans hk5'.size (by simp))) ?_
       intro v6 w6 ho6 hk6 hat6
       obtain ⟨A6, c6, rfl, _, _, _⟩ := ho6.shape
       have hs6 := (by first | exact hs5.kept hk6 (fun hm => hne5 (mem_blk hm)) | exact (hs5.alloc (.cells #[.int .i64 (last + 1)] 3)).kept hk6 (fun hm => hne5 (mem_blk hm)) : Blk w6 g 38 _)
       have d0 : w6.cell? ⟨g, 0, none⟩ = some (.slice A n c) := hs6.cell 0
       have d1 : w6.frozen? ⟨g, 0, none⟩ = false := hs6.free 0
       have d2 : w6.cell? ⟨g, 1, none⟩ = some (.int .i64 (last + 1)) := hs6.cell 1))
  all_goals
    go_wp2
    go_ret2
    have hne6 := own_ne ho6 hs6 (by decide)
    have k56 : Kept (blk (.slice A5 l.length c5)) w5 w6 := by first | exact hk6 | exact ((Kept.refl (blk _) w5).alloc _).trans hk6 (fun x hx => .inl hx)
    exact ⟨rfl, _, ⟨Blk.set hs6 0 _, by simpa using (ho6.base hb).kept ((Kept.refl [g] w6).setCell (p := ⟨g, 0, none⟩) (by simp) (.slice A6 (l.length + 1) c6)) (fun b hb' hm => hne6 (by rw [hb']; simpa using hm))⟩,
      (((hK3.trans0 hk5').trans k56 (fun x hx => .inr (ho5.lt x (mem_blk hx)).1)).setCell (p := ⟨g, 0, none⟩) (by simp) _), fun b hb' => (ho6.lt b (by simpa using hb')).1⟩

set_option maxRecDepth 100000 in
theorem spawnr_full (base g : Nat) (v : Value) (l : List Int) (last : Int) (w : World) (hp : RefProcs w base g v l last) (hl : l.length = 64) :
    Calls Tryd.prog 21 #[.pointer (some ⟨g, 0, none⟩)] w fun e w' => e = .returned (.tuple #[.int .i64 0, .int .i64 26]) ∧ w = w' := by
  obtain ⟨hs, ho⟩ := hp
  obtain ⟨A, c, rfl, hm, hr, hbk⟩ := ho.shape
  have c0 : w.cell? ⟨g, 0, none⟩ = some (.slice A l.length c) := hs.cell 0
  rw [hl] at c0
  clear hs ho hr hm hbk hl
  go_enter Tryd.func21, Tryd.ntmps21
  go_wp2
  go_ret2
  exact ⟨rfl, rfl⟩
end Go.Proofs.YthifbmopfcfokaaDoor
