/- The program's processes beside the document's, each call on each.
   Conditions: at most 64 live, the last number is below a million. -/
import Derived.Test.YthifbmopfcfokaaDoorLive
import Derived.Test.YthifbmopfcfokaaDoorWith
import Derived.Test.YthifbmopfcfokaaDoorSpawnR
namespace Go.Proofs.YthifbmopfcfokaaDoor
open Go.RowKit

section
variable (base g : Nat) (v : Value) (l : List Int) (last : Int) (w : World)
set_option maxRecDepth 100000 in
theorem livesr_any (x : Int) (hp : RefProcs w base g v l last) : Calls Tryd.prog 34 #[.pointer (some ⟨g, 0, none⟩), .int .i64 x] w fun e w' => e = .returned (.bool (decide (x ∈ l))) ∧ w = w' := by
  obtain ⟨hs, ho⟩ := hp
  obtain ⟨A, c, rfl, hm, hr, hbk⟩ := ho.shape
  have c0 : w.cell? ⟨g, 0, none⟩ = some (.slice A l.length c) := hs.cell 0
  have hc := has_any A l.length c l x w rfl (by simp only [maxLen] at hm; omega) hr
  clear hs ho hr hm hbk
  generalize l.length = n at c0 hc
  have HC := hide hc
  clear hc
  go_enter Tryd.func34, Tryd.ntmps34
  go_wp2_with fail
  refine HC.out.mono ?_
  rintro e w' ⟨rfl, rfl⟩
  go_wp2
  go_ret
  exact ⟨rfl, rfl⟩

set_option maxRecDepth 100000 in
theorem killr_none (x : Int) (hp : RefProcs w base g v l last) (hx : x ∉ l) : Calls Tryd.prog 23 #[.pointer (some ⟨g, 0, none⟩), .int .i64 x] w fun e w' => e = .returned (.int .i64 25) ∧ w = w' := by
  have hlv := livesr_any base g v l last w x hp
  rw [show decide (x ∈ l) = false from by simpa using hx] at hlv
  have HL := hide hlv
  clear hlv hp hx
  go_enter Tryd.func23, Tryd.ntmps23
  go_wp2_with fail
  refine HL.out.mono ?_
  rintro e w' ⟨rfl, rfl⟩
  go_wp2
  go_ret
  exact ⟨rfl, rfl⟩

set_option maxRecDepth 100000 in
theorem killr_some (x : Int) (hp : RefProcs w base g v l last) (hx : x ∈ l) (hl : l.length ≤ 60000) (hb : base ≤ w.heap.size) : Calls Tryd.prog 23 #[.pointer (some ⟨g, 0, none⟩), .int .i64 x] w fun e w' => e = .returned (.int .i64 0) ∧ ∃ v', RefProcs w' base g v' (wo l x) last ∧ Kept [g] w w' ∧ (∀ b, v'.ownBlock = some b → w.heap.size ≤ b) := by
  have hlv := livesr_any base g v l last w x hp
  rw [show decide (x ∈ l) = true from by simpa using hx] at hlv
  obtain ⟨hs, ho⟩ := hp
  obtain ⟨A, c, rfl, hm, hr, hbk⟩ := ho.shape
  have c0 : w.cell? ⟨g, 0, none⟩ = some (.slice A l.length c) := hs.cell 0
  have hwo := without_any l.length c A l x w rfl hl hr
  have hs' : Blk w g 38 #[.slice A l.length c, .int .i64 last] := hs
  have HL := hide hlv
  clear hlv hx ho hr hm hbk hs
  generalize l.length = n at c0 hwo hs'
  have HW := hide hwo
  have HS := hide hs'
  clear hwo hs'
  go_enter Tryd.func23, Tryd.ntmps23
  go_wp2_with fail
  refine HL.out.mono ?_
  rintro e w' ⟨rfl, rfl⟩
  go_wp2_with fail
  refine HW.out.mono ?_
  rintro e w2 ⟨v2, rfl, ho2, k2⟩
  obtain ⟨A2, c2, rfl, _, _, _⟩ := ho2.shape
  have hs2 := HS.out.kept0 k2
  have d0 : w2.cell? ⟨g, 0, none⟩ = some (.slice A n c) := hs2.cell 0
  have f0 := hs2.free 0
  have hgl := HS.out.lt
  go_wp2
  go_ret
  refine ⟨rfl, _, ⟨Blk.set hs2 0 _, (ho2.base hb).kept ((Kept.refl [g] w2).setCell (p := ⟨g, 0, none⟩) (by simp) _) (fun b hb' hm => ?_)⟩, (k2.more (S' := [g]) (by simp)).setCell (p := ⟨g, 0, none⟩) (by simp) _, fun b hb' => (ho2.lt b hb').1⟩
  obtain rfl : b = g := by simpa using hm
  have := (ho2.lt b hb').1
  omega
end

/-- The program's processes at g: l, last; the document's at r: m, lastr. -/
def Duo (a w : World) (g r : Nat) (l : List Int) (last : Int) (m : List Int) (lastr : Int) : Prop :=
  ∃ v, RefProcs w a.heap.size r v m lastr ∧ a.heap.size ≤ r ∧ Live a w g l last (r :: blk v)

section
variable {a w w' : World} {g r : Nat} {l l' m m' : List Int} {last last' lastr lastr' : Int} {v v' : Value} {S S' : List Nat}
theorem Duo.all (h : Duo a w g r l last m lastr) : Kept [] a w := by
  obtain ⟨_, _, _, h3⟩ := h
  exact h3.all
theorem Duo.kept0 (h : Duo a w g r l last m lastr) (k : Kept [] w w') : Duo a w' g r l last m lastr := by
  obtain ⟨v, h1, h2, h3⟩ := h
  exact ⟨v, ⟨h1.1.kept0 k, h1.2.kept0 k⟩, h2, h3.kept0 k⟩
theorem Duo.drew (h : Duo a w g r l last m lastr) : Duo a w.drew g r l last m lastr := h.kept0 (Kept.refl _ _).drew
theorem Duo.stepP (h1 : RefProcs w a.heap.size r v m lastr) (h2 : a.heap.size ≤ r) (h : Live a w' g l last (r :: blk v)) (hs : Same (r :: blk v) w w') : Duo a w' g r l last m lastr :=
  ⟨v, ⟨(hs r (by simp)).trans h1.1, h1.2.same hs (fun b hb => by simp [blk_mem hb])⟩, h2, h⟩
theorem Duo.stepR (h1 : RefProcs w a.heap.size r v m lastr) (h2 : a.heap.size ≤ r) (h : Live a w g l last (r :: blk v)) (h' : RefProcs w' a.heap.size r v' m' lastr') (k : Kept [r] w w') (hf : ∀ b, v'.ownBlock = some b → w.heap.size ≤ b) : Duo a w' g r l last m' lastr' := by
  refine ⟨v', h', h2, h.beside (k.more (by simp)) ?_ ?_⟩
  · intro b hb
    rcases List.mem_cons.1 hb with rfl | hb
    · exact h2
    · exact (h1.2.lt b (mem_blk hb)).1
  · intro b hb
    rcases List.mem_cons.1 hb with rfl | hb
    · exact .inl (by simp)
    · exact .inr ⟨hf b (mem_blk hb), (h'.2.lt b (mem_blk hb)).2⟩
/-- The document's list set to nil. -/
theorem Duo.nilR (h : Duo a w g r l last m lastr) : Duo a (w.setCell ⟨r, 0, none⟩ (.slice none 0 0)) g r l last [] lastr := by
  obtain ⟨v, h1, h2, h3⟩ := h
  exact Duo.stepR h1 h2 h3 ⟨Blk.set h1.1 0 _, Own.nil _ _⟩ ((Kept.refl _ _).setCell (p := ⟨r, 0, none⟩) (by simp) _) (fun b hb => by simp [Value.ownBlock] at hb)
end

section
variable (a : World) (g r : Nat) (l m : List Int) (last lastr : Int) (w : World)
theorem spawn_D (h : Duo a w g r l last m lastr) (hl : l.length < 64) (h0 : 0 ≤ last) (h1 : last < 1000000) :
    Calls Tryd.prog 20 #[.pointer (some ⟨g, 0, none⟩)] w fun e w' => e = .returned (.tuple #[.int .i64 (last + 1), .nilIface]) ∧ Duo a w' g r (l ++ [last + 1]) (last + 1) m lastr := by
  obtain ⟨v, h2, h3, h4⟩ := h
  exact (spawn_L a g l last _ w h4 hl h0 h1).mono fun e w' ⟨he, h5, h6, _⟩ => ⟨he, Duo.stepP h2 h3 h5 h6⟩
theorem spawn_Df (h : Duo a w g r l last m lastr) (hl : l.length = 64) :
    Calls Tryd.prog 20 #[.pointer (some ⟨g, 0, none⟩)] w fun e w' => e = .returned (.tuple #[.int .i64 0, .iface 69 (.int .i64 26)]) ∧ Duo a w' g r l last m lastr := by
  have h' := h
  obtain ⟨v, h2, h3, h4⟩ := h'
  exact (spawn_Lf a g l last _ w h4 hl).mono fun e w' ⟨he, _, k⟩ => ⟨he, h.kept0 k⟩
theorem kill_D (x : Int) (h : Duo a w g r l last m lastr) (hx : x ∈ l) :
    Calls Tryd.prog 22 #[.pointer (some ⟨g, 0, none⟩), .int .i64 x] w fun e w' => e = .returned .nilIface ∧ Duo a w' g r (wo l x) last m lastr := by
  obtain ⟨v, h2, h3, h4⟩ := h
  exact (kill_L a g l last _ w x h4 hx).mono fun e w' ⟨he, h5, h6, _⟩ => ⟨he, Duo.stepP h2 h3 h5 h6⟩
theorem kill_Df (x : Int) (h : Duo a w g r l last m lastr) (hx : x ∉ l) :
    Calls Tryd.prog 22 #[.pointer (some ⟨g, 0, none⟩), .int .i64 x] w fun e w' => e = .returned (.iface 69 (.int .i64 25)) ∧ Duo a w' g r l last m lastr := by
  have h' := h
  obtain ⟨v, h2, h3, h4⟩ := h'
  exact (kill_Lf a g l last _ w x h4 hx).mono fun e w' ⟨he, _, k⟩ => ⟨he, h.kept0 k⟩
theorem spawnr_D (h : Duo a w g r l last m lastr) (hl : m.length < 64) (h0 : 0 ≤ lastr) (h1 : lastr < 1000000) :
    Calls Tryd.prog 21 #[.pointer (some ⟨r, 0, none⟩)] w fun e w' => e = .returned (.tuple #[.int .i64 (lastr + 1), .int .i64 0]) ∧ Duo a w' g r l last (m ++ [lastr + 1]) (lastr + 1) := by
  obtain ⟨v, h2, h3, h4⟩ := h
  exact (spawnr_room a.heap.size r v m lastr w h2 hl h0 h1 h4.size).mono fun e w' ⟨he, v', h5, h6, h7⟩ => ⟨he, Duo.stepR h2 h3 h4 h5 h6 h7⟩
theorem spawnr_Df (h : Duo a w g r l last m lastr) (hl : m.length = 64) :
    Calls Tryd.prog 21 #[.pointer (some ⟨r, 0, none⟩)] w fun e w' => e = .returned (.tuple #[.int .i64 0, .int .i64 26]) ∧ Duo a w' g r l last m lastr := by
  have h' := h
  obtain ⟨v, h2, h3, h4⟩ := h'
  exact (spawnr_full a.heap.size r v m lastr w h2 hl).mono fun e w' ⟨he, hw⟩ => ⟨he, hw ▸ h⟩
theorem killr_D (x : Int) (h : Duo a w g r l last m lastr) (hx : x ∈ m) (hl : m.length ≤ 60000) :
    Calls Tryd.prog 23 #[.pointer (some ⟨r, 0, none⟩), .int .i64 x] w fun e w' => e = .returned (.int .i64 0) ∧ Duo a w' g r l last (wo m x) lastr := by
  obtain ⟨v, h2, h3, h4⟩ := h
  exact (killr_some a.heap.size r v m lastr w x h2 hx hl h4.size).mono fun e w' ⟨he, v', h5, h6, h7⟩ => ⟨he, Duo.stepR h2 h3 h4 h5 h6 h7⟩
theorem killr_Df (x : Int) (h : Duo a w g r l last m lastr) (hx : x ∉ m) :
    Calls Tryd.prog 23 #[.pointer (some ⟨r, 0, none⟩), .int .i64 x] w fun e w' => e = .returned (.int .i64 25) ∧ Duo a w' g r l last m lastr := by
  have h' := h
  obtain ⟨v, h2, h3, h4⟩ := h'
  exact (killr_none a.heap.size r v m lastr w x h2 hx).mono fun e w' ⟨he, hw⟩ => ⟨he, hw ▸ h⟩
end
end Go.Proofs.YthifbmopfcfokaaDoor
