/- The lock: Take; a lock beside processes. Conditions: the lock lies whole in a block, the processes' row is the call's own. -/
import Derived.Test.YthifbmopfcfokaaDoorClaim
namespace Go.Proofs.YthifbmopfcfokaaDoor
open Go.RowKit Go.Conc

section
variable (a : World) (gl g : Nat) (wr : Int) (p t : Nat → Int) (l : List Int) (last : Int) (S : List Nat) (w : World)
set_option maxRecDepth 100000 in
theorem take_nobody (q : Int) (pr : Value) (h : LockAt w gl wr p t) (hq : q ≤ 0) : Calls Tryd.prog 7 #[.pointer (some ⟨gl, 0, none⟩), .int .i64 q, pr] w fun e w' => e = .returned (.bool false) ∧ w = w' := by
  have c0 : w.cell? ⟨gl, 0, none⟩ = some (.int .i64 wr) := Blk.cell h 0
  clear h
  go_enter Tryd.func7, Tryd.ntmps7
  go_wp2
  go_ret
  exact ⟨rfl, rfl⟩
set_option maxRecDepth 100000 in
theorem take_mine (pr : Value) (h : LockAt w gl wr p t) (hq : 0 < wr) : Calls Tryd.prog 7 #[.pointer (some ⟨gl, 0, none⟩), .int .i64 wr, pr] w fun e w' => e = .returned (.bool false) ∧ w = w' := by
  have c0 : w.cell? ⟨gl, 0, none⟩ = some (.int .i64 wr) := Blk.cell h 0
  clear h
  go_enter Tryd.func7, Tryd.ntmps7
  go_wp2
  go_ret
  exact ⟨rfl, rfl⟩
set_option maxRecDepth 100000 in
theorem take_free (q : Int) (pr : Value) (h : LockAt w gl wr p t) (hq : 0 < q) (hw : wr ≤ 0) : Calls Tryd.prog 7 #[.pointer (some ⟨gl, 0, none⟩), .int .i64 q, pr] w fun e w' => e = .returned (.bool true) ∧ LockAt w' gl q p t ∧ Kept [gl] w w' := by
  have HL := hide h
  have c0 : w.cell? ⟨gl, 0, none⟩ = some (.int .i64 wr) := Blk.cell h 0
  have f0 := Blk.free h 0
  have hb : (wr == q) = false := by simp; omega
  clear h
  go_enter Tryd.func7, Tryd.ntmps7
  go_wp2
  go_ret
  exact ⟨rfl, HL.out.setWr q, (Kept.refl _ _).setCell (by simp) _⟩
set_option maxRecDepth 100000 in
theorem take_held (q : Int) (h : LockAt w gl wr p t) (hp : Live a w g l last S) (hq : 0 < q) (hw : 0 < wr) (hne : wr ≠ q) (hl : wr ∈ l) : Calls Tryd.prog 7 #[.pointer (some ⟨gl, 0, none⟩), .int .i64 q, .pointer (some ⟨g, 0, none⟩)] w fun e w' => e = .returned (.bool false) ∧ w = w' := by
  have HL := hide h
  have c0 : w.cell? ⟨gl, 0, none⟩ = some (.int .i64 wr) := Blk.cell h 0
  have hb : (wr == q) = false := by simp [hne]
  have HP := hide hp
  have HM := hide (decide_eq_true hl)
  clear h hp hne hl
  go_enter Tryd.func7, Tryd.ntmps7
  go_wp2_with fail
  refine (lives_L a g l last S w wr HP.out).mono ?_
  rintro e w' ⟨rfl, rfl⟩
  rw [HM.out]
  go_wp2
  go_ret
  exact ⟨rfl, rfl⟩
set_option maxRecDepth 100000 in
theorem take_dead (q : Int) (h : LockAt w gl wr p t) (hp : Live a w g l last S) (hq : 0 < q) (hw : 0 < wr) (hne : wr ≠ q) (hl : wr ∉ l) : Calls Tryd.prog 7 #[.pointer (some ⟨gl, 0, none⟩), .int .i64 q, .pointer (some ⟨g, 0, none⟩)] w fun e w' => e = .returned (.bool true) ∧ LockAt w' gl q p t ∧ Kept [gl] w w' := by
  have HL := hide h
  have c0 : w.cell? ⟨gl, 0, none⟩ = some (.int .i64 wr) := Blk.cell h 0
  have f0 := Blk.free h 0
  have hb : (wr == q) = false := by simp [hne]
  have HP := hide hp
  have HM := hide (decide_eq_false hl)
  clear h hp hne hl
  go_enter Tryd.func7, Tryd.ntmps7
  go_wp2_with fail
  refine (lives_L a g l last S w wr HP.out).mono ?_
  rintro e w' ⟨rfl, rfl⟩
  rw [HM.out]
  go_wp2
  go_ret
  exact ⟨rfl, HL.out.setWr q, (Kept.refl _ _).setCell (by simp) _⟩
end

/-- A lock at gl beside processes at g, all made since a. -/
def LP (a w : World) (gl g : Nat) (wr : Int) (p t : Nat → Int) (l : List Int) (last : Int) : Prop := LockAt w gl wr p t ∧ a.heap.size ≤ gl ∧ Live a w g l last [gl]

section
variable {a w w' : World} {gl g : Nat} {wr wr' : Int} {p t p' t' : Nat → Int} {l l' : List Int} {last last' : Int}
theorem LP.all (h : LP a w gl g wr p t l last) : Kept [] a w := h.2.2.all
theorem LP.kept0 (h : LP a w gl g wr p t l last) (k : Kept [] w w') : LP a w' gl g wr p t l last := ⟨Blk.kept0 h.1 k, h.2.1, h.2.2.kept0 k⟩
theorem LP.stepL (h : LP a w gl g wr p t l last) (h' : LockAt w' gl wr' p' t') (k : Kept [gl] w w') : LP a w' gl g wr' p' t' l last :=
  ⟨h', h.2.1, h.2.2.beside k (fun b hb => by simp at hb; subst hb; exact h.2.1) (fun b hb => .inl hb)⟩
theorem LP.stepP (h : LP a w gl g wr p t l last) (h' : Live a w' g l' last' [gl]) (k : Same [gl] w w') : LP a w' gl g wr p t l' last' :=
  ⟨(k gl (by simp)).trans h.1, h.2.1, h'⟩
end

section
variable (a : World) (gl g : Nat) (wr : Int) (p t : Nat → Int) (l : List Int) (last : Int) (w : World)
theorem spawn_P (h : LP a w gl g wr p t l last) (hl : l.length < 64) (h0 : 0 ≤ last) (h1 : last < 1000000) :
    Calls Tryd.prog 20 #[.pointer (some ⟨g, 0, none⟩)] w fun e w' => e = .returned (.tuple #[.int .i64 (last + 1), .nilIface]) ∧ LP a w' gl g wr p t (l ++ [last + 1]) (last + 1) :=
  (spawn_L a g l last _ w h.2.2 hl h0 h1).mono fun _ _ ⟨he, h2, h3, _⟩ => ⟨he, h.stepP h2 h3⟩
theorem kill_P (x : Int) (h : LP a w gl g wr p t l last) (hx : x ∈ l) :
    Calls Tryd.prog 22 #[.pointer (some ⟨g, 0, none⟩), .int .i64 x] w fun e w' => e = .returned .nilIface ∧ LP a w' gl g wr p t (wo l x) last :=
  (kill_L a g l last _ w x h.2.2 hx).mono fun _ _ ⟨he, h2, h3, _⟩ => ⟨he, h.stepP h2 h3⟩
theorem kill_Pf (x : Int) (h : LP a w gl g wr p t l last) (hx : x ∉ l) :
    Calls Tryd.prog 22 #[.pointer (some ⟨g, 0, none⟩), .int .i64 x] w fun e w' => e = .returned (.iface 69 (.int .i64 25)) ∧ LP a w' gl g wr p t l last :=
  (kill_Lf a g l last _ w x h.2.2 hx).mono fun _ _ ⟨he, _, k⟩ => ⟨he, h.kept0 k⟩

/-- Whether Take takes. -/
def takes (wr q : Int) (l : List Int) : Bool := decide (0 < q) && !decide (wr = q) && !(decide (0 < wr) && decide (wr ∈ l))
theorem take_P (q : Int) (h : LP a w gl g wr p t l last) :
    Calls Tryd.prog 7 #[.pointer (some ⟨gl, 0, none⟩), .int .i64 q, .pointer (some ⟨g, 0, none⟩)] w fun e w' => e = .returned (.bool (takes wr q l)) ∧ LP a w' gl g (if takes wr q l then q else wr) p t l last := by
  by_cases hq : 0 < q
  · by_cases hw : wr = q
    · subst hw
      have e : takes wr wr l = false := by simp [takes]
      rw [e]
      exact (take_mine gl wr p t w _ h.1 hq).mono fun _ _ ⟨he, hw⟩ => ⟨he, hw ▸ h⟩
    · by_cases h0 : 0 < wr
      · by_cases hl : wr ∈ l
        · have e : takes wr q l = false := by simp [takes, hl, h0]
          rw [e]
          exact (take_held a gl g wr p t l last _ w q h.1 h.2.2 hq h0 hw hl).mono fun _ _ ⟨he, hw⟩ => ⟨he, hw ▸ h⟩
        · have e : takes wr q l = true := by simp [takes, hl, hq, hw]
          rw [e]
          exact (take_dead a gl g wr p t l last _ w q h.1 h.2.2 hq h0 hw hl).mono fun _ _ ⟨he, h1, k⟩ => ⟨he, h.stepL h1 k⟩
      · have e : takes wr q l = true := by simp [takes, h0, hq, hw]
        rw [e]
        exact (take_free gl wr p t w q _ h.1 hq (by omega)).mono fun _ _ ⟨he, h1, k⟩ => ⟨he, h.stepL h1 k⟩
  · have e : takes wr q l = false := by simp [takes, hq]
    rw [e]
    exact (take_nobody gl wr p t w q _ h.1 (by omega)).mono fun _ _ ⟨he, hw⟩ => ⟨he, hw ▸ h⟩
end
end Go.Proofs.YthifbmopfcfokaaDoor
