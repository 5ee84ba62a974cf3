/- What the statements on the lock hold against the program first: it is met. Conditions: none. -/
import Derived.Test.YthifbmopfcfokaaDoorLReadX
import Derived.Test.YthifbmopfcfokaaDoorLSlots
import Derived.Test.YthifbmopfcfokaaDoorErrs
namespace Go.Proofs.YthifbmopfcfokaaDoor
open Go.RowKit Go.Conc

section
variable (a : World) (gl g : Nat) (wr : Int) (p t : Nat → Int) (l : List Int) (last : Int) (w : World)
/-- A new lock, then new processes. -/
theorem newp_P (hL : LockAt w gl wr p t) (hg : a.heap.size ≤ gl) (hK : Kept [] a w) : Calls Tryd.prog 6 #[] w fun e w' => ∃ g, e = .returned (.pointer (some ⟨g, 0, none⟩)) ∧ LP a w' gl g wr p t [] 0 ∧ Kept [] w w' ∧ w.heap.size ≤ g :=
  (new_L a [gl] w hK (by intro b hb; simp at hb; subst hb; exact Blk.lt hL)).mono fun _ _ ⟨g, he, h1, h2, h3⟩ => ⟨g, he, ⟨Blk.kept0 hL h2, hg, h1⟩, h2, h3⟩
theorem claim_P (q : Int) (j : Nat) (r : List Nat) (hq : 0 < q) (h : LP a w gl g wr p t l last) (hf : fl p 8 = j :: r) : Calls Tryd.prog 11 #[.pointer (some ⟨gl, 0, none⟩), .int .i64 q] w fun e w' => e = .returned (.tuple #[.int .i64 j, .nilIface]) ∧ LP a w' gl g wr (upd p j q) (upd t j 0) l last :=
  (claim_first gl wr p t w q j r hq h.1 hf).mono fun _ _ ⟨he, h1, k⟩ => ⟨he, h.stepL h1 k⟩
theorem publish_P (k : Nat) (q x : Int) (hk : k < 8) (h : LP a w gl g wr p t l last) (ho : owns p k q = true) : Calls Tryd.prog 14 #[.pointer (some ⟨gl, 0, none⟩), .int .i64 k, .int .i64 q, .int .u64 x] w fun e w' => e = .returned .nilIface ∧ LP a w' gl g wr p (upd t k x) l last :=
  (publish_own gl wr p t w k q x hk h.1 ho).mono fun _ _ ⟨he, h1, k⟩ => ⟨he, h.stepL h1 k⟩
theorem take_Py (q : Int) (h : LP a w gl g wr p t l last) (ht : takes wr q l = true) :
    Calls Tryd.prog 7 #[.pointer (some ⟨gl, 0, none⟩), .int .i64 q, .pointer (some ⟨g, 0, none⟩)] w fun e w' => e = .returned (.bool true) ∧ LP a w' gl g q p t l last := by
  refine (take_P a gl g wr p t l last w q h).mono ?_
  rw [ht]
  exact fun _ _ h => h
theorem take_Pn (q : Int) (h : LP a w gl g wr p t l last) (ht : takes wr q l = false) :
    Calls Tryd.prog 7 #[.pointer (some ⟨gl, 0, none⟩), .int .i64 q, .pointer (some ⟨g, 0, none⟩)] w fun e w' => e = .returned (.bool false) ∧ LP a w' gl g wr p t l last := by
  refine (take_P a gl g wr p t l last w q h).mono ?_
  rw [ht]
  exact fun _ _ h => h
end

set_option maxRecDepth 100000 in
set_option maxHeartbeats 1000000 in
theorem known6_any (w : World) : Calls Tryd.prog 4 #[] w fun e w' => e = .returned (.bool true) ∧ Kept [] w w' := by
  go_enter Tryd.func4, Tryd.ntmps4
  go_wp2_with fail
  refine (newl_any _).mono ?_
  rintro e w1 ⟨gl, rfl, hL1, k1, hgl⟩
  go_wp2_with fail
  refine (newp_P w gl _ _ _ _ hL1 hgl k1).mono ?_
  rintro e w2 ⟨g, rfl, h2, _, _⟩
  clear hL1 k1
  go_wp2_with fail
  refine (spawn_P w gl g _ _ _ _ _ _ h2 (by simp) (by omega) (by omega)).mono ?_
  rintro e w3 ⟨rfl, h3⟩
  go_wp2_with fail
  refine (spawn_P w gl g _ _ _ _ _ _ h3 (by simp) (by omega) (by omega)).mono ?_
  rintro e w4 ⟨rfl, h4⟩
  rw [show ([] : List Int) ++ [0 + 1] ++ [0 + 1 + 1] = [1, 2] from by decide] at h4
  go_wp2_with fail
  refine (take_Py w gl g _ _ _ _ _ _ 1 h4 (by decide)).mono ?_
  rintro e w5 ⟨rfl, h5⟩
  go_wp2_with fail
  refine (take_Pn w gl g _ _ _ _ _ _ 2 h5 (by decide)).mono ?_
  rintro e w6 ⟨rfl, h6⟩
  go_wp2_with fail
  refine (kill_P w gl g _ _ _ _ _ _ 1 h6 (by simp)).mono ?_
  rintro e w7 ⟨rfl, h7⟩
  rw [show wo [1, 2] 1 = [2] from by decide] at h7
  go_wp2_with fail
  refine (take_Py w gl g _ _ _ _ _ _ 2 h7 (by decide)).mono ?_
  rintro e w8 ⟨rfl, h8⟩
  go_wp2_with fail
  refine (claim_P w gl g _ _ _ _ _ _ 2 0 [1, 2, 3, 4, 5, 6, 7] (by omega) h8 (by decide)).mono ?_
  rintro e w9 ⟨rfl, h9⟩
  generalize hp : upd (fun _ => 0) 0 2 = p at h9
  rw [show ((0 : Nat) : Int) = 0 from rfl]
  have HP := hide hp
  clear hp
  go_wp2_with fail
  refine (publish_P w gl g _ _ _ _ _ _ 0 2 7 (by omega) h9 (by rw [← HP.out]; decide)).mono ?_
  rintro e w10 ⟨rfl, h10⟩
  generalize ht : upd (upd (fun _ => 0) 0 0) 0 7 = t at h10
  have HT := hide ht
  clear ht
  go_wp2_with fail
  refine (publish_no gl _ _ _ w10 _ 1 7 h10.1 (by rw [← HP.out]; decide)).mono ?_
  rintro e w11 ⟨rfl, rfl⟩
  have hpt : ∀ k, k < 8 → 0 ≤ p k ∧ p k ≤ 1000000 ∧ 0 ≤ t k ∧ t k < 18446744073709551616 ∧ (p k = 0 → t k = 0) := by
    rw [← HP.out, ← HT.out]
    intro k hk
    have h : k = 0 ∨ k = 1 ∨ k = 2 ∨ k = 3 ∨ k = 4 ∨ k = 5 ∨ k = 6 ∨ k = 7 := by omega
    rcases h with rfl | rfl | rfl | rfl | rfl | rfl | rfl | rfl <;> decide
  have HPT := hide hpt
  clear hpt
  go_wp2_with fail
  refine (bytes_any gl _ _ _ w10 h10.1 (by omega) (by omega) (fun k hk => ⟨(HPT.out k hk).1, by have := (HPT.out k hk).2.1; omega, (HPT.out k hk).2.2.1, (HPT.out k hk).2.2.2.1⟩)).mono ?_
  rintro e w12 ⟨rfl, k12⟩
  go_wp2_with fail
  refine (read_good w12 2 p t (by omega) (by omega) HPT.out).mono ?_
  rintro e w13 ⟨gr, rfl, hL13, k13⟩
  go_wp2_with fail
  refine (read_x w13).mono ?_
  rintro e w14 ⟨rfl, k14⟩
  have h14 := h10.kept0 ((k12.trans0 k13).trans0 k14)
  have hL14 : LockAt w14 gr 2 p t := Blk.kept0 hL13 k14
  clear h2 h3 h4 h5 h6 h7 h8 h9 h10 k12 k13 k14 hL13
  go_wp2_with fail
  refine (writer_any gl _ _ _ w14 h14.1).mono ?_
  rintro e w15 ⟨rfl, rfl⟩
  go_wp2_with fail
  refine (is_same 18 _).mono ?_
  rintro e w15 ⟨rfl, rfl⟩
  go_wp2_with fail
  refine (oldest_any gl _ p t w14 9 h14.1 (fun k hk => (HPT.out k hk).2.2.1)).mono ?_
  rintro e w15 ⟨rfl, k15⟩
  rw [show old t 9 8 = 7 from by rw [← HT.out]; decide]
  have h15 := h14.kept0 k15
  have hL15 : LockAt w15 gr 2 p t := Blk.kept0 hL14 k15
  clear h14 hL14 k15
  go_wp2_with fail
  refine (oldest_any gl _ p t w15 5 h15.1 (fun k hk => (HPT.out k hk).2.2.1)).mono ?_
  rintro e w16 ⟨rfl, k16⟩
  rw [show old t 5 8 = 5 from by rw [← HT.out]; decide]
  have h16 := h15.kept0 k16
  have hL16 : LockAt w16 gr 2 p t := Blk.kept0 hL15 k16
  clear h15 hL15 k16
  go_wp2_with fail
  refine (writer_any gr _ _ _ w16 hL16).mono ?_
  rintro e w17 ⟨rfl, rfl⟩
  go_wp2_with fail
  refine (is_same 12 _).mono ?_
  rintro e w17 ⟨rfl, rfl⟩
  go_wp2_with fail
  refine (slots_any gl _ _ _ w16 h16.1).mono ?_
  rintro e w17 ⟨b, c, rfl, _, k17⟩
  go_wp2
  go_ret
  exact ⟨rfl, h16.all.trans0 k17⟩
end Go.Proofs.YthifbmopfcfokaaDoor
