/- Plain laws on who is dead: by a byte's bits. Conditions: none beyond each lemma's own hypotheses. No program is walked here. -/
import Derived.Test.YthifbmopfcfokaaLOne
import Derived.Test.YthifbmopfcfokaaLSweep
import Derived.Deep.QuietTactic
import Derived.BigQuiet
namespace Go.Proofs.Ythifbmopfcfokaa
open Go.RowKit Go.Conc

/-- The version of slot i. -/
def txf (i : Nat) : Int := 11 + i
/-- Whether process i + 1 dies. -/
def gone (dd : Int) (i : Nat) : Bool := bits .and .u8 (dd / 2 ^ ((i + 1) % 8)) 1 == 1
/-- How many of the first k die. -/
def gc (dd : Int) : Nat → Int
  | 0 => 0
  | k + 1 => if gone dd k = true then gc dd k + 1 else gc dd k
theorem gc_bd (dd : Int) : ∀ k, 0 ≤ gc dd k ∧ gc dd k ≤ k
  | 0 => ⟨Int.le_refl _, Int.le_refl _⟩
  | k + 1 => by
    have := gc_bd dd k
    unfold gc
    split <;> omega
/-- Those that live when the first j have been asked. -/
def Left (dd : Int) (m j : Nat) (l : List Int) : Prop := ∀ x : Int, x ∈ l ↔ (1 ≤ x ∧ x ≤ m + 2) ∧ ∀ i : Nat, i < j → gone dd i = true → x ≠ (i : Int) + 1
section
variable {dd : Int} {m j : Nat} {l : List Int}
theorem Left.start : Left dd m 0 (ups (m + 2)) := fun x => by
  rw [ups_mem]
  constructor
  · intro h
    exact ⟨by omega, fun i hi => absurd hi (by omega)⟩
  · intro h
    omega
theorem Left.mem (h : Left dd m j l) (hj : j < m + 1) : (j : Int) + 1 ∈ l := (h _).2 ⟨by omega, fun i hi _ => by omega⟩
theorem Left.kill (h : Left dd m j l) (hg : gone dd j = true) : Left dd m (j + 1) (wo l ((j : Int) + 1)) := fun x => by
  rw [wo_mem, h x]
  constructor
  · rintro ⟨⟨h1, h2⟩, h3⟩
    refine ⟨h1, fun i hi hgi => ?_⟩
    by_cases hij : i = j
    · subst hij
      exact h3
    · exact h2 i (by omega) hgi
  · rintro ⟨h1, h2⟩
    exact ⟨⟨h1, fun i hi => h2 i (by omega)⟩, h2 j (by omega) hg⟩
theorem Left.live (h : Left dd m j l) (hg : gone dd j = false) : Left dd m (j + 1) l := fun x => by
  rw [h x]
  constructor
  · rintro ⟨h1, h2⟩
    refine ⟨h1, fun i hi hgi => ?_⟩
    by_cases hij : i = j
    · subst hij
      rw [hg] at hgi
      cases hgi
    · exact h2 i (by omega) hgi
  · rintro ⟨h1, h2⟩
    exact ⟨h1, fun i hi => h2 i (by omega)⟩
theorem Left.at' (h : Left dd m (m + 1) l) {i : Nat} (hi : i < m + 1) : decide ((i : Int) + 1 ∈ l) = !gone dd i := by
  by_cases hg : gone dd i = true
  · rw [hg]
    exact decide_eq_false fun hm => ((h _).1 hm).2 i hi hg rfl
  · have hg' : gone dd i = false := by simpa using hg
    rw [hg']
    refine decide_eq_true ((h _).2 ⟨by omega, fun i' _ hg2 he => ?_⟩)
    obtain rfl : i' = i := by omega
    exact hg hg2
theorem Left.dead (h : Left dd m (m + 1) l) {i : Nat} (hi : i < m + 1) : dead (pk (m + 1)) l i = gone dd i := by
  have e : pk (m + 1) i = (i : Int) + 1 := by simp [pk, part, hi]
  unfold Go.Proofs.Ythifbmopfcfokaa.dead
  rw [e, h.at' hi, Bool.not_not]
  have : decide ((0 : Int) < (i : Int) + 1) = true := decide_eq_true (by omega)
  rw [this, Bool.true_and]
theorem dead_none {i : Nat} (hi : ¬ i < m + 1) : dead (pk (m + 1)) l i = false := by
  have e : pk (m + 1) i = 0 := by simp [pk, part, hi]
  unfold dead
  rw [e]
  rfl
theorem Left.cnt (h : Left dd m (m + 1) l) : ∀ k, cnt (pk (m + 1)) l k = gc dd (min k (m + 1))
  | 0 => by rw [Nat.zero_min]; rfl
  | k + 1 => by
    rw [Go.Proofs.Ythifbmopfcfokaa.cnt, h.cnt k]
    by_cases hk : k < m + 1
    · rw [h.dead hk, Nat.min_eq_left (by omega : k ≤ m + 1), Nat.min_eq_left (by omega : k + 1 ≤ m + 1), gc]
    · rw [dead_none hk, Nat.min_eq_right (by omega : m + 1 ≤ k), Nat.min_eq_right (by omega : m + 1 ≤ k + 1), if_neg (by simp)]
theorem Left.swp (h : Left dd m (m + 1) l) (f : Nat → Int) {i : Nat} (hi : i < m + 1) (h8 : i < 8) : swp (pk (m + 1)) (part f (m + 1)) l 8 i = if gone dd i = true then 0 else f i := by
  unfold Go.Proofs.Ythifbmopfcfokaa.swp
  rw [h.dead hi]
  simp [h8, part, hi]
theorem Left.takes (h : Left dd m (m + 1) l) {v : Nat} (hv : v ≤ m) : takes ((v : Int) + 1) ((m : Int) + 2) l = gone dd v := by
  unfold Go.Proofs.Ythifbmopfcfokaa.takes
  rw [h.at' (by omega)]
  have e1 : decide ((0 : Int) < (m : Int) + 2) = true := decide_eq_true (by omega)
  have e2 : decide ((v : Int) + 1 = (m : Int) + 2) = false := decide_eq_false (by omega)
  have e3 : decide ((0 : Int) < (v : Int) + 1) = true := decide_eq_true (by omega)
  rw [e1, e2, e3]
  simp
end

theorem quiet_sameL {P : Program} {f : FuncId} {args : Array Value} {w : World} {n : Nat} {v : Value}
    (h : Calls P f args (w.drewN n) fun e w' => e = .returned v ∧ w.drewN n = w') : Calls P f args (w.drewN n) fun e w'' => e = .returned v ∧ ∃ m, w'' = w.drewN m :=
  h.mono fun _ _ ⟨he, hm⟩ => ⟨he, n, hm.symm⟩
end Go.Proofs.Ythifbmopfcfokaa
