/- Slices of ints that are read: how they read.
   Conditions: each slice reads as its list; it has no more elements than an int counts. -/
import Derived.Test.YtabcchadjgnldaaBase
import Derived.Test.YtabcchadjgnldaaChecked
import Derived.KernelRfl
import Derived.Deep.QuietTactic
import Derived.BigQuiet
namespace Go.Proofs.Ytabcchadjgnldaa
open Go.RowKit

/-- The slice at A reads, up to n, as f. -/
def Rd (w : World) (A : Option Addr) (n : Nat) (f : Nat → Value) : Prop := ∀ k, k < n → ∃ bl off, A = some ⟨bl, off, none⟩ ∧ bl < w.heap.size ∧ w.cell? ⟨bl, off + k, none⟩ = some (f k)
/-- A list of ints, element by element. -/
def ints (l : List Int) (k : Nat) : Value := .int .i64 (l.getD k 0)

theorem Rd.kept {w w' : World} {A : Option Addr} {n : Nat} {f : Nat → Value} {S : List Nat} (h : Rd w A n f) (k : Kept S w w') (hs : ∀ a, A = some a → a.block ∉ S) : Rd w' A n f := by
  intro i hi
  obtain ⟨bl, off, rfl, hb, hc⟩ := h i hi
  exact ⟨bl, off, rfl, Nat.lt_of_lt_of_le hb k.size, (World.cell?_of_block (k.block bl hb (hs _ rfl))).trans hc⟩
theorem Rd.kept0 {w w' : World} {A : Option Addr} {n : Nat} {f : Nat → Value} (h : Rd w A n f) (k : Kept [] w w') : Rd w' A n f := h.kept k (by simp)
theorem Rd.drewN {w : World} {A : Option Addr} {n : Nat} {f : Nat → Value} (h : Rd w A n f) (q : Nat) : Rd (w.drewN q) A n f := h
theorem Rd.zero (w : World) (A : Option Addr) (f : Nat → Value) : Rd w A 0 f := fun k hk => absurd hk (by omega)

/-- Where an element first is; -1: nowhere. -/
def idx (l : List Int) (v : Int) : Int := if v ∈ l then (l.idxOf v : Int) else -1
theorem idx_none {l : List Int} {v : Int} (h : v ∉ l) : idx l v = -1 := by simp [idx, h]
theorem idx_at {l : List Int} {v : Int} {k : Nat} (h : k < l.length) (hk : l.getD k 0 = v) (hno : v ∉ l.take k) : idx l v = k := by
  have hg : l[k] = v := by simpa [List.getD, h] using hk
  have hm : v ∈ l := hg ▸ List.getElem_mem h
  have e : l = l.take k ++ l.drop k := (List.take_append_drop k l).symm
  have hi : l.idxOf v = k := by
    rw [e, List.idxOf_append, if_neg hno, List.length_take, List.drop_eq_getElem_cons h, hg]
    simp
    omega
  rw [idx, if_pos hm, hi]
theorem idx_mem (l : List Int) (v : Int) : (0 ≤ idx l v) ↔ v ∈ l := by
  unfold idx
  split <;> simp_all
theorem not_mem_take_succ {l : List Int} {v : Int} {k : Nat} (h : k < l.length) (hno : v ∉ l.take k) (hne : ¬ v = l.getD k 0) : v ∉ l.take (k + 1) := by
  rw [List.take_succ_eq_append_getElem h]
  simp only [List.mem_append, List.mem_singleton, not_or]
  exact ⟨hno, by simpa [List.getD, h] using hne⟩
theorem ret_i64 {a b : Int} (h : a = b) : Ending.returned (.int .i64 a) = .returned (.int .i64 b) := by rw [h]
theorem ret_bool' {a b : Bool} (h : a = b) : Ending.returned (.bool a) = .returned (.bool b) := by rw [h]

end Go.Proofs.Ytabcchadjgnldaa
