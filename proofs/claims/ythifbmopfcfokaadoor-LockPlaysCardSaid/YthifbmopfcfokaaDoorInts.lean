/- Slices of ints that are read: slices.Index, slices.Contains, the reference's Has, SameInts.
   Conditions: each slice reads as its list; it has no more elements than an int counts. -/
import Derived.Test.YthifbmopfcfokaaDoorBase
import Derived.Test.YthifbmopfcfokaaDoorChecked
import Derived.KernelRfl
import Derived.Deep.QuietTactic
import Derived.BigQuiet
namespace Go.Proofs.YthifbmopfcfokaaDoor
open Go.RowKit

/-- The slice at A reads, up to n, as f. -/
def Rd (w : World) (A : Option Addr) (n : Nat) (f : Nat → Value) : Prop := ∀ k, k < n → ∃ bl off, A = some ⟨bl, off, none⟩ ∧ bl < w.heap.size ∧ w.cell? ⟨bl, off + k, none⟩ = some (f k)
/-- A list of ints, element by element. -/
def ints (l : List Int) (k : Nat) : Value := .int .i64 (l.getD k 0)

theorem Rd.kept {w w' : World} {A : Option Addr} {n : Nat} {f : Nat → Value} {S : List Nat} (h : Rd w A n f) (k : Kept S w w') (hs : ∀ a, A = some a → a.block ∉ S) : Rd w' A n f := by
  intro i hi
  obtain ⟨bl, off, rfl, hb, hc⟩ := h i hi
  exact ⟨bl, off, rfl, Nat.lt_of_lt_of_le hb k.size, (World.cell?_of_block (k.block bl hb (hs _ rfl))).trans hc⟩
theorem Rd.kept0 {w w' : World} {A : Option Addr} {n : Nat} {f : Nat → Value} (h : Rd w A n f) (k : Kept [] w w') : Rd w' A n f := h.kept k (by simp)
theorem Rd.drewN {w : World} {A : Option Addr} {n : Nat} {f : Nat → Value} (h : Rd w A n f) (q : Nat) : Rd (w.drewN q) A n f := h
theorem Rd.zero (w : World) (A : Option Addr) (f : Nat → Value) : Rd w A 0 f := fun k hk => absurd hk (by omega)

/-- Where an element first is; -1: nowhere. -/
def idx (l : List Int) (v : Int) : Int := if v ∈ l then (l.idxOf v : Int) else -1
theorem idx_none {l : List Int} {v : Int} (h : v ∉ l) : idx l v = -1 := by simp [idx, h]
theorem idx_at {l : List Int} {v : Int} {k : Nat} (h : k < l.length) (hk : l.getD k 0 = v) (hno : v ∉ l.take k) : idx l v = k := by
  have hg : l[k] = v := by simpa [List.getD, h] using hk
  have hm : v ∈ l := hg ▸ List.getElem_mem h
  have e : l = l.take k ++ l.drop k := (List.take_append_drop k l).symm
  have hi : l.idxOf v = k := by
    rw [e, List.idxOf_append, if_neg hno, List.length_take, List.drop_eq_getElem_cons h, hg]
    simp
    omega
  rw [idx, if_pos hm, hi]
theorem idx_mem (l : List Int) (v : Int) : (0 ≤ idx l v) ↔ v ∈ l := by
  unfold idx
  split <;> simp_all
theorem not_mem_take_succ {l : List Int} {v : Int} {k : Nat} (h : k < l.length) (hno : v ∉ l.take k) (hne : ¬ v = l.getD k 0) : v ∉ l.take (k + 1) := by
  rw [List.take_succ_eq_append_getElem h]
  simp only [List.mem_append, List.mem_singleton, not_or]
  exact ⟨hno, by simpa [List.getD, h] using hne⟩
theorem ret_i64 {a b : Int} (h : a = b) : Ending.returned (.int .i64 a) = .returned (.int .i64 b) := by rw [h]
theorem ret_bool' {a b : Bool} (h : a = b) : Ending.returned (.bool a) = .returned (.bool b) := by rw [h]

section
variable (A : Option Addr) (n c : Nat) (l : List Int) (v : Int) (w : World)

set_option maxRecDepth 100000 in
theorem index_any (hl : l.length = n) (hm : n ≤ 9223372036854775807) (hr : Rd w A n (ints l)) :
    Calls Tryd.prog 59 #[.slice A n c, .int .i64 v] w fun e w' => e = .returned (.int .i64 (idx l v)) ∧ w = w' := by
  have HL := hide hl
  clear hl
  have HR := hide hr
  clear hr
  go_enter Tryd.func59, Tryd.ntmps59
  go_wp2
  go_loop [5, 8] (fun _ i => ∃ k : Nat, k ≤ n ∧ i = .int .i64 k ∧ v ∉ l.take k) (fun _ i => n - (intOf i).toNat)
  case atStart => exact ⟨0, Nat.zero_le _, rfl, by simp⟩
  case round =>
    obtain ⟨k, hk, rfl, hno⟩ := hrel
    have HN := hide hno
    clear hno
    by_cases hlt : k < n
    · obtain ⟨bl, off, rfl, hb, hc⟩ := HR.out k hlt
      unfold ints at hc
      generalize hx : l.getD k 0 = x at hc
      have HX := hide hx
      clear hx
      by_cases hv : v = x
      · have hv1 : (v == x) = true := by simp [hv]
        have HV := hide hv
        clear hv
        go_wp2
        go_ret
        exact ⟨ret_i64 (idx_at (by rw [HL.out]; exact hlt) (HX.out.trans HV.out.symm) HN.out).symm, rfl⟩
      · have hv1 : (v == x) = false := by simp [hv]
        go_wp2
        go_round
        case rel => exact ⟨k + 1, hlt, by go_num, not_mem_take_succ (by rw [HL.out]; exact hlt) HN.out (by rw [HX.out]; exact hv)⟩
        case measure => simp [intOf]; omega
    · go_wp2
      go_ret
      exact ⟨ret_i64 (idx_none (by have h := HN.out; rwa [List.take_of_length_le (by rw [HL.out]; omega)] at h)).symm, rfl⟩

set_option maxRecDepth 100000 in
theorem contains_any (hl : l.length = n) (hm : n ≤ 9223372036854775807) (hr : Rd w A n (ints l)) :
    Calls Tryd.prog 51 #[.slice A n c, .int .i64 v] w fun e w' => e = .returned (.bool (decide (v ∈ l))) ∧ w = w' := by
  go_enter Tryd.func51, Tryd.ntmps51
  go_wp2_with fail
  refine (index_any A n c l v w hl hm hr).mono ?_
  rintro e w' ⟨rfl, rfl⟩
  clear hl hr
  go_wp2
  go_ret
  exact ⟨ret_bool' (by rw [Bool.eq_iff_iff]; simp [idx_mem]), rfl⟩

set_option maxRecDepth 100000 in
theorem has_any (hl : l.length = n) (hm : n ≤ 9223372036854775807) (hr : Rd w A n (ints l)) :
    Calls Tryd.prog 52 #[.slice A n c, .int .i64 v] w fun e w' => e = .returned (.bool (decide (v ∈ l))) ∧ w = w' := by
  have HL := hide hl
  clear hl
  have HR := hide hr
  clear hr
  go_enter Tryd.func52, Tryd.ntmps52
  go_wp2
  go_loop [5] (fun i => ∃ k : Nat, k ≤ n ∧ i = .int .i64 k ∧ v ∉ l.take k) (fun i => n - (intOf i).toNat)
  case atStart => exact ⟨0, Nat.zero_le _, rfl, by simp⟩
  case round =>
    obtain ⟨k, hk, rfl, hno⟩ := hrel
    have HN := hide hno
    clear hno
    by_cases hlt : k < n
    · obtain ⟨bl, off, rfl, hb, hc⟩ := HR.out k hlt
      unfold ints at hc
      generalize hx : l.getD k 0 = x at hc
      have HX := hide hx
      clear hx
      by_cases hv : x = v
      · have hv1 : (x == v) = true := by simp [hv]
        have HV := hide hv
        clear hv
        go_wp2
        go_ret
        exact ⟨ret_bool' (by
          symm
          rw [decide_eq_true_iff]
          have hk' : k < l.length := by rw [HL.out]; exact hlt
          have := HX.out.trans HV.out
          simp [List.getD, hk'] at this
          exact this ▸ List.getElem_mem hk'), rfl⟩
      · have hv1 : (x == v) = false := by simp [hv]
        go_wp2
        go_round
        case rel => exact ⟨k + 1, hlt, by go_num, not_mem_take_succ (by rw [HL.out]; exact hlt) HN.out (by rw [HX.out]; exact fun e => hv e.symm)⟩
        case measure => simp [intOf]; omega
    · go_wp2
      go_ret
      exact ⟨ret_bool' (by
        symm
        rw [decide_eq_false_iff_not]
        have h := HN.out
        rwa [List.take_of_length_le (by rw [HL.out]; omega)] at h), rfl⟩
end
end Go.Proofs.YthifbmopfcfokaaDoor
