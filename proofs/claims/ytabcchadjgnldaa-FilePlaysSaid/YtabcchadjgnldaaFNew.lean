/- A file: what it is; New, Len, Read, Sync. Conditions: its rows and its map are the call's own; at most 400 pages. -/
import Derived.Test.YtabcchadjgnldaaGSet
import Derived.Deep.Cut
namespace Go.Proofs.Ytabcchadjgnldaa
open Go.RowKit

/-- A file at g: its pages as they are (N), as they were synced (S), a set of at most n loose ones (L); the blocks F that it lies in. -/
def FileAt (w : World) (base g : Nat) (N S : List ByteArray) (n : Nat) (L : Int → Bool) (F : List Nat) : Prop :=
  ∃ nv sv b, F = g :: b :: (blk nv ++ blk sv) ∧ Blk w g 57 #[nv, sv, .map (some b)] ∧ OwnS w base nv N ∧ OwnS w base sv S ∧ SetAt w b n L ∧ base ≤ g ∧ base ≤ b ∧ ∀ x ∈ blk nv, x ∉ blk sv

theorem ownS_ne {w : World} {base : Nat} {v : Value} {l : List ByteArray} {g : Nat} {t : TypeId} {cs : Array Value} (h : OwnS w base v l) (hg : Blk w g t cs) (hne : 9 ≠ t) : g ∉ blk v := by
  rcases h.2 with ⟨rfl, _⟩ | ⟨g', cap, cur, rfl, _, hh, _⟩
  · simp [blk, Value.ownBlock]
  · intro he
    have : g' = g := by simpa [Value.ownBlock] using mem_blk he
    subst this
    exact Blk.ne (t := 9) (cs := cur) hh hg hne rfl
theorem ownS_set {w : World} {base : Nat} {v : Value} {l : List ByteArray} {b n : Nat} {L : Int → Bool} (h : OwnS w base v l) (hs : SetAt w b n L) : b ∉ blk v := by
  rcases h.2 with ⟨rfl, _⟩ | ⟨g', cap, cur, rfl, _, hh, _⟩
  · simp [blk, Value.ownBlock]
  · intro he
    have : g' = b := by simpa [Value.ownBlock] using mem_blk he
    subst this
    exact hs.ne (t := 9) (cs := cur) hh rfl
section
variable {w w' : World} {base g n : Nat} {N S : List ByteArray} {L : Int → Bool} {F T : List Nat}
theorem FileAt.lt (h : FileAt w base g N S n L F) : ∀ x ∈ F, base ≤ x ∧ x < w.heap.size := by
  obtain ⟨nv, sv, b, rfl, h1, h2, h3, h4, h5, h6, _⟩ := h
  intro x hx
  rcases List.mem_cons.1 hx with rfl | hx
  · exact ⟨h5, h1.lt⟩
  rcases List.mem_cons.1 hx with rfl | hx
  · exact ⟨h6, h4.lt⟩
  rcases List.mem_append.1 hx with hx | hx
  · exact h2.lt x (mem_blk hx)
  · exact h3.lt x (mem_blk hx)
theorem FileAt.kept (h : FileAt w base g N S n L F) (k : Kept T w w') (hT : ∀ x ∈ F, x ∉ T) : FileAt w' base g N S n L F := by
  obtain ⟨nv, sv, b, rfl, h1, h2, h3, h4, h5, h6, h7⟩ := h
  exact ⟨nv, sv, b, rfl, h1.kept k (hT g (by simp)), h2.kept k (fun x hx => hT x (by simp [blk_mem hx])), h3.kept k (fun x hx => hT x (by simp [blk_mem hx])), h4.kept k (hT b (by simp)), h5, h6, h7⟩
theorem FileAt.kept0 (h : FileAt w base g N S n L F) (k : Kept [] w w') : FileAt w' base g N S n L F := h.kept k (by simp)
end
theorem FileAt.low {w : World} {base g n : Nat} {N S : List ByteArray} {L : Int → Bool} {F : List Nat} (h : FileAt w base g N S n L F) {base' : Nat} (hb : base' ≤ base) : FileAt w base' g N S n L F := by
  obtain ⟨nv, sv, b, rfl, h1, h2, h3, h4, h5, h6, h7⟩ := h
  exact ⟨nv, sv, b, rfl, h1, h2.base hb, h3.base hb, h4, Nat.le_trans hb h5, Nat.le_trans hb h6, h7⟩

theorem mk_map (w : World) : (Instr.makeMap 55 none).run Try.prog w = .ok (.map (some w.heap.size)) (w.alloc (.map #[] 0)) := run_makeMap ..

section
variable (base g n : Nat) (N S : List ByteArray) (L : Int → Bool) (F : List Nat) (w : World)
set_option maxRecDepth 100000 in
theorem newf_any (A : Option Addr) (m c : Nat) (l : List ByteArray) (hmc : m ≤ c) (hl : l.length = m) (hm : m ≤ 400) (hr : Rd w A m (strs l)) : Calls Try.prog 9 #[.slice A m c] w fun e w' => ∃ g F, e = .returned (.pointer (some ⟨g, 0, none⟩)) ∧ FileAt w' w.heap.size g l l 0 (fun _ => false) F ∧ Kept [] w w' := by
  have hmk := mk_map
  go_enter Try.func9, Try.ntmps9
  go_wp2_with fail
  refine (cloneS_any A m c l w hl (by omega) hr).mono ?_
  rintro e w1 ⟨v1, rfl, ho1, k1⟩
  obtain ⟨A1, c1, rfl, hm1, hr1, _⟩ := ho1.shape
  have HL := hide hl
  clear hl hr
  go_wp2_with fail
  refine (cloneS_any A1 l.length c1 l w1 rfl (by rw [HL.out]; omega) hr1).mono ?_
  rintro e w2 ⟨v2, rfl, ho2, k2⟩
  have ho1' := ho1.kept0 k2
  obtain ⟨A2, c2, rfl, _, _, _⟩ := ho2.shape
  have hap : ∀ x ∈ blk (.slice A1 l.length c1), x ∉ blk (.slice A2 l.length c2) := fun x hx hx2 => by
    have h1 := (ho1.lt x (mem_blk hx)).2
    have h2 := (ho2.lt x (mem_blk hx2)).1
    omega
  have HA := hide hap
  clear hap hr1 ho1
  go_wp2
  go_ret
  have hnew := Blk.new (w2.alloc (.map #[] 0)) 57 #[.slice A1 l.length c1, .slice A2 l.length c2, .map (some w2.heap.size)]
  rw [show (w2.alloc (.map #[] 0)).heap.size = w2.heap.size + 1 from by simp] at hnew
  refine ⟨_, _, rfl, ⟨_, _, _, rfl, hnew, (ho1'.kept0 ((Kept.refl _ _).alloc _)).kept0 ((Kept.refl _ _).alloc _), ((ho2.base k1.size).kept0 ((Kept.refl _ _).alloc _)).kept0 ((Kept.refl _ _).alloc _), (SetAt.made w2).kept0 ((Kept.refl _ _).alloc _), ?_, ?_, HA.out⟩, ((k1.trans0 k2).alloc _).alloc _⟩
  · have := (k1.trans0 k2).size
    simp
    omega
  · exact (k1.trans0 k2).size

set_option maxRecDepth 100000 in
theorem lenf_any (h : FileAt w base g N S n L F) : Calls Try.prog 17 #[.pointer (some ⟨g, 0, none⟩)] w fun e w' => e = .returned (.int .i64 N.length) ∧ w = w' := by
  obtain ⟨nv, sv, b, rfl, h1, h2, h3, h4, h5, h6, h7⟩ := h
  obtain ⟨A, c, rfl, hm, hr, _⟩ := h2.shape
  have c0 : w.cell? ⟨g, 0, none⟩ = some (.slice A N.length c) := h1.cell 0
  clear h1 h2 h3 h4 h5 h6 h7 hr hm
  go_enter Try.func17, Try.ntmps17
  go_wp2
  go_ret
  exact ⟨rfl, rfl⟩

/-- A page of some; none: no bytes. -/
def at' (l : List ByteArray) (i : Int) : ByteArray := if 0 ≤ i then l.getD i.toNat ByteArray.empty else ByteArray.empty
theorem at_in {l : List ByteArray} {k : Nat} : at' l k = l.getD k ByteArray.empty := by simp [at']
theorem at_out {l : List ByteArray} {i : Int} (h : i < 0 ∨ (l.length : Int) ≤ i) : at' l i = ByteArray.empty := by
  unfold at'
  split
  · have : l.length ≤ i.toNat := by omega
    simp [List.getD, this]
  · rfl
theorem ret_str {a b : ByteArray} (h : a = b) : Ending.returned (.string a) = .returned (.string b) := by rw [h]
set_option maxRecDepth 100000 in
theorem at_any (A : Option Addr) (m c : Nat) (l : List ByteArray) (i : Int) (hl : l.length = m) (hr : Rd w A m (strs l)) : Calls Try.prog 26 #[.slice A m c, .int .i64 i] w fun e w' => e = .returned (.string (at' l i)) ∧ w = w' := by
  by_cases h0 : i < 0
  · have HA := hide (at_out (l := l) (.inl h0))
    clear hl hr
    go_enter Try.func26, Try.ntmps26
    go_wp2
    go_ret
    exact ⟨ret_str HA.out.symm, rfl⟩
  · obtain ⟨k, rfl⟩ := Int.eq_ofNat_of_zero_le (by omega : 0 ≤ i)
    by_cases h1 : k < m
    · obtain ⟨bl, off, rfl, hb, hcell⟩ := hr k h1
      unfold strs at hcell
      have HA := hide (at_in (l := l) (k := k))
      clear hl hr
      generalize l.getD k ByteArray.empty = x at hcell HA
      go_enter Try.func26, Try.ntmps26
      go_wp2
      go_ret
      exact ⟨ret_str HA.out.symm, rfl⟩
    · have HA := hide (at_out (l := l) (i := (k : Int)) (.inr (by omega)))
      clear hl hr
      go_enter Try.func26, Try.ntmps26
      go_wp2
      go_ret
      exact ⟨ret_str HA.out.symm, rfl⟩

set_option maxRecDepth 100000 in
theorem readf_any (i : Int) (h : FileAt w base g N S n L F) : Calls Try.prog 20 #[.pointer (some ⟨g, 0, none⟩), .int .i64 i] w fun e w' => e = .returned (.string (at' N i)) ∧ w = w' := by
  obtain ⟨nv, sv, b, rfl, h1, h2, h3, h4, h5, h6, h7⟩ := h
  obtain ⟨A, c, rfl, hm, hr, _⟩ := h2.shape
  have c0 : w.cell? ⟨g, 0, none⟩ = some (.slice A N.length c) := h1.cell 0
  have HC := hide (at_any w A N.length c N i rfl hr)
  clear h1 h2 h3 h4 h5 h6 h7 hr hm
  generalize N.length = m at c0 HC
  go_enter Try.func20, Try.ntmps20
  go_wp2_with fail
  refine HC.out.mono ?_
  rintro e w' ⟨rfl, rfl⟩
  go_wp2
  go_ret
  exact ⟨rfl, rfl⟩
end
end Go.Proofs.Ytabcchadjgnldaa
