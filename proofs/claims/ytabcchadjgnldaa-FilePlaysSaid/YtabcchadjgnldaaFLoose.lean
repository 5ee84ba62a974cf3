/- A file: Loose. Conditions: its rows and its map are the call's own; at most 400 pages. -/
import Derived.Test.YtabcchadjgnldaaFSync
namespace Go.Proofs.Ytabcchadjgnldaa
open Go.RowKit

/-- Those among the first k that are loose. -/
def looseL (L : Int → Bool) (k : Nat) : List Int := ((List.range k).filter fun i : Nat => L i).map fun i : Nat => (i : Int)
theorem loose_succ (L : Int → Bool) (k : Nat) : looseL L (k + 1) = if L k = true then looseL L k ++ [(k : Int)] else looseL L k := by
  unfold looseL
  rw [List.range_succ, List.filter_append]
  by_cases h : L k = true
  · simp [h]
  · simp [h]
theorem loose_length (L : Int → Bool) (k : Nat) : (looseL L k).length ≤ k := by
  unfold looseL
  rw [List.length_map]
  exact Nat.le_trans (List.length_filter_le ..) (by simp)
theorem loose_mem {L : Int → Bool} {k : Nat} {x : Int} : x ∈ looseL L k ↔ ∃ i : Nat, i < k ∧ L i = true ∧ x = i := by
  simp [looseL]
  constructor
  · rintro ⟨i, ⟨h1, h2⟩, rfl⟩
    exact ⟨i, h1, h2, rfl⟩
  · rintro ⟨i, h1, h2, rfl⟩
    exact ⟨i, ⟨h1, h2⟩, rfl⟩

section
variable (base g n : Nat) (N S : List ByteArray) (L : Int → Bool) (F : List Nat) (w : World)
set_option maxRecDepth 100000 in
theorem loosef_any (h : FileAt w base g N S n L F) (hN : N.length ≤ 400) : Calls Try.prog 19 #[.pointer (some ⟨g, 0, none⟩)] w fun e w' => ∃ v, e = .returned v ∧ Own w' w.heap.size v (looseL L N.length) ∧ Kept [] w w' := by
  obtain ⟨nv, sv, b, rfl, h1, h2, h3, h4, h5, h6, h7⟩ := h
  obtain ⟨A, c, rfl, hm, hr, _⟩ := h2.shape
  have c0 : w.cell? ⟨g, 0, none⟩ = some (.slice A N.length c) := h1.cell 0
  have H1 := hide h1
  have H4 := hide h4
  clear h1 h2 h3 h4 h7 hr hm
  generalize N.length = m at c0 H1 hN ⊢
  go_enter Try.func19, Try.ntmps19
  go_wp2
  clear c0
  go_loopw [3, 4, 10] (fun o _ i wz => ∃ k : Nat, k ≤ m ∧ i = .int .i64 k ∧ Own wz w.heap.size o (looseL L k) ∧ Kept [] w wz) (fun _ _ i _ => m - (intOf i).toNat)
  case atStart => exact ⟨0, Nat.zero_le _, rfl, Own.nil _ _, Kept.refl _ _⟩
  case round =>
    obtain ⟨k, hk, rfl, ho, hK⟩ := hrel
    by_cases hlt : k < m
    · have hlk := (H4.out.kept0 hK).look (k := (k : Int)) (wf_int (by omega) (by omega))
      have c2 : wr.cell? ⟨g, 2, none⟩ = some (.map (some b)) := (H1.out.kept0 hK).cell 2
      have HS := hide (loose_succ L k)
      have hlen := loose_length L k
      generalize L k = t at hlk HS
      have HO := hide ho
      clear ho
      cases t with
      | false =>
        have HS2 := hide (HS.out.trans (if_neg (by simp)))
        clear HS
        go_wp2
        go_roundw
        case rel => exact ⟨k + 1, hlt, by go_num, by rw [HS2.out]; exact HO.out, hK⟩
        case measure => simp [intOf]; omega
      | true =>
        have HS2 := hide (HS.out.trans (if_pos rfl))
        clear HS
        go_wp2_with (at_builtin; refine wpList_app rfl (.tmp 19) (.tmp 21) rfl w.heap.size _ _ rfl (HO.out.kept0 ((Kept.refl _ _).alloc _)) _ 1 1 [(k : Int)] rfl (by simp) rfl (rd_one wr k _) (by omega) (hK.alloc _).size ?_)
        intro v' w' ho' hk' _
        go_wp2
        go_roundw
        case rel => exact ⟨k + 1, hlt, by go_num, by rw [HS2.out]; exact ho', (hK.alloc _).trans hk' (fun x hx => .inr (HO.out.lt x (mem_blk hx)).1)⟩
        case measure => simp [intOf]; omega
    · obtain rfl : k = m := by omega
      go_wp2
      go_ret
      exact ⟨_, rfl, ho, hK⟩
end
end Go.Proofs.Ytabcchadjgnldaa
