/- The reference's lists of numbers: With behind the last, Without. Conditions: the list is the caller's own and short; With: no number of it is as great as the new one. -/
import Derived.Test.YthifbmopfcfokaaDoorDel
namespace Go.Proofs.YthifbmopfcfokaaDoor
open Go.RowKit

section
variable (base n c : Nat) (A : Option Addr) (l : List Int) (x : Int) (w : World)

theorem Own.news {W W' : World} {base : Nat} {v : Value} {l : List Int} (h : Own W base v l) (k : Kept [] W W') : Own W' base v l := h.kept0 k

set_option maxRecDepth 100000 in
theorem without_any (hn : l.length = n) (hm : n ≤ 60000) (hr : Rd w A n (ints l)) :
    Calls Tryd.prog 40 #[.slice A n c, .int .i64 x] w fun e w' => ∃ v, e = .returned v ∧ Own w' w.heap.size v (wo l x) ∧ Kept [] w w' := by
  have HL := hide hn
  have HR := hide hr
  clear hn hr
  go_enter Tryd.func40, Tryd.ntmps40
  go_wp2
  go_loopw [5, 6] (fun o i wr => ∃ k : Nat, k ≤ n ∧ i = .int .i64 k ∧ Own wr w.heap.size o (wo (l.take k) x) ∧ Kept [] w wr) (fun _ i _ => n - (intOf i).toNat)
  case atStart => exact ⟨0, Nat.zero_le _, rfl, Own.nil _ _, Kept.refl _ _⟩
  case round =>
    obtain ⟨k, hk, rfl, ho, hK⟩ := hrel
    by_cases hlt : k < n
    · obtain ⟨bl, off, rfl, hb, hc⟩ := (HR.out.kept0 hK) k hlt
      have hca : (wr.alloc (.cells #[.int .i64 (l.getD k 0)] 3)).cell? ⟨bl, off + k, none⟩ = some (ints l k) := (World.cell?_of_block (Below.heap_alloc wr _ bl hb)).trans hc
      unfold ints at hc hca
      have hlt' : k < l.length := by rw [HL.out]; exact hlt
      have htk : l.take (k + 1) = l.take k ++ [l.getD k 0] := by
        rw [List.take_succ_eq_append_getElem hlt']
        simp [List.getD, hlt']
      have HT := hide htk
      clear htk
      generalize hx : l.getD k 0 = y at hc hca HT
      clear hx
      by_cases hv : y = x
      · have hv1 : (y != x) = false := by simp [hv]
        have HV := hide hv
        clear hv hca
        go_wp2
        go_roundw
        case rel => exact ⟨k + 1, hlt, by go_num, by
          rw [HT.out, wo_append, show wo [y] x = [] from by simp [wo, HV.out], List.append_nil]; exact ho, hK⟩
        case measure => simp [intOf]; omega
      · have hv1 : (y != x) = true := by simp [hv]
        have HV := hide hv
        clear hv
        have hlen : (wo (l.take k) x).length ≤ k := Nat.le_trans (wo_length _ _) (by simp; omega)
        have HO := hide ho
        clear ho
        go_wp2_with (at_builtin; refine wpList_app rfl (.tmp 19) (.tmp 24) rfl w.heap.size _ _ rfl (HO.out.kept0 ((Kept.refl _ _).alloc _)) _ 1 1 [y] rfl (by simp) rfl (rd_one wr y _) (by omega) (hK.alloc _).size ?_)
        intro v' w' ho' hk' _
        go_wp2
        go_roundw
        case rel => exact ⟨k + 1, hlt, by go_num, by
          rw [HT.out, wo_append, show wo [y] x = [y] from by simp [wo, HV.out]]; exact ho', (hK.alloc _).trans hk' (fun b hb => .inr (HO.out.lt b (mem_blk hb)).1)⟩
        case measure => simp [intOf]; omega
    · obtain rfl : k = n := by omega
      go_wp2
      go_ret
      exact ⟨_, rfl, by rwa [List.take_of_length_le (by rw [HL.out]; exact Nat.le_refl _)] at ho, hK⟩

end
end Go.Proofs.YthifbmopfcfokaaDoor
