/- The reference's file: what it is; at, Read, Sync, NewFile. Conditions: its rows are the call's own; at most 400 pages. -/
import Derived.Test.YtabcchadjgnldaaFNew
import Derived.Test.YtabcchadjgnldaaGRow
import Derived.Deep.RegionLaw
namespace Go.Proofs.Ytabcchadjgnldaa
open Go.RowKit

/-- The reference's file at r: its pages as they are (V), as they were synced (D), its loose ones (l); the blocks G that it lies in. -/
def RefAt (w : World) (base r : Nat) (V D : List ByteArray) (l : List Int) (G : List Nat) : Prop :=
  ∃ vv dv lv, G = r :: (blk vv ++ (blk dv ++ blk lv)) ∧ Blk w r 40 #[vv, dv, lv] ∧ OwnS w base vv V ∧ OwnS w base dv D ∧ Own w base lv l ∧ base ≤ r

theorem own_ne {w : World} {base : Nat} {v : Value} {l : List Int} {g : Nat} {t : TypeId} {cs : Array Value} (h : Own w base v l) (hg : Blk w g t cs) (hne : 3 ≠ t) : g ∉ blk v := by
  rcases h.2 with ⟨rfl, _⟩ | ⟨g', cap, cur, rfl, _, hh, _⟩
  · simp [blk, Value.ownBlock]
  · intro he
    have : g' = g := by simpa [Value.ownBlock] using mem_blk he
    subst this
    exact Blk.ne (t := 3) (cs := cur) hh hg hne rfl
section
variable {w w' : World} {base base' r : Nat} {V D : List ByteArray} {l : List Int} {G T : List Nat}
theorem RefAt.lt (h : RefAt w base r V D l G) : ∀ x ∈ G, base ≤ x ∧ x < w.heap.size := by
  obtain ⟨vv, dv, lv, rfl, h1, h2, h3, h4, h5⟩ := h
  intro x hx
  rcases List.mem_cons.1 hx with rfl | hx
  · exact ⟨h5, h1.lt⟩
  rcases List.mem_append.1 hx with hx | hx
  · exact h2.lt x (mem_blk hx)
  rcases List.mem_append.1 hx with hx | hx
  · exact h3.lt x (mem_blk hx)
  · exact h4.lt x (mem_blk hx)
theorem RefAt.kept (h : RefAt w base r V D l G) (k : Kept T w w') (hT : ∀ x ∈ G, x ∉ T) : RefAt w' base r V D l G := by
  obtain ⟨vv, dv, lv, rfl, h1, h2, h3, h4, h5⟩ := h
  exact ⟨vv, dv, lv, rfl, h1.kept k (hT r (by simp)), h2.kept k (fun x hx => hT x (by simp [blk_mem hx])), h3.kept k (fun x hx => hT x (by simp [blk_mem hx])), h4.kept k (fun x hx => hT x (by simp [blk_mem hx])), h5⟩
theorem RefAt.kept0 (h : RefAt w base r V D l G) (k : Kept [] w w') : RefAt w' base r V D l G := h.kept k (by simp)
theorem RefAt.low (h : RefAt w base r V D l G) (hb : base' ≤ base) : RefAt w base' r V D l G := by
  obtain ⟨vv, dv, lv, rfl, h1, h2, h3, h4, h5⟩ := h
  exact ⟨vv, dv, lv, rfl, h1, h2.base hb, h3.base hb, h4.base hb, Nat.le_trans hb h5⟩
end

section
variable (w : World)
set_option maxRecDepth 100000 in
theorem atr_any (A : Option Addr) (m c : Nat) (l : List ByteArray) (i : Int) (hl : l.length = m) (hr : Rd w A m (strs l)) : Calls Try.prog 27 #[.slice A m c, .int .i64 i] w fun e w' => e = .returned (.string (at' l i)) ∧ w = w' := by
  by_cases h0 : i < 0
  · have HA := hide (at_out (l := l) (.inl h0))
    clear hl hr
    go_enter Try.func27, Try.ntmps27
    go_wp2
    go_ret
    exact ⟨ret_str HA.out.symm, rfl⟩
  · obtain ⟨k, rfl⟩ := Int.eq_ofNat_of_zero_le (by omega : 0 ≤ i)
    by_cases h1 : k < m
    · obtain ⟨bl, off, rfl, hb, hcell⟩ := hr k h1
      unfold strs at hcell
      have HA := hide (at_in (l := l) (k := k))
      clear hl hr
      generalize l.getD k ByteArray.empty = x at hcell HA
      go_enter Try.func27, Try.ntmps27
      go_wp2
      go_ret
      exact ⟨ret_str HA.out.symm, rfl⟩
    · have HA := hide (at_out (l := l) (i := (k : Int)) (.inr (by omega)))
      clear hl hr
      go_enter Try.func27, Try.ntmps27
      go_wp2
      go_ret
      exact ⟨ret_str HA.out.symm, rfl⟩

end

section
variable (base r : Nat) (V D : List ByteArray) (l : List Int) (G : List Nat) (w : World)
set_option maxRecDepth 100000 in
theorem readr_any (i : Int) (h : RefAt w base r V D l G) : Calls Try.prog 21 #[.pointer (some ⟨r, 0, none⟩), .int .i64 i] w fun e w' => e = .returned (.string (at' V i)) ∧ w = w' := by
  obtain ⟨vv, dv, lv, rfl, h1, h2, h3, h4, h5⟩ := h
  obtain ⟨A, c, rfl, hm, hr, _⟩ := h2.shape
  have c0 : w.cell? ⟨r, 0, none⟩ = some (.slice A V.length c) := h1.cell 0
  have HC := hide (atr_any w A V.length c V i rfl hr)
  clear h1 h2 h3 h4 h5 hr hm
  generalize V.length = m at c0 HC
  go_enter Try.func21, Try.ntmps21
  go_wp2_with fail
  refine HC.out.mono ?_
  rintro e w' ⟨rfl, rfl⟩
  go_wp2
  go_ret
  exact ⟨rfl, rfl⟩

set_option maxRecDepth 100000 in
theorem syncr_any (h : RefAt w base r V D l G) (hV : V.length ≤ 400) (hb : base ≤ w.heap.size) : Calls Try.prog 14 #[.pointer (some ⟨r, 0, none⟩)] w fun e w' => e = .returned (.tuple #[]) ∧ ∃ G', RefAt w' base r V V [] G' ∧ Kept [r] w w' ∧ ∀ x ∈ G', x ∈ G ∨ w.heap.size ≤ x := by
  obtain ⟨vv, dv, lv, rfl, h1, h2, h3, h4, h5⟩ := h
  obtain ⟨A, c, rfl, hm, hr, _⟩ := h2.shape
  have c0 : w.cell? ⟨r, 0, none⟩ = some (.slice A V.length c) := h1.cell 0
  have hcap : A = none → c = 0 := fun e => by
    subst e
    rcases h2.2 with ⟨e, _⟩ | ⟨_, _, _, e, _⟩
    · injection e
    · injection e with e; cases e
  have HR := hide hr
  have H1 := hide h1
  have H2 := hide h2
  clear h1 h2 h3 h4 hr hm
  go_enter Try.func14, Try.ntmps14
  go_wp2_with (at_builtin; refine wpList_appS rfl (.const (.slice none 0 0)) (.tmp 7) rfl w.heap.size _ [] rfl (OwnS.nil _ _) A V.length c V rfl hcap rfl HR.out (by simp; omega) (Nat.le_refl _) ?_)
  intro v1 w1 ho1 k1' _
  have k1 : Kept [] w w1 := k1'.more (by simp [blk, Value.ownBlock])
  obtain ⟨A1, c1, rfl, _, _, _⟩ := ho1.shape
  have hb1 := H1.out.kept0 k1
  have hv1 := H2.out.kept0 k1
  have d1 : w1.cell? ⟨r, 1, none⟩ = some dv := hb1.cell 1
  have d2 : w1.cell? ⟨r, 2, none⟩ = some lv := hb1.cell 2
  have f1 := hb1.free 1
  have f2 := hb1.free 2
  have HB := hide hb1
  have HO := hide ho1
  have HV := hide hv1
  clear hb1 ho1 hv1 k1'
  go_wp2
  go_end0
  have kk : Kept [r] w1 ((w1.setCell ⟨r, 1, none⟩ (.slice A1 V.length c1)).setCell ⟨r, 2, none⟩ (.slice none 0 0)) := ((Kept.refl [r] w1).setCell (by simp) _).setCell (by simp) _
  have hB := (HB.out.set 1 (.slice A1 V.length c1)).set 2 (.slice none 0 0)
  have hr0 : r ∉ blk (.slice A V.length c) := ownS_ne HV.out HB.out (by decide)
  have hr1 : r ∉ blk (.slice A1 V.length c1) := ownS_ne HO.out HB.out (by decide)
  refine ⟨rfl, _, ⟨_, _, _, rfl, hB, HV.out.kept kk (fun x hx => ?_), (HO.out.base hb).kept kk (fun x hx => ?_), Own.nil _ _, h5⟩, (k1.more (by simp)).trans kk (fun x hx => .inl hx), fun x hx => ?_⟩
  · have : x ≠ r := fun e => hr0 (e ▸ blk_mem hx)
    simpa using this
  · have : x ≠ r := fun e => hr1 (e ▸ blk_mem hx)
    simpa using this
  · rcases List.mem_cons.1 hx with rfl | hx
    · exact .inl (by simp)
    rcases List.mem_append.1 hx with hx | hx
    · exact .inl (by simp [hx])
    rcases List.mem_append.1 hx with hx | hx
    · exact .inr (HO.out.lt x (mem_blk hx)).1
    · exact absurd hx (by simp [blk, Value.ownBlock])
set_option maxRecDepth 100000 in
set_option maxHeartbeats 1000000 in
theorem newr_any (A : Option Addr) (m c : Nat) (hmc : m ≤ c) (hc0 : A = none → c = 0) (hl : V.length = m) (hm : m ≤ 400) (hr : Rd w A m (strs V)) : Calls Try.prog 10 #[.slice A m c] w fun e w' => ∃ r G, e = .returned (.pointer (some ⟨r, 0, none⟩)) ∧ RefAt w' w.heap.size r V V [] G ∧ Kept [] w w' ∧ ∀ x ∈ G, w.heap.size ≤ x := by
  have HR : Hid (∀ W, Kept [] w W → Rd W A m (strs V)) := hide fun W k => hr.kept0 k
  have HL := hide hl
  have HC0 := hide hc0
  have hmn : min (m : Int) 400 = m := by omega
  clear hr hl hc0
  go_enter Try.func10, Try.ntmps10
  go_upto_region 2 with (fail)
  go_region_law (first
    | (refine step_appS rfl (.const (.slice none 0 0)) (.tmp 9) rfl w.heap.size (.slice none 0 0) [] rfl (OwnS.nil _ _) A m c V rfl HC0.out HL.out (HR.out _ (by first | exact (Kept.refl _ _).drew | exact K13)) (by simp; omega) (by first | exact Nat.le_refl _ | exact K13.size) ?_
       intro v9 w9 ho9' hk9' _
       have ho9 : OwnS w9 w.heap.size v9 V := ho9'
       have K9 : Kept [] w w9 := by first | exact ((Kept.refl _ _).drew).trans0 (hk9'.more (by simp [blk, Value.ownBlock])) | exact K13.trans0 (hk9'.more (by simp [blk, Value.ownBlock]))
       have hs9 := ho9.shape
       rw [HL.out] at hs9
       obtain ⟨A9, c9, rfl, _, _, _⟩ := hs9
       clear ho9')
    | (refine step_appS rfl (.const (.slice none 0 0)) (.tmp 13) rfl w.heap.size (.slice none 0 0) [] rfl (OwnS.nil _ _) A m c V rfl HC0.out HL.out (HR.out _ (by first | exact (Kept.refl _ _).drew | exact K9)) (by simp; omega) (by first | exact Nat.le_refl _ | exact K9.size) ?_
       intro v13 w13 ho13' hk13' _
       have ho13 : OwnS w13 w.heap.size v13 V := ho13'
       have K13 : Kept [] w w13 := by first | exact ((Kept.refl _ _).drew).trans0 (hk13'.more (by simp [blk, Value.ownBlock])) | exact K9.trans0 (hk13'.more (by simp [blk, Value.ownBlock]))
       have hs13 := ho13.shape
       rw [HL.out] at hs13
       obtain ⟨A13, c13, rfl, _, _, _⟩ := hs13
       clear ho13'))
  all_goals
    go_wp2
    go_ret
    first
    | (have ho := ho9.kept0 (hk13'.more (S' := []) (by simp [blk, Value.ownBlock]))
       refine ⟨_, _, rfl, ⟨_, _, _, rfl, Blk.new w13 _ _, ho.kept0 ((Kept.refl _ _).alloc _), ho13.kept0 ((Kept.refl _ _).alloc _), Own.nil _ _, K13.size⟩, K13.alloc _, ?_⟩)
    | (have ho := ho13.kept0 (hk9'.more (S' := []) (by simp [blk, Value.ownBlock]))
       refine ⟨_, _, rfl, ⟨_, _, _, rfl, Blk.new w9 _ _, ho9.kept0 ((Kept.refl _ _).alloc _), ho.kept0 ((Kept.refl _ _).alloc _), Own.nil _ _, K9.size⟩, K9.alloc _, ?_⟩)
    intro x hx
    rcases List.mem_cons.1 hx with rfl | hx
    · first | exact K13.size | exact K9.size
    rcases List.mem_append.1 hx with hx | hx
    · exact (ho9.lt x (mem_blk hx)).1
    rcases List.mem_append.1 hx with hx | hx
    · exact (ho13.lt x (mem_blk hx)).1
    · exact absurd hx (by simp [blk, Value.ownBlock])
end
end Go.Proofs.Ytabcchadjgnldaa
