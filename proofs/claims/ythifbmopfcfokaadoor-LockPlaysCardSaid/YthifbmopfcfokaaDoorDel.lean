/- slices.IndexFunc, slices.DeleteFunc with procs.Kill's predicate: what is left of a row of ints of the call's own.
   Conditions: the row is the call's own; the number is in it; the predicate's variable lies in another block. -/
import Derived.Test.YthifbmopfcfokaaDoorAppend
import Derived.Lib.SliceRun
namespace Go.Proofs.YthifbmopfcfokaaDoor
open Go.RowKit

/-- The list without a number. -/
def wo (l : List Int) (x : Int) : List Int := l.filter (fun y => !decide (y = x))
theorem wo_append (a b : List Int) (x : Int) : wo (a ++ b) x = wo a x ++ wo b x := List.filter_append ..
theorem wo_self {l : List Int} {x : Int} (h : x ∉ l) : wo l x = l := by
  unfold wo
  rw [List.filter_eq_self]
  intro a ha
  simp
  rintro rfl
  exact h ha
theorem wo_mem {l : List Int} {x y : Int} : y ∈ wo l x ↔ y ∈ l ∧ y ≠ x := by simp [wo]
theorem wo_length (l : List Int) (x : Int) : (wo l x).length ≤ l.length := List.length_filter_le ..

theorem not_mem_before (x : Int) : ∀ l : List Int, x ∉ l.take (l.idxOf x)
  | [] => by simp
  | y :: r => by
    rw [List.idxOf_cons]
    by_cases h : y = x
    · simp [h]
    · have h1 : (y == x) = false := by simp [h]
      rw [h1]
      simp only [cond_false, List.take_succ_cons, List.mem_cons, not_or]
      exact ⟨fun e => h e.symm, not_mem_before x r⟩

/-- Where DeleteFunc stands: at i it writes, at j it reads. -/
def DelAt (l : List Int) (x : Int) (n i j : Nat) (l' : List Int) : Prop := i < j ∧ j ≤ n ∧ l'.length = n ∧ l'.take i = wo (l.take j) x ∧ (∀ k, j ≤ k → l'.getD k 0 = l.getD k 0)
section
variable {l l' : List Int} {x : Int} {n i j : Nat}
theorem DelAt.start (hl : l.length = n) (h : i < n) (hx : l.getD i 0 = x) (hno : x ∉ l.take i) : DelAt l x n i (i + 1) l := by
  refine ⟨by omega, h, hl, ?_, fun _ _ => rfl⟩
  have hi : i < l.length := by omega
  have hg : l[i] = x := by simpa [List.getD, hi] using hx
  rw [List.take_succ_eq_append_getElem hi, wo_append, wo_self hno, hg]
  simp [wo]
theorem DelAt.len (h : DelAt l x n i j l') : i = (wo (l.take j) x).length := by
  obtain ⟨h1, h2, h3, h4, _⟩ := h
  rw [← h4, List.length_take]
  omega
theorem DelAt.keep (hl : l.length = n) (h : DelAt l x n i j l') (hj : j < n) {y : Int} (hy : l.getD j 0 = y) (hne : y ≠ x) : DelAt l x n (i + 1) (j + 1) (l'.set i y) := by
  obtain ⟨h1, h2, h3, h4, h5⟩ := h
  have hj' : j < l.length := by omega
  have hg : l[j] = y := by simpa [List.getD, hj'] using hy
  refine ⟨by omega, hj, by simp [h3], ?_, fun k hk => ?_⟩
  · rw [List.take_succ_eq_append_getElem (by rw [List.length_set]; omega), List.take_succ_eq_append_getElem hj', wo_append, ← h4, hg]
    congr 1
    · exact List.take_set_of_le (Nat.le_refl _)
    · simp [wo, hne]
  · have hne' : i ≠ k := by omega
    rw [← h5 k (by omega)]
    simp [List.getD, hne']
theorem DelAt.skip (hl : l.length = n) (h : DelAt l x n i j l') (hj : j < n) (hy : l.getD j 0 = x) : DelAt l x n i (j + 1) l' := by
  obtain ⟨h1, h2, h3, h4, h5⟩ := h
  have hj' : j < l.length := by omega
  have hg : l[j] = x := by simpa [List.getD, hj'] using hy
  refine ⟨by omega, hj, h3, ?_, fun k hk => h5 k (by omega)⟩
  rw [List.take_succ_eq_append_getElem hj', wo_append, ← h4, hg]
  simp [wo]
theorem DelAt.done (hl : l.length = n) (h : DelAt l x n i n l') : l'.take i = wo l x ∧ i = (wo l x).length := by
  have h6 := h.len
  obtain ⟨h1, h2, h3, h4, h5⟩ := h
  rw [show l.take n = l from List.take_of_length_le (by omega)] at h4 h6
  exact ⟨h4, h6⟩
end

section
variable {w : World} {base g n c : Nat} {l : List Int}
theorem Own.block (h : Own w base (.slice (some ⟨g, 0, none⟩) n c) l) : n = l.length ∧ ∃ cur, base ≤ g ∧ Blk w g 3 cur ∧ n ≤ c ∧ c ≤ maxLen ∧ cur.size = c ∧ cur.toList.take n = l.map (Value.int .i64) := by
  rcases h.2 with ⟨h1, _⟩ | ⟨g', cap, cur, h1, hb, hg, hn, hm, hs, ht⟩
  · cases h1
  · injection h1 with e1 e2 e3
    injection e1 with e1
    injection e1 with e1
    subst e1
    subst e3
    subst e2
    exact ⟨rfl, cur, hb, hg, hn, hm, by simpa using hs, by simpa using ht⟩
theorem Own.of_block (hn : n = l.length) {cur : Array Value} (hb : base ≤ g) (hg : Blk w g 3 cur) (hc : n ≤ c) (hm : c ≤ maxLen) (hs : cur.size = c) (ht : cur.toList.take n = l.map (Value.int .i64)) : Own w base (.slice (some ⟨g, 0, none⟩) n c) l := by
  subst hn
  exact ⟨by simp, .inr ⟨g, c, cur, rfl, hb, hg, hc, hm, by simpa using hs, by simpa using ht⟩⟩
theorem Own.at' (h : Own w base (.slice (some ⟨g, 0, none⟩) n c) l) {i : Nat} (hi : i < n) : w.cell? ⟨g, i, none⟩ = some (.int .i64 (l.getD i 0)) := by
  obtain ⟨hn, cur, _, hb, hc, hm, hs, ht⟩ := h.block
  rw [hb.cell i]
  have h1 : (cur.toList.take n)[i]? = (l.map (Value.int .i64))[i]? := by rw [ht]
  rw [List.getElem?_take_of_lt hi, Array.getElem?_toList] at h1
  rw [h1]
  simp [List.getD, show i < l.length by omega]
theorem Own.some' (h : Own w base (.slice (some ⟨g, 0, none⟩) n c) l) {i : Nat} (hi : i < c) : (w.cell? ⟨g, i, none⟩).isSome = true := by
  obtain ⟨hn, cur, _, hb, hc, hm, hs, ht⟩ := h.block
  rw [hb.cell i]
  simp
  omega
theorem Own.free' (h : Own w base (.slice (some ⟨g, 0, none⟩) n c) l) (i : Nat) : w.frozen? ⟨g, i, none⟩ = false := by
  obtain ⟨hn, cur, _, hb, hc, hm, hs, ht⟩ := h.block
  exact hb.free i
theorem Own.set' (h : Own w base (.slice (some ⟨g, 0, none⟩) n c) l) (i : Nat) (y : Int) : Own (w.setCell ⟨g, i, none⟩ (.int .i64 y)) base (.slice (some ⟨g, 0, none⟩) n c) (l.set i y) := by
  obtain ⟨hn, cur, h0, hb, hc, hm, hs, ht⟩ := h.block
  refine Own.of_block (by simpa using hn) h0 (hb.set i _) hc hm (by simpa using hs) ?_
  rw [Array.toList_setIfInBounds, List.take_set, ht, List.map_set]
/-- The row cut to its first i elements, while cells from i on turn. -/
theorem Own.cut' (h : Own w base (.slice (some ⟨g, 0, none⟩) n c) l) {i : Nat} (hi : i ≤ n) : Own w base (.slice (some ⟨g, 0, none⟩) i c) (l.take i) := by
  obtain ⟨hn, cur, h0, hb, hc, hm, hs, ht⟩ := h.block
  refine Own.of_block (by simp; omega) h0 hb (by omega) hm hs ?_
  rw [List.map_take, ← ht, List.take_take]
  congr 1
  omega
theorem Own.setBehind (h : Own w base (.slice (some ⟨g, 0, none⟩) n c) l) {i : Nat} (hi : n ≤ i) (u : Value) : Own (w.setCell ⟨g, i, none⟩ u) base (.slice (some ⟨g, 0, none⟩) n c) l := by
  obtain ⟨hn, cur, h0, hb, hc, hm, hs, ht⟩ := h.block
  refine Own.of_block hn h0 (hb.set i _) hc hm (by simpa using hs) ?_
  rw [Array.toList_setIfInBounds, List.take_set_of_le hi, ht]
end
theorem Own.setCells {base g n c : Nat} {l : List Int} : ∀ (vs : List Value) (i : Nat) (w : World), n ≤ i → Own w base (.slice (some ⟨g, 0, none⟩) n c) l → Own (w.setCells g i vs) base (.slice (some ⟨g, 0, none⟩) n c) l
  | [], _, _, _, h => h
  | v :: r, i, _, hi, h => Own.setCells r (i + 1) _ (by omega) (h.setBehind hi v)
theorem Kept.setCells {S : List Nat} {a : World} {g : Nat} (hg : g ∈ S) : ∀ (vs : List Value) (i : Nat) (w : World), Kept S a w → Kept S a (w.setCells g i vs)
  | [], _, _, h => h
  | v :: r, i, _, h => Kept.setCells hg r (i + 1) _ (h.setCell (p := ⟨g, i, none⟩) (.inl hg) v)

set_option maxRecDepth 100000 in
theorem kills_any (B : Nat) (x y : Int) (w : World) (hc : w.cell? ⟨B, 0, none⟩ = some (.int .i64 x)) :
    Calls Tryd.prog 39 #[.int .i64 y, .pointer (some ⟨B, 0, none⟩)] w fun e w' => e = .returned (.bool (decide (y = x))) ∧ w = w' := by
  go_enter Tryd.func39, Tryd.ntmps39
  go_wp2
  go_ret
  exact ⟨ret_bool' (by rw [Bool.eq_iff_iff]; simp), rfl⟩

section
variable (A : Option Addr) (n c B : Nat) (l : List Int) (x : Int) (w : World)
set_option maxRecDepth 100000 in
theorem indexf_any (hl : l.length = n) (hm : n ≤ 9223372036854775807) (hr : Rd w A n (ints l)) (hB : w.cell? ⟨B, 0, none⟩ = some (.int .i64 x)) :
    Calls Tryd.prog 57 #[.slice A n c, .func (.func 39) #[] #[.pointer (some ⟨B, 0, none⟩)]] w fun e w' => e = .returned (.int .i64 (idx l x)) ∧ w = w' := by
  have HL := hide hl
  clear hl
  have HR := hide hr
  clear hr
  have hkill := fun y => kills_any B x y w hB
  clear hB
  have HK := hide hkill
  clear hkill
  go_enter Tryd.func57, Tryd.ntmps57
  go_wp2
  go_loop [5, 8] (fun _ i => ∃ k : Nat, k ≤ n ∧ i = .int .i64 k ∧ x ∉ l.take k) (fun _ i => n - (intOf i).toNat)
  case atStart => exact ⟨0, Nat.zero_le _, rfl, by simp⟩
  case round =>
    obtain ⟨k, hk, rfl, hno⟩ := hrel
    have HN := hide hno
    clear hno
    by_cases hlt : k < n
    · obtain ⟨bl, off, rfl, hb, hc⟩ := HR.out k hlt
      unfold ints at hc
      generalize hx : l.getD k 0 = y at hc
      have HX := hide hx
      clear hx
      go_wp2_with fail
      refine (HK.out y).mono ?_
      rintro e w' ⟨rfl, rfl⟩
      by_cases hv : y = x
      · have hv1 : decide (y = x) = true := by simp [hv]
        have HV := hide hv
        clear hv
        rw [hv1]
        go_wp2
        go_ret
        exact ⟨ret_i64 (idx_at (by rw [HL.out]; exact hlt) (HX.out.trans HV.out) HN.out).symm, rfl⟩
      · have hv1 : decide (y = x) = false := by simp [hv]
        rw [hv1]
        go_wp2
        go_round
        case rel => exact ⟨k + 1, hlt, by go_num, not_mem_take_succ (by rw [HL.out]; exact hlt) HN.out (by rw [HX.out]; exact fun e => hv e.symm)⟩
        case measure => simp [intOf]; omega
    · go_wp2
      go_ret
      exact ⟨ret_i64 (idx_none (by have h := HN.out; rwa [List.take_of_length_le (by rw [HL.out]; omega)] at h)).symm, rfl⟩
end

section
variable (base g n c B : Nat) (l : List Int) (x : Int) (w : World)
theorem zero_int (w : World) : (zeroValue 3).run Tryd.prog w = .ok (.int .i64 0) w := by
  exact Tryd.zeroValue3 w

set_option maxRecDepth 100000 in
theorem delete_any (ho : Own w base (.slice (some ⟨g, 0, none⟩) n c) l) (hx : x ∈ l) (hB : w.cell? ⟨B, 0, none⟩ = some (.int .i64 x)) (hBg : B ≠ g) (hBl : B < w.heap.size) :
    Calls Tryd.prog 38 #[.slice (some ⟨g, 0, none⟩) n c, .func (.func 39) #[] #[.pointer (some ⟨B, 0, none⟩)]] w fun e w' => ∃ m, e = .returned (.slice (some ⟨g, 0, none⟩) m c) ∧ Own w' base (.slice (some ⟨g, 0, none⟩) m c) (wo l x) ∧ Kept [g] w w' := by
  obtain ⟨hn, cur, hbg, hblk, hnc, hcm, _, _⟩ := ho.block
  have hgl := hblk.lt
  have hm : n ≤ 9223372036854775807 := by simp only [maxLen] at hcm; omega
  have hcm' : c ≤ 9223372036854775807 := by simp only [maxLen] at hcm; omega
  have hrd : Rd w (some ⟨g, 0, none⟩) n (ints l) := fun k hk => ⟨g, 0, rfl, hgl, by rw [Nat.zero_add]; exact ho.at' hk⟩
  have hidx := indexf_any (some ⟨g, 0, none⟩) n c B l x w hn.symm hm hrd hB
  have hk0 : l.idxOf x < n := by rw [hn]; exact List.idxOf_lt_length_of_mem hx
  have hst : DelAt l x n (l.idxOf x) (l.idxOf x + 1) l := DelAt.start hn.symm hk0 (by simp [List.getD, show l.idxOf x < l.length by omega]) (not_mem_before x l)
  rw [show idx l x = (l.idxOf x : Int) from by simp [idx, hx]] at hidx
  have hq : ∀ W, Kept [g] w W → W.cell? ⟨B, 0, none⟩ = some (.int .i64 x) := fun W hk => (World.cell?_of_block (hk.block B hBl (by simpa using hBg))).trans hB
  generalize l.idxOf x = k0 at hidx hk0 hst
  have hne1 : ((k0 : Int) == -1) = false := beq_eq_false_iff_ne.2 (by omega)
  have HQ := hide hq
  have HN := hide hn
  have HO := hide ho
  have HS := hide hst
  have HH := hide hidx
  clear hq hn ho hst hidx hrd hB hblk hx
  go_enter Tryd.func38, Tryd.ntmps38
  go_wp2_with fail
  refine HH.out.mono ?_
  rintro e w1 ⟨rfl, rfl⟩
  go_wp2
  go_loopw [5, 6, 7] (fun s5 s6 _ wr => ∃ (i j : Nat) (l' : List Int), s5 = .int .i64 i ∧ s6 = .int .i64 j ∧ i < j ∧ j ≤ n ∧ Hid (DelAt l x n i j l') ∧ Own wr base (.slice (some ⟨g, 0, none⟩) n c) l' ∧ Kept [g] w wr) (fun _ s6 _ _ => n - (intOf s6).toNat)
  case atStart => exact ⟨k0, k0 + 1, l, rfl, by go_num, by omega, by omega, HS, HO.out, Kept.refl _ _⟩
  case round =>
    obtain ⟨i, j, l', rfl, rfl, hij, hjn, HD, ho', hK⟩ := hrel
    by_cases hlt : j < n
    · have hy : l'.getD j 0 = l.getD j 0 := HD.out.2.2.2.2 j (Nat.le_refl _)
      have cj := ho'.at' hlt
      have ci := ho'.at' (show i < n by omega)
      have fi := ho'.free' i
      rw [hy] at cj
      have hkill := fun y => kills_any B x y wr (HQ.out wr hK)
      have HK := hide hkill
      have HOR := hide ho'
      clear hkill ho' hy
      generalize hu : l.getD j 0 = u at cj
      generalize l'.getD i 0 = old at ci
      have HU := hide hu
      clear hu
      go_wp2_with fail
      refine (HK.out u).mono ?_
      rintro e w' ⟨rfl, rfl⟩
      by_cases hv : u = x
      · have hv1 : decide (u = x) = true := by simp [hv]
        have HV := hide hv
        clear hv
        rw [hv1]
        go_wp2
        go_roundw
        case rel => exact ⟨i, j + 1, l', rfl, by go_num, by omega, by omega, HD.out.skip HN.out.symm hlt (HU.out.trans HV.out), HOR.out, hK⟩
        case measure => simp [intOf]; omega
      · have hv1 : decide (u = x) = false := by simp [hv]
        have HV := hide hv
        clear hv
        rw [hv1]
        go_wp2
        go_roundw
        case rel => exact ⟨i + 1, j + 1, l'.set i u, by go_num, by go_num, by omega, by omega, HD.out.keep HN.out.symm hlt HU.out HV.out, HOR.out.set' i u, hK.setCell (p := ⟨g, i, none⟩) (by simp) _⟩
        case measure => simp [intOf]; omega
    · obtain rfl : j = n := by omega
      have hcl : ∀ ty, (Builtin.clear_ #[36] ty #[.slice (some ⟨g, i, none⟩) (j - i) (c - i)]).run Tryd.prog wr = .ok (.tuple #[]) (wr.setCells g i (List.replicate (j - i) (.int .i64 0))) :=
        fun ty => Lib.run_clear_slice wr _ 3 ty _ Tryd.underlying36 zero_int rfl rfl g i _ _ (by omega) (fun t ht => ho'.some' (by omega)) (fun t ht => ho'.free' _)
      have hd := HD.out.done HN.out.symm
      have hcut := ho'.cut' (i := i) (by omega)
      rw [hd.1] at hcut
      have hcut' := hcut.setCells (List.replicate (j - i) (.int .i64 0)) i _ (Nat.le_refl _)
      have hK' := Kept.setCells (g := g) (by simp) (List.replicate (j - i) (.int .i64 0)) i _ hK
      clear hd hcut ho'
      go_wp2
      go_ret
      exact ⟨_, rfl, hcut', hK'⟩
end
end Go.Proofs.YthifbmopfcfokaaDoor
