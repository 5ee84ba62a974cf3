/- A file: Write. Conditions: its rows and its map are the call's own; at most 400 pages. -/
import Derived.Test.YtabcchadjgnldaaFLoose
import Derived.Deep.RegionHeld3
import Derived.Deep.RegionLaw
namespace Go.Proofs.Ytabcchadjgnldaa
open Go.RowKit

/-- Pages and their loose ones when j empty ones are put behind. -/
def padN (N : List ByteArray) (j : Nat) : List ByteArray := N ++ List.replicate j ByteArray.empty
def padL (N : List ByteArray) (L : Int → Bool) : Nat → Int → Bool
  | 0 => L
  | j + 1 => add (padL N L j) ((N.length + j : Nat) : Int)
theorem padN_len (N : List ByteArray) (j : Nat) : (padN N j).length = N.length + j := by simp [padN]
theorem padN_succ (N : List ByteArray) (j : Nat) : padN N j ++ [ByteArray.empty] = padN N (j + 1) := by
  unfold padN
  rw [List.replicate_succ', List.append_assoc]
/-- How many pages there are, by the world. -/
def lenAt (w : World) (g : Nat) : Nat := match w.cell? ⟨g, 0, none⟩ with | some (.slice _ n _) => n | _ => 0
theorem lenAt_of {w : World} {base g n : Nat} {N S : List ByteArray} {L : Int → Bool} {F : List Nat} (h : FileAt w base g N S n L F) : lenAt w g = N.length := by
  obtain ⟨nv, sv, b, rfl, h1, h2, h3, h4, h5, h6, h7⟩ := h
  obtain ⟨A, c, rfl, _⟩ := h2.shape
  have c0 : w.cell? ⟨g, 0, none⟩ = some (.slice A N.length c) := h1.cell 0
  simp [lenAt, c0]

section
variable (base g n : Nat) (N S : List ByteArray) (L : Int → Bool) (F : List Nat) (w : World)
set_option maxRecDepth 100000 in
theorem writef_no (i : Int) (s : ByteArray) (hi : i < 0 ∨ 400 ≤ i) : Calls Try.prog 11 #[.pointer (some ⟨g, 0, none⟩), .int .i64 i, .string s] w fun e w' => e = .returned (.iface 53 (.int .i64 14)) ∧ w = w' := by
  by_cases h0 : i < 0
  · clear hi
    go_enter Try.func11, Try.ntmps11
    go_wp2
    go_ret
    exact ⟨rfl, rfl⟩
  · have h1 : 400 ≤ i := by omega
    clear hi
    go_enter Try.func11, Try.ntmps11
    go_wp2
    go_ret
    exact ⟨rfl, rfl⟩

set_option maxRecDepth 100000 in
set_option maxHeartbeats 1000000 in
theorem writef_any (k : Nat) (s : ByteArray) (h : FileAt w base g N S n L F) (hN : N.length ≤ 400) (hk : k < 400) (hn : n < 100000000) : Calls Try.prog 11 #[.pointer (some ⟨g, 0, none⟩), .int .i64 k, .string s] w fun e w' => e = .returned .nilIface ∧ ∃ F', FileAt w' base g ((padN N (k + 1 - N.length)).set k s) S (n + 500) (add (padL N L (k + 1 - N.length)) k) F' ∧ Turn F F' w w' := by
  have H := hide h
  clear h
  go_enter Try.func11, Try.ntmps11
  go_wp2
  go_loopw [20] (fun _ wz => ∃ (j : Nat) (F' : List Nat), j ≤ k + 1 - N.length ∧ Hid (FileAt wz base g (padN N j) S (n + j) (padL N L j) F') ∧ Hid (Turn F F' w wz)) (fun _ wz => 800 - lenAt wz g)
  case atStart => exact ⟨0, F, Nat.zero_le _, hide (by simpa [padN, padL] using H.out), hide (Turn.same (Kept.refl _ _))⟩
  case round =>
    obtain ⟨j, F', hj, HF, HT⟩ := hrel
    have hL0 := hide (lenAt_of HF.out)
    obtain ⟨nv, sv, b, hF', h1, h2, h3, h4, h5, h6, h7⟩ := HF.out
    obtain ⟨A, c, rfl, hm, hr, _⟩ := h2.shape
    have hlen := padN_len N j
    have HLEN := hide hlen
    have c0 : wr.cell? ⟨g, 0, none⟩ = some (.slice A (padN N j).length c) := h1.cell 0
    have c2 : wr.cell? ⟨g, 2, none⟩ = some (.map (some b)) := h1.cell 2
    rw [hlen] at c0
    have HF' := hide hF'
    have H1 := hide h1
    have H2 := hide h2
    have H3 := hide h3
    have H4 := hide h4
    have H7 := hide h7
    clear h1 h2 h3 h4 h7 hr hm hlen hF'
    by_cases hlt : N.length + j ≤ k
    · obtain ⟨w1, hrun, hset, hk1⟩ := (H4.out.kept0 (Kept.refl _ _).drew).put (by simp only [maxLen]; omega) (k := ((N.length + j : Nat) : Int)) (wf_int (by omega) (by omega))
      generalize hmm : N.length + j = m at c0 hlt hrun hset HLEN
      have HM := hide hmm
      clear hmm
      go_upto_region 4 with (fail)
      have hB1 : Blk w1 g _ _ := (H1.out.kept0 (Kept.refl _ _).drew).kept hk1 (by simpa using (H4.out.ne H1.out).symm)
      have e0 : w1.cell? ⟨g, 0, none⟩ = some (.slice A (padN N j).length c) := hB1.cell 0
      rw [HLEN.out] at e0
      have e2 : w1.cell? ⟨g, 2, none⟩ = some (.map (some b)) := hB1.cell 2
      go_region_held3 (fun W : World => W.cell? ⟨g, 0, none⟩ = some (.slice A m c) ∧ W.cell? ⟨g, 2, none⟩ = some (.map (some b))) (first | exact ⟨c0, c2⟩ | exact ⟨e0, e2⟩) (first | fail)
      have kn : Kept [] wr wr.drew := (Kept.refl _ _).drew
      have ho1 : OwnS w1 base (.slice A m c) (padN N j) := by
        have h := (H2.out.kept0 kn).kept hk1 (fun x hx => by
          have hb := ownS_set H2.out H4.out
          have : x ≠ b := fun e => hb (e ▸ blk_mem hx)
          simpa using this)
        rwa [HLEN.out] at h
      have hs1 : OwnS w1 base sv S := (H3.out.kept0 kn).kept hk1 (fun x hx => by
        have hb := ownS_set H3.out H4.out
        have : x ≠ b := fun e => hb (e ▸ blk_mem hx)
        simpa using this)
      have H7' : Hid (∀ x ∈ blk (.slice A m c), x ∉ blk sv) := hide (by
        have h := H7.out
        rwa [HLEN.out] at h)
      have HF2 : Hid (F' = g :: b :: (blk (.slice A m c) ++ blk sv)) := hide (by
        have h := HF'.out
        rwa [HLEN.out] at h)
      have HB1 := hide hB1
      have HO1 := hide ho1
      have HS1 := hide hs1
      have HSET := hide hset
      have f0 := hB1.free 0
      have hgw := hB1.lt
      clear hB1 ho1 hs1 hset c0 c2 hrun
      go_wp2_with (at_builtin; refine wpList_appS rfl (.tmp 34) (.tmp 35) rfl base _ _ rfl (HO1.out.kept0 ((Kept.refl _ _).alloc _)) _ 1 1 [ByteArray.empty] rfl (by simp) rfl (rd_oneS w1 _ _) (by rw [HLEN.out]; omega) (Nat.le_trans h5 (Nat.le_of_lt (Nat.lt_of_lt_of_le hgw (by simp)))) ?_)
      intro v2 w2 ho2 hk2 hat
      have hgn : g ∉ blk (.slice A m c) := ownS_ne HO1.out HB1.out (by decide)
      have hB2 : Blk w2 g _ _ := (HB1.out.alloc _).kept hk2 hgn
      rw [padN_succ] at ho2
      have HL2 := hide (padN_len N (j + 1))
      obtain ⟨A2, c2, rfl, _, _, _⟩ := ho2.shape
      have d0 : w2.cell? ⟨g, 0, none⟩ = some (.slice A (padN N j).length c) := hB2.cell 0
      have f2 := hB2.free 0
      have HB2 := hide hB2
      have HO2 := hide ho2
      clear hB2 ho2
      go_wp2
      go_roundw
      case rel =>
        have hjm := HM.out
        have hz1 : wr.heap.size ≤ w1.heap.size := hk1.size
        have hgn2 : g ∉ blk (.slice A2 (padN N (j + 1)).length c2) := ownS_ne HO2.out HB2.out (by decide)
        have kg : Kept [g] w2 (w2.setCell ⟨g, 0, none⟩ (.slice A2 (padN N (j + 1)).length c2)) := (Kept.refl _ _).setCell (by simp) _
        have kk : Kept F' wr (w2.setCell ⟨g, 0, none⟩ (.slice A2 (padN N (j + 1)).length c2)) := by
          have q1 : Kept F' wr w1 := (kn.more (S' := F') (by simp)).trans (hk1.more (S' := F') (by rw [HF2.out]; simp)) (fun x hx => .inl hx)
          have q2 : Kept F' (w1.alloc (.cells #[.string ⟨#[]⟩] 9)) w2 := hk2.more (S' := F') (by rw [HF2.out]; intro x hx; simp [hx])
          exact ((q1.alloc _).trans q2 (fun x hx => .inl hx)).trans (kg.more (S' := F') (by rw [HF2.out]; simp)) (fun x hx => .inl hx)
        refine ⟨j + 1, g :: b :: (blk (.slice A2 (padN N (j + 1)).length c2) ++ blk sv), by omega, hide ⟨_, _, _, rfl, HB2.out.set 0 _, HO2.out.kept kg (fun x hx => ?_), ((HS1.out.kept0 ((Kept.refl _ _).alloc _)).kept hk2 (fun x hx hx2 => H7'.out x hx2 (blk_mem hx))).kept kg (fun x hx => ?_), ?_, h5, h6, fun x hx hx2 => ?_⟩, hide (HT.out.trans ⟨kk, fun x hx => ?_⟩)⟩
        · have : x ≠ g := fun e => hgn2 (e ▸ blk_mem hx)
          simpa using this
        · have hgs := ownS_ne HS1.out HB1.out (by decide)
          have : x ≠ g := fun e => hgs (e ▸ blk_mem hx)
          simpa using this
        · have hset := ((HSET.out.kept0 ((Kept.refl _ _).alloc _)).kept hk2 (ownS_set HO1.out HSET.out)).kept kg (by simpa using HSET.out.ne HB1.out)
          rw [← HM.out] at hset
          exact hset
        · rcases hat with h | h
          · exact H7'.out x (blk_mem (h ▸ mem_blk hx)) hx2
          · have e : x = w1.heap.size + 1 := Option.some.inj ((mem_blk hx).symm.trans h)
            have := (HS1.out.lt x (mem_blk hx2)).2
            omega
        · rw [HF2.out]
          rcases List.mem_cons.1 hx with rfl | hx
          · exact .inl (by simp)
          rcases List.mem_cons.1 hx with rfl | hx
          · exact .inl (by simp)
          rcases List.mem_append.1 hx with hx | hx
          · rcases hat with h | h
            · exact .inl (by simp [blk_mem (h ▸ mem_blk hx)])
            · have e : x = w1.heap.size + 1 := Option.some.inj ((mem_blk hx).symm.trans h)
              exact .inr (by omega)
          · exact .inl (by simp [hx])
      case measure =>
        have hB3 : Blk (w2.setCell ⟨g, 0, none⟩ (.slice A2 (padN N (j + 1)).length c2)) g 57 #[.slice A2 (padN N (j + 1)).length c2, sv, .map (some b)] := HB2.out.set 0 _
        have e1 : lenAt (w2.setCell ⟨g, 0, none⟩ (.slice A2 (padN N (j + 1)).length c2)) g = N.length + (j + 1) := by
          have c0 : (w2.setCell ⟨g, 0, none⟩ (.slice A2 (padN N (j + 1)).length c2)).cell? ⟨g, 0, none⟩ = some (.slice A2 (padN N (j + 1)).length c2) := hB3.cell 0
          unfold lenAt
          rw [c0]
          exact padN_len N (j + 1)
        have hjm := HM.out
        rw [e1, hL0.out, HLEN.out]
        omega
    · have hjk : j = k + 1 - N.length := by omega
      obtain ⟨bl, rfl⟩ : ∃ bl, A = some ⟨bl, 0, none⟩ := by
        rcases H2.out.2 with ⟨_, h2⟩ | ⟨g', cap, cur, h1, _⟩
        · have := HLEN.out
          omega
        · injection h1 with h1
          exact ⟨g', h1⟩
      have hkm : k < (padN N j).length := by rw [HLEN.out]; omega
      have cr := H2.out.at' hkm
      have fr := H2.out.free' k
      generalize (padN N j).getD k ByteArray.empty = old at cr
      have hbn : b ∉ blk (.slice (some ⟨bl, 0, none⟩) (padN N j).length c) := ownS_set H2.out H4.out
      have hgn : g ∉ blk (.slice (some ⟨bl, 0, none⟩) (padN N j).length c) := ownS_ne H2.out H1.out (by decide)
      have hblb : bl ≠ b := fun e => hbn (by simp [blk, Value.ownBlock, e])
      have hblg : bl ≠ g := fun e => hgn (by simp [blk, Value.ownBlock, e])
      have hbls : bl ∉ blk sv := H7.out bl (by simp [blk, Value.ownBlock])
      have hbg : b ≠ g := H4.out.ne H1.out
      have kw : Kept [bl] wr (wr.setCell ⟨bl, k, none⟩ (.string s)).drew := ((Kept.refl _ _).setCell (p := ⟨bl, k, none⟩) (by simp) _).drew
      have hset1 := H4.out.kept kw (by simpa using Ne.symm hblb)
      have ho1 : OwnS (wr.setCell ⟨bl, k, none⟩ (.string s)).drew base _ _ := H2.out.set' k s
      have hb1 := H1.out.kept kw (by simpa using Ne.symm hblg)
      have hs1 := H3.out.kept kw (fun x hx => by
        have : x ≠ bl := fun e => hbls (e ▸ blk_mem hx)
        simpa using this)
      have e0 : (wr.setCell ⟨bl, k, none⟩ (.string s)).drew.cell? ⟨g, 0, none⟩ = some (.slice (some ⟨bl, 0, none⟩) (padN N j).length c) := hb1.cell 0
      have e2 : (wr.setCell ⟨bl, k, none⟩ (.string s)).drew.cell? ⟨g, 2, none⟩ = some (.map (some b)) := hb1.cell 2
      obtain ⟨v0, st, w1, hrun, hk1, _, hst⟩ := hset1.entry (by simp only [maxLen]; omega) (k := (k : Int)) (wf_int (by omega) (by omega))
      obtain ⟨w3, hrun2', hset3, hk3⟩ := hst w1 rfl
      have hrun2 : (Instr.entryStore 55 (.map (some b)) (.int .i64 st) (.bool true)).run Try.prog w1 = .ok () w3 := hrun2'
      clear hrun2'
      have kb : Kept [b] (wr.setCell ⟨bl, k, none⟩ (.string s)).drew w3 := hk1.trans hk3 (by simp)
      have hb2 := hb1.kept hk1 (by simpa using Ne.symm hbg)
      have hb3 := hb1.kept kb (by simpa using Ne.symm hbg)
      have g0 : w1.cell? ⟨g, 0, none⟩ = some (.slice (some ⟨bl, 0, none⟩) (padN N j).length c) := hb2.cell 0
      have g2 : w1.cell? ⟨g, 2, none⟩ = some (.map (some b)) := hb2.cell 2
      have i0 : w3.cell? ⟨g, 0, none⟩ = some (.slice (some ⟨bl, 0, none⟩) (padN N j).length c) := hb3.cell 0
      have i2 : w3.cell? ⟨g, 2, none⟩ = some (.map (some b)) := hb3.cell 2
      have ho3 := ho1.kept kb (fun x hx => by
        have : x ≠ b := fun e => hbn (e ▸ blk_mem hx)
        simpa using this)
      have hs3 := hs1.kept kb (fun x hx => by
        have hbs := ownS_set H3.out H4.out
        have : x ≠ b := fun e => hbs (e ▸ blk_mem hx)
        simpa using this)
      have HFin : Hid (FileAt w3 base g ((padN N j).set k s) S (n + 500) (add (padL N L j) k) F' ∧ Turn F' F' wr w3) := hide ⟨by
        refine ⟨_, sv, b, HF'.out, hb3, ?_, hs3, hset3.mono (by omega), h5, h6, H7.out⟩
        exact ho3, (kw.more (S' := F') (by rw [HF'.out]; simp [blk, Value.ownBlock])).trans (kb.more (S' := F') (by rw [HF'.out]; simp)) (fun x hx => .inl hx), fun x hx => .inl hx⟩
      clear hst hset1 ho1 hb1 hs1 hset3 hk3 hb2 hb3 ho3 hs3 hk1
      generalize hmm : N.length + j = m at c0 hlt HLEN
      have HM := hide hmm
      rw [HLEN.out] at hkm e0 g0 i0
      clear hmm
      go_upto_region 6 with (fail)
      go_region_held3 (fun W : World => W.cell? ⟨g, 0, none⟩ = some (.slice (some ⟨bl, 0, none⟩) m c) ∧ W.cell? ⟨g, 2, none⟩ = some (.map (some b))) (first | exact ⟨c0, c2⟩ | exact ⟨e0, e2⟩ | exact ⟨g0, g2⟩ | exact ⟨i0, i2⟩) (first | fail)
      go_wp2
      go_ret
      rw [← hjk]
      exact ⟨rfl, F', HFin.out.1, HT.out.trans HFin.out.2⟩
end
end Go.Proofs.Ytabcchadjgnldaa
