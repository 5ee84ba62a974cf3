/- The reference's file: Write. Conditions: its rows are the call's own; at most 400 pages. -/
import Derived.Test.YtabcchadjgnldaaRFile
import Derived.Test.YtabcchadjgnldaaGWith
import Derived.Test.YtabcchadjgnldaaFWrite
namespace Go.Proofs.Ytabcchadjgnldaa
open Go.RowKit

/-- The numbers n, n + 1, .. laid in, j of them. -/
def insN (l : List Int) (n : Nat) : Nat → List Int
  | 0 => l
  | j + 1 => insL ((n + j : Nat) : Int) (insN l n j)
theorem insN_len (l : List Int) (n : Nat) : ∀ j, (insN l n j).length ≤ l.length + j
  | 0 => Nat.le_refl _
  | j + 1 => by
    have h1 := insN_len l n j
    have h2 := insL_len ((n + j : Nat) : Int) (insN l n j)
    show (insL ((n + j : Nat) : Int) (insN l n j)).length ≤ _
    omega
/-- What is left of the way, by the slice's length. -/
def lenV (v : Value) : Nat := match v with | .slice _ n _ => n | _ => 0

section
variable (base r : Nat) (V D : List ByteArray) (l : List Int) (G : List Nat) (w : World)
set_option maxRecDepth 100000 in
theorem writer_no (i : Int) (s : ByteArray) (hi : i < 0 ∨ 400 ≤ i) : Calls Try.prog 12 #[.pointer (some ⟨r, 0, none⟩), .int .i64 i, .string s] w fun e w' => e = .returned (.int .i64 14) ∧ w = w' := by
  by_cases h0 : i < 0
  · clear hi
    go_enter Try.func12, Try.ntmps12
    go_wp2
    go_ret
    exact ⟨rfl, rfl⟩
  · have h1 : 400 ≤ i := by omega
    clear hi
    go_enter Try.func12, Try.ntmps12
    go_wp2
    go_ret
    exact ⟨rfl, rfl⟩

set_option maxRecDepth 100000 in
set_option maxHeartbeats 1000000 in
theorem writer_any (k : Nat) (s : ByteArray) (h : RefAt w base r V D l G) (hV : V.length ≤ 400) (hl : l.length ≤ 50000) (hk : k < 400) : Calls Try.prog 12 #[.pointer (some ⟨r, 0, none⟩), .int .i64 k, .string s] w fun e w' => e = .returned (.int .i64 0) ∧ ∃ G', RefAt w' base r ((padN V (k + 1 - V.length)).set k s) D (insL k (insN l V.length (k + 1 - V.length))) G' ∧ Kept [r] w w' ∧ ∀ x ∈ G', x ∈ G ∨ w.heap.size ≤ x := by
  have H := hide h
  obtain ⟨vv, dv, lv, rfl, h1, h2, h3, h4, h5⟩ := h
  obtain ⟨A, c, rfl, hm, hr, _⟩ := h2.shape
  have c0 : w.cell? ⟨r, 0, none⟩ = some (.slice A V.length c) := h1.cell 0
  have hcap : A = none → c = 0 := fun e => by
    subst e
    rcases h2.2 with ⟨e, _⟩ | ⟨_, _, _, e, _⟩
    · injection e
    · injection e with e; cases e
  have HR := hide hr
  clear h1 h2 h3 h4 hr hm
  go_enter Try.func12, Try.ntmps12
  go_wp2_with (at_builtin; refine wpList_appS rfl (.const (.slice none 0 0)) (.tmp 17) rfl w.heap.size _ [] rfl (OwnS.nil _ _) A V.length c V rfl hcap rfl HR.out (by simp; omega) (Nat.le_refl _) ?_)
  intro v1 w1 ho1 k1' _
  have k1 : Kept [] w w1 := k1'.more (by simp [blk, Value.ownBlock])
  have HO := hide ho1
  have HH := hide (H.out.kept0 k1)
  have hlt0 := H.out.lt
  have HA : Hid (∀ x ∈ blk v1, x ∉ r :: (blk (.slice A V.length c) ++ (blk dv ++ blk lv))) := hide fun x hx hg => by
    have := (ho1.lt x (mem_blk hx)).1
    have := (hlt0 x hg).2
    omega
  have HK : Hid (Kept [r] w w1) := hide (k1.more (by simp))
  clear ho1 k1' k1 hlt0 c0
  go_wp2
  go_loopw [7] (fun v wz => ∃ (j : Nat) (G' : List Nat), j ≤ k + 1 - V.length ∧ Hid (OwnS wz w.heap.size v (padN V j)) ∧ Hid (RefAt wz base r V D (insN l V.length j) G') ∧ Hid (Kept [r] w wz) ∧ Hid (∀ x ∈ G', x ∈ r :: (blk (.slice A V.length c) ++ (blk dv ++ blk lv)) ∨ w.heap.size ≤ x) ∧ Hid (∀ x ∈ blk v, x ∉ G')) (fun v _ => 401 - lenV v)
  case atStart => exact ⟨0, _, Nat.zero_le _, hide (by simpa [padN] using HO.out), HH, HK, hide fun x hx => .inl hx, HA⟩
  case round =>
    clear HO HH HK HA
    obtain ⟨j, G', hj, HO, HH, HK, HG, HA⟩ := hrel
    obtain ⟨A1, c1, rfl, _, _, _⟩ := HO.out.shape
    obtain ⟨vv', dv', lv', hG', h1, h2, h3, h4, _⟩ := HH.out
    have hlen := padN_len V j
    have HLEN := hide hlen
    have hil := insN_len l V.length j
    have c2 : wr.cell? ⟨r, 2, none⟩ = some lv' := h1.cell 2
    have f2 := h1.free 2
    have hrw := h1.lt
    have HB := hide h1
    have HV := hide h2
    have HD := hide h3
    have HL := hide h4
    have HGe := hide hG'
    clear h1 h2 h3 h4 hG'
    by_cases hlt : V.length + j ≤ k
    · rw [hlen] at HO HA ⊢
      have HINS : Hid (insN l V.length (j + 1) = insL ((V.length + j : Nat) : Int) (insN l V.length j)) := hide rfl
      generalize hmm : V.length + j = m at *
      have HM := hide hmm
      clear hmm
      go_wp2_with fail
      refine (with_any base lv' (insN l V.length j) (m : Int) wr HL.out (by omega) (Nat.le_trans h5 (Nat.le_of_lt hrw))).mono ?_
      rintro e w2 ⟨lv2, rfl, hol2, k2, hb2⟩
      obtain ⟨Al2, cl2, rfl, _, _, _⟩ := hol2.shape
      generalize (insL (m : Int) (insN l V.length j)).length = nl2 at *
      have hb := HB.out.kept0 k2
      have d2 : w2.cell? ⟨r, 2, none⟩ = some lv' := hb.cell 2
      have g2 := hb.free 2
      have kg : Kept [r] w2 (w2.setCell ⟨r, 2, none⟩ (.slice Al2 nl2 cl2)) := (Kept.refl _ _).setCell (by simp) _
      have hne : ∀ v : Value, r ∉ blk v → ∀ x, v.ownBlock = some x → x ∉ [r] := fun v hv x hx => by
        have : x ≠ r := fun e => hv (e ▸ blk_mem hx)
        simpa using this
      have HO3 := hide ((HO.out.kept0 k2).kept kg (hne _ (ownS_ne HO.out HB.out (by decide))))
      have hr3 : RefAt (w2.setCell ⟨r, 2, none⟩ (.slice Al2 nl2 cl2)) base r V D (insL (m : Int) (insN l V.length j)) (r :: (blk vv' ++ (blk dv' ++ blk (.slice Al2 nl2 cl2)))) :=
        ⟨_, _, _, rfl, hb.set 2 (.slice Al2 nl2 cl2), (HV.out.kept0 k2).kept kg (hne _ (ownS_ne HV.out HB.out (by decide))), (HD.out.kept0 k2).kept kg (hne _ (ownS_ne HD.out HB.out (by decide))), hol2.kept kg (hne _ (own_ne hol2 hb (by decide))), h5⟩
      have HK3 : Hid (Kept [r] w (w2.setCell ⟨r, 2, none⟩ (.slice Al2 nl2 cl2))) := hide ((HK.out.trans0 k2).trans kg (fun x hx => .inl hx))
      have HG3 : Hid (∀ x ∈ r :: (blk vv' ++ (blk dv' ++ blk (.slice Al2 nl2 cl2))), x ∈ G' ∨ wr.heap.size ≤ x) := hide fun x hx => by
        rw [HGe.out]
        rcases List.mem_cons.1 hx with rfl | hx
        · exact .inl (by simp)
        rcases List.mem_append.1 hx with hx | hx
        · exact .inl (by simp [hx])
        rcases List.mem_append.1 hx with hx | hx
        · exact .inl (by simp [hx])
        rcases hb2 x hx with hx | hx
        · exact .inl (by simp [hx])
        · exact .inr hx
      have HR3 := hide hr3
      have HZ : Hid (wr.heap.size ≤ (w2.setCell ⟨r, 2, none⟩ (.slice Al2 nl2 cl2)).heap.size) := hide (Nat.le_trans k2.size (by simp [World.setCell]))
      have HRD : Hid (Rd ((w2.setCell ⟨r, 2, none⟩ (.slice Al2 nl2 cl2)).alloc (.cells #[.string ⟨#[]⟩] 9)) (some ⟨w2.heap.size, 0, none⟩) 1 (strs [ByteArray.empty])) := hide (by
        have h := rd_oneS (w2.setCell ⟨r, 2, none⟩ (.slice Al2 nl2 cl2)) ByteArray.empty 9
        rwa [show (w2.setCell ⟨r, 2, none⟩ (.slice Al2 nl2 cl2)).heap.size = w2.heap.size from by simp [World.setCell]] at h)
      clear hb hr3 kg hne hol2 hb2 k2 c2 f2
      go_wp2_with (at_builtin; refine wpList_appS rfl (.tmp 33) (.tmp 34) rfl w.heap.size _ _ rfl (HO3.out.kept0 ((Kept.refl _ _).alloc _)) _ 1 1 [ByteArray.empty] rfl (by simp) rfl HRD.out (by rw [HLEN.out]; omega) (Nat.le_trans HK3.out.size (by simp)) ?_)
      intro v3 w3 ho3 hk3 hat
      rw [padN_succ] at ho3
      have HL3 := hide (padN_len V (j + 1))
      obtain ⟨A3, c3, rfl, _, _, _⟩ := ho3.shape
      have HO4 := hide ho3
      have HK4 := hide hk3
      have HAT := hide hat
      clear ho3 hk3 hat
      go_wp2
      go_roundw
      case rel =>
        have hjm := HM.out
        have hra := HR3.out.kept0 ((Kept.refl _ _).alloc (.cells #[.string ⟨#[]⟩] 9))
        have hap : ∀ x ∈ blk (.slice A1 m c1), x ∉ r :: (blk vv' ++ (blk dv' ++ blk (.slice Al2 nl2 cl2))) := fun x hx hg => by
          rcases HG3.out x hg with h | h
          · exact HA.out x hx h
          · have := (HO.out.lt x (mem_blk hx)).2
            omega
        refine ⟨j + 1, _, by omega, HO4, hide (by rw [HINS.out]; exact hra.kept HK4.out (fun x hx hv => hap x hv hx)), hide ((HK3.out.alloc _).trans HK4.out (fun x hx => .inr (HO.out.lt x (mem_blk hx)).1)), hide fun x hx => ?_, hide fun x hx hg => ?_⟩
        · rcases HG3.out x hx with h | h
          · exact HG.out x h
          · exact .inr (Nat.le_trans HK.out.size h)
        · rcases HAT.out with h | h
          · exact hap x (blk_mem (h ▸ mem_blk hx)) hg
          · have e : x = _ := Option.some.inj ((mem_blk hx).symm.trans h)
            have h2 := (hra.lt x hg).2
            rw [show ((w2.setCell ⟨r, 2, none⟩ (.slice Al2 nl2 cl2)).alloc (.cells #[.string ⟨#[]⟩] 9)).heap.size = w2.heap.size + 1 from by simp [World.setCell]] at h2
            omega
      case measure =>
        have := HL3.out
        have := HLEN.out
        have := HM.out
        simp only [lenV]
        omega
    · have hjk : j = k + 1 - V.length := by omega
      rw [hlen] at HO HA ⊢
      obtain ⟨bl, rfl⟩ : ∃ bl, A1 = some ⟨bl, 0, none⟩ := by
        rcases HO.out.2 with ⟨_, h2⟩ | ⟨g', cap, cur, h1, _⟩
        · have := HLEN.out
          omega
        · injection h1 with h1
          exact ⟨g', h1⟩
      have hkm : k < V.length + j := by omega
      have cr := HO.out.at' hkm
      have fr := HO.out.free' k
      generalize (padN V j).getD k ByteArray.empty = old at cr
      have hbl : bl ∉ G' := HA.out bl (by simp [blk, Value.ownBlock])
      have hblr : bl ≠ r := fun e => hbl (by rw [e, HGe.out]; simp)
      have kw : Kept [bl] wr (wr.setCell ⟨bl, k, none⟩ (.string s)) := (Kept.refl _ _).setCell (by simp) _
      have HO1 : Hid (OwnS (wr.setCell ⟨bl, k, none⟩ (.string s)) w.heap.size _ _) := hide (HO.out.set' k s)
      have hr1 := HH.out.kept kw (fun x hx => by
        have : x ≠ bl := fun e => hbl (e ▸ hx)
        simpa using this)
      have hb1 : Blk (wr.setCell ⟨bl, k, none⟩ (.string s)) r _ _ := HB.out.kept kw (by simpa using Ne.symm hblr)
      have e2 : (wr.setCell ⟨bl, k, none⟩ (.string s)).cell? ⟨r, 2, none⟩ = some lv' := hb1.cell 2
      have hn1 : ∀ v : Value, (∀ x ∈ blk v, x ∈ G') → ∀ x, v.ownBlock = some x → x ∉ [bl] := fun v hv x hx => by
        have : x ≠ bl := fun e => hbl (e ▸ hv x (blk_mem hx))
        simpa using this
      have hv1 := HV.out.kept kw (hn1 _ (fun x hx => by rw [HGe.out]; simp [hx]))
      have hd1 := HD.out.kept kw (hn1 _ (fun x hx => by rw [HGe.out]; simp [hx]))
      have hl1 := HL.out.kept kw (hn1 _ (fun x hx => by rw [HGe.out]; simp [hx]))
      have HK1 : Hid (Kept [r] w (wr.setCell ⟨bl, k, none⟩ (.string s))) := hide (HK.out.trans kw (fun x hx => by
        simp at hx
        subst hx
        exact .inr (HO.out.lt x (by simp [Value.ownBlock])).1))
      have HZ : Hid (wr.heap.size = (wr.setCell ⟨bl, k, none⟩ (.string s)).heap.size) := hide (by simp [World.setCell])
      have HW := hide (with_any base lv' (insN l V.length j) (k : Int) (wr.setCell ⟨bl, k, none⟩ (.string s)) hl1 (by omega) (by rw [← HZ.out]; exact Nat.le_trans h5 (Nat.le_of_lt hrw)))
      have HB1 := hide hb1
      have HV1 := hide hv1
      have HD1 := hide hd1
      clear hr1 hb1 hv1 hd1 hl1 kw hn1 c2 f2
      generalize hmm : V.length + j = m at *
      have HM := hide hmm
      clear hmm
      go_wp2_with fail
      refine HW.out.mono ?_
      rintro e w2 ⟨lv2, rfl, hol2, k2, hb2⟩
      obtain ⟨Al2, cl2, rfl, _, _, _⟩ := hol2.shape
      generalize (insL (k : Int) (insN l V.length j)).length = nl2 at *
      have hb := HB1.out.kept0 k2
      have d0 : w2.cell? ⟨r, 0, none⟩ = some vv' := hb.cell 0
      have d2 : w2.cell? ⟨r, 2, none⟩ = some lv' := hb.cell 2
      have g0 := hb.free 0
      have g2 := hb.free 2
      have HB2 := hide hb
      have HO2 := hide (HO1.out.kept0 k2)
      have HD2 := hide (HD1.out.kept0 k2)
      have HL2 := hide hol2
      have HK2 := hide (HK1.out.trans0 k2)
      have HBB := hide hb2
      have hrw2 := hb.lt
      clear hb hol2 k2 hb2 HW
      go_wp2
      go_ret
      have kk : Kept [r] w2 ((w2.setCell ⟨r, 0, none⟩ (.slice (some ⟨bl, 0, none⟩) m c1)).setCell ⟨r, 2, none⟩ (.slice Al2 nl2 cl2)) := ((Kept.refl [r] w2).setCell (by simp) _).setCell (by simp) _
      have hne : ∀ v : Value, r ∉ blk v → ∀ x, v.ownBlock = some x → x ∉ [r] := fun v hv x hx => by
        have : x ≠ r := fun e => hv (e ▸ blk_mem hx)
        simpa using this
      rw [← hjk]
      have hb : base ≤ w.heap.size := by
        have := (H.out.lt r (by simp)).2
        omega
      refine ⟨rfl, _, ⟨_, _, _, rfl, (HB2.out.set 0 (.slice (some ⟨bl, 0, none⟩) m c1)).set 2 (.slice Al2 nl2 cl2), (HO2.out.base hb).kept kk (hne _ (ownS_ne HO2.out HB2.out (by decide))), HD2.out.kept kk (hne _ (ownS_ne HD2.out HB2.out (by decide))), HL2.out.kept kk (hne _ (own_ne HL2.out HB2.out (by decide))), h5⟩, HK2.out.trans kk (fun x hx => .inl hx), fun x hx => ?_⟩
      have hz := HK.out.size
      have hz2 := HZ.out
      rcases List.mem_cons.1 hx with rfl | hx
      · exact .inl (by simp)
      rcases List.mem_append.1 hx with hx | hx
      · exact .inr (HO2.out.lt x (mem_blk hx)).1
      rcases List.mem_append.1 hx with hx | hx
      · exact HG.out x (by rw [HGe.out]; simp [hx])
      · rcases HBB.out x hx with hx | hx
        · exact HG.out x (by rw [HGe.out]; simp [hx])
        · exact .inr (by omega)
end
end Go.Proofs.Ytabcchadjgnldaa
