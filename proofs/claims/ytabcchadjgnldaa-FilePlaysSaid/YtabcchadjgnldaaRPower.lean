/- The reference's file: Power. Conditions: its rows are the call's own; at most 400 pages; keep has at most 65536 elements. -/
import Derived.Test.YtabcchadjgnldaaRWrite
import Derived.Test.YtabcchadjgnldaaFPower
namespace Go.Proofs.Ytabcchadjgnldaa
open Go.RowKit

theorem OwnS.rd {w : World} {base n c : Nat} {A : Option Addr} {l : List ByteArray} (h : OwnS w base (.slice A n c) l) : Rd w A n (strs l) ∧ (A = none → c = 0) := by
  obtain ⟨A', c', e, _, hr, _⟩ := h.shape
  injection e with e1 e2 e3
  subst e1
  subst e2
  refine ⟨hr, fun e => ?_⟩
  subst e
  rcases h.2 with ⟨e, _⟩ | ⟨_, _, _, e, _⟩
  · injection e
  · injection e with e; cases e
section
variable (base r : Nat) (V D : List ByteArray) (l : List Int) (G : List Nat) (w : World)
set_option maxRecDepth 100000 in
set_option maxHeartbeats 2000000 in
theorem powr_any (A : Option Addr) (K cc : Nat) (kf : Nat → Bool) (h : RefAt w base r V D l G) (hV : V.length ≤ 400) (hl : l.length ≤ 400) (hlm : ∀ x ∈ l, ∃ p : Nat, p < V.length ∧ x = p) (hb : base ≤ w.heap.size) (hr : Rd w A K (bols kf)) : Calls Try.prog 16 #[.pointer (some ⟨r, 0, none⟩), .slice A K cc] w fun e w' => e = .returned (.tuple #[]) ∧ ∃ G', RefAt w' base r (trim (powN V D kf K l l.length)) (trim (powN V D kf K l l.length)) [] G' ∧ Kept [r] w w' ∧ ∀ x ∈ G', x ∈ G ∨ w.heap.size ≤ x := by
  obtain ⟨vv, dv, lv, rfl, h1, h2, h3, h4, h5⟩ := h
  obtain ⟨A0, c0, rfl, _, hr0, _⟩ := h2.shape
  obtain ⟨Ad, cd, rfl, _, hrd, _⟩ := h3.shape
  obtain ⟨Al, cl, rfl, _, hrl, _⟩ := h4.shape
  have hcap : A0 = none → c0 = 0 := fun e => by
    subst e
    rcases h2.2 with ⟨e, _⟩ | ⟨_, _, _, e, _⟩
    · injection e
    · injection e with e; cases e
  have d0 : w.cell? ⟨r, 0, none⟩ = some (.slice A0 V.length c0) := h1.cell 0
  have HR0 := hide hr0
  have HRD := hide hrd
  have HRL := hide hrl
  have HR := hide hr
  have HLM := hide hlm
  have H1 := hide h1
  clear hr0 hrd hrl hr hlm h1 h2 h3 h4
  go_enter Try.func16, Try.ntmps16
  go_wp2_with (at_builtin; refine wpList_appS rfl (.const (.slice none 0 0)) (.tmp 9) rfl w.heap.size _ [] rfl (OwnS.nil _ _) A0 V.length c0 V rfl hcap rfl HR0.out (by simp; omega) (Nat.le_refl _) ?_)
  intro v1 w1 ho1' k1' _
  have ho1 : OwnS w1 w.heap.size v1 V := ho1'
  have k1 : Kept [] w w1 := k1'.more (by simp [blk, Value.ownBlock])
  obtain ⟨A1, c1, rfl, _, _, _⟩ := ho1.shape
  have HO := hide ho1
  have HK := hide k1
  clear ho1 ho1' k1 k1' d0 HR0 hcap
  go_wp2
  go_loopw [5] (fun i wz => ∃ t : Nat, t ≤ l.length ∧ i = .int .i64 t ∧ Hid (OwnS wz w.heap.size (.slice A1 V.length c1) (powN V D kf K l t)) ∧ Hid (Kept [] w wz)) (fun i _ => l.length - (intOf i).toNat)
  case atStart => exact ⟨0, Nat.zero_le _, rfl, HO, HK⟩
  case round =>
    clear HO HK
    obtain ⟨t, ht, rfl, HO, HK⟩ := hrel
    have hB := H1.out.kept0 HK.out
    have d1 : wr.cell? ⟨r, 1, none⟩ = some (.slice Ad D.length cd) := hB.cell 1
    have d2 : wr.cell? ⟨r, 2, none⟩ = some (.slice Al l.length cl) := hB.cell 2
    have HB := hide hB
    clear hB
    by_cases hlt : t < l.length
    · obtain ⟨b1, o1, rfl, hb1, hcl0⟩ := HRL.out t hlt
      unfold ints at hcl0
      obtain ⟨q, hq, he⟩ := HLM.out (l.getD t 0) (by simp [List.getD, hlt])
      have HPW : Hid (powN V D kf K l (t + 1) = if t < K ∧ kf t = true then powN V D kf K l t else (powN V D kf K l t).set (l.getD t 0).toNat (at' D (l.getD t 0))) := hide rfl
      rw [he] at hcl0 HPW
      have hcl : wr.cell? ⟨b1, o1 + t, none⟩ = some (.int .i64 q) := (World.cell?_of_block (HK.out.block b1 hb1 (by simp))).trans hcl0
      clear he hcl0
      have hcase : (t < K ∧ kf t = true) ∨ (t < K ∧ kf t = false) ∨ ¬ t < K := by
        by_cases h : t < K
        · cases hk : kf t
          · exact .inr (.inl ⟨h, rfl⟩)
          · exact .inl ⟨h, rfl⟩
        · exact .inr (.inr h)
      rcases hcase with ⟨htk, hkt⟩ | hcase
      · obtain ⟨bk, ok, rfl, _, hck⟩ := (HR.out.kept0 HK.out) t htk
        unfold bols at hck
        rw [hkt] at hck
        have HPW2 := hide (HPW.out.trans (if_pos ⟨htk, hkt⟩))
        clear HPW hkt
        go_wp2
        go_roundw
        case rel => exact ⟨t + 1, hlt, by go_num, by rw [HPW2.out]; exact HO, HK⟩
        case measure => simp [intOf]; omega
      · have HPW2 : Hid (powN V D kf K l (t + 1) = (powN V D kf K l t).set q (at' D q)) := hide (HPW.out.trans (if_neg (fun h => by
          rcases hcase with ⟨_, h2⟩ | h2
          · rw [h2] at h
            exact absurd h.2 (by simp)
          · exact h2 h.1)))
        clear HPW
        obtain ⟨bl, rfl⟩ : ∃ bl, A1 = some ⟨bl, 0, none⟩ := by
          rcases HO.out.2 with ⟨h1, _⟩ | ⟨g', cap, cur, h1, _⟩
          · injection h1 with _ h1
            omega
          · injection h1 with h1
            exact ⟨g', h1⟩
        have cr := HO.out.at' hq
        have fr := HO.out.free' q
        generalize (powN V D kf K l t).getD q ByteArray.empty = old at cr
        have hblw : w.heap.size ≤ bl := (HO.out.lt bl (by simp [Value.ownBlock])).1
        have hrw : r < w.heap.size := H1.out.lt
        have hblr : bl ≠ r := by omega
        have hblb : bl ≠ b1 := by omega
        have kw : Kept [bl] wr (wr.setCell ⟨bl, q, none⟩ (.string (at' D q))).drew := ((Kept.refl _ _).setCell (p := ⟨bl, q, none⟩) (by simp) _).drew
        have e1 : (wr.setCell ⟨bl, q, none⟩ (.string (at' D q))).drew.cell? ⟨r, 1, none⟩ = some (.slice Ad D.length cd) := (World.cell?_of_block (RowKit.Below.heap_setCell wr ⟨bl, q, none⟩ _ r (Ne.symm hblr))).trans d1
        have e2 : (wr.setCell ⟨bl, q, none⟩ (.string (at' D q))).drew.cell? ⟨r, 2, none⟩ = some (.slice (some ⟨b1, o1, none⟩) l.length cl) := (World.cell?_of_block (RowKit.Below.heap_setCell wr ⟨bl, q, none⟩ _ r (Ne.symm hblr))).trans d2
        have e3 : (wr.setCell ⟨bl, q, none⟩ (.string (at' D q))).drew.cell? ⟨b1, o1 + t, none⟩ = some (.int .i64 q) := (World.cell?_of_block (RowKit.Below.heap_setCell wr ⟨bl, q, none⟩ _ b1 (Ne.symm hblb))).trans hcl
        have HAT := hide (atr_any wr.drew Ad D.length cd D (q : Int) rfl (HRD.out.kept0 (HK.out.trans0 (Kept.refl _ _).drew)))
        have HREL : Hid (OwnS (wr.setCell ⟨bl, q, none⟩ (.string (at' D q))).drew w.heap.size (.slice (some ⟨bl, 0, none⟩) V.length c1) (powN V D kf K l (t + 1)) ∧ Kept [] w (wr.setCell ⟨bl, q, none⟩ (.string (at' D q))).drew) := hide ⟨by
          rw [HPW2.out]
          exact HO.out.set' q _, HK.out.trans kw (fun x hx => .inr (by simp at hx; omega))⟩
        clear kw HPW2 HO hblw hrw
        generalize at' D q = yy at e1 e2 e3 HAT HREL
        have hqv := hq
        generalize D.length = sl at d1 e1 HAT
        generalize V.length = vl at hqv HREL ⊢
        have htl := hlt
        generalize l.length = ll at htl d2 e2 HREL ⊢
        rcases hcase with ⟨htk, hkt⟩ | htk
        · obtain ⟨bk, ok, rfl, _, hck⟩ := (HR.out.kept0 HK.out) t htk
          unfold bols at hck
          rw [hkt] at hck
          clear hkt
          go_upto_region 5 with (fail)
          go_region_held3 (fun W : World => W.cell? ⟨r, 1, none⟩ = some (.slice Ad sl cd) ∧ W.cell? ⟨r, 2, none⟩ = some (.slice (some ⟨b1, o1, none⟩) ll cl) ∧ W.cell? ⟨b1, o1 + t, none⟩ = some (.int .i64 q)) (first | exact ⟨d1, d2, hcl⟩ | exact ⟨e1, e2, e3⟩) (first | (go_at_call 27; refine HAT.out.mono ?_; rintro e w9 ⟨rfl, rfl⟩))
          go_wp2
          go_roundw
          case rel => exact ⟨t + 1, htl, by go_num, hide HREL.out.1, hide HREL.out.2⟩
          case measure => simp [intOf]; omega
        · go_upto_region 5 with (fail)
          go_region_held3 (fun W : World => W.cell? ⟨r, 1, none⟩ = some (.slice Ad sl cd) ∧ W.cell? ⟨r, 2, none⟩ = some (.slice (some ⟨b1, o1, none⟩) ll cl) ∧ W.cell? ⟨b1, o1 + t, none⟩ = some (.int .i64 q)) (first | exact ⟨d1, d2, hcl⟩ | exact ⟨e1, e2, e3⟩) (first | (go_at_call 27; refine HAT.out.mono ?_; rintro e w9 ⟨rfl, rfl⟩))
          go_wp2
          go_roundw
          case rel => exact ⟨t + 1, htl, by go_num, hide HREL.out.1, hide HREL.out.2⟩
          case measure => simp [intOf]; omega
    · obtain rfl : t = l.length := by omega
      have hPl := powN_len V D kf K l l.length
      generalize hP : powN V D kf K l l.length = P at HO hPl
      have HP := hide hP
      clear hP
      have HPL := hide hPl
      have HO2 : Hid (OwnS wr w.heap.size (.slice A1 P.length c1) P) := hide (by rw [HPL.out]; exact HO.out)
      rw [← hPl]
      clear HO hPl d1
      go_wp2
      go_loopw [4] (fun v wz => ∃ M : List ByteArray, Hid (trim M = trim P) ∧ M.length ≤ 400 ∧ Hid (OwnS wz w.heap.size v M) ∧ Hid (Kept [] w wz)) (fun v _ => lenV v)
      case atStart => exact ⟨P, hide rfl, by rw [HPL.out]; exact hV, HO2, HK⟩
      case round =>
        clear HO2 HK d2 HB
        obtain ⟨M, HT, hM, HO, HK⟩ := hrel
        have hB := H1.out.kept0 HK.out
        have d0 : wr.cell? ⟨r, 0, none⟩ = some (.slice A0 V.length c0) := hB.cell 0
        have d1 : wr.cell? ⟨r, 1, none⟩ = some (.slice Ad D.length cd) := hB.cell 1
        have d2 : wr.cell? ⟨r, 2, none⟩ = some (.slice Al l.length cl) := hB.cell 2
        have f0 := hB.free 0
        have f1 := hB.free 1
        have f2 := hB.free 2
        have HB := hide hB
        clear hB
        obtain ⟨A2, c2, rfl, _, _, _⟩ := HO.out.shape
        obtain ⟨n2, hn2⟩ : ∃ n, n = M.length := ⟨_, rfl⟩
        rw [← hn2] at HO hM ⊢
        rcases nil_or_snoc M with rfl | ⟨M0, x, rfl⟩
        · have HTM : Hid (trim P = []) := hide (HT.out.symm.trans trim_nil)
          have hn0 : ¬ 0 < n2 := by
            rw [hn2]
            simp
          have HL : Hid (([] : List ByteArray).length = n2) := hide hn2.symm
          clear hn2
          have hrw : r < w.heap.size := H1.out.lt
          have hro : r ∉ blk (.slice A2 n2 c2) := fun hx => by
            have := (HO.out.lt r (mem_blk hx)).1
            omega
          have kk : Kept [r] wr ((wr.setCell ⟨r, 0, none⟩ (.slice A2 n2 c2)).setCell ⟨r, 2, none⟩ (.slice none 0 0)) := ((Kept.refl [r] wr).setCell (by simp) _).setCell (by simp) _
          have HO5 := hide (HO.out.kept kk (fun x hx => by
            have : x ≠ r := fun e => hro (e ▸ blk_mem hx)
            simpa using this))
          have HR5 := hide HO5.out.rd
          have HB5 := hide ((HB.out.set 0 (.slice A2 n2 c2)).set 2 (.slice none 0 0))
          have HK5 := hide ((HK.out.more (S' := [r]) (by simp)).trans kk (fun x hx => .inl hx))
          clear hro kk
          go_wp2_with (at_builtin; refine wpList_appS rfl (.const (.slice none 0 0)) (.tmp 77) rfl w.heap.size _ [] rfl (OwnS.nil _ _) A2 n2 c2 ([] : List ByteArray) rfl HR5.out.2 HL.out HR5.out.1 (by simp; omega) HK5.out.size ?_)
          intro v3 w3 ho3' k3' _
          have ho3 : OwnS w3 w.heap.size v3 ([] : List ByteArray) := ho3'
          have k3 : Kept [] _ w3 := k3'.more (by simp [blk, Value.ownBlock])
          obtain ⟨A3, c3, rfl, _, _, _⟩ := ho3.shape
          rw [HL.out] at ho3
          rw [HL.out]
          have hB3 := HB5.out.kept0 k3
          have e1 : w3.cell? ⟨r, 1, none⟩ = some (.slice Ad D.length cd) := hB3.cell 1
          have g1 := hB3.free 1
          have HO3 := hide ho3
          have HO6 := hide (HO5.out.kept0 k3)
          have HK6 := hide (HK5.out.trans0 k3)
          have HB6 := hide hB3
          clear ho3 ho3' k3 k3' hB3
          go_wp2
          go_end0
          have kz : Kept [r] w3 (w3.setCell ⟨r, 1, none⟩ (.slice A3 n2 c3)) := (Kept.refl [r] w3).setCell (by simp) _
          have hne : ∀ (c : Nat) (A : Option Addr), OwnS w3 w.heap.size (.slice A n2 c) ([] : List ByteArray) → ∀ x, (Value.slice A n2 c).ownBlock = some x → x ∉ [r] := fun c A ho x hx => by
            have := (ho.lt x hx).1
            simp
            omega
          rw [HP.out, HTM.out]
          refine ⟨rfl, _, ⟨_, _, _, rfl, HB6.out.set 1 (.slice A3 n2 c3), (HO6.out.kept kz (hne _ _ HO6.out)).base hb, (HO3.out.kept kz (hne _ _ HO3.out)).base hb, Own.nil _ _, h5⟩, HK6.out.trans kz (fun x hx => .inl hx), fun x hx => ?_⟩
          rcases List.mem_cons.1 hx with rfl | hx
          · exact .inl (by simp)
          rcases List.mem_append.1 hx with hx | hx
          · exact .inr (HO6.out.lt x (mem_blk hx)).1
          rcases List.mem_append.1 hx with hx | hx
          · exact .inr (HO3.out.lt x (mem_blk hx)).1
          · exact absurd hx (by simp [blk, Value.ownBlock])
        · obtain ⟨bl, rfl⟩ : ∃ bl, A2 = some ⟨bl, 0, none⟩ := by
            rcases HO.out.2 with ⟨_, h2⟩ | ⟨g', cap, cur, h1, _⟩
            · simp at h2
            · injection h1 with h1
              exact ⟨g', h1⟩
          have hml : (M0 ++ [x]).length = M0.length + 1 := by simp
          rw [hml] at hn2
          subst hn2
          have hlast := HO.out.at' (i := M0.length) (by omega)
          rw [show (M0 ++ [x]).getD M0.length ByteArray.empty = x from by simp [List.getD]] at hlast
          have hcap2 : M0.length + 1 ≤ c2 := by
            have := HO.out.block.2.choose_spec.2.2.1
            exact this
          have hcut := HO.out.cut' (i := M0.length) (by omega)
          rw [List.take_left] at hcut
          have HC := hide hcut
          clear hcut
          have HL : Hid ((M0 ++ [x]).length = M0.length + 1) := hide hml
          clear hml
          by_cases hx : x = ByteArray.empty
          · have HTE := hide (trim_empty M0 x hx)
            rw [hx] at hlast
            clear hx
            generalize hml0 : M0.length = m0 at hlast hcap2 hM HC ⊢
            have HM0 := hide hml0
            clear hml0
            have hiw : IntKind.i64.wrap (m0 : Int) = (m0 : Int) := IntWalk.i64_in _ (by omega)
            go_wp2
            go_roundw
            case rel => exact ⟨M0, hide (HTE.out.symm.trans HT.out), by rw [HM0.out]; omega, HC, HK⟩
            case measure => simp [lenV]
          · have HTM : Hid (trim P = M0 ++ [x]) := hide (HT.out.symm.trans (trim_full M0 x hx))
            have he1 : x.toList.isEmpty = false := by
              rw [Lib.toList_data]
              cases hd : x.data.toList with
              | nil => exact absurd (ByteArray.ext (Array.toList_inj.1 hd)) hx
              | cons y r => rfl
            clear hx
            generalize M0.length = m0 at hlast hcap2 hM HC HO HL ⊢
            have hiw : IntKind.i64.wrap (m0 : Int) = (m0 : Int) := IntWalk.i64_in _ (by omega)
            have hrw : r < w.heap.size := H1.out.lt
            have hro : r ∉ blk (.slice (some ⟨bl, 0, none⟩) (m0 + 1) c2) := fun hx => by
              have := (HO.out.lt r (mem_blk hx)).1
              omega
            have kk : Kept [r] wr ((wr.setCell ⟨r, 0, none⟩ (.slice (some ⟨bl, 0, none⟩) (m0 + 1) c2)).setCell ⟨r, 2, none⟩ (.slice none 0 0)) := ((Kept.refl [r] wr).setCell (by simp) _).setCell (by simp) _
            have HO5 := hide (HO.out.kept kk (fun x hx => by
              have : x ≠ r := fun e => hro (e ▸ blk_mem hx)
              simpa using this))
            have HR5 := hide HO5.out.rd
            have HB5 := hide ((HB.out.set 0 (.slice (some ⟨bl, 0, none⟩) (m0 + 1) c2)).set 2 (.slice none 0 0))
            have HK5 := hide ((HK.out.more (S' := [r]) (by simp)).trans kk (fun x hx => .inl hx))
            clear hro kk
            go_wp2_with (at_builtin; refine wpList_appS rfl (.const (.slice none 0 0)) (.tmp 77) rfl w.heap.size _ [] rfl (OwnS.nil _ _) (some ⟨bl, 0, none⟩) (m0 + 1) c2 (M0 ++ [x]) rfl HR5.out.2 HL.out HR5.out.1 (by simp; omega) HK5.out.size ?_)
            intro v3 w3 ho3' k3' _
            have ho3 : OwnS w3 w.heap.size v3 (M0 ++ [x]) := ho3'
            have k3 : Kept [] _ w3 := k3'.more (by simp [blk, Value.ownBlock])
            obtain ⟨A3, c3, rfl, _, _, _⟩ := ho3.shape
            rw [HL.out] at ho3
            rw [HL.out]
            have hB3 := HB5.out.kept0 k3
            have e1 : w3.cell? ⟨r, 1, none⟩ = some (.slice Ad D.length cd) := hB3.cell 1
            have g1 := hB3.free 1
            have HO3 := hide ho3
            have HO6 := hide (HO5.out.kept0 k3)
            have HK6 := hide (HK5.out.trans0 k3)
            have HB6 := hide hB3
            clear ho3 ho3' k3 k3' hB3
            go_wp2
            go_end0
            have kz : Kept [r] w3 (w3.setCell ⟨r, 1, none⟩ (.slice A3 (m0 + 1) c3)) := (Kept.refl [r] w3).setCell (by simp) _
            have hne : ∀ (c : Nat) (A : Option Addr), OwnS w3 w.heap.size (.slice A (m0 + 1) c) (M0 ++ [x]) → ∀ x, (Value.slice A (m0 + 1) c).ownBlock = some x → x ∉ [r] := fun c A ho x hx => by
              have := (ho.lt x hx).1
              simp
              omega
            rw [HP.out, HTM.out]
            refine ⟨rfl, _, ⟨_, _, _, rfl, HB6.out.set 1 (.slice A3 (m0 + 1) c3), (HO6.out.kept kz (hne _ _ HO6.out)).base hb, (HO3.out.kept kz (hne _ _ HO3.out)).base hb, Own.nil _ _, h5⟩, HK6.out.trans kz (fun x hx => .inl hx), fun x hx => ?_⟩
            rcases List.mem_cons.1 hx with rfl | hx
            · exact .inl (by simp)
            rcases List.mem_append.1 hx with hx | hx
            · exact .inr (HO6.out.lt x (mem_blk hx)).1
            rcases List.mem_append.1 hx with hx | hx
            · exact .inr (HO3.out.lt x (mem_blk hx)).1
            · exact absurd hx (by simp [blk, Value.ownBlock])
end
end Go.Proofs.Ytabcchadjgnldaa
