/- A file: Copy. Conditions: its rows and its map are the call's own; at most 400 pages. -/
import Derived.Test.YtabcchadjgnldaaFPower
namespace Go.Proofs.Ytabcchadjgnldaa
open Go.RowKit

theorem Kept.grow1 {w w' : World} {x : Nat} (h : Kept [x] w w') : w.grownBy w' (some x) := ⟨h.os, h.tape, h.output, h.size, fun i hi hne => h.block i hi (by simpa using fun e => hne (by rw [e]))⟩
theorem Kept.grow0 {w w' : World} (h : Kept [] w w') : w.grownBy w' none := ⟨h.os, h.tape, h.output, h.size, fun i hi _ => h.block i hi (by simp)⟩
/-- A bool by a number. -/
def boolOf (i : Nat) : Value := .bool (decide (i = 0))
theorem boolOf_all (c : Bool) : ∃ i, Value.bool c = boolOf i := by
  cases c
  · exact ⟨1, rfl⟩
  · exact ⟨0, rfl⟩
theorem SetAt.congr {w : World} {b n : Nat} {L L' : Int → Bool} (h : SetAt w b n L) (he : ∀ k, (Lit.int .i64 k).wf = true → L k = L' k) : SetAt w b n L' := by
  obtain ⟨D, h1, h2, h3⟩ := h
  exact ⟨D, h1, fun k hk => by rw [h2 k hk, he k hk], fun k hk => by rw [h3 k hk, he k hk]⟩
theorem FileAt.cells {w : World} {base g n : Nat} {N S : List ByteArray} {L : Int → Bool} {F : List Nat} (h : FileAt w base g N S n L F) : ∃ A c B d b, w.cell? ⟨g, 0, none⟩ = some (.slice A N.length c) ∧ w.cell? ⟨g, 1, none⟩ = some (.slice B S.length d) ∧ w.cell? ⟨g, 2, none⟩ = some (.map (some b)) ∧ Rd w A N.length (strs N) ∧ Rd w B S.length (strs S) ∧ SetAt w b n L := by
  obtain ⟨nv, sv, b, rfl, h1, h2, h3, h4, h5, h6, h7⟩ := h
  obtain ⟨A, c, rfl, _, hr, _⟩ := h2.shape
  obtain ⟨B, d, rfl, _, hr2, _⟩ := h3.shape
  exact ⟨A, c, B, d, b, h1.cell 0, h1.cell 1, h1.cell 2, hr, hr2, h4⟩

section
variable (base g n : Nat) (N S : List ByteArray) (L : Int → Bool) (F : List Nat) (w : World)
set_option maxRecDepth 100000 in
set_option maxHeartbeats 2000000 in
theorem copyf_any (h : FileAt w base g N S n L F) (hN : N.length ≤ 400) (hS : S.length ≤ 400) (hn : n < 100000) : Calls Try.prog 22 #[.pointer (some ⟨g, 0, none⟩)] w fun e w' => ∃ g2 F2, e = .returned (.pointer (some ⟨g2, 0, none⟩)) ∧ FileAt w' w.heap.size g2 N S n L F2 ∧ Kept [] w w' := by
  have hmk := mk_map
  obtain ⟨A, c, B, d, b, c0, c1, c2, hr, hr2, hset⟩ := h.cells
  have HA := hide fun W (k : Kept [] w W) => cloneS_any A N.length c N W rfl (by omega) (hr.kept0 k)
  have HB := hide fun W (k : Kept [] w W) => cloneS_any B S.length d S W rfl (by omega) (hr2.kept0 k)
  have HC : Hid (∀ W, Kept [] w W → W.cell? ⟨g, 0, none⟩ = some (.slice A N.length c) ∧ W.cell? ⟨g, 1, none⟩ = some (.slice B S.length d)) := hide fun W k => by
    obtain ⟨cs, hg⟩ := h.gcell
    have hgl := hg.lt
    exact ⟨(World.cell?_of_block (k.block g hgl (by simp))).trans c0, (World.cell?_of_block (k.block g hgl (by simp))).trans c1⟩
  have HSET := hide hset
  have H := hide h
  clear h hr hr2 hset
  generalize hnl : N.length = nl at c0 HA HC
  generalize hsl : S.length = sl at c1 HB HC
  have HNL := hide hnl
  have HSL := hide hsl
  clear hnl hsl
  go_enter Try.func22, Try.ntmps22
  go_upto_region 1 with (fail)
  have K0 : Kept [] w w.drew := (Kept.refl _ _).drew
  go_region_held3 (fun W : World => W.cell? ⟨g, 0, none⟩ = some (.slice A nl c) ∧ W.cell? ⟨g, 1, none⟩ = some (.slice B sl d)) (first | exact HC.out _ K0 | exact HC.out _ (K0.alloc _) | exact HC.out _ ((K0.alloc _).alloc _)) (first
    | (go_at_call 25; (with_reducible refine Calls.mono (HA.out _ ?_) ?_); (focus (first | exact K0 | exact K0.alloc _)); rintro e wa ⟨va, rfl, hoa, ka⟩; obtain ⟨Aa, ca, rfl, _, _, _⟩ := hoa.shape; have K0 : Kept [] w wa := (by first | exact K0.trans0 ka | exact (K0.alloc _).trans0 ka))
    | (go_at_call 25; (with_reducible refine Calls.mono (HB.out _ ?_) ?_); (focus (first | exact K0 | exact K0.alloc _)); rintro e wb ⟨vb, rfl, hob, kb⟩; obtain ⟨Ab, cb, rfl, _, _, _⟩ := hob.shape; have K0 : Kept [] w wb := (by first | exact K0.trans0 kb | exact (K0.alloc _).trans0 kb)))
  · have hB := Blk.new (wb.alloc (.map #[] 0)) 57 #[.slice Aa N.length ca, .slice Ab S.length cb, .map (some wb.heap.size)]
    have hOa : OwnS ((wb.alloc (.map #[] 0)).alloc (.cells #[.slice Aa N.length ca, .slice Ab S.length cb, .map (some wb.heap.size)] 57)) w.heap.size (.slice Aa N.length ca) N := (((hoa.kept0 kb).kept0 ((Kept.refl _ _).alloc _))).kept0 ((Kept.refl _ _).alloc _)
    have hOb : OwnS ((wb.alloc (.map #[] 0)).alloc (.cells #[.slice Aa N.length ca, .slice Ab S.length cb, .map (some wb.heap.size)] 57)) w.heap.size (.slice Ab S.length cb) S := (((hob.base (by have h1 := ka.size; exact h1)).kept0 ((Kept.refl _ _).alloc _))).kept0 ((Kept.refl _ _).alloc _)
    have hSm : SetAt ((wb.alloc (.map #[] 0)).alloc (.cells #[.slice Aa N.length ca, .slice Ab S.length cb, .map (some wb.heap.size)] 57)) (wb.heap.size) 0 (fun _ => false) := (SetAt.made wb).kept0 ((Kept.refl _ _).alloc _)
    have hKW : Kept [] w ((wb.alloc (.map #[] 0)).alloc (.cells #[.slice Aa N.length ca, .slice Ab S.length cb, .map (some wb.heap.size)] 57)) := (K0.alloc _).alloc _
    have hdis : ∀ x ∈ blk (.slice Aa N.length ca), x ∉ blk (.slice Ab S.length cb) := fun x hx hx2 => by
      have h1 := (hoa.lt x (mem_blk hx)).2
      have h2 := (hob.lt x (mem_blk hx2)).1
      omega
    have hbm : w.heap.size ≤ wb.heap.size := K0.size
    have hg2 : w.heap.size ≤ wb.heap.size + 1 := by
      have := K0.size
      omega
    rw [show (wb.alloc (.map #[] 0)).heap.size = wb.heap.size + 1 from by simp] at hB
    generalize (wb.alloc (.map #[] 0)).alloc (.cells #[.slice Aa N.length ca, .slice Ab S.length cb, .map (some wb.heap.size)] 57) = W at hB hOa hOb hSm hKW ⊢
    generalize wb.heap.size + 1 = g2 at hB hg2 ⊢
    generalize wb.heap.size = bm at hB hSm hbm ⊢
    obtain ⟨csg, hgb⟩ := H.out.gcell
    have hgl := hgb.lt
    have c2W : W.cell? ⟨g, 2, none⟩ = some (.map (some b)) := (World.cell?_of_block (hKW.block g hgl (by simp))).trans c2
    have hbl := HSET.out.lt
    obtain ⟨D, hD1, hD2, hD3⟩ := HSET.out.kept0 hKW
    obtain ⟨w0, hrun, hrg, hgr, hsz⟩ := hD1.range key_int Try.underlying55
    have hcnt := hD1.size_le
    have hk0 : Kept [] W w0 := ⟨hgr.os, hgr.tape, hgr.output, hgr.size, fun i hi _ => hgr.block i hi (by simp)⟩
    have hml := hSm.lt
    have hgl2 := hB.lt
    have HB2 := hide (hB.kept0 hk0)
    have HOa := hide (hOa.kept0 hk0)
    have HOb := hide (hOb.kept0 hk0)
    have HSm := hide (hSm.kept0 hk0)
    have HK2 := hide (hKW.trans0 hk0)
    have HD2 := hide hD3
    have HRG := hide hrg
    have HDIS := hide hdis
    clear hB hOa hOb hSm hKW hD2 hD3 hrg hgr hdis hk0 hsz hD1
    go_wp2
    clear hrun c2W
    generalize hr0 : W.heap.size = r at hml hgl2 HRG ⊢
    have HR0 := hide hr0
    clear hr0
    go_loopw [4] (fun _ wz => ∃ (left : Lit → Bool) (cnt n' : Nat) (L' : Int → Bool), wz.ranges Try.prog 3 (plainElem Try.prog 4) b r n D left cnt ∧ n' + cnt ≤ n ∧ SetAt wz bm n' L' ∧ Hid (∀ k, (Lit.int .i64 k).wf = true → L' k = (L k && !left (.int .i64 k))) ∧ Hid (∀ kl, left kl = true → Maps.has D kl = true) ∧ Blk wz g2 57 #[.slice Aa N.length ca, .slice Ab S.length cb, .map (some bm)] ∧ OwnS wz w.heap.size (.slice Aa N.length ca) N ∧ OwnS wz w.heap.size (.slice Ab S.length cb) S ∧ Kept [] w wz) (fun _ wz => wz.rangeLeft b r)
    case atStart => exact ⟨_, _, 0, _, HRG.out, by omega, HSm.out, hide (fun k hk => by rw [HD2.out k hk]; cases L k <;> rfl), hide (fun _ h => h), HB2.out, HOa.out, HOb.out, HK2.out⟩
    case round =>
      obtain ⟨left, cnt, n', L', hrg, hnc, hSm, HL, HLH, hB, hOa, hOb, hK⟩ := hrel
      go_wp2_with (at_next; refine wpList_next_ranges _ rfl _ rfl 3 key_int (plainElem Try.prog 4) (Value.int .i64) boolOf (fun key kl hkey => by obtain ⟨x, rfl, _⟩ := Maps.keyOf_int_inv Try.underlying3 hkey; exact ⟨x, rfl⟩) (fun v y hv => by obtain ⟨c, rfl, _⟩ := plain_bool_inv hv; exact boolOf_all c) b r n D left cnt rfl hrg ?_ ?_)
      · intro h0 hl
        go_wp2
        go_ret
        refine ⟨g2, _, rfl, ⟨_, _, bm, rfl, hB, hOa, hOb, (hSm.mono (by omega)).congr (fun k hk => ?_), hg2, hbm, HDIS.out⟩, hK⟩
        rw [HL.out k hk, hl]
        simp
      · intro x c1 kl y py w1 cnt1 hkey hlk hv hat hrg1 hlt hgr hsz hen
        obtain ⟨x', ex, rfl, hwx⟩ := Maps.keyOf_int_inv Try.underlying3 hkey
        cases ex
        have hk1 : Kept [r] wr w1 := ⟨hgr.os, hgr.tape, hgr.output, hgr.size, fun i hi hne => hgr.block i hi (by simpa using hne)⟩
        have hrw : w.heap.size ≤ r := Nat.le_trans hg2 (Nat.le_of_lt hgl2)
        obtain ⟨w4, hput, hset4, hk4⟩ := (hSm.kept hk1 (by simp; omega)).put (by simp only [maxLen]; omega) hwx
        have hB1 := hB.kept hk1 (by simp; omega)
        have c2 : w1.cell? ⟨g2, 2, none⟩ = some (.map (some bm)) := hB1.cell 2
        have nr : ∀ {v : Value} {l : List ByteArray} {base : Nat}, OwnS wr base v l → ∀ z, v.ownBlock = some z → z ∉ [r] := fun ho z hz hm => by
          have e : z = r := by simpa using hm
          subst e
          rcases ho.2 with ⟨rfl, _⟩ | ⟨g', cap, cur, rfl, _, hh, _⟩
          · cases hz
          · have e : g' = z := by simpa [Value.ownBlock] using hz
            subst e
            obtain ⟨_, _, _, _, _, _, _, _, _, hri, _⟩ := hrg
            rw [hh] at hri
            cases hri
        have HOa1 := hide (hOa.kept hk1 (nr hOa))
        have HOb1 := hide (hOb.kept hk1 (nr hOb))
        have HB1 := hide hB1
        have HSm1 := hide (hSm.kept hk1 (by simp; omega))
        have HRG1 := hide hrg1
        have HLO := hide hrg.left_eq
        have HX := hide (HLH.out _ hlk)
        have hK1 := hK.trans hk1 (fun z hz => by simp at hz; subst hz; exact .inr hrw)
        clear hB1 hrg1 hkey hv hat hOa hOb hB hSm hgr hrg hsz
        go_wp2
        go_roundw
        case rel =>
          refine ⟨_, cnt1, n' + 1, add L' x, HRG1.out.kept hk4.grow1 (by simp; omega) (by simp; omega), by omega, hset4, hide (fun k hk => ?_), hide (fun kl h => ?_), HB1.out.kept hk4 (by simpa using (HSm1.out.ne HB1.out).symm), HOa1.out.kept hk4 (fun z hz => ?_), HOb1.out.kept hk4 (fun z hz => ?_), hK1.trans hk4 (fun z hz => by simp at hz; subst hz; exact .inr hbm)⟩
          · unfold add
            by_cases e : k = x
            · subst e
              rw [if_pos rfl, ← HD2.out k hk, HX.out, WideAt.sameKey_self (key_int.key (Maps.keyOf_int_mk Try.underlying3 hk))]
              simp
            · rw [if_neg e, HL.out k hk, Maps.sameKey_ne (by simpa using e)]
              simp
          · simp at h
            exact HLH.out kl h.1
          · have hm := ownS_set HOa1.out HSm1.out
            have : z ≠ bm := fun e => hm (e ▸ blk_mem hz)
            simpa using this
          · have hm := ownS_set HOb1.out HSm1.out
            have : z ≠ bm := fun e => hm (e ▸ blk_mem hz)
            simpa using this
        case measure =>
          rw [(HRG1.out.kept hk4.grow1 (by simp; omega) (by simp; omega)).left_eq, HLO.out]
          exact hlt
  · have hB := Blk.new (wb) 57 #[.slice Aa N.length ca, .slice Ab S.length cb, .map (some wa.heap.size)]
    have hOa : OwnS ((wb).alloc (.cells #[.slice Aa N.length ca, .slice Ab S.length cb, .map (some wa.heap.size)] 57)) w.heap.size (.slice Aa N.length ca) N := (((hoa.kept0 ((Kept.refl _ _).alloc (.map #[] 0))).kept0 kb)).kept0 ((Kept.refl _ _).alloc _)
    have hOb : OwnS ((wb).alloc (.cells #[.slice Aa N.length ca, .slice Ab S.length cb, .map (some wa.heap.size)] 57)) w.heap.size (.slice Ab S.length cb) S := ((hob.base (by have h1 := ka.size; simp; exact Nat.le_succ_of_le h1))).kept0 ((Kept.refl _ _).alloc _)
    have hSm : SetAt ((wb).alloc (.cells #[.slice Aa N.length ca, .slice Ab S.length cb, .map (some wa.heap.size)] 57)) (wa.heap.size) 0 (fun _ => false) := (((SetAt.made wa).kept0 kb)).kept0 ((Kept.refl _ _).alloc _)
    have hKW : Kept [] w ((wb).alloc (.cells #[.slice Aa N.length ca, .slice Ab S.length cb, .map (some wa.heap.size)] 57)) := (K0).alloc _
    have hdis : ∀ x ∈ blk (.slice Aa N.length ca), x ∉ blk (.slice Ab S.length cb) := fun x hx hx2 => by
      have h1 := (hoa.lt x (mem_blk hx)).2
      have h2 := (hob.lt x (mem_blk hx2)).1
      simp at h2
      omega
    have hbm : w.heap.size ≤ wa.heap.size := ka.size
    have hg2 : w.heap.size ≤ wb.heap.size := by
      have := K0.size
      omega
    rw [show (wb).heap.size = wb.heap.size from by rfl] at hB
    generalize (wb).alloc (.cells #[.slice Aa N.length ca, .slice Ab S.length cb, .map (some wa.heap.size)] 57) = W at hB hOa hOb hSm hKW ⊢
    generalize wb.heap.size = g2 at hB hg2 ⊢
    generalize wa.heap.size = bm at hB hSm hbm ⊢
    obtain ⟨csg, hgb⟩ := H.out.gcell
    have hgl := hgb.lt
    have c2W : W.cell? ⟨g, 2, none⟩ = some (.map (some b)) := (World.cell?_of_block (hKW.block g hgl (by simp))).trans c2
    have hbl := HSET.out.lt
    obtain ⟨D, hD1, hD2, hD3⟩ := HSET.out.kept0 hKW
    obtain ⟨w0, hrun, hrg, hgr, hsz⟩ := hD1.range key_int Try.underlying55
    have hcnt := hD1.size_le
    have hk0 : Kept [] W w0 := ⟨hgr.os, hgr.tape, hgr.output, hgr.size, fun i hi _ => hgr.block i hi (by simp)⟩
    have hml := hSm.lt
    have hgl2 := hB.lt
    have HB2 := hide (hB.kept0 hk0)
    have HOa := hide (hOa.kept0 hk0)
    have HOb := hide (hOb.kept0 hk0)
    have HSm := hide (hSm.kept0 hk0)
    have HK2 := hide (hKW.trans0 hk0)
    have HD2 := hide hD3
    have HRG := hide hrg
    have HDIS := hide hdis
    clear hB hOa hOb hSm hKW hD2 hD3 hrg hgr hdis hk0 hsz hD1
    go_wp2
    clear hrun c2W
    generalize hr0 : W.heap.size = r at hml hgl2 HRG ⊢
    have HR0 := hide hr0
    clear hr0
    go_loopw [4] (fun _ wz => ∃ (left : Lit → Bool) (cnt n' : Nat) (L' : Int → Bool), wz.ranges Try.prog 3 (plainElem Try.prog 4) b r n D left cnt ∧ n' + cnt ≤ n ∧ SetAt wz bm n' L' ∧ Hid (∀ k, (Lit.int .i64 k).wf = true → L' k = (L k && !left (.int .i64 k))) ∧ Hid (∀ kl, left kl = true → Maps.has D kl = true) ∧ Blk wz g2 57 #[.slice Aa N.length ca, .slice Ab S.length cb, .map (some bm)] ∧ OwnS wz w.heap.size (.slice Aa N.length ca) N ∧ OwnS wz w.heap.size (.slice Ab S.length cb) S ∧ Kept [] w wz) (fun _ wz => wz.rangeLeft b r)
    case atStart => exact ⟨_, _, 0, _, HRG.out, by omega, HSm.out, hide (fun k hk => by rw [HD2.out k hk]; cases L k <;> rfl), hide (fun _ h => h), HB2.out, HOa.out, HOb.out, HK2.out⟩
    case round =>
      obtain ⟨left, cnt, n', L', hrg, hnc, hSm, HL, HLH, hB, hOa, hOb, hK⟩ := hrel
      go_wp2_with (at_next; refine wpList_next_ranges _ rfl _ rfl 3 key_int (plainElem Try.prog 4) (Value.int .i64) boolOf (fun key kl hkey => by obtain ⟨x, rfl, _⟩ := Maps.keyOf_int_inv Try.underlying3 hkey; exact ⟨x, rfl⟩) (fun v y hv => by obtain ⟨c, rfl, _⟩ := plain_bool_inv hv; exact boolOf_all c) b r n D left cnt rfl hrg ?_ ?_)
      · intro h0 hl
        go_wp2
        go_ret
        refine ⟨g2, _, rfl, ⟨_, _, bm, rfl, hB, hOa, hOb, (hSm.mono (by omega)).congr (fun k hk => ?_), hg2, hbm, HDIS.out⟩, hK⟩
        rw [HL.out k hk, hl]
        simp
      · intro x c1 kl y py w1 cnt1 hkey hlk hv hat hrg1 hlt hgr hsz hen
        obtain ⟨x', ex, rfl, hwx⟩ := Maps.keyOf_int_inv Try.underlying3 hkey
        cases ex
        have hk1 : Kept [r] wr w1 := ⟨hgr.os, hgr.tape, hgr.output, hgr.size, fun i hi hne => hgr.block i hi (by simpa using hne)⟩
        have hrw : w.heap.size ≤ r := Nat.le_trans hg2 (Nat.le_of_lt hgl2)
        obtain ⟨w4, hput, hset4, hk4⟩ := (hSm.kept hk1 (by simp; omega)).put (by simp only [maxLen]; omega) hwx
        have hB1 := hB.kept hk1 (by simp; omega)
        have c2 : w1.cell? ⟨g2, 2, none⟩ = some (.map (some bm)) := hB1.cell 2
        have nr : ∀ {v : Value} {l : List ByteArray} {base : Nat}, OwnS wr base v l → ∀ z, v.ownBlock = some z → z ∉ [r] := fun ho z hz hm => by
          have e : z = r := by simpa using hm
          subst e
          rcases ho.2 with ⟨rfl, _⟩ | ⟨g', cap, cur, rfl, _, hh, _⟩
          · cases hz
          · have e : g' = z := by simpa [Value.ownBlock] using hz
            subst e
            obtain ⟨_, _, _, _, _, _, _, _, _, hri, _⟩ := hrg
            rw [hh] at hri
            cases hri
        have HOa1 := hide (hOa.kept hk1 (nr hOa))
        have HOb1 := hide (hOb.kept hk1 (nr hOb))
        have HB1 := hide hB1
        have HSm1 := hide (hSm.kept hk1 (by simp; omega))
        have HRG1 := hide hrg1
        have HLO := hide hrg.left_eq
        have HX := hide (HLH.out _ hlk)
        have hK1 := hK.trans hk1 (fun z hz => by simp at hz; subst hz; exact .inr hrw)
        clear hB1 hrg1 hkey hv hat hOa hOb hB hSm hgr hrg hsz
        go_wp2
        go_roundw
        case rel =>
          refine ⟨_, cnt1, n' + 1, add L' x, HRG1.out.kept hk4.grow1 (by simp; omega) (by simp; omega), by omega, hset4, hide (fun k hk => ?_), hide (fun kl h => ?_), HB1.out.kept hk4 (by simpa using (HSm1.out.ne HB1.out).symm), HOa1.out.kept hk4 (fun z hz => ?_), HOb1.out.kept hk4 (fun z hz => ?_), hK1.trans hk4 (fun z hz => by simp at hz; subst hz; exact .inr hbm)⟩
          · unfold add
            by_cases e : k = x
            · subst e
              rw [if_pos rfl, ← HD2.out k hk, HX.out, WideAt.sameKey_self (key_int.key (Maps.keyOf_int_mk Try.underlying3 hk))]
              simp
            · rw [if_neg e, HL.out k hk, Maps.sameKey_ne (by simpa using e)]
              simp
          · simp at h
            exact HLH.out kl h.1
          · have hm := ownS_set HOa1.out HSm1.out
            have : z ≠ bm := fun e => hm (e ▸ blk_mem hz)
            simpa using this
          · have hm := ownS_set HOb1.out HSm1.out
            have : z ≠ bm := fun e => hm (e ▸ blk_mem hz)
            simpa using this
        case measure =>
          rw [(HRG1.out.kept hk4.grow1 (by simp; omega) (by simp; omega)).left_eq, HLO.out]
          exact hlt
  · have hB := Blk.new (wb) 57 #[.slice Aa N.length ca, .slice Ab S.length cb, .map (some w.heap.size)]
    have hOa : OwnS ((wb).alloc (.cells #[.slice Aa N.length ca, .slice Ab S.length cb, .map (some w.heap.size)] 57)) w.heap.size (.slice Aa N.length ca) N := (((hoa.base (by simp [World.drew])).kept0 kb)).kept0 ((Kept.refl _ _).alloc _)
    have hOb : OwnS ((wb).alloc (.cells #[.slice Aa N.length ca, .slice Ab S.length cb, .map (some w.heap.size)] 57)) w.heap.size (.slice Ab S.length cb) S := ((hob.base (by have h1 := ka.size; simp at h1; exact Nat.le_of_succ_le h1))).kept0 ((Kept.refl _ _).alloc _)
    have hSm : SetAt ((wb).alloc (.cells #[.slice Aa N.length ca, .slice Ab S.length cb, .map (some w.heap.size)] 57)) (w.heap.size) 0 (fun _ => false) := ((((SetAt.made w).kept0 (Kept.refl _ _).drew).kept0 ka).kept0 kb).kept0 ((Kept.refl _ _).alloc _)
    have hKW : Kept [] w ((wb).alloc (.cells #[.slice Aa N.length ca, .slice Ab S.length cb, .map (some w.heap.size)] 57)) := (K0).alloc _
    have hdis : ∀ x ∈ blk (.slice Aa N.length ca), x ∉ blk (.slice Ab S.length cb) := fun x hx hx2 => by
      have h1 := (hoa.lt x (mem_blk hx)).2
      have h2 := (hob.lt x (mem_blk hx2)).1
      omega
    have hg2 : w.heap.size ≤ wb.heap.size := by
      have := K0.size
      omega
    rw [show (wb).heap.size = wb.heap.size from by rfl] at hB
    generalize (wb).alloc (.cells #[.slice Aa N.length ca, .slice Ab S.length cb, .map (some w.heap.size)] 57) = W at hB hOa hOb hSm hKW ⊢
    generalize wb.heap.size = g2 at hB hg2 ⊢
    generalize hbme : w.heap.size = bm at hB hSm ⊢
    have hbm : w.heap.size ≤ bm := Nat.le_of_eq hbme
    clear hbme
    obtain ⟨csg, hgb⟩ := H.out.gcell
    have hgl := hgb.lt
    have c2W : W.cell? ⟨g, 2, none⟩ = some (.map (some b)) := (World.cell?_of_block (hKW.block g hgl (by simp))).trans c2
    have hbl := HSET.out.lt
    obtain ⟨D, hD1, hD2, hD3⟩ := HSET.out.kept0 hKW
    obtain ⟨w0, hrun, hrg, hgr, hsz⟩ := hD1.range key_int Try.underlying55
    have hcnt := hD1.size_le
    have hk0 : Kept [] W w0 := ⟨hgr.os, hgr.tape, hgr.output, hgr.size, fun i hi _ => hgr.block i hi (by simp)⟩
    have hml := hSm.lt
    have hgl2 := hB.lt
    have HB2 := hide (hB.kept0 hk0)
    have HOa := hide (hOa.kept0 hk0)
    have HOb := hide (hOb.kept0 hk0)
    have HSm := hide (hSm.kept0 hk0)
    have HK2 := hide (hKW.trans0 hk0)
    have HD2 := hide hD3
    have HRG := hide hrg
    have HDIS := hide hdis
    clear hB hOa hOb hSm hKW hD2 hD3 hrg hgr hdis hk0 hsz hD1
    go_wp2
    clear hrun c2W
    generalize hr0 : W.heap.size = r at hml hgl2 HRG ⊢
    have HR0 := hide hr0
    clear hr0
    go_loopw [4] (fun _ wz => ∃ (left : Lit → Bool) (cnt n' : Nat) (L' : Int → Bool), wz.ranges Try.prog 3 (plainElem Try.prog 4) b r n D left cnt ∧ n' + cnt ≤ n ∧ SetAt wz bm n' L' ∧ Hid (∀ k, (Lit.int .i64 k).wf = true → L' k = (L k && !left (.int .i64 k))) ∧ Hid (∀ kl, left kl = true → Maps.has D kl = true) ∧ Blk wz g2 57 #[.slice Aa N.length ca, .slice Ab S.length cb, .map (some bm)] ∧ OwnS wz w.heap.size (.slice Aa N.length ca) N ∧ OwnS wz w.heap.size (.slice Ab S.length cb) S ∧ Kept [] w wz) (fun _ wz => wz.rangeLeft b r)
    case atStart => exact ⟨_, _, 0, _, HRG.out, by omega, HSm.out, hide (fun k hk => by rw [HD2.out k hk]; cases L k <;> rfl), hide (fun _ h => h), HB2.out, HOa.out, HOb.out, HK2.out⟩
    case round =>
      obtain ⟨left, cnt, n', L', hrg, hnc, hSm, HL, HLH, hB, hOa, hOb, hK⟩ := hrel
      go_wp2_with (at_next; refine wpList_next_ranges _ rfl _ rfl 3 key_int (plainElem Try.prog 4) (Value.int .i64) boolOf (fun key kl hkey => by obtain ⟨x, rfl, _⟩ := Maps.keyOf_int_inv Try.underlying3 hkey; exact ⟨x, rfl⟩) (fun v y hv => by obtain ⟨c, rfl, _⟩ := plain_bool_inv hv; exact boolOf_all c) b r n D left cnt rfl hrg ?_ ?_)
      · intro h0 hl
        go_wp2
        go_ret
        refine ⟨g2, _, rfl, ⟨_, _, bm, rfl, hB, hOa, hOb, (hSm.mono (by omega)).congr (fun k hk => ?_), hg2, hbm, HDIS.out⟩, hK⟩
        rw [HL.out k hk, hl]
        simp
      · intro x c1 kl y py w1 cnt1 hkey hlk hv hat hrg1 hlt hgr hsz hen
        obtain ⟨x', ex, rfl, hwx⟩ := Maps.keyOf_int_inv Try.underlying3 hkey
        cases ex
        have hk1 : Kept [r] wr w1 := ⟨hgr.os, hgr.tape, hgr.output, hgr.size, fun i hi hne => hgr.block i hi (by simpa using hne)⟩
        have hrw : w.heap.size ≤ r := Nat.le_trans hg2 (Nat.le_of_lt hgl2)
        obtain ⟨w4, hput, hset4, hk4⟩ := (hSm.kept hk1 (by simp; omega)).put (by simp only [maxLen]; omega) hwx
        have hB1 := hB.kept hk1 (by simp; omega)
        have c2 : w1.cell? ⟨g2, 2, none⟩ = some (.map (some bm)) := hB1.cell 2
        have nr : ∀ {v : Value} {l : List ByteArray} {base : Nat}, OwnS wr base v l → ∀ z, v.ownBlock = some z → z ∉ [r] := fun ho z hz hm => by
          have e : z = r := by simpa using hm
          subst e
          rcases ho.2 with ⟨rfl, _⟩ | ⟨g', cap, cur, rfl, _, hh, _⟩
          · cases hz
          · have e : g' = z := by simpa [Value.ownBlock] using hz
            subst e
            obtain ⟨_, _, _, _, _, _, _, _, _, hri, _⟩ := hrg
            rw [hh] at hri
            cases hri
        have HOa1 := hide (hOa.kept hk1 (nr hOa))
        have HOb1 := hide (hOb.kept hk1 (nr hOb))
        have HB1 := hide hB1
        have HSm1 := hide (hSm.kept hk1 (by simp; omega))
        have HRG1 := hide hrg1
        have HLO := hide hrg.left_eq
        have HX := hide (HLH.out _ hlk)
        have hK1 := hK.trans hk1 (fun z hz => by simp at hz; subst hz; exact .inr hrw)
        clear hB1 hrg1 hkey hv hat hOa hOb hB hSm hgr hrg hsz
        go_wp2
        go_roundw
        case rel =>
          refine ⟨_, cnt1, n' + 1, add L' x, HRG1.out.kept hk4.grow1 (by simp; omega) (by simp; omega), by omega, hset4, hide (fun k hk => ?_), hide (fun kl h => ?_), HB1.out.kept hk4 (by simpa using (HSm1.out.ne HB1.out).symm), HOa1.out.kept hk4 (fun z hz => ?_), HOb1.out.kept hk4 (fun z hz => ?_), hK1.trans hk4 (fun z hz => by simp at hz; subst hz; exact .inr hbm)⟩
          · unfold add
            by_cases e : k = x
            · subst e
              rw [if_pos rfl, ← HD2.out k hk, HX.out, WideAt.sameKey_self (key_int.key (Maps.keyOf_int_mk Try.underlying3 hk))]
              simp
            · rw [if_neg e, HL.out k hk, Maps.sameKey_ne (by simpa using e)]
              simp
          · simp at h
            exact HLH.out kl h.1
          · have hm := ownS_set HOa1.out HSm1.out
            have : z ≠ bm := fun e => hm (e ▸ blk_mem hz)
            simpa using this
          · have hm := ownS_set HOb1.out HSm1.out
            have : z ≠ bm := fun e => hm (e ▸ blk_mem hz)
            simpa using this
        case measure =>
          rw [(HRG1.out.kept hk4.grow1 (by simp; omega) (by simp; omega)).left_eq, HLO.out]
          exact hlt
end
end Go.Proofs.Ytabcchadjgnldaa
