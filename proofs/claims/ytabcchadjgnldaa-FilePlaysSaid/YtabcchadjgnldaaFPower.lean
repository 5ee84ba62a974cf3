/- A file: Power. Conditions: its rows and its map are the call's own; at most 400 pages; keep has at most 65536 elements. -/
import Derived.Test.YtabcchadjgnldaaFWrite
import Derived.Test.YtabcchadjgnldaaComm
import Derived.IntWalk
import Derived.Lib.Strings
namespace Go.Proofs.Ytabcchadjgnldaa
open Go.RowKit Go.Conc

/-- Bools that came in, by place. -/
def bols (f : Nat → Bool) (k : Nat) : Value := .bool (f k)
/-- Bools from t on, up to K, as a channel holds them. -/
def bbuf (f : Nat → Bool) (t K : Nat) : Array Value := ((List.range' t (K - t)).map fun i => Value.bool (f i)).toArray
theorem bbuf_push (f : Nat → Bool) (k : Nat) : (bbuf f 0 k).push (.bool (f k)) = bbuf f 0 (k + 1) := by
  unfold bbuf
  rw [List.push_toArray, Nat.sub_zero, Nat.sub_zero, List.range'_1_concat, List.map_append]
  simp
theorem bbuf_size (f : Nat → Bool) (t K : Nat) : (bbuf f t K).size = K - t := by simp [bbuf]
theorem bbuf_head (f : Nat → Bool) {t K : Nat} (h : t < K) : (bbuf f t K).getD 0 undef = .bool (f t) ∧ (bbuf f t K).extract 1 (bbuf f t K).size = bbuf f (t + 1) K := by
  obtain ⟨d, hd⟩ : ∃ d, K - t = d + 1 := ⟨K - t - 1, by omega⟩
  have hd2 : K - (t + 1) = d := by omega
  unfold bbuf
  rw [hd, hd2, List.range'_succ, List.map_cons]
  constructor
  · rfl
  · simp [List.take_of_length_le]
theorem bbuf_none (f : Nat → Bool) {t K : Nat} (h : K ≤ t) : bbuf f t K = #[] := by
  unfold bbuf
  rw [show K - t = 0 from by omega]
  rfl
theorem mk_kept (K : Nat) (hK : K ≤ 65536) (w : World) : (Instr.makeChan 58 (.int .i64 K)).run Try.prog w = .ok (.chan (some w.heap.size)) (w.alloc (.chan K #[] false 0 0 false)) := by
  have hb : (Try.prog.info? 4).map (·.bytes) = some 1 := by kernel_rfl
  obtain ⟨i, hi, hb⟩ := Option.map_eq_some_iff.1 hb
  simpa using run_makeChan (P := Try.prog) (w := w) Try.underlying58 hi .i64 K (by omega) (by rw [hb]; omega)

/-- What stays when the first t of the loose pages l have been asked. -/
def powN (N S : List ByteArray) (f : Nat → Bool) (K : Nat) (l : List Int) : Nat → List ByteArray
  | 0 => N
  | t + 1 => if t < K ∧ f t = true then powN N S f K l t else (powN N S f K l t).set (l.getD t 0).toNat (at' S (l.getD t 0))
theorem powN_len (N S : List ByteArray) (f : Nat → Bool) (K : Nat) (l : List Int) : ∀ t, (powN N S f K l t).length = N.length
  | 0 => rfl
  | t + 1 => by
    unfold powN
    split <;> simp [powN_len N S f K l t]
/-- Without empty pages at the end. -/
def trim (l : List ByteArray) : List ByteArray := (l.reverse.dropWhile fun x => decide (x = ByteArray.empty)).reverse
theorem trim_empty (l : List ByteArray) (x : ByteArray) (h : x = ByteArray.empty) : trim (l ++ [x]) = trim l := by simp [trim, h]
theorem trim_full (l : List ByteArray) (x : ByteArray) (h : x ≠ ByteArray.empty) : trim (l ++ [x]) = l ++ [x] := by simp [trim, h]
theorem trim_nil : trim [] = [] := rfl
theorem nil_or_snoc (M : List ByteArray) : M = [] ∨ ∃ M0 x, M = M0 ++ [x] := by
  rcases List.eq_nil_or_concat M with h | ⟨M0, x, h⟩
  · exact .inl h
  · exact .inr ⟨M0, x, by rw [h, List.concat_eq_append]⟩

/-- One page laid anew. -/
theorem FileAt.page {w : World} {base g n : Nat} {N S : List ByteArray} {L : Int → Bool} {F : List Nat} (h : FileAt w base g N S n L F) {p : Nat} (hp : p < N.length) (s : ByteArray) : ∃ bl c, w.cell? ⟨g, 0, none⟩ = some (.slice (some ⟨bl, 0, none⟩) N.length c) ∧ (∃ old, w.cell? ⟨bl, p, none⟩ = some (.string old)) ∧ w.frozen? ⟨bl, p, none⟩ = false ∧ bl ≠ g ∧ bl ∈ F ∧ FileAt (w.setCell ⟨bl, p, none⟩ (.string s)).drew base g (N.set p s) S n L F ∧ Kept F w (w.setCell ⟨bl, p, none⟩ (.string s)).drew := by
  obtain ⟨nv, sv, b, rfl, h1, h2, h3, h4, h5, h6, h7⟩ := h
  obtain ⟨A, c, rfl, hm, hr, _⟩ := h2.shape
  obtain ⟨bl, rfl⟩ : ∃ bl, A = some ⟨bl, 0, none⟩ := by
    rcases h2.2 with ⟨_, h2⟩ | ⟨g', cap, cur, h1, _⟩
    · omega
    · injection h1 with h1
      exact ⟨g', h1⟩
  have hbn : b ∉ blk (.slice (some ⟨bl, 0, none⟩) N.length c) := ownS_set h2 h4
  have hgn : g ∉ blk (.slice (some ⟨bl, 0, none⟩) N.length c) := ownS_ne h2 h1 (by decide)
  have hblb : bl ≠ b := fun e => hbn (by simp [blk, Value.ownBlock, e])
  have hblg : bl ≠ g := fun e => hgn (by simp [blk, Value.ownBlock, e])
  have hbls : bl ∉ blk sv := h7 bl (by simp [blk, Value.ownBlock])
  have kw : Kept [bl] w (w.setCell ⟨bl, p, none⟩ (.string s)).drew := ((Kept.refl _ _).setCell (p := ⟨bl, p, none⟩) (by simp) _).drew
  have ho1 : OwnS (w.setCell ⟨bl, p, none⟩ (.string s)).drew base (.slice (some ⟨bl, 0, none⟩) N.length c) (N.set p s) := h2.set' p s
  refine ⟨bl, c, h1.cell 0, ⟨_, h2.at' hp⟩, h2.free' p, hblg, by simp [blk, Value.ownBlock], ⟨_, sv, b, rfl, h1.kept kw (by simpa using Ne.symm hblg), ho1, h3.kept kw (fun x hx => ?_), h4.kept kw (by simpa using Ne.symm hblb), h5, h6, h7⟩, kw.more (by simp [blk, Value.ownBlock])⟩
  have : x ≠ bl := fun e => hbls (e ▸ blk_mem hx)
  simpa using this
theorem FileAt.sure {w : World} {base g n : Nat} {N S : List ByteArray} {L : Int → Bool} {F : List Nat} (h : FileAt w base g N S n L F) : ∃ A c, w.cell? ⟨g, 1, none⟩ = some (.slice A S.length c) ∧ Rd w A S.length (strs S) := by
  obtain ⟨nv, sv, b, rfl, h1, h2, h3, h4, h5, h6, h7⟩ := h
  obtain ⟨A, c, rfl, hm, hr, _⟩ := h3.shape
  exact ⟨A, c, h1.cell 1, hr⟩
theorem FileAt.gcell {w : World} {base g n : Nat} {N S : List ByteArray} {L : Int → Bool} {F : List Nat} (h : FileAt w base g N S n L F) : ∃ cs, Blk w g 57 cs := by
  obtain ⟨nv, sv, b, rfl, h1, _⟩ := h
  exact ⟨_, h1⟩

section
variable (base g n : Nat) (N S : List ByteArray) (L : Int → Bool) (F : List Nat) (w : World)
set_option maxRecDepth 100000 in
set_option maxHeartbeats 2000000 in
theorem powerf_any (A : Option Addr) (K cc : Nat) (kf : Nat → Bool) (h : FileAt w base g N S n L F) (hN : N.length ≤ 400) (hb : base ≤ w.heap.size) (hK : K ≤ 65536) (hr : Rd w A K (bols kf)) : Calls Try.prog 15 #[.pointer (some ⟨g, 0, none⟩), .slice A K cc] w fun e w' => e = .returned (.tuple #[]) ∧ ∃ F', FileAt w' base g (trim (powN N S kf K (looseL L N.length) (looseL L N.length).length)) (trim (powN N S kf K (looseL L N.length) (looseL L N.length).length)) 0 (fun _ => false) F' ∧ Turn F F' w w' := by
  have H := hide h
  have HR := hide hr
  have hmk := mk_kept K hK
  clear h hr
  go_enter Try.func15, Try.ntmps15
  go_wp2
  clear hmk
  generalize hcs : w.heap.size = ch
  have HCS := hide hcs
  clear hcs
  go_loopw [6, 15] (fun _ i wz => ∃ k : Nat, k ≤ K ∧ i = .int .i64 k ∧ wz.heap[ch]? = some (.chan K (bbuf kf 0 k) false k 0 false) ∧ Kept [] w wz) (fun _ i _ => K - (intOf i).toNat)
  case atStart => exact ⟨0, Nat.zero_le _, rfl, by rw [← HCS.out]; exact heap_alloc_new w _, (Kept.refl _ _).alloc _⟩
  case round =>
    obtain ⟨k, hk, rfl, hch, hKp⟩ := hrel
    by_cases hlt : k < K
    · obtain ⟨bl, off, hA, _, hc⟩ := (HR.out.kept0 hKp) k hlt
      subst hA
      unfold bols at hc
      have HP := hide (bbuf_push kf k)
      generalize kf k = y at hc HP
      go_upto_region 4 with (fail)
      refine wp_send2 (c := ch) (z := .tuple #[]) (v := .bool y) (v0 := .chan (some ch)) (v1 := .bool y) rfl rfl rfl rfl (by simp [go_sem, execOp, Act.eval]) (by simp [go_sem, execOp, scase, Act.eval, Act.put]) hch (by rw [bbuf_size]; omega) ?_
      go_wp2
      go_roundw
      case rel => exact ⟨k + 1, hlt, by go_num, by rw [chan_set _ _ _ _ _ _ _ _ (chan_lt hch), HP.out], kept_setChan hKp (.inr (by rw [HCS.out]; exact Nat.le_refl _)) _ _ _ _ _ _⟩
      case measure => simp [intOf]; omega
    · obtain rfl : k = K := by omega
      have hF := H.out.kept0 hKp
      go_wp2_with fail
      refine (loosef_any base g n N S L F wr hF hN).mono ?_
      rintro e w2 ⟨lv, rfl, hol, k2⟩
      have hK2 := hKp.trans0 k2
      have hch2 := (k2.block ch (chan_lt hch) (by simp)).trans hch
      have hchl := chan_lt hch
      obtain ⟨Al, cl, rfl, _, _, _⟩ := hol.shape
      have hll : (looseL L N.length).length ≤ 400 := Nat.le_trans (loose_length L N.length) hN
      have hlm : ∀ x ∈ looseL L N.length, ∃ p : Nat, p < N.length ∧ x = p := fun x hx => by
        obtain ⟨p, h1, _, h3⟩ := loose_mem.1 hx
        exact ⟨p, h1, h3⟩
      have HLM := hide hlm
      clear hlm
      generalize hle : looseL L N.length = l at hol hll HLM ⊢
      have HLE := hide hle
      clear hle
      have hbw := H.out.lt
      have HD : Hid (∀ x ∈ blk (.slice Al l.length cl), x ≠ ch ∧ x ∉ F) := hide fun x hx => by
        have h1 := (hol.lt x (mem_blk hx)).1
        refine ⟨by omega, fun hxF => ?_⟩
        have h2 := (hbw x hxF).2
        have h3 := HCS.out
        omega
      have HCF : Hid (ch ∉ F) := hide fun hxF => by
        have h2 := (hbw ch hxF).2
        have h3 := HCS.out
        omega
      have HOL := hide (hol.base (Nat.le_trans (by rw [HCS.out]; omega : w.heap.size ≤ ch) (Nat.le_of_lt hchl)))
      have HHF := hide (hF.kept0 k2)
      have HKK := hide (hK2.more (S' := F) (by simp))
      have HCH := hide hch2
      clear hol hF hKp hch hK2 hch2 k2 hbw
      go_wp2
      go_loopw [8, 9, 25] (fun _ _ i wz => ∃ t : Nat, t ≤ l.length ∧ i = .int .i64 t ∧ wz.heap[ch]? = some (.chan k (bbuf kf t k) false k (min t k) false) ∧ Own wz w.heap.size (.slice Al l.length cl) l ∧ FileAt wz base g (powN N S kf k l t) S n L F ∧ Kept F w wz) (fun _ _ i _ => l.length - (intOf i).toNat)
      case atStart => exact ⟨0, Nat.zero_le _, rfl, by rw [Nat.zero_min]; exact HCH.out, HOL.out, HHF.out, HKK.out⟩
      case round =>
        clear HOL HHF HKK HCH
        obtain ⟨t, ht, rfl, hch, hol, hF, hKw⟩ := hrel
        by_cases hlt : t < l.length
        · obtain ⟨Al', cl', he, _, hrl, _⟩ := hol.shape
          injection he with e1 e2 e3
          subst e1
          clear e2 e3
          obtain ⟨b1, o1, rfl, _, hcl⟩ := hrl t hlt
          unfold ints at hcl
          have HPW : Hid (powN N S kf k l (t + 1) = if t < k ∧ kf t = true then powN N S kf k l t else (powN N S kf k l t).set (l.getD t 0).toNat (at' S (l.getD t 0))) := hide rfl
          obtain ⟨q, hq, he⟩ := HLM.out (l.getD t 0) (by simp [List.getD, hlt])
          rw [he] at hcl HPW
          clear he hrl
          have HO := hide hol
          have HF := hide hF
          have HK := hide hKw
          clear hol hF hKw
          by_cases htk : t < k
          · obtain ⟨hh, hx⟩ := bbuf_head kf htk
            have HX := hide (And.intro hh hx)
            have hsz := bbuf_size kf t k
            go_upto_region 11 with (fail)
            refine wp_sel_recv (c := ch) (z := .bool false) rfl (by simp [go_sem, execOp, rcase, Act.eval]) hch (by rw [hsz]; omega) ?_
            rw [HX.out.1, HX.out.2]
            have hch3 : (wr.setChan ch k (bbuf kf (t + 1) k) false k (min t k + 1) false).heap[ch]? = _ := chan_set _ _ _ _ _ _ _ _ (chan_lt hch)
            have hk3 : Kept [ch] wr (wr.setChan ch k (bbuf kf (t + 1) k) false k (min t k + 1) false) := kept_setChan (Kept.refl _ _) (.inl (by simp)) _ _ _ _ _ _
            rw [show min t k + 1 = min (t + 1) k from by omega] at hch3 hk3 ⊢
            generalize wr.setChan ch k (bbuf kf (t + 1) k) false k (min (t + 1) k) false = w3 at hch3 hk3 ⊢
            have HO3 := hide (HO.out.kept hk3 (fun x hx => by simpa using (HD.out x (blk_mem hx)).1))
            have HF3 := hide (HF.out.kept hk3 (fun x hx => by
              have : x ≠ ch := fun e => HCF.out (e ▸ hx)
              simpa using this))
            have HK3 : Hid (Kept F w w3) := hide (HK.out.trans hk3 (fun x hx => by
              simp at hx
              subst hx
              exact .inr (by rw [HCS.out]; exact Nat.le_refl _)))
            clear hch hk3 hsz hh hx hcl
            by_cases hkt : kf t = true
            · have HPW2 := hide (HPW.out.trans (if_pos ⟨htk, hkt⟩))
              clear HPW
              rw [hkt]
              clear hkt
              go_wp2
              go_roundw
              case rel => exact ⟨t + 1, hlt, by go_num, hch3, HO3.out, by rw [HPW2.out]; exact HF3.out, HK3.out⟩
              case measure => simp [intOf]; omega
            · have HPW2 : Hid (powN N S kf k l (t + 1) = (powN N S kf k l t).set q (at' S q)) := hide (HPW.out.trans (if_neg (fun h => hkt h.2)))
              clear HPW
              have HPW := HPW2
              have hkf : kf t = false := by simpa using hkt
              rw [hkf]
              clear hkt hkf
              obtain ⟨bl, c, c0, ⟨old, cr⟩, fr, hblg, hblF, hF4, k4⟩ := HF3.out.page (p := q) (by rw [powN_len]; exact hq) (at' S q)
              obtain ⟨As, cs, c1, hrs⟩ := HF3.out.sure
              rw [powN_len] at c0
              have HAT := hide (at_any w3.drew As S.length cs S (q : Int) rfl hrs)
              have e0 : (w3.setCell ⟨bl, q, none⟩ (.string (at' S q))).drew.cell? ⟨g, 0, none⟩ = some (.slice (some ⟨bl, 0, none⟩) N.length c) := (World.cell?_of_block (RowKit.Below.heap_setCell w3 ⟨bl, q, none⟩ _ g (Ne.symm hblg))).trans c0
              have e1 : (w3.setCell ⟨bl, q, none⟩ (.string (at' S q))).drew.cell? ⟨g, 1, none⟩ = some (.slice As S.length cs) := (World.cell?_of_block (RowKit.Below.heap_setCell w3 ⟨bl, q, none⟩ _ g (Ne.symm hblg))).trans c1
              have hch4 := (k4.block ch (chan_lt hch3) HCF.out).trans hch3
              have hol4 := HO3.out.kept k4 (fun x hx => (HD.out x (blk_mem hx)).2)
              have hK4 := HK3.out.trans k4 (fun x hx => .inl hx)
              have HREL := hide (And.intro hch4 (And.intro hol4 (And.intro hF4 hK4)))
              clear hF4 hrs k4 hch4 hol4 hK4 hch3
              generalize S.length = sl at c1 e1 HAT
              have hqn := hq
              generalize N.length = nl at c0 e0 hqn
              go_upto_region 14 with (fail)
              go_region_held3 (fun W : World => W.cell? ⟨g, 0, none⟩ = some (.slice (some ⟨bl, 0, none⟩) nl c) ∧ W.cell? ⟨g, 1, none⟩ = some (.slice As sl cs)) (first | exact ⟨c0, c1⟩ | exact ⟨e0, e1⟩) (first | (go_at_call 26; refine HAT.out.mono ?_; rintro e w9 ⟨rfl, rfl⟩))
              go_wp2
              go_roundw
              case rel => exact ⟨t + 1, hlt, by go_num, HREL.out.1, HREL.out.2.1, by rw [HPW.out]; exact HREL.out.2.2.1, HREL.out.2.2.2⟩
              case measure => simp [intOf]; omega
          · have HPW2 : Hid (powN N S kf k l (t + 1) = (powN N S kf k l t).set q (at' S q)) := hide (HPW.out.trans (if_neg (fun h => htk h.1)))
            clear HPW
            have HPW := HPW2
            rw [bbuf_none kf (by omega)] at hch
            go_upto_region 11 with (fail)
            refine wp_sel_none (c := ch) (z := .bool false) rfl (by simp [go_sem, execOp, rcase, Act.eval]) hch ?_
            have hch3 : wr.heap[ch]? = some (.chan k (bbuf kf (t + 1) k) false k (min (t + 1) k) false) := by
              rw [bbuf_none kf (by omega), hch, Nat.min_eq_right (by omega), Nat.min_eq_right (by omega)]
            generalize wr = w3 at *
            have HO3 := HO
            have HF3 := HF
            have HK3 := HK
            clear hch hcl
            obtain ⟨bl, c, c0, ⟨old, cr⟩, fr, hblg, hblF, hF4, k4⟩ := HF3.out.page (p := q) (by rw [powN_len]; exact hq) (at' S q)
            obtain ⟨As, cs, c1, hrs⟩ := HF3.out.sure
            rw [powN_len] at c0
            have HAT := hide (at_any w3.drew As S.length cs S (q : Int) rfl hrs)
            have e0 : (w3.setCell ⟨bl, q, none⟩ (.string (at' S q))).drew.cell? ⟨g, 0, none⟩ = some (.slice (some ⟨bl, 0, none⟩) N.length c) := (World.cell?_of_block (RowKit.Below.heap_setCell w3 ⟨bl, q, none⟩ _ g (Ne.symm hblg))).trans c0
            have e1 : (w3.setCell ⟨bl, q, none⟩ (.string (at' S q))).drew.cell? ⟨g, 1, none⟩ = some (.slice As S.length cs) := (World.cell?_of_block (RowKit.Below.heap_setCell w3 ⟨bl, q, none⟩ _ g (Ne.symm hblg))).trans c1
            have hch4 := (k4.block ch (chan_lt hch3) HCF.out).trans hch3
            have hol4 := HO3.out.kept k4 (fun x hx => (HD.out x (blk_mem hx)).2)
            have hK4 := HK3.out.trans k4 (fun x hx => .inl hx)
            have HREL := hide (And.intro hch4 (And.intro hol4 (And.intro hF4 hK4)))
            clear hF4 hrs k4 hch4 hol4 hK4 hch3
            generalize S.length = sl at c1 e1 HAT
            have hqn := hq
            generalize N.length = nl at c0 e0 hqn
            go_upto_region 14 with (fail)
            go_region_held3 (fun W : World => W.cell? ⟨g, 0, none⟩ = some (.slice (some ⟨bl, 0, none⟩) nl c) ∧ W.cell? ⟨g, 1, none⟩ = some (.slice As sl cs)) (first | exact ⟨c0, c1⟩ | exact ⟨e0, e1⟩) (first | (go_at_call 26; refine HAT.out.mono ?_; rintro e w9 ⟨rfl, rfl⟩))
            go_wp2
            go_roundw
            case rel => exact ⟨t + 1, hlt, by go_num, HREL.out.1, HREL.out.2.1, by rw [HPW.out]; exact HREL.out.2.2.1, HREL.out.2.2.2⟩
            case measure => simp [intOf]; omega
        · obtain rfl : t = l.length := by omega
          have hPl := powN_len N S kf k l l.length
          generalize hP : powN N S kf k l l.length = P at hF hPl ⊢
          have HP := hide hP
          have HF := hide hF
          clear hP hch hol hF
          go_wp2
          go_loopw [49] (fun _ wz => ∃ M : List ByteArray, Hid (trim M = trim P) ∧ M.length ≤ 400 ∧ Hid (FileAt wz base g M S n L F) ∧ Kept F w wz) (fun _ wz => lenAt wz g)
          case atStart => exact ⟨P, hide rfl, by omega, HF, hKw⟩
          case round =>
            clear hKw HF
            obtain ⟨M, HT, hM, HF, hKw⟩ := hrel
            have HLA := hide (lenAt_of HF.out)
            rcases nil_or_snoc M with rfl | ⟨M0, x, rfl⟩
            · obtain ⟨nv, sv, b, hFe, h1, h2, h3, h4, h5, h6, h7⟩ := HF.out
              obtain ⟨A0, c0, rfl, _, _, _⟩ := h2.shape
              have c0 : wr.cell? ⟨g, 0, none⟩ = some (.slice A0 0 c0) := h1.cell 0
              clear h1 h2 h3 h4 h5 h6 h7 hFe
              go_upto_region 16 with (fail)
              go_quiet (fail)
              go_wp2_with fail
              refine (syncf_any base g n [] S L F _ (HF.out.kept0 ((Kept.refl _ _).drewN _)) hM (Nat.le_trans hb hKw.size)).mono ?_
              rintro e w9 ⟨rfl, F9, hF9, hT9⟩
              go_wp2
              go_end0
              rw [HLE.out, HP.out, ← HT.out, trim_nil]
              exact ⟨rfl, F9, hF9, Turn.trans ⟨hKw.drewN _, fun _ hx => .inl hx⟩ hT9⟩
            · obtain ⟨nv, sv, b, hFe, h1, h2, h3, h4, h5, h6, h7⟩ := HF.out
              obtain ⟨A0, c0, rfl, hmm, _, _⟩ := h2.shape
              obtain ⟨bl, rfl⟩ : ∃ bl, A0 = some ⟨bl, 0, none⟩ := by
                rcases h2.2 with ⟨_, h2⟩ | ⟨g', cap, cur, h1, _⟩
                · simp at h2
                · injection h1 with h1
                  exact ⟨g', h1⟩
              have hcut := h2.cut' (i := M0.length) (by simp)
              rw [List.take_left] at hcut
              have hlast := h2.at' (i := M0.length) (by simp)
              rw [show (M0 ++ [x]).getD M0.length ByteArray.empty = x from by simp [List.getD]] at hlast
              have hml : (M0 ++ [x]).length = M0.length + 1 := by simp
              have hcap : M0.length + 1 ≤ c0 := by
                have := h2.block.2.choose_spec.2.2.1
                rwa [hml] at this
              have c0' : wr.cell? ⟨g, 0, none⟩ = some (.slice (some ⟨bl, 0, none⟩) (M0 ++ [x]).length c0) := h1.cell 0
              rw [hml] at c0'
              have f0 := h1.free 0
              have HFe := hide hFe
              have H1 := hide h1
              have H2 := hide h2
              have H3 := hide h3
              have H4 := hide h4
              have H7 := hide h7
              have HC := hide hcut
              clear h1 h2 h3 h4 h7 hFe hcut hmm
              by_cases hx : x = ByteArray.empty
              · have HTE := hide (trim_empty M0 x hx)
                have HX := hide hx
                rw [hx] at hlast
                clear hx
                generalize hml0 : M0.length = m0 at c0' hlast hcap hml
                have HM0 := hide hml0
                have HML := hide hml
                clear hml0 hml
                have hi0 : (0 : Int) ≤ (m0 : Int) := by omega
                have hi4 : (m0 : Int) ≤ 400 := by have := HML.out; omega
                have hiw : IntKind.i64.wrap (m0 : Int) = (m0 : Int) := IntWalk.i64_in _ (by omega)
                go_upto_region 16 with (fail)
                go_quiet (fail)
                go_upto_region 17 with (fail)
                go_region
                go_wp2
                have hgn : g ∉ blk (.slice (some ⟨bl, 0, none⟩) M0.length c0) := ownS_ne HC.out H1.out (by decide)
                have hgs : g ∉ blk sv := ownS_ne H3.out H1.out (by decide)
                have kw : Kept [g] wr ((wr.drewN (nq + 1)).setCell ⟨g, 0, none⟩ (.slice (some ⟨bl, 0, none⟩) m0 c0)) := ((Kept.refl _ _).drewN _).setCell (p := ⟨g, 0, none⟩) (by simp) _
                have hB : Blk ((wr.drewN (nq + 1)).setCell ⟨g, 0, none⟩ (.slice (some ⟨bl, 0, none⟩) m0 c0)) g 57 #[.slice (some ⟨bl, 0, none⟩) m0 c0, sv, .map (some b)] := (H1.out.drewN _).set 0 _
                go_roundw
                case rel =>
                  refine ⟨M0, hide (by rw [← HTE.out]; exact HT.out), by have := HM0.out; omega, hide ⟨.slice (some ⟨bl, 0, none⟩) m0 c0, sv, b, HFe.out, hB, ?_, H3.out.kept kw (fun y hy => ?_), H4.out.kept kw (by simpa using H4.out.ne H1.out), h5, h6, H7.out⟩, hKw.trans (kw.more (S' := F) (by rw [HFe.out]; simp)) (fun y hy => .inl hy)⟩
                  · have h := HC.out.kept kw (fun y hy => by
                      have : y ≠ g := fun e => hgn (e ▸ blk_mem hy)
                      simpa using this)
                    rwa [HM0.out] at h
                  · have : y ≠ g := fun e => hgs (e ▸ blk_mem hy)
                    simpa using this
                case measure =>
                  have c1 : ((wr.drewN (nq + 1)).setCell ⟨g, 0, none⟩ (.slice (some ⟨bl, 0, none⟩) m0 c0)).cell? ⟨g, 0, none⟩ = some (.slice (some ⟨bl, 0, none⟩) m0 c0) := hB.cell 0
                  rw [HLA.out, HML.out]
                  unfold lenAt
                  rw [c1]
                  exact Nat.lt_succ_self _
              · have HTF := hide (trim_full M0 x hx)
                have he1 : x.toList.isEmpty = false := by
                  rw [Lib.toList_data]
                  cases hd : x.data.toList with
                  | nil => exact absurd (ByteArray.ext (Array.toList_inj.1 hd)) hx
                  | cons y r => rfl
                clear hx
                generalize hml0 : M0.length = m0 at c0' hlast hcap hml
                have HM0 := hide hml0
                have HML := hide hml
                clear hml0 hml
                have hi0 : (0 : Int) ≤ (m0 : Int) := by omega
                have hi4 : (m0 : Int) ≤ 400 := by have := HML.out; omega
                have hiw : IntKind.i64.wrap (m0 : Int) = (m0 : Int) := IntWalk.i64_in _ (by omega)
                go_upto_region 16 with (fail)
                go_quiet (fail)
                go_wp2_with fail
                refine (syncf_any base g n (M0 ++ [x]) S L F _ (HF.out.kept0 ((Kept.refl _ _).drewN _)) hM (Nat.le_trans hb hKw.size)).mono ?_
                rintro e w9 ⟨rfl, F9, hF9, hT9⟩
                go_wp2
                go_end0
                rw [HLE.out, HP.out, ← HT.out, HTF.out]
                exact ⟨rfl, F9, hF9, Turn.trans ⟨hKw.drewN _, fun _ hx => .inl hx⟩ hT9⟩
end
end Go.Proofs.Ytabcchadjgnldaa
