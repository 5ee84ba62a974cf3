/- What FileKept answers: true, at every number, every mask. Conditions: none. -/
import Derived.Test.YtabcchadjgnldaaFKnown
import Derived.Test.YtabcchadjgnldaaGBool
namespace Go.Proofs.Ytabcchadjgnldaa
open Go.RowKit

def tOld : ByteArray := ⟨#[111, 108, 100]⟩
def tNew (again : Bool) : ByteArray := if again then ⟨#[110, 101, 119, 101, 114]⟩ else ⟨#[110, 101, 119]⟩
/-- A list by its places. -/
def byP (k : Nat) (f : Nat → ByteArray) : List ByteArray := (List.range k).map f
theorem byP_len (k : Nat) (f : Nat → ByteArray) : (byP k f).length = k := by simp [byP]
theorem byP_get {k : Nat} {f : Nat → ByteArray} {i : Nat} (h : i < k) : (byP k f).getD i ByteArray.empty = f i := by simp [byP, List.getD, h]
theorem byP_set {k : Nat} {f g : Nat → ByteArray} {j : Nat} {x : ByteArray} (hx : j < k → g j = x) (hg : ∀ i, i < k → i ≠ j → g i = f i) : (byP k f).set j x = byP k g := by
  refine List.ext_getElem (by simp [byP]) fun i h1 h2 => ?_
  have hi : i < k := by simpa [byP] using h1
  rw [List.getElem_set]
  by_cases e : j = i
  · subst e
    simp [byP, hx hi]
  · simp [byP, e, hg i hi (Ne.symm e)]
theorem byP_congr {k : Nat} {f g : Nat → ByteArray} (h : ∀ i, i < k → f i = g i) : byP k f = byP k g := by
  refine List.ext_getElem (by simp [byP]) fun i h1 h2 => ?_
  have hi : i < k := by simpa [byP] using h1
  simp [byP, h i hi]
theorem byP_snoc (k : Nat) (f : Nat → ByteArray) (x : ByteArray) : (padN (byP k f) (k + 1 - (byP k f).length)).set k x = byP (k + 1) (fun i => if i = k then x else f i) := by
  rw [byP_len, show k + 1 - k = 1 from by omega]
  refine List.ext_getElem (by simp [byP, padN]) fun i h1 h2 => ?_
  have hi : i < k + 1 := by simpa [byP] using h2
  rw [List.getElem_set]
  by_cases e : k = i
  · subst e
    simp [byP]
  · have : i < k := by omega
    simp [byP, padN, e, Ne.symm e, this]
theorem byP_put {k j : Nat} (f : Nat → ByteArray) (x : ByteArray) (h : j < k) : (padN (byP k f) (j + 1 - (byP k f).length)).set j x = byP k (fun i => if i = j then x else f i) := by
  rw [byP_len, show j + 1 - k = 0 from by omega]
  unfold padN
  rw [List.replicate_zero, List.append_nil]
  exact byP_set (fun _ => by simp) (fun i _ hij => by simp [hij])
theorem trim_all {l : List ByteArray} (h : ∀ x ∈ l, x ≠ ByteArray.empty) : trim l = l := by
  rcases nil_or_snoc l with rfl | ⟨M, x, rfl⟩
  · rfl
  · exact trim_full M x (h x (by simp))
/-- The first j are loose. -/
def below (j : Nat) : Int → Bool := fun i => decide (0 ≤ i ∧ i < j)
theorem below_add (j : Nat) : add (below j) (j : Int) = below (j + 1) := by
  funext i
  unfold add below
  by_cases e : i = j
  · subst e
    simp
    omega
  · have : (0 ≤ i ∧ i < (j : Int)) ↔ (0 ≤ i ∧ i < ((j + 1 : Nat) : Int)) := by omega
    rw [if_neg e]
    exact decide_eq_decide.2 this
theorem below_again (j : Nat) : add (below (j + 1)) (j : Int) = below (j + 1) := by
  funext i
  unfold add
  by_cases e : i = j
  · subst e
    simp [below]
    omega
  · rw [if_neg e]
theorem below_loose (k : Nat) : looseL (below k) k = (List.range k).map fun i : Nat => (i : Int) := by
  unfold looseL
  rw [List.filter_eq_self.2]
  intro i hi
  simp at hi
  simp [below]
  omega
theorem pow_byP (k K : Nat) (x y : ByteArray) (kf : Nat → Bool) (hK : K = k) : ∀ t, t ≤ k → powN (byP k fun _ => x) (byP k fun _ => y) kf K ((List.range k).map fun i : Nat => (i : Int)) t = byP k fun i => if i < t ∧ kf i = false then y else x
  | 0, _ => by
    unfold powN
    exact byP_congr fun i _ => by simp
  | t + 1, ht => by
    have ih := pow_byP k K x y kf hK t (by omega)
    have hg : ((List.range k).map fun i : Nat => (i : Int)).getD t 0 = (t : Int) := by simp [List.getD, show t < k by omega]
    unfold powN
    rw [hg, ih]
    by_cases hkt : kf t = true
    · rw [if_pos ⟨by omega, hkt⟩]
      refine byP_congr fun i hi => ?_
      by_cases e : i = t
      · subst e
        simp [hkt]
      · have : i < t + 1 ↔ i < t := by omega
        simp [this]
    · rw [if_neg (fun h => hkt h.2), at_in, byP_get (by omega), Int.toNat_natCast]
      have hkf : kf t = false := by simpa using hkt
      refine byP_set (fun _ => by simp [hkf]) (fun i hi hit => ?_)
      have : i < t + 1 ↔ i < t := by omega
      simp [this]
/-- The bit of a mask. -/
def kb (kp : Int) (i : Nat) : Bool := bits .and .u16 (kp / 2 ^ i) 1 == 1

/-- An append onto a row of the call's own, beside a file. -/
theorem FileS.beside {a w w6 : World} {o : Obj} {g n : Nat} {N S : List ByteArray} {L : Int → Bool} {F : List Nat} {u v : Value} (h : FileS a w g N S n L F) (ha : Apart w F (blk u)) (hu : ∀ x ∈ blk u, a.heap.size ≤ x) (hv : ∀ x ∈ blk v, x < w6.heap.size) (hk : Kept (blk u) (w.alloc o) w6) (hat : v.ownBlock = u.ownBlock ∨ v.ownBlock = some (w.heap.size + 1)) : FileS a w6 g N S n L F ∧ Apart w6 F (blk v) := by
  have hd : ∀ x ∈ F, x ∉ blk u := fun x hx hu => (ha x hu).2 hx
  refine ⟨⟨(h.1.kept0 ((Kept.refl _ _).alloc o)).kept hk hd, (h.2.alloc o).trans hk (fun x hx => .inr (hu x hx))⟩, fun x hx => ⟨hv x hx, fun hf => ?_⟩⟩
  rcases hat with e | e
  · exact (ha x (blk_mem (e ▸ mem_blk hx))).2 hf
  · have e2 : x = w.heap.size + 1 := Option.some.inj ((mem_blk hx).symm.trans e)
    have := (h.1.lt x hf).2
    omega

set_option maxRecDepth 100000 in
set_option maxHeartbeats 2000000 in
theorem keptl_any (n kp : Int) (again : Bool) (n0 : 0 ≤ n) (n1 : n < 256) (w : World) :
    Calls Try.prog 6 #[.int .u8 n, .int .u16 kp, .bool again] w fun e w' => e = .returned (.bool true) ∧ Kept [] w w' := by
  obtain ⟨m, hm⟩ : ∃ m : Nat, n % 12 = (m : Int) := ⟨(n % 12).toNat, (Int.toNat_of_nonneg (Int.emod_nonneg _ (by omega))).symm⟩
  have hm12 : m < 12 := by omega
  go_enter Try.func6, Try.ntmps6
  go_wp2_with fail
  refine (known4_any w).mono ?_
  rintro e w1 ⟨rfl, k1'⟩
  go_wp2_with fail
  refine (newS w w1 none 0 0 [] k1' (by omega) rfl (by omega) (Rd.zero _ _ _)).mono ?_
  rintro e w2 ⟨g, F2, rfl, h2, _, _⟩
  clear k1'
  go_wp2
  have HM := hide hm
  clear hm
  go_loopw [9] (fun i wz => ∃ (j n' : Nat) (F : List Nat) (S : List ByteArray) (L : Int → Bool), j ≤ m + 1 ∧ i = .int .i64 j ∧ n' ≤ 500 * j ∧ FileS w wz g (byP j fun _ => tOld) S n' L F) (fun i _ => m + 1 - (intOf i).toNat)
  case atStart => exact ⟨0, 0, F2, [], _, Nat.zero_le _, rfl, by omega, h2⟩
  case round =>
    clear h2
    obtain ⟨j, n', F, S, L, hj, rfl, hn', h⟩ := hrel
    by_cases hlt : j < m + 1
    · have HB := hide (byP_snoc j (fun _ => tOld) tOld)
      go_wp2_with fail
      refine (writeS w g n' _ S L F wr j tOld h (by rw [byP_len]; omega) (by omega) (by omega)).mono ?_
      rintro e w3 ⟨rfl, F3, h3, _⟩
      rw [HB.out] at h3
      go_wp2
      go_roundw
      case rel => exact ⟨j + 1, n' + 500, F3, S, _, hlt, by go_num, by omega, by rw [show (byP (j + 1) fun _ => tOld) = byP (j + 1) (fun i => if i = j then tOld else tOld) from by simp]; exact h3⟩
      case measure => simp [intOf]; omega
    · obtain rfl : j = m + 1 := by omega
      go_wp2_with fail
      refine (syncS w g n' _ S L F wr h (by rw [byP_len]; omega)).mono ?_
      rintro e w3 ⟨rfl, F3, h3, _⟩
      clear h
      go_wp2
      go_loopw [10, 11] (fun b i wz => ∃ (j n' : Nat) (F : List Nat), j ≤ m + 1 ∧ i = .int .i64 j ∧ n' ≤ 1000 * j ∧ FileS w wz g (byP (m + 1) fun i => if i < j then tNew again else tOld) (byP (m + 1) fun _ => tOld) n' (below j) F ∧ OwnB wz w.heap.size b ((List.range j).map (kb kp)) ∧ Apart wz F (blk b)) (fun _ i _ => m + 1 - (intOf i).toNat)
      case atStart =>
        refine ⟨0, 0, F3, Nat.zero_le _, rfl, by omega, ?_, OwnB.nil _ _, by intro x hx; simp [blk, Value.ownBlock] at hx⟩
        rw [show below 0 = fun _ => false from by funext i; simp [below] <;> omega]
        simpa using h3
      case round =>
        clear h3
        obtain ⟨j, n', F, hj, rfl, hn', h, ho, ha⟩ := hrel
        by_cases hlt : j < m + 1
        · have HP : Hid (∀ x, (padN (byP (m + 1) fun i => if i < j then tNew again else tOld) (j + 1 - (byP (m + 1) fun i => if i < j then tNew again else tOld).length)).set j x = byP (m + 1) fun i => if i = j then x else if i < j then tNew again else tOld) := hide fun x => byP_put _ x hlt
          have HP2 : Hid (∀ x y, (padN (byP (m + 1) fun i => if i = j then y else if i < j then tNew again else tOld) (j + 1 - (byP (m + 1) fun i => if i = j then y else if i < j then tNew again else tOld).length)).set j x = byP (m + 1) fun i => if i = j then x else if i = j then y else if i < j then tNew again else tOld) := hide fun x y => byP_put _ x hlt
          have HL0 : Hid (padL (byP (m + 1) fun i => if i < j then tNew again else tOld) (below j) (j + 1 - (byP (m + 1) fun i => if i < j then tNew again else tOld).length) = below j) := hide (by rw [byP_len, show j + 1 - (m + 1) = 0 from by omega]; rfl)
          have HL1 : Hid (∀ y, padL (byP (m + 1) fun i => if i = j then y else if i < j then tNew again else tOld) (below (j + 1)) (j + 1 - (byP (m + 1) fun i => if i = j then y else if i < j then tNew again else tOld).length) = below (j + 1)) := hide fun y => by rw [byP_len, show j + 1 - (m + 1) = 0 from by omega]; rfl
          have HO := hide ho
          clear ho
          cases again with
          | false =>
            go_wp2_with fail
            refine (writeS w g n' _ _ _ F wr j ⟨#[110, 101, 119]⟩ h (by rw [byP_len]; omega) (by omega) (by omega)).mono ?_
            rintro e w5 ⟨rfl, F5, h5, t5⟩
            rw [HP.out, HL0.out, below_add] at h5
            have HO5 := hide (HO.out.kept t5.1 (fun x hx => (ha x (blk_mem hx)).2))
            have ha5 := ha.turn t5
            have H5 := hide h5
            clear h h5
            go_wp2_with (at_builtin; refine wpList_appB rfl (.tmp 43) (.tmp 50) rfl w.heap.size _ _ rfl (HO5.out.kept0 ((Kept.refl _ _).alloc _)) _ 1 1 [_] rfl (by simp) rfl (rd_oneB w5 _ _) (by simp; omega) (Nat.le_trans H5.out.size (by simp)) ?_)
            intro v6 w6 ho6 hk6 hat6
            go_wp2
            go_roundw
            case rel =>
              obtain ⟨h6, ha6⟩ := H5.out.beside ha5 (fun x hx => (HO5.out.lt x (mem_blk hx)).1) (fun x hx => (ho6.lt x (mem_blk hx)).2) hk6 hat6
              refine ⟨j + 1, n' + 500, F5, by omega, by go_num, by omega, ?_, ?_, ha6⟩
              · rw [show (byP (m + 1) fun i => if i < j + 1 then tNew false else tOld) = byP (m + 1) fun i => if i = j then ⟨#[110, 101, 119]⟩ else if i < j then tNew false else tOld from byP_congr fun i _ => by
                  by_cases e : i = j
                  · simp [e, tNew]
                  · have : i < j + 1 ↔ i < j := by omega
                    simp [e, this]]
                exact h6
              · rw [List.range_succ, List.map_append]
                exact ho6
            case measure => simp [intOf]; omega
          | true =>
            go_wp2_with fail
            refine (writeS w g n' _ _ _ F wr j ⟨#[110, 101, 119]⟩ h (by rw [byP_len]; omega) (by omega) (by omega)).mono ?_
            rintro e w4 ⟨rfl, F4, h4, t4⟩
            rw [HP.out, HL0.out, below_add] at h4
            have HO4 := hide (HO.out.kept t4.1 (fun x hx => (ha x (blk_mem hx)).2))
            have ha4 := ha.turn t4
            clear h
            go_wp2_with fail
            refine (writeS w g (n' + 500) _ _ _ F4 w4 j ⟨#[110, 101, 119, 101, 114]⟩ h4 (by rw [byP_len]; omega) (by omega) (by omega)).mono ?_
            rintro e w5 ⟨rfl, F5, h5, t5⟩
            rw [HP2.out, HL1.out, below_again] at h5
            have HO5 := hide (HO4.out.kept t5.1 (fun x hx => (ha4 x (blk_mem hx)).2))
            have ha5 := ha4.turn t5
            have H5 := hide h5
            clear h4 h5
            go_wp2_with (at_builtin; refine wpList_appB rfl (.tmp 43) (.tmp 50) rfl w.heap.size _ _ rfl (HO5.out.kept0 ((Kept.refl _ _).alloc _)) _ 1 1 [_] rfl (by simp) rfl (rd_oneB w5 _ _) (by simp; omega) (Nat.le_trans H5.out.size (by simp)) ?_)
            intro v6 w6 ho6 hk6 hat6
            go_wp2
            go_roundw
            case rel =>
              obtain ⟨h6, ha6⟩ := H5.out.beside ha5 (fun x hx => (HO5.out.lt x (mem_blk hx)).1) (fun x hx => (ho6.lt x (mem_blk hx)).2) hk6 hat6
              refine ⟨j + 1, n' + 500 + 500, F5, by omega, by go_num, by omega, ?_, ?_, ha6⟩
              · rw [show (byP (m + 1) fun i => if i < j + 1 then tNew true else tOld) = byP (m + 1) fun i => if i = j then ⟨#[110, 101, 119, 101, 114]⟩ else if i = j then ⟨#[110, 101, 119]⟩ else if i < j then tNew true else tOld from byP_congr fun i _ => by
                  by_cases e : i = j
                  · simp [e, tNew]
                  · have : i < j + 1 ↔ i < j := by omega
                    simp [e, this]]
                exact h6
              · rw [List.range_succ, List.map_append]
                exact ho6
            case measure => simp [intOf]; omega
        · obtain rfl : j = m + 1 := by omega
          obtain ⟨Ab, cb, rfl, hmb, hrb, _⟩ := ho.shape
          have hlb : ((List.range (m + 1)).map (kb kp)).length = m + 1 := by simp
          have hlen : (byP (m + 1) fun i => if i < m + 1 then tNew again else tOld) = byP (m + 1) fun _ => tNew again := byP_congr fun i hi => by simp [hi]
          rw [hlen] at h
          have HT : Hid (trim (powN (byP (m + 1) fun _ => tNew again) (byP (m + 1) fun _ => tOld) (fun i => ((List.range (m + 1)).map (kb kp)).getD i false) (m + 1) (looseL (below (m + 1)) (byP (m + 1) fun _ => tNew again).length) (looseL (below (m + 1)) (byP (m + 1) fun _ => tNew again).length).length) = byP (m + 1) fun i => if kb kp i = true then tNew again else tOld) := hide (by
            rw [byP_len, below_loose]
            simp only [List.length_map, List.length_range]
            rw [pow_byP (m + 1) (m + 1) (tNew again) tOld _ rfl (m + 1) (Nat.le_refl _)]
            rw [show (byP (m + 1) fun i => if i < m + 1 ∧ ((List.range (m + 1)).map (kb kp)).getD i false = false then tOld else tNew again) = byP (m + 1) fun i => if kb kp i = true then tNew again else tOld from byP_congr fun i hi => by
              cases hk : kb kp i <;> simp [List.getD, hi, hk]]
            refine trim_all fun x hx => ?_
            obtain ⟨i, _, rfl⟩ := List.mem_map.1 hx
            split
            · cases again <;> decide
            · decide)
          have HO := hide ho
          have HRB := hide hrb
          have HLB := hide hlb
          clear ho hrb hlb hlen
          go_wp2_with fail
          have hr := HRB.out
          rw [HLB.out] at hr
          refine (powerS w g n' _ _ _ F wr Ab (m + 1) cb (fun i => ((List.range (m + 1)).map (kb kp)).getD i false) h (by rw [byP_len]; omega) (by omega) hr).mono ?_
          rintro e w4 ⟨rfl, F4, h4, t4⟩
          rw [HT.out] at h4
          have hrb4 : Rd w4 Ab (m + 1) (bls ((List.range (m + 1)).map (kb kp))) := by
            obtain ⟨A', c', e', _, hr', _⟩ := (HO.out.kept t4.1 (fun x hx => (ha x (blk_mem hx)).2)).shape
            injection e' with e1 e2 e3
            subst e1
            rwa [HLB.out] at hr'
          have HRB4 := hide hrb4
          have H4 := hide h4
          clear h hr h4 hrb4
          go_wp2
          go_loop [12, 13] (fun i _ => ∃ j : Nat, j ≤ m + 1 ∧ i = .int .i64 j) (fun i _ => m + 1 - (intOf i).toNat)
          case atStart => exact ⟨0, Nat.zero_le _, rfl⟩
          case round =>
            obtain ⟨j, hj, rfl⟩ := hrel
            by_cases hlt : j < m + 1
            · obtain ⟨bl, off, hA, _, hc⟩ := HRB4.out j hlt
              subst hA
              unfold bls at hc
              rw [show ((List.range (m + 1)).map (kb kp)).getD j false = kb kp j from by simp [List.getD, hlt]] at hc
              have HG : Hid (at' (byP (m + 1) fun i => if kb kp i = true then tNew again else tOld) (j : Int) = if kb kp j = true then tNew again else tOld) := hide (by rw [at_in, byP_get hlt])
              generalize kb kp j = t at hc HG
              cases t <;> cases again
              all_goals
                go_wp2_with fail
                refine (readf_any w.heap.size g 0 _ _ _ F4 w4 j H4.out.1).mono ?_
                rintro e w' ⟨rfl, rfl⟩
                rw [HG.out]
                simp only [if_true, if_false, Bool.false_eq_true, tNew, tOld]
                go_wp2
                go_round
                case rel => exact ⟨j + 1, hlt, by go_num⟩
                case measure => simp [intOf]; omega
            · obtain rfl : j = m + 1 := by omega
              go_wp2_with fail
              refine (lenf_any w.heap.size g 0 _ _ _ F4 w4 H4.out.1).mono ?_
              rintro e w' ⟨rfl, rfl⟩
              rw [byP_len]
              go_wp2
              go_ret
              exact ⟨rfl, H4.out.2⟩
end Go.Proofs.Ytabcchadjgnldaa
