/- The lock read from bytes: those of a lock, and one byte alone. Conditions: the lock's numbers fit. -/
import Derived.Test.YthifbmopfcfokaaDoorLBytes
import Derived.Test.YthifbmopfcfokaaDoorPackPlain
import Derived.Deep.RegionLaw
import Derived.WalkMore
namespace Go.Proofs.YthifbmopfcfokaaDoor
open Go.RowKit Go.Conc

/-- The bytes of m slots from i on. -/
def rest (p t : Nat → Int) : Nat → Nat → List UInt8
  | 0, _ => []
  | m + 1, i => (numS (p i)).data.toList ++ ((numS (t i)).data.toList ++ rest p t m (i + 1))
theorem rest_snoc (p t : Nat → Int) : ∀ m i, rest p t (m + 1) i = rest p t m i ++ ((numS (p (i + m))).data.toList ++ (numS (t (i + m))).data.toList)
  | 0, i => by simp [rest]
  | m + 1, i => by
    rw [rest, rest_snoc p t m (i + 1), rest]
    rw [show i + 1 + m = i + (m + 1) from by omega]
    simp
theorem rest_head (p t : Nat → Int) {k : Nat} (hk : k < 8) : rest p t (8 - k) k = (numS (p k)).data.toList ++ ((numS (t k)).data.toList ++ rest p t (8 - (k + 1)) (k + 1)) := by
  obtain ⟨m, hm⟩ : ∃ m, 8 - k = m + 1 := ⟨7 - k, by omega⟩
  rw [hm, show 8 - (k + 1) = m from by omega, rest]
theorem lockB_list (wn : Int) (p t : Nat → Int) : ∀ k, (lockB wn p t k).data.toList = (numS 4242).data.toList ++ ((numS 1).data.toList ++ ((numS wn).data.toList ++ rest p t k 0))
  | 0 => by simp [lockB, rest]
  | k + 1 => by
    rw [rest_snoc, lockB, ByteArray.data_append, Array.toList_append, lockB_list wn p t k, ByteArray.data_append, Array.toList_append]
    simp

/-- The first k of f, and 0. -/
def part (f : Nat → Int) (k : Nat) : Nat → Int := fun i => if i < k then f i else 0
theorem part_zero (f : Nat → Int) : part f 0 = fun _ => 0 := by
  funext i
  simp [part]
theorem part_succ (f : Nat → Int) (k : Nat) : upd (part f k) k (f k) = part f (k + 1) := by
  funext i
  unfold upd part
  by_cases h : i = k
  · subst h
    simp
  · have e : i < k + 1 ↔ i < k := by omega
    simp [h, e]

section
variable (g : Nat) (s : ByteArray) (w : World)
set_option maxRecDepth 100000 in
theorem pid_any (bad : Bool) (hs : s.size ≤ 9223372036854775807) (h : CutAt w g s bad) (hn0 : 0 ≤ cutN s bad) (hn : cutN s bad ≤ 1000000) :
    Calls Tryd.prog 46 #[.pointer (some ⟨g, 0, none⟩)] w fun e w' => e = .returned (.tuple #[.int .i64 (cutN s bad), .bool true]) ∧ Took CutAt w w' g s bad 8 := by
  have hc := cutnum_any g s bad w hs h
  have HC := hide hc
  clear hc h
  generalize cutN s bad = n at HC hn0 hn
  go_enter Tryd.func46, Tryd.ntmps46
  go_wp2_with fail
  refine HC.out.mono ?_
  rintro e w' ⟨rfl, ht⟩
  go_wp2
  go_ret2
  exact ⟨rfl, ht⟩

set_option maxRecDepth 100000 in
theorem read_good (wn : Int) (p t : Nat → Int) (hw0 : 0 ≤ wn) (hw1 : wn ≤ 1000000) (hb : ∀ k, k < 8 → 0 ≤ p k ∧ p k ≤ 1000000 ∧ 0 ≤ t k ∧ t k < 18446744073709551616 ∧ (p k = 0 → t k = 0)) :
    Calls Tryd.prog 29 #[.string (lockB wn p t 8)] w fun e w' => ∃ g, e = .returned (.tuple #[.pointer (some ⟨g, 0, none⟩), .nilIface]) ∧ LockAt w' g wn p t ∧ Kept [] w w' := by
  have HB := hide hb
  have hS := lockB_list wn p t 8
  have hz := lockB_size wn p t 8
  clear hb
  generalize lockB wn p t 8 = s at hS hz
  obtain ⟨e1, e2, e3⟩ := cut_num (by omega) (by omega) hS
  obtain ⟨e4, e5, e6⟩ := cut_num (n := 1) (by omega) (by omega) (mk_data ((numS 1).data.toList ++ ((numS wn).data.toList ++ rest p t 8 0)))
  obtain ⟨e7, e8, e9⟩ := cut_num (n := wn) (by omega) (by omega) (mk_data ((numS wn).data.toList ++ rest p t 8 0))
  have hz2 : (⟨((numS 1).data.toList ++ ((numS wn).data.toList ++ rest p t 8 0)).toArray⟩ : ByteArray).size ≤ 200 := by
    have h1 := congrArg List.length hS
    rw [List.length_append, ← size_list] at h1
    rw [size_list]
    simp at h1 ⊢
    omega
  have hz3 : (⟨((numS wn).data.toList ++ rest p t 8 0).toArray⟩ : ByteArray).size ≤ 200 := by
    rw [size_list] at hz2 ⊢
    simp at hz2 ⊢
    omega
  have hz4 : (⟨(rest p t 8 0).toArray⟩ : ByteArray).size ≤ 200 := by
    rw [size_list] at hz3 ⊢
    simp at hz3 ⊢
    omega
  have HE := hide (And.intro e1 (And.intro e2 (And.intro e3 (And.intro e4 (And.intro e5 (And.intro e6 (And.intro e7 (And.intro e8 e9))))))))
  have HZ := hide (And.intro hS hz)
  clear e1 e2 e3 e4 e5 e6 e7 e8 e9 hS
  have HZ2 := hide hz2
  have HZ3 := hide hz3
  have HZ4 := hide hz4
  clear hz2 hz3 hz4 hz
  go_enter Tryd.func29, Tryd.ntmps29
  go_wp2_with fail
  go_step3
  go_wp2_with fail
  refine (new_any s _).mono ?_
  rintro e w1 ⟨rfl, hw1'⟩
  have hC1 : CutAt w1 w.heap.size s false := by rw [hw1']; exact Blk.new _ _ _
  have K1 : Kept [] w w1 := by rw [hw1']; exact (Kept.refl _ _).alloc _
  clear hw1'
  generalize hg : w.heap.size = g at hC1
  have HG := hide hg
  clear hg
  go_wp2_with fail
  refine (cutnum_any g s false w1 (by rw [HZ.out.2]; omega) hC1).mono ?_
  rintro e w2 ⟨rfl, hC2, K2⟩
  rw [HE.out.1]
  rw [HE.out.2.1, HE.out.2.2.1] at hC2
  have K2 := K1.trans K2 (by simp [HG.out])
  go_wp2_with fail
  refine (cutnum_any g _ false w2 (Nat.le_trans HZ2.out (by omega)) hC2).mono ?_
  rintro e w3 ⟨rfl, hC3, K3⟩
  rw [HE.out.2.2.2.1]
  rw [HE.out.2.2.2.2.1, HE.out.2.2.2.2.2.1] at hC3
  have K3 := K2.trans K3 (by simp [HG.out])
  go_wp2_with fail
  refine (newl_any w3).mono ?_
  rintro e w4 ⟨gl, rfl, hL4, K4, hgl⟩
  have hne : gl ≠ g := Blk.ne hL4 (Blk.kept0 hC3 K4) (by decide)
  have hC4 : CutAt w4 g ⟨((numS wn).data.toList ++ rest p t 8 0).toArray⟩ false := Blk.kept0 hC3 K4
  have K4 := K3.trans0 K4
  have hgl : w.heap.size ≤ gl := Nat.le_trans K3.size hgl
  clear hC1 hC2 hC3 K1 K2 K3
  go_wp2_with fail
  refine (pid_any g _ w4 false (Nat.le_trans HZ3.out (by omega)) hC4 (by rw [HE.out.2.2.2.2.2.2.1]; exact hw0) (by rw [HE.out.2.2.2.2.2.2.1]; exact hw1)).mono ?_
  rintro e w5 ⟨rfl, hC5, K5⟩
  rw [HE.out.2.2.2.2.2.2.1]
  rw [HE.out.2.2.2.2.2.2.2.1, HE.out.2.2.2.2.2.2.2.2] at hC5
  have hL5 : LockAt w5 gl 0 (fun _ => 0) (fun _ => 0) := Blk.kept hL4 K5 (by simpa using hne)
  have K5 := K4.trans K5 (by simp [HG.out])
  clear hC4 hL4 K4
  have c0 : w5.cell? ⟨gl, 0, none⟩ = some (.int .i64 0) := Blk.cell hL5 0
  have f0 := Blk.free hL5 0
  have hL6 := hL5.setWr wn
  have hC6 : CutAt (w5.setCell ⟨gl, 0, none⟩ (.int .i64 wn)) g ⟨(rest p t 8 0).toArray⟩ false := Blk.far hC5 (p := ⟨gl, 0, none⟩) (Ne.symm hne) _
  have K6 : Kept [] w (w5.setCell ⟨gl, 0, none⟩ (.int .i64 wn)) := K5.setCell (p := ⟨gl, 0, none⟩) (.inr hgl) _
  have HC6 := hide hC6
  clear hC5 hC6
  go_wp2
  go_step3
  go_wp2
  go_loopw [5, 10, 11, 12, 34] (fun rt _ _ _ i wz => ∃ (k : Nat) (s : ByteArray), k ≤ 8 ∧ rt = .bool true ∧ i = .int .i64 k ∧ s.size ≤ 200 ∧ Hid (s.data.toList = rest p t (8 - k) k) ∧ CutAt wz g s false ∧ LockAt wz gl wn (part p k) (part t k) ∧ Kept [] w wz) (fun _ _ _ _ i _ => 8 - (intOf i).toNat)
  case atStart => exact ⟨0, _, Nat.zero_le _, rfl, rfl, HZ4.out, hide (mk_data _), HC6.out, by rw [part_zero, part_zero]; exact hL6, K6⟩
  case round =>
    obtain ⟨k, s1, hk, rfl, rfl, hz1, HS, hC, hL, hK⟩ := hrel
    clear HE HZ2 HZ3 HZ4 HC6 hL6 K6 hL5 K5 c0 f0
    by_cases hlt : k < 8
    · obtain ⟨x0, x1, y0, y1, hxy⟩ := HB.out k hlt
      have hs1 := HS.out
      rw [rest_head p t hlt] at hs1
      obtain ⟨e1, e2, e3⟩ := cut_num (by omega) (by omega) hs1
      obtain ⟨e4, e5, e6⟩ := cut_num y0 y1 (mk_data ((numS (t k)).data.toList ++ rest p t (8 - (k + 1)) (k + 1)))
      have hz2 : (⟨((numS (t k)).data.toList ++ rest p t (8 - (k + 1)) (k + 1)).toArray⟩ : ByteArray).size ≤ 200 := by
        have h1 := congrArg List.length hs1
        rw [List.length_append, ← size_list] at h1
        rw [size_list]
        simp at h1 ⊢
        omega
      have hz3 : (⟨(rest p t (8 - (k + 1)) (k + 1)).toArray⟩ : ByteArray).size ≤ 200 := by
        rw [size_list] at hz2 ⊢
        simp at hz2 ⊢
        omega
      have HE := hide (And.intro e1 (And.intro e2 (And.intro e3 (And.intro e4 (And.intro e5 e6)))))
      have HP := hide (And.intro (part_succ p k) (part_succ t k))
      have HZ2 := hide hz2
      have HZ3 := hide hz3
      clear e1 e2 e3 e4 e5 e6 hs1 hz2 hz3 HS
      go_wp2_with fail
      refine (pid_any g _ wr false (by omega) hC (by rw [HE.out.1]; exact x0) (by rw [HE.out.1]; exact x1)).mono ?_
      rintro e w7 ⟨rfl, hC7, K7⟩
      rw [HE.out.1]
      rw [HE.out.2.1, HE.out.2.2.1] at hC7
      have hL7 : LockAt w7 gl wn (part p k) (part t k) := Blk.kept hL K7 (by simpa using hne)
      have K7 := hK.trans K7 (by simp [HG.out])
      clear hC hL hK
      go_upto_region 12 with (fail)
      have hC7d : CutAt w7.drew g _ false := Blk.drew hC7
      have hL7d : LockAt w7.drew gl wn (part p k) (part t k) := Blk.drew hL7
      have K7d : Kept [] w w7.drew := K7.drew
      go_region_held3 (fun _ : World => True) (trivial) (first | (go_at_call 45; refine (cutnum_any g _ false _ (Nat.le_trans HZ2.out (by omega)) hC7d).mono ?_; rintro e w8 ⟨rfl, hC8, K8⟩; rw [HE.out.2.2.2.1]; rw [HE.out.2.2.2.2.1, HE.out.2.2.2.2.2] at hC8; have hL8 : LockAt w8 gl wn (part p k) (part t k) := Blk.kept hL7d K8 (by simpa using hne); have K8 := K7d.trans K8 (by simp [HG.out]); have d0 := hL8.pid hlt; have d1 := hL8.txn hlt; have f0 := Blk.free hL8 (1 + k * 2); have f1 := Blk.free hL8 (1 + k * 2 + 1)))
      have hL9 := (hL8.setPid hlt (p k)).setTxn hlt (t k)
      have hC9 : CutAt ((w8.setCell ⟨gl, 1 + k * 2, none⟩ (.int .i64 (p k))).setCell ⟨gl, 1 + k * 2 + 1, none⟩ (.int .u64 (t k))) g ⟨(rest p t (8 - (k + 1)) (k + 1)).toArray⟩ false := Blk.far (Blk.far hC8 (p := ⟨gl, 1 + k * 2, none⟩) (Ne.symm hne) _) (p := ⟨gl, 1 + k * 2 + 1, none⟩) (Ne.symm hne) _
      have K9 := (K8.setCell (p := ⟨gl, 1 + k * 2, none⟩) (.inr hgl) (.int .i64 (p k))).setCell (p := ⟨gl, 1 + k * 2 + 1, none⟩) (.inr hgl) (.int .u64 (t k))
      rw [HP.out.1, HP.out.2] at hL9
      generalize (w8.setCell ⟨gl, 1 + k * 2, none⟩ (.int .i64 (p k))).setCell ⟨gl, 1 + k * 2 + 1, none⟩ (.int .u64 (t k)) = w9 at hL9 hC9 K9 ⊢
      have e1 := hL9.txn hlt
      rw [show part t (k + 1) k = t k from by simp [part]] at e1
      clear d0 d1 f0 f1 hL8 hC8 hL7 hC7 hC7d hL7d
      have HC9 := hide hC9
      clear hC9
      have HFin : Hid ((⟨(rest p t (8 - (k + 1)) (k + 1)).toArray⟩ : ByteArray).data.toList = rest p t (8 - (k + 1)) (k + 1)) := hide (mk_data _)
      by_cases hp0 : p k = 0
      · have hy0 := hxy hp0
        clear hxy HE HP
        rw [hp0]
        rw [hy0] at e1 y0 y1
        rw [hy0]
        clear hp0 hy0
        go_wp2
        go_roundw
        case rel => exact ⟨k + 1, _, hlt, rfl, by go_num, HZ3.out, HFin, HC9.out, hL9, K9⟩
        case measure => simp [intOf]; omega
      · have hb : (p k == 0) = false := by simp [hp0]
        generalize p k = x at hb x0 x1 ⊢
        clear hxy hp0
        go_wp2
        go_roundw
        case rel => exact ⟨k + 1, _, hlt, rfl, by go_num, HZ3.out, HFin, HC9.out, hL9, K9⟩
        case measure => simp [intOf]; omega
    · obtain rfl : k = 8 := by omega
      go_upto_region 16 with (fail)
      have hx : s.extract 0 8 = numS 4242 := by
        refine bytes_ext ?_
        rw [Lib.extract_data, HZ.out.1, List.drop_zero, Nat.sub_zero, show (8 : Nat) = (numS 4242).data.toList.length from by simp [numS_list, numL], List.take_left]
      have hsz : s.size = 152 := HZ.out.2
      have hs0 : s1.size = 0 := by
        rw [size_list, HS.out]
        rfl
      have hLd : LockAt wr.drew gl wn (part p 8) (part t 8) := Blk.drew hL
      have hCd : CutAt wr.drew g s1 false := Blk.drew hC
      have hKd : Kept [] w wr.drew := hK.drew
      clear HZ HS hL hC hK hz1
      go_region_held3 (fun _ : World => True) (trivial) (first | (go_at_call 41; refine (num_any _ (by omega) (by omega) _).mono ?_; rintro e w9 ⟨rfl, k9⟩))
      all_goals
        have hL9 : LockAt w9 gl wn (part p 8) (part t 8) := Blk.kept0 hLd k9
        have hC9 : CutAt w9 g s1 false := Blk.kept0 hCd k9
        have hK9 := hKd.trans0 k9
        clear hx hsz hLd hCd hKd k9
        have HS0 := hide hs0
        clear hs0
        go_wp2_with fail
        refine (err_any g s1 w9 false hC9).mono ?_
        rintro e w10 ⟨rfl, rfl⟩
        rw [show errV false = .nilIface from rfl]
        go_wp2_with fail
        refine (left_any g s1 w9 false hC9).mono ?_
        rintro e w10 ⟨rfl, rfl⟩
        rw [HS0.out]
        go_wp2
        rw [Exit.noGoto_ret]
        go_ret2
        exact ⟨gl, rfl, hL9, hK9⟩
end
end Go.Proofs.YthifbmopfcfokaaDoor
