/- What FileCopies answers: true, at every pages and every steps. Conditions: the pages read as texts, the steps as steps. -/
import Derived.Test.YtabcchadjgnldaaFSyncedPlain
import Derived.Test.YtabcchadjgnldaaFSteps
import Derived.Deep.RegionHeld3
namespace Go.Proofs.Ytabcchadjgnldaa
open Go.RowKit

theorem trim_le (l : List ByteArray) : (trim l).length ≤ l.length := by
  unfold trim
  rw [List.length_reverse]
  exact Nat.le_trans (List.dropWhile_sublist _).length_le (by simp)
theorem Rd.congr {w : World} {A : Option Addr} {n : Nat} {f g : Nat → Value} (h : Rd w A n f) (e : ∀ k, k < n → f k = g k) : Rd w A n g := fun k hk => by
  obtain ⟨bl, off, h1, h2, h3⟩ := h k hk
  exact ⟨bl, off, h1, h2, by rw [← e k hk]; exact h3⟩
theorem rd_byP {w : World} {A : Option Addr} {m : Nat} {t : Nat → ByteArray} (h : Rd w A m (txtF t)) : Rd w A m (strs (byP m t)) := h.congr fun k hk => by rw [strs, byP_get hk, txtF]
/-- A copy at gc that goes its own way, beside the file at gf. -/
def TwoF (w wz : World) (gf gc : Nat) (P : List ByteArray) (Ff : List Nat) (q : Nat) : Prop := ∃ (n' : Nat) (F : List Nat) (N S : List ByteArray) (L : Int → Bool), n' ≤ 500 * q ∧ N.length ≤ 61 ∧ FileS w wz gc N S n' L F ∧ FileAt wz w.heap.size gf P P 0 (fun _ => false) Ff ∧ Apart wz F Ff
theorem TwoF.all {w wz : World} {gf gc : Nat} {P : List ByteArray} {Ff : List Nat} {q : Nat} (h : TwoF w wz gf gc P Ff q) : Kept [] w wz := by
  obtain ⟨_, _, _, _, _, _, _, h, _⟩ := h
  exact h.2
theorem TwoF.kept0 {w wz wy : World} {gf gc : Nat} {P : List ByteArray} {Ff : List Nat} {q : Nat} (h : TwoF w wz gf gc P Ff q) (k : Kept [] wz wy) : TwoF w wy gf gc P Ff q := by
  obtain ⟨n', F, N, S, L, h1, h2, h3, h4, h5⟩ := h
  exact ⟨n', F, N, S, L, h1, h2, h3.kept0 k, h4.kept0 k, h5.kept0 k⟩
theorem TwoF.file {w wz : World} {gf gc : Nat} {P : List ByteArray} {Ff : List Nat} {q : Nat} (h : TwoF w wz gf gc P Ff q) : FileS w wz gf P P 0 (fun _ => false) Ff := by
  obtain ⟨n', F, N, S, L, h1, h2, h3, h4, h5⟩ := h
  exact ⟨h4, h3.2⟩

section
variable (w wz : World) (gf gc : Nat) (P : List ByteArray) (Ff : List Nat) (q : Nat)
theorem write_two (pl : Int) (s : ByteArray) (h : TwoF w wz gf gc P Ff q) (hq : q ≤ 1000) (hp : ¬ (60 < pl ∧ pl < 1000000)) : Calls Try.prog 11 #[.pointer (some ⟨gc, 0, none⟩), .int .i64 pl, .string s] wz fun e w' => (∃ v, e = .returned v) ∧ TwoF w w' gf gc P Ff (q + 1) := by
  obtain ⟨n', F, N, S, L, h1, h2, h3, h4, h5⟩ := h
  by_cases hb : pl < 0 ∨ 400 ≤ pl
  · exact (writef_no gc wz pl s hb).mono fun _ w' ⟨he, hw⟩ => ⟨⟨_, he⟩, hw ▸ ⟨n', F, N, S, L, by omega, h2, h3, h4, h5⟩⟩
  · obtain ⟨p, rfl⟩ := Int.eq_ofNat_of_zero_le (by omega : 0 ≤ pl)
    exact (writeS w gc n' N S L F wz p s h3 (by omega) (by omega) (by omega)).mono fun _ w' ⟨he, F', h6, t⟩ => ⟨⟨_, he⟩, n' + 500, F', _, S, _, by omega, by rw [write_len]; omega, h6, h4.apart h5 t.1, h5.turn t⟩
theorem sync_two (h : TwoF w wz gf gc P Ff q) : Calls Try.prog 13 #[.pointer (some ⟨gc, 0, none⟩)] wz fun e w' => e = .returned (.tuple #[]) ∧ TwoF w w' gf gc P Ff (q + 1) := by
  obtain ⟨n', F, N, S, L, h1, h2, h3, h4, h5⟩ := h
  exact (syncS w gc n' N S L F wz h3 (by omega)).mono fun _ w' ⟨he, F', h6, t⟩ => ⟨he, 0, F', _, _, _, by omega, h2, h6, h4.apart h5 t.1, h5.turn t⟩
theorem power_two (A : Option Addr) (K cc : Nat) (kf : Nat → Bool) (h : TwoF w wz gf gc P Ff q) (hK : K ≤ 500) (hr : Rd wz A K (bols kf)) : Calls Try.prog 15 #[.pointer (some ⟨gc, 0, none⟩), .slice A K cc] wz fun e w' => e = .returned (.tuple #[]) ∧ TwoF w w' gf gc P Ff (q + 1) := by
  obtain ⟨n', F, N, S, L, h1, h2, h3, h4, h5⟩ := h
  exact (powerS w gc n' N S L F wz A K cc kf h3 (by omega) (by omega) hr).mono fun _ w' ⟨he, F', h6, t⟩ => ⟨he, 0, F', _, _, _, by omega, by
    have e := trim_le (powN N S kf K (looseL L N.length) (looseL L N.length).length)
    rw [powN_len] at e
    omega, h6, h4.apart h5 t.1, h5.turn t⟩
end

set_option maxRecDepth 100000 in
set_option maxHeartbeats 2000000 in
theorem copiesl_any (A : Option Addr) (m c : Nat) (t : Nat → ByteArray) (B : Option Addr) (n d : Nat) (hmc : m ≤ c) (hm : m ≤ 9223372036854775807) (hn : n ≤ 9223372036854775807) (w : World) (hr : Rd w A m (txtF t)) (hs : StepsAt w B n) :
    Calls Try.prog 4 #[.slice A m c, .slice B n d] w fun e w' => e = .returned (.bool true) ∧ Kept [] w w' := by
  have HR := hide hr
  have HS := hide hs
  clear hr hs
  go_enter Try.func4, Try.ntmps4
  go_wp2_with fail
  refine (known4_any w).mono ?_
  rintro e w1 ⟨rfl, k1'⟩
  by_cases hn30 : 30 < n
  · go_wp2
    go_ret
    exact ⟨rfl, k1'⟩
  by_cases hm20 : 20 < m
  · go_wp2
    go_ret
    exact ⟨rfl, k1'⟩
  go_wp2_with fail
  refine (newS w w1 A m c (byP m t) k1' hmc (byP_len _ _) (by omega) (rd_byP (HR.out.kept0 k1'))).mono ?_
  rintro e w2 ⟨gf, Ff, rfl, h2, _, _⟩
  clear k1'
  go_wp2_with fail
  refine (lenf_any _ gf _ _ _ _ _ w2 h2.1).mono ?_
  rintro e w' ⟨rfl, rfl⟩
  rw [byP_len]
  go_wp2_with fail
  refine (copyS w gf 0 _ _ _ Ff w2 h2 (by rw [byP_len]; omega) (by rw [byP_len]; omega) (by omega)).mono ?_
  rintro e w3 ⟨gc, Fc, rfl, hc3, hf3, _, _, ha3⟩
  have HTW : TwoF w w3 gf gc (byP m t) Ff 0 := ⟨0, Fc, _, _, _, by omega, by rw [byP_len]; omega, hc3, hf3.1, ha3⟩
  clear hc3 hf3 ha3 h2
  go_wp2
  go_loopw [8, 9] (fun i _ wz => ∃ q : Nat, q ≤ n ∧ i = .int .i64 q ∧ TwoF w wz gf gc (byP m t) Ff q) (fun i _ _ => n - (intOf i).toNat)
  case atStart => exact ⟨0, Nat.zero_le _, rfl, HTW⟩
  case round =>
    clear HTW
    obtain ⟨q, hq, rfl, h⟩ := hrel
    by_cases hlt : q < n
    · obtain ⟨bl, off, wh, pl, sx, kA, kn, kc, kf, hA, hbl, a0, a1, a2, a3, hrk, _, _⟩ := (HS.out.kept0 h.all) q hlt
      subst hA
      have hx0 := h.kept0 ((Kept.refl _ _).alloc (.cells #[.int .i64 wh, .int .i64 pl, .string sx, .slice kA kn kc] 31))
      have hrk1 := hrk.kept0 ((Kept.refl _ _).alloc (.cells #[.int .i64 wh, .int .i64 pl, .string sx, .slice kA kn kc] 31))
      have HXR := hide (And.intro hx0 hrk1)
      clear hrk hx0 hrk1
      by_cases h5 : 500 < kn
      · go_wp2
        go_ret
        exact ⟨rfl, HXR.out.1.all⟩
      by_cases h61 : 60 < pl ∧ pl < 1000000
      · obtain ⟨h61a, h61b⟩ := h61
        go_wp2
        go_ret
        exact ⟨rfl, HXR.out.1.all⟩
      have hbd : pl ≤ 60 ∨ 1000000 ≤ pl := by omega
      by_cases hw5 : wh ≤ 5
      · rcases hbd with hb | hb
        all_goals
          go_wp2_with fail
          refine (write_two w _ gf gc (byP m t) Ff q pl sx HXR.out.1 (by omega) h61).mono ?_
          rintro e w5 ⟨⟨v5, rfl⟩, hx⟩
          go_wp2
          go_roundw
          case rel => exact ⟨q + 1, hlt, by go_num, hx⟩
          case measure => simp [intOf]; omega
      · by_cases hw6 : wh = 6
        · subst hw6
          rcases hbd with hb | hb
          all_goals
            go_wp2_with fail
            refine (sync_two w _ gf gc (byP m t) Ff q HXR.out.1).mono ?_
            rintro e w5 ⟨rfl, hx⟩
            go_wp2
            go_roundw
            case rel => exact ⟨q + 1, hlt, by go_num, hx⟩
            case measure => simp [intOf]; omega
        · have hb6 : (wh == 6) = false := by simp [hw6]
          rcases hbd with hb | hb
          all_goals
            go_wp2_with fail
            refine (power_two w _ gf gc (byP m t) Ff q kA kn kc kf HXR.out.1 (by omega) HXR.out.2).mono ?_
            rintro e w5 ⟨rfl, hx⟩
            go_wp2
            go_roundw
            case rel => exact ⟨q + 1, hlt, by go_num, hx⟩
            case measure => simp [intOf]; omega
    · obtain rfl : q = n := by omega
      have hF := h.file
      clear h
      go_wp2
      go_loopw [10] (fun i wz => ∃ k : Nat, k ≤ m ∧ i = .int .i64 k ∧ FileS w wz gf (byP m t) (byP m t) 0 (fun _ => false) Ff) (fun i _ => m - (intOf i).toNat)
      case atStart => exact ⟨0, Nat.zero_le _, rfl, hF⟩
      case round =>
        clear hF
        obtain ⟨k, hk, rfl, h⟩ := hrel
        by_cases hlt : k < m
        · obtain ⟨bl, off, hA, _, hc⟩ := (HR.out.kept0 h.2) k hlt
          subst hA
          unfold txtF at hc
          have HRD : Hid (∀ q, Calls Try.prog 20 #[.pointer (some ⟨gf, 0, none⟩), .int .i64 (k : Int)] (wr.drewN q) fun e w' => e = .returned (.string (t k)) ∧ wr.drewN q = w') := hide fun q => by
            have h5 := readf_any w.heap.size gf 0 _ _ _ Ff (wr.drewN q) (k : Int) (h.kept0 ((Kept.refl _ _).drewN q)).1
            rw [at_in, byP_get hlt] at h5
            exact h5
          generalize t k = x at hc HRD
          go_upto_region 22 with (fail)
          go_quiet ((first | (go_at_call 20; exact quiet_sameF (HRD.out _))))
          go_wp2
          go_roundw
          case rel => exact ⟨k + 1, hlt, by go_num, h.kept0 ((Kept.refl _ _).drewN _)⟩
          case measure => simp [intOf]; omega
        · obtain rfl : k = m := by omega
          go_wp2_with fail
          refine (lenf_any w.heap.size gf 0 _ _ _ Ff wr h.1).mono ?_
          rintro e w' ⟨rfl, rfl⟩
          rw [byP_len]
          go_wp2_with fail
          refine (looseS w gf 0 _ _ _ Ff wr h (by rw [byP_len]; omega)).mono ?_
          rintro e w5 ⟨A5, c5, rfl, _, h5, _, _, _⟩
          rw [show looseL (fun _ => false) (byP k t).length = [] from by simp [looseL]]
          go_wp2
          go_ret
          exact ⟨rfl, h5.2⟩
end Go.Proofs.Ytabcchadjgnldaa
