/- What PackRows answers: true, at every rows of numbers and texts, every place, every byte. Conditions: the rows read as numbers and texts. -/
import Derived.Test.YthifbmopfcfokaaPackRowsPlain
import Derived.Test.YthifbmopfcfokaaPackTells
import Derived.Test.YthifbmopfcfokaaInts
import Derived.Deep.RegionHeld3
import Derived.Deep.Cut
import Derived.Lib.ConvBytes
import Derived.Laws.BytesArg
import Derived.Laws.BitsAllLaws
namespace Go.Proofs.Ythifbmopfcfokaa
open Go.RowKit

def u64s (f : Nat → Int) (k : Nat) : Value := .int .u64 (f k)
def txts (t : Nat → ByteArray) (k : Nat) : Value := .string (t k)
def hN (f : Nat → Int) (k : Nat) : List UInt8 := (numS (f k)).data.toList
def hT (t : Nat → ByteArray) (k : Nat) : List UInt8 := (textS (t k)).data.toList

theorem bytes_nil {s : ByteArray} (h : s.size = 0) : s.toList.isEmpty = true := by
  obtain ⟨dd⟩ := s
  obtain rfl : dd = #[] := Array.eq_empty_of_size_eq_zero h
  decide +kernel
theorem conv_in (W : World) (s : ByteArray) : (convert 9 42 (.string s)).run Try.prog W = .ok (.slice (some ⟨W.heap.size, 0, none⟩) s.size (grownCap W s.size 0 5)) (Lib.bytesWorld W 5 s) :=
  Lib.run_convert_string_bytes W _ _ _ s Try.underlying9 Try.underlying42 Try.underlying5
theorem conv_facts (s : ByteArray) (W : World) : Kept [] W (Lib.bytesWorld W 5 s) ∧ (∀ i, i < s.size → (Lib.bytesWorld W 5 s).cell? ⟨W.heap.size, i, none⟩ = some (.int .u8 (s.data.toList.getD i 0).toNat)) ∧ (∀ i, i < s.size → (Lib.bytesWorld W 5 s).frozen? ⟨W.heap.size, i, none⟩ = false) := by
  refine ⟨⟨rfl, rfl, rfl, by rw [Lib.bytesWorld_size]; omega, fun k hk _ => Lib.bytesWorld_at_old W _ s k hk⟩, fun i hi => Lib.bytesWorld_cell W _ s i hi, fun i hi => ?_⟩
  have h1 := Lib.bytesWorld_cell W 5 s i hi
  have h2 := Lib.bytesWorld_at_new W 5 s
  rw [cell_of_row _ _ i _ _ _ h2] at h1
  have h3 := (Array.getElem?_eq_some_iff.1 h1).1
  simp [World.frozen?, h2]
  omega

theorem xor_byte (y : UInt8) (bt : Int) (b0 : 0 ≤ bt) (b1 : bt < 256) : ∃ b : UInt8, bits .xor .u8 (y.toNat : Int) bt = (b.toNat : Int) ∧ (b = y ↔ bt = 0) := by
  obtain ⟨t, rfl⟩ := Int.eq_ofNat_of_zero_le b0
  have hy := y.toNat_lt
  have hlt : y.toNat ^^^ t < 256 := Nat.xor_lt_two_pow (n := 8) hy (by omega)
  refine ⟨UInt8.ofNat (y.toNat ^^^ t), ?_, ?_⟩
  · rw [u8_xor_nat _ _ hy (by omega), UInt8.toNat_ofNat', Nat.mod_eq_of_lt hlt]
  · constructor
    · intro h
      have h2 := congrArg UInt8.toNat h
      rw [UInt8.toNat_ofNat', Nat.mod_eq_of_lt hlt] at h2
      have h3 : y.toNat ^^^ (y.toNat ^^^ t) = y.toNat ^^^ y.toNat := by rw [h2]
      rw [← Nat.xor_assoc, Nat.xor_self, Nat.zero_xor] at h3
      omega
    · intro h
      have h2 : t = 0 := by omega
      subst h2
      simp
theorem back_in (W9 : World) (gd cap ix : Nat) (s : ByteArray) (b : UInt8) (hc : ∀ i, i < s.size → W9.cell? ⟨gd, i, none⟩ = some (.int .u8 (s.data.toList.getD i 0).toNat)) (hix : ix < s.size) :
    (convert 42 9 (.slice (some ⟨gd, 0, none⟩) s.size cap)).run Try.prog (W9.setCell ⟨gd, ix, none⟩ (.int .u8 (b.toNat : Int))).drew = .ok (.string ⟨(s.data.toList.set ix b).toArray⟩) (W9.setCell ⟨gd, ix, none⟩ (.int .u8 (b.toNat : Int))).drew := by
  have hl : (s.data.toList.set ix b).length = s.size := by rw [List.length_set, ← size_list]
  have h := run_convert_bytes_back (P := Try.prog) (W9.setCell ⟨gd, ix, none⟩ (.int .u8 (b.toNat : Int))).drew 42 9 5 ⟨gd, 0, none⟩ cap (s.data.toList.set ix b) Try.underlying42 Try.underlying5 Try.underlying9 (fun j hj => by
    rw [hl] at hj
    rw [Addr.add_lit, Nat.zero_add]
    show (W9.setCell ⟨gd, ix, none⟩ (.int .u8 (b.toNat : Int))).cell? ⟨gd, j, none⟩ = _
    by_cases hji : ix = j
    · subst hji
      rw [World.cell?_setCell_same _ _ _ (hc ix hix)]
      simp
    · rw [World.cell?_setCell_other _ _ _ _ (by intro e; injection e with _ e; exact hji e), hc j hj]
      simp [List.getD, hji, Array.getElem?_eq_getElem (show j < s.data.size from hj)])
  rw [hl] at h
  exact h

set_option maxHeartbeats 4000000 in
set_option maxRecDepth 100000 in
theorem rows_any (A : Option Addr) (n c : Nat) (f : Nat → Int) (B : Option Addr) (m d : Nat) (t : Nat → ByteArray) (pl bt : Int) (hn : n ≤ 9223372036854775807) (hm : m ≤ 9223372036854775807) (w : World)
    (hr : Rd w A n (u64s f)) (hf : ∀ k, k < n → 0 ≤ f k ∧ f k < 18446744073709551616) (hq : Rd w B m (txts t)) (ht : ∀ k, k < m → (t k).size ≤ 9223372036854775807) (p0 : 0 ≤ pl) (p1 : pl < 256) (b0 : 0 ≤ bt) (b1 : bt < 256) :
    Calls Try.prog 4 #[.slice A n c, .slice B m d, .int .u8 pl, .int .u8 bt] w fun e w' => e = .returned (.bool true) ∧ Kept [] w w' := by
  have HR := hide hr
  have HF := hide hf
  have HQ := hide hq
  have HT := hide ht
  clear hr hf hq ht
  go_enter Try.func4, Try.ntmps4
  go_wp2_with fail
  refine (known1_any w).mono ?_
  rintro e w1 ⟨rfl, k1⟩
  by_cases h20 : 20 < n
  · go_wp2
    go_ret
    exact ⟨rfl, k1⟩
  by_cases h21 : 20 < m
  · go_wp2
    go_ret
    exact ⟨rfl, k1⟩
  go_wp2
  go_loopw [9, 10] (fun b i wr => ∃ (k : Nat) (sb : ByteArray), k ≤ n ∧ i = .int .i64 k ∧ b = .string sb ∧ sb.size = 8 * k ∧ Hid (sb.data.toList = cat (hN f) k 0) ∧ Kept [] w wr) (fun _ i _ => n - (intOf i).toNat)
  case atStart => exact ⟨0, _, Nat.zero_le _, rfl, rfl, rfl, hide rfl, k1⟩
  case round =>
    obtain ⟨k, sb, hk, rfl, rfl, hz, HB, hK⟩ := hrel
    by_cases hlt : k < n
    · obtain ⟨bl, off, rfl, hbl, hc⟩ := (HR.out.kept0 hK) k hlt
      unfold u64s at hc
      obtain ⟨f0, f1⟩ := HF.out k hlt
      have z8 := numS_size (f k)
      have HB' : Hid ((sb ++ numS (f k)).data.toList = cat (hN f) (k + 1) 0) := hide (by rw [cat_snoc, ← HB.out]; simp [hN])
      have zz : (sb ++ numS (f k)).size = 8 * (k + 1) := by rw [ByteArray.size_append, hz, z8]; omega
      generalize f k = x at hc f0 f1 z8 HB' zz
      go_wp2_with fail
      refine (num_any x f0 f1 _).mono ?_
      rintro e w3 ⟨rfl, k3⟩
      go_wp2
      go_roundw
      case rel => exact ⟨k + 1, _, hlt, by go_num, rfl, zz, HB', hK.trans0 k3⟩
      case measure => simp [intOf]; omega
    · obtain rfl : k = n := by omega
      go_wp2
      have HB2 : Hid (sb.data.toList = cat (hN f) k 0 ++ cat (hT t) 0 0) := hide (by rw [HB.out]; simp [cat])
      clear HB
      go_loopw [9, 11] (fun b i wr => ∃ (j : Nat) (sb : ByteArray), j ≤ m ∧ i = .int .i64 j ∧ b = .string sb ∧ sb.size ≤ 8 * k + 202 * j ∧ Hid (sb.data.toList = cat (hN f) k 0 ++ cat (hT t) j 0) ∧ Hid (∀ q, q < j → (t q).size ≤ 200) ∧ Kept [] w wr) (fun _ i _ => m - (intOf i).toNat)
      case atStart => exact ⟨0, _, Nat.zero_le _, rfl, rfl, by omega, HB2, hide (fun q hq => absurd hq (by omega)), hK⟩
      case round =>
        clear hz HB2 hK
        obtain ⟨j, sb, hj, rfl, rfl, hz, HB, HL, hK⟩ := hrel
        by_cases hlt : j < m
        · obtain ⟨bl, off, rfl, hbl, hc⟩ := (HQ.out.kept0 hK) j hlt
          unfold txts at hc
          have hts := HT.out j hlt
          have HCN : Hid (cat (hT t) (j + 1) 0 = cat (hT t) j 0 ++ (textS (t j)).data.toList) := hide (by rw [cat_snoc]; simp [hT])
          have HL2 : Hid ((t j).size ≤ 200 → ∀ q, q < j + 1 → (t q).size ≤ 200) := hide (fun h q hq => by
            rcases Nat.lt_or_ge q j with h' | h'
            · exact HL.out q h'
            · obtain rfl : q = j := by omega
              exact h)
          generalize t j = x at hc hts HCN HL2
          by_cases h200 : 200 < x.size
          · go_wp2
            go_ret
            exact ⟨rfl, hK⟩
          · have zt := textS_size (s := x) (by omega)
            have HB' : Hid ((sb ++ textS x).data.toList = cat (hN f) k 0 ++ cat (hT t) (j + 1) 0) := hide (by rw [HCN.out, ← List.append_assoc, ← HB.out]; simp)
            have zz : (sb ++ textS x).size ≤ 8 * k + 202 * (j + 1) := by rw [ByteArray.size_append, zt]; omega
            go_wp2_with fail
            refine (text_any x (by omega) _).mono ?_
            rintro e w3 ⟨rfl, k3⟩
            go_wp2
            go_roundw
            case rel => exact ⟨j + 1, _, hlt, by go_num, rfl, zz, HB', hide (HL2.out (by omega)), hK.trans0 k3⟩
            case measure => simp [intOf]; omega
        · obtain rfl : j = m := by omega
          go_wp2_with fail
          refine (new_ex sb _).mono ?_
          rintro e w4 ⟨g, rfl, hc, k4, hg⟩
          have hgw : w.heap.size ≤ g := Nat.le_trans hK.size hg
          have hK4 := hK.trans0 k4
          go_wp2
          go_loopw [13] (fun i wr => ∃ (q : Nat) (s : ByteArray), q ≤ k ∧ i = .int .i64 q ∧ s.size ≤ 4200 ∧ Hid (s.data.toList = cat (hN f) (k - q) q ++ cat (hT t) j 0) ∧ CutAt wr g s false ∧ Kept [] w wr) (fun i _ => k - (intOf i).toNat)
          case atStart => exact ⟨0, sb, Nat.zero_le _, rfl, by omega, HB, hc, hK4⟩
          case round =>
            clear hK hc k4 hK4
            obtain ⟨q, s, hqk, rfl, hsz, HS, hc, hK⟩ := hrel
            by_cases hlt : q < k
            · obtain ⟨bl, off, hA, _⟩ := HR.out q hlt
              subst hA
              have hcell : ∀ W, Kept [] w W → W.cell? ⟨bl, off + q, none⟩ = some (.int .u64 (f q)) := fun W hW => by
                obtain ⟨bl', off', h1, _, h2⟩ := (HR.out.kept0 hW) q hlt
                injection h1 with h1
                injection h1 with h1 h3
                subst h1
                subst h3
                exact h2
              obtain ⟨f0, f1⟩ := HF.out q hlt
              obtain ⟨r, hr⟩ : ∃ r, cat (hN f) (k - (q + 1)) (q + 1) ++ cat (hT t) j 0 = r := ⟨_, rfl⟩
              have HSR : s.data.toList = (numS (f q)).data.toList ++ r := by rw [HS.out, cat_head _ hlt, List.append_assoc, hr]; rfl
              obtain ⟨e1, e2, e3⟩ := cut_num f0 f1 HSR
              have hrs : (⟨r.toArray⟩ : ByteArray).size ≤ 4200 := by
                have h1 := congrArg List.length HSR
                rw [List.length_append, ← size_list] at h1
                rw [size_list]
                simp
                omega
              have HRR := hide hr
              have E1 := hide e1
              have E2 := hide e2
              have E3 := hide e3
              clear e1 e2 e3 HSR hr
              generalize f q = x at hcell E1
              have HC := hide hcell
              clear hcell
              go_upto_region 20 with (fail)
              have K0 : Kept [] w wr.drew := hK.drew
              have hcd : CutAt wr.drew g s false := Blk.drew hc
              go_region_held3 (fun W : World => W.cell? ⟨bl, off + q, none⟩ = some (.int .u64 x)) (exact HC.out _ K0) (first | (go_at_call 22; refine (cutnum_any g s false _ (by omega) hcd).mono ?_; rintro e w' ⟨rfl, hcd, k8⟩; rw [E1.out]; have K0 := K0.trans k8 (by simp; omega)))
              rw [E2.out, E3.out] at hcd
              go_wp2
              go_roundw
              case rel => exact ⟨q + 1, _, hlt, by go_num, hrs, hide HRR.out.symm, hcd, K0⟩
              case measure => simp [intOf]; omega
            · obtain rfl : q = k := by omega
              have HS4 : Hid (s.data.toList = cat (hT t) (j - 0) 0) := hide (by rw [HS.out, cat_end]; simp)
              go_wp2
              go_loopw [14] (fun i wr => ∃ (p : Nat) (s : ByteArray), p ≤ j ∧ i = .int .i64 p ∧ s.size ≤ 4200 ∧ Hid (s.data.toList = cat (hT t) (j - p) p) ∧ CutAt wr g s false ∧ Kept [] w wr) (fun i _ => j - (intOf i).toNat)
              case atStart => exact ⟨0, s, Nat.zero_le _, rfl, hsz, HS4, hc, hK⟩
              case round =>
                clear hK hc hsz HS HS4
                obtain ⟨p, s, hpj, rfl, hsz, HS, hc, hK⟩ := hrel
                by_cases hlt : p < j
                · obtain ⟨bl, off, hA, _⟩ := HQ.out p hlt
                  subst hA
                  have hcell : ∀ W, Kept [] w W → W.cell? ⟨bl, off + p, none⟩ = some (.string (t p)) := fun W hW => by
                    obtain ⟨bl', off', h1, _, h2⟩ := (HQ.out.kept0 hW) p hlt
                    injection h1 with h1
                    injection h1 with h1 h3
                    subst h1
                    subst h3
                    exact h2
                  have htp := HL.out p hlt
                  obtain ⟨r, hr⟩ : ∃ r, cat (hT t) (j - (p + 1)) (p + 1) = r := ⟨_, rfl⟩
                  have HSR : s.data.toList = (textS (t p)).data.toList ++ r := by rw [HS.out, cat_head _ hlt, hr]; rfl
                  obtain ⟨e1, e2, e3⟩ := cut_text (by omega) HSR
                  have hrs : (⟨r.toArray⟩ : ByteArray).size ≤ 4200 := by
                    have h1 := congrArg List.length HSR
                    rw [List.length_append, ← size_list] at h1
                    rw [size_list]
                    simp
                    omega
                  have HRR := hide hr
                  have E1 := hide e1
                  have E2 := hide e2
                  have E3 := hide e3
                  clear e1 e2 e3 HSR hr
                  generalize t p = x at hcell E1
                  have HC := hide hcell
                  clear hcell
                  go_upto_region 25 with (fail)
                  have K0 : Kept [] w wr.drew := hK.drew
                  have hcd : CutAt wr.drew g s false := Blk.drew hc
                  go_region_held3 (fun W : World => W.cell? ⟨bl, off + p, none⟩ = some (.string x)) (exact HC.out _ K0) (first | (go_at_call 24; refine (cuttext_any g s _ false (by omega) hcd).mono ?_; rintro e w' ⟨rfl, hcd, k8⟩; rw [E1.out]; have K0 := K0.trans k8 (by simp; omega)))
                  rw [E2.out, E3.out] at hcd
                  go_wp2
                  go_roundw
                  case rel => exact ⟨p + 1, _, hlt, by go_num, hrs, hide HRR.out.symm, hcd, K0⟩
                  case measure => simp [intOf]; omega
                · obtain rfl : p = j := by omega
                  have hs0 : s.size = 0 := by rw [size_list, HS.out, cat_end]; rfl
                  have hleft := left_any g s wr false hc
                  rw [hs0] at hleft
                  by_cases hb : sb.toList.isEmpty = true
                  · go_wp2_with fail
                    refine hleft.mono ?_
                    rintro e w9 ⟨rfl, rfl⟩
                    go_wp2_with fail
                    refine (err_f g s _ hc).mono ?_
                    rintro e w10 ⟨rfl, rfl⟩
                    go_wp2_with fail
                    refine hleft.mono ?_
                    rintro e w9 ⟨rfl, rfl⟩
                    go_wp2_with fail
                    refine (err_f g s _ hc).mono ?_
                    rintro e w10 ⟨rfl, rfl⟩
                    go_wp2
                    go_ret
                    exact ⟨rfl, hK⟩
                  · have hb1 : sb.toList.isEmpty = false := by simpa using hb
                    have hpos : 0 < sb.size := by
                      rcases Nat.eq_zero_or_pos sb.size with h | h
                      · exact absurd (bytes_nil h) hb
                      · exact h
                    clear hb
                    have hcv := conv_in
                    obtain ⟨hold, hcl, hfr⟩ := conv_facts sb wr
                    have hsi : (sb.size : Int) ≠ 0 := by omega
                    have hs2 : ((sb.size : Int) == 0) = false := by simpa using hsi
                    obtain ⟨ix, hix⟩ : ∃ ix : Nat, pl % (sb.size : Int) = (ix : Int) := ⟨(pl % (sb.size : Int)).toNat, (Int.toNat_of_nonneg (Int.emod_nonneg _ hsi)).symm⟩
                    have hixl : ix < sb.size := by
                      have := Int.emod_lt_of_pos pl (b := (sb.size : Int)) (by omega)
                      omega
                    have hixz : (ix : Int) < (sb.size : Int) := by omega
                    have cy := hcl ix hixl
                    have fy := hfr ix hixl
                    have HCL := hide hcl
                    clear hcl hfr
                    obtain ⟨y, hy⟩ : ∃ y : UInt8, sb.data.toList.getD ix 0 = y := ⟨_, rfl⟩
                    rw [hy] at cy
                    have HY := hide hy
                    clear hy
                    go_wp2_with fail
                    refine hleft.mono ?_
                    rintro e w9 ⟨rfl, rfl⟩
                    go_wp2_with fail
                    refine (err_f g s _ hc).mono ?_
                    rintro e w10 ⟨rfl, rfl⟩
                    clear hleft
                    go_wp2_with fail
                    have hk9 : Kept [] w (Lib.bytesWorld wr 5 sb) := hK.trans0 hold
                    have hgd : w.heap.size ≤ wr.heap.size := hK.size
                    generalize wr.heap.size = gd at *
                    generalize Lib.bytesWorld wr 5 sb = W9 at *
                    obtain ⟨b, hb, hby⟩ := xor_byte y bt b0 b1
                    have hcb := back_in W9 gd (grownCap wr sb.size 0 5) ix sb b HCL.out hixl
                    have hsum : (sumS ⟨(sb.data.toList.set ix b).toArray⟩ == sumS sb) = (bt == 0) := by
                      have hl : ix < sb.data.toList.length := by rw [← size_list]; exact hixl
                      have h1 := sum_set sb.data.toList ix hl b
                      have h2 : sb.data.toList[ix] = y := by
                        have h := HY.out
                        simp only [List.getD, List.getElem?_eq_getElem hl, Option.getD_some] at h
                        exact h
                      rw [h2, hby] at h1
                      rw [Bool.eq_iff_iff]
                      simp only [beq_iff_eq]
                      exact h1
                    have hz2 : (⟨(sb.data.toList.set ix b).toArray⟩ : ByteArray).size ≤ 9223372036854775807 := by
                      rw [size_list]
                      simp
                      omega
                    have HSUM := hide hsum
                    have HBB := hide hb
                    clear hsum hb hby
                    go_region
                    rw [HBB.out]
                    go_wp2_with fail
                    refine (sum_any _ hz2 _).mono ?_
                    rintro e w11 ⟨rfl, rfl⟩
                    go_wp2_with fail
                    refine (sum_any sb (by omega) _).mono ?_
                    rintro e w12 ⟨rfl, rfl⟩
                    have hfin := HSUM.out
                    have hkk := (hk9.setCell (p := ⟨gd, ix, none⟩) (.inr hgd) (.int .u8 (b.toNat : Int))).drew
                    by_cases hbt : bt = 0
                    · have hbz : (bt == 0) = true := by simp [hbt]
                      rw [hbz] at hfin
                      clear hbt
                      go_wp2
                      go_ret
                      exact ⟨rfl, hkk⟩
                    · have hbz : (bt == 0) = false := by simp [hbt]
                      rw [hbz] at hfin
                      clear hbt
                      go_wp2
                      go_ret
                      exact ⟨rfl, hkk⟩
end Go.Proofs.Ythifbmopfcfokaa
