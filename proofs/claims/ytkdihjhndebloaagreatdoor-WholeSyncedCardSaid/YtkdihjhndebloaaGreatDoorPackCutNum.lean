/- A number taken from the front of bytes: pack.Cut's Num and the reference's Num.
   Conditions: the cut lies whole in a block; the bytes are no more than an int counts. -/
import Derived.Test.YtkdihjhndebloaaGreatDoorPackTake
import Derived.Laws.BitsAllLaws
namespace Go.Proofs.YtkdihjhndebloaaGreatDoor
open Go.RowKit

theorem takeV_size (s : ByteArray) (bad : Bool) (n : Nat) : (takeV s bad n).size ≤ n := by
  unfold takeV
  split
  · simp [ByteArray.size]
  · simp
    omega

/-- What bytes say as a number, the lowest first, as the walk writes it. -/
def numF (l : List UInt8) : Int := l.foldr (fun b x => bits .or .u64 (IntKind.u64.wrap (x * 256)) (IntKind.u64.wrap b.toNat)) 0
/-- What is taken as a number. -/
def cutN (s : ByteArray) (bad : Bool) : Int := numF (takeV s bad 8).data.toList
/-- The number that bytes say, the lowest first. -/
def leV (l : List UInt8) : Nat := l.foldr (fun b x => x * 256 + b.toNat) 0

theorem leV_bd (l : List UInt8) : leV l < 256 ^ l.length := by
  induction l with
  | nil => simp [leV]
  | cons b l ih =>
    have hb := b.toNat_lt
    simp only [leV, List.foldr_cons, List.length_cons, Nat.pow_succ] at ih ⊢
    omega
theorem or_join (x : Nat) (b : UInt8) (h1 : x < 72057594037927936) : bits .or .u64 (IntKind.u64.wrap ((x : Int) * 256)) (IntKind.u64.wrap (b.toNat : Int)) = ((x * 256 + b.toNat : Nat) : Int) := by
  have hb := b.toNat_lt
  have e1 : IntKind.u64.wrap ((x : Int) * 256) = ((x * 256 : Nat) : Int) := by rw [IntKind.wrap_u64]; omega
  have e2 : IntKind.u64.wrap (b.toNat : Int) = (b.toNat : Int) := by rw [IntKind.wrap_u64]; omega
  rw [e1, e2, u64_or_nat _ _ (by omega) (by omega), nat_join 8 _ _ (by omega) (by omega)]
theorem numF_leV : ∀ l : List UInt8, l.length ≤ 8 → numF l = (leV l : Int)
  | [], _ => rfl
  | b :: l, h => by
    have h' : l.length ≤ 7 := by simpa using h
    have ih := numF_leV l (by omega)
    have hb := leV_bd l
    have hp : 256 ^ l.length ≤ 256 ^ 7 := Nat.pow_le_pow_right (by omega) h'
    have he : 256 ^ 7 = 72057594037927936 := by decide
    rw [he] at hp
    have hx : leV l < 72057594037927936 := Nat.lt_of_lt_of_le hb hp
    show bits .or .u64 (IntKind.u64.wrap (numF l * 256)) (IntKind.u64.wrap (b.toNat : Int)) = ((leV l * 256 + b.toNat : Nat) : Int)
    rw [ih, or_join _ _ hx]

theorem numF_step (b : ByteArray) (k : Nat) (h' : k < b.size) : Value.int .u64 (bits .or .u64 (IntKind.u64.wrap (numF (b.data.toList.drop (k + 1)) * 256)) (IntKind.u64.wrap (b[k].toNat : Int))) = .int .u64 (numF (b.data.toList.drop k)) := by
  have e := List.drop_eq_getElem_cons (l := b.data.toList) (i := k) (by simpa using h')
  rw [e]
  rfl
theorem numF_end (b : ByteArray) : Value.int .u64 (numF (b.data.toList.drop b.size)) = .int .u64 0 := by
  rw [List.drop_of_length_le (by simp)]
  rfl

section
variable (g : Nat) (s : ByteArray) (bad : Bool) (w : World)
set_option maxRecDepth 100000 in
theorem cutnum_any (hs : s.size ≤ 9223372036854775807) (h : CutAt w g s bad) :
    Calls Tryz.prog 115 #[.pointer (some ⟨g, 0, none⟩)] w fun e w' => e = .returned (.int .u64 (cutN s bad)) ∧ Took CutAt w w' g s bad 8 := by
  unfold cutN
  go_enter Tryz.func115, Tryz.ntmps115
  go_wp2_with fail
  refine (take_any g s w bad 8 (by omega) hs h).mono ?_
  rintro e w1 ⟨rfl, ht⟩
  have hb := takeV_size s bad 8
  simp only [show (8 : Int).toNat = 8 from rfl] at ht ⊢
  generalize hbv : takeV s bad 8 = b at hb ⊢
  have HB := hide hbv
  clear hbv
  go_wp2
  go_loop [4, 5] (fun n i => ∃ k : Nat, k ≤ b.size ∧ i = .int .i64 ((k : Int) - 1) ∧ n = .int .u64 (numF (b.data.toList.drop k))) (fun _ i => (intOf i + 1).toNat)
  case atStart => exact ⟨b.size, Nat.le_refl _, rfl, (numF_end b).symm⟩
  case round =>
    obtain ⟨k, hk, rfl, rfl⟩ := hrel
    rcases k with _ | k
    · go_wp2
      go_ret
      exact ⟨by rw [HB.out]; rfl, ht⟩
    · have e1 : ((k + 1 : Nat) : Int) - 1 = k := by omega
      rw [e1]
      clear e1
      have hlt : k < b.size := by omega
      go_wp2
      go_round
      case rel => exact ⟨k, by omega, rfl, numF_step b k hlt⟩
      case measure => simp [intOf]

set_option maxRecDepth 100000 in
theorem cutnumr_any (hs : s.size ≤ 9223372036854775807) (h : RefAt w g s bad) :
    Calls Tryz.prog 124 #[.pointer (some ⟨g, 0, none⟩)] w fun e w' => e = .returned (.int .u64 (cutN s bad)) ∧ Took RefAt w w' g s bad 8 := by
  unfold cutN
  go_enter Tryz.func124, Tryz.ntmps124
  go_wp2_with fail
  refine (taker_any g s w bad 8 (by omega) hs h).mono ?_
  rintro e w1 ⟨rfl, ht⟩
  have hb := takeV_size s bad 8
  simp only [show (8 : Int).toNat = 8 from rfl] at ht ⊢
  generalize hbv : takeV s bad 8 = b at hb ⊢
  have HB := hide hbv
  clear hbv
  go_wp2
  go_loop [4, 5] (fun n i => ∃ k : Nat, k ≤ b.size ∧ i = .int .i64 ((k : Int) - 1) ∧ n = .int .u64 (numF (b.data.toList.drop k))) (fun _ i => (intOf i + 1).toNat)
  case atStart => exact ⟨b.size, Nat.le_refl _, rfl, (numF_end b).symm⟩
  case round =>
    obtain ⟨k, hk, rfl, rfl⟩ := hrel
    rcases k with _ | k
    · go_wp2
      go_ret
      exact ⟨by rw [HB.out]; rfl, ht⟩
    · have e1 : ((k + 1 : Nat) : Int) - 1 = k := by omega
      rw [e1]
      clear e1
      have hlt : k < b.size := by omega
      go_wp2
      go_round
      case rel => exact ⟨k, by omega, rfl, numF_step b k hlt⟩
      case measure => simp [intOf]
end
end Go.Proofs.YtkdihjhndebloaaGreatDoor
