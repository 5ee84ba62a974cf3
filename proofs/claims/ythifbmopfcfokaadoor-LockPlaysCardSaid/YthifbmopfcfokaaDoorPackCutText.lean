/- A text taken from the front of bytes: pack.Cut's Text and the reference's Text.
   Conditions: the cut lies whole in a block; the bytes are no more than an int counts. -/
import Derived.Test.YthifbmopfcfokaaDoorPackCutNum
import Derived.Deep.QuietTactic
import Derived.BigQuiet
namespace Go.Proofs.YthifbmopfcfokaaDoor
open Go.RowKit

/-- How long the text at the front is. -/
def textN (s : ByteArray) (h : 2 ≤ s.size) : Nat := s[0].toNat + s[1].toNat * 256
def ctB (s : ByteArray) (bad : Bool) : Bool := if h : 2 ≤ s.size then bad || decide (s.size < 2 + textN s h) else true
def ctV (s : ByteArray) (bad : Bool) : ByteArray := if ctB s bad then ⟨#[]⟩ else if h : 2 ≤ s.size then (s.extract 2 s.size).extract 0 (textN s h) else ⟨#[]⟩
def ctS (s : ByteArray) (bad : Bool) : ByteArray := if ctB s bad then s else if h : 2 ≤ s.size then (s.extract 2 s.size).extract (textN s h) (s.size - 2) else s

theorem ext2_full (s : ByteArray) (h2 : 2 ≤ s.size) : (s.extract 0 2).toList.isEmpty = false := by
  have h : (s.extract 0 2).size = 2 := by simp; omega
  rw [ByteArray.toList_eq]
  have e : (s.extract 0 2).data.toList.length = 2 := by simpa using h
  generalize (s.extract 0 2).data.toList = l at e
  match l, e with
  | [a, b], _ => rfl
theorem ext2_num (s : ByteArray) (h2 : 2 ≤ s.size) (h0 : 0 < (s.extract 0 2).size) (h1 : 1 < (s.extract 0 2).size) :
    wrap64 (wrap64 ((s.extract 0 2)[0].toNat : Int) + wrap64 (wrap64 ((s.extract 0 2)[1].toNat : Int) * 256)) = (textN s h2 : Int) := by
  have e0 : (s.extract 0 2)[0] = s[0] := by simp [ByteArray.getElem_extract]
  have e1 : (s.extract 0 2)[1] = s[1] := by simp [ByteArray.getElem_extract]
  have b0 := s[0].toNat_lt
  have b1 := s[1].toNat_lt
  rw [e0, e1]
  unfold textN wrap64
  omega

section
variable (g : Nat) (s : ByteArray) (w : World)

theorem ct_bad (s : ByteArray) : ctB s true = true ∧ ctV s true = ⟨#[]⟩ ∧ ctS s true = s := by
  have h : ctB s true = true := by unfold ctB; split <;> simp
  simp [ctV, ctS, h]
theorem ct_short {s : ByteArray} (bad : Bool) (h : s.size < 2) : ctB s bad = true ∧ ctV s bad = ⟨#[]⟩ ∧ ctS s bad = s := by
  have h' : ctB s bad = true := by rw [ctB, dif_neg (by omega)]
  simp [ctV, ctS, h']
theorem ct_lack {s : ByteArray} (bad : Bool) (h2 : 2 ≤ s.size) (h : s.size < 2 + textN s h2) : ctB s bad = true ∧ ctV s bad = ⟨#[]⟩ ∧ ctS s bad = s := by
  have h' : ctB s bad = true := by rw [ctB, dif_pos h2]; simp [h]
  simp [ctV, ctS, h']
theorem ct_good {s : ByteArray} (h2 : 2 ≤ s.size) (h : 2 + textN s h2 ≤ s.size) : ctB s false = false ∧ ctV s false = (s.extract 2 s.size).extract 0 (textN s h2) ∧ ctS s false = (s.extract 2 s.size).extract (textN s h2) (s.size - 2) := by
  have h' : ctB s false = false := by rw [ctB, dif_pos h2]; simp; omega
  simp [ctV, ctS, h', h2]

end
end Go.Proofs.YthifbmopfcfokaaDoor
