/- A file: Sync; Loose. Conditions: its rows and its map are the call's own; at most 400 pages. -/
import Derived.Test.YtabcchadjgnldaaFNew
namespace Go.Proofs.Ytabcchadjgnldaa
open Go.RowKit

/-- From w to w' just the blocks F have turned; what lies in F' lay there, or is new. -/
def Turn (F F' : List Nat) (w w' : World) : Prop := Kept F w w' ∧ ∀ x ∈ F', x ∈ F ∨ w.heap.size ≤ x
theorem Turn.trans {F F' F'' : List Nat} {a b c : World} (h : Turn F F' a b) (k : Turn F' F'' b c) : Turn F F'' a c :=
  ⟨h.1.trans k.1 h.2, fun x hx => by
    rcases k.2 x hx with h1 | h1
    · exact h.2 x h1
    · exact .inr (Nat.le_trans h.1.size h1)⟩
theorem Turn.same {F : List Nat} {w w' : World} (k : Kept [] w w') : Turn F F w w' := ⟨k.more (by simp), fun _ hx => .inl hx⟩

section
variable (base g n : Nat) (N S : List ByteArray) (L : Int → Bool) (F : List Nat) (w : World)
set_option maxRecDepth 100000 in
theorem syncf_any (h : FileAt w base g N S n L F) (hN : N.length ≤ 400) (hb : base ≤ w.heap.size) : Calls Try.prog 13 #[.pointer (some ⟨g, 0, none⟩)] w fun e w' => e = .returned (.tuple #[]) ∧ ∃ F', FileAt w' base g N N 0 (fun _ => false) F' ∧ Turn F F' w w' := by
  have hmk := mk_map
  obtain ⟨nv, sv, b, rfl, h1, h2, h3, h4, h5, h6, h7⟩ := h
  obtain ⟨A, c, rfl, hm, hr, _⟩ := h2.shape
  have c0 : w.cell? ⟨g, 0, none⟩ = some (.slice A N.length c) := h1.cell 0
  have HC := hide (cloneS_any A N.length c N w rfl (by omega) hr)
  have H1 := hide h1
  have H2 := hide h2
  clear h1 h2 h3 h4 h7 hr hm
  generalize hl : N.length = m at c0 HC H1 H2
  have HL := hide hl
  clear hl
  go_enter Try.func13, Try.ntmps13
  go_wp2_with fail
  refine HC.out.mono ?_
  rintro e w1 ⟨v1, rfl, ho1, k1⟩
  have hb1 := H1.out.kept0 k1
  have hn1 := H2.out.kept0 k1
  obtain ⟨A1, c1, rfl, _, _, _⟩ := ho1.shape
  have d1 : w1.cell? ⟨g, 1, none⟩ = some sv := hb1.cell 1
  have d2 : w1.cell? ⟨g, 2, none⟩ = some (.map (some b)) := hb1.cell 2
  have f1 := hb1.free 1
  have f2 := hb1.free 2
  have hg1 := hb1.lt
  have HB := hide hb1
  have HO := hide ho1
  have HN := hide hn1
  clear hb1 ho1 hn1
  go_wp2
  go_end0
  have kk : Kept [g] w1 ((w1.setCell ⟨g, 1, none⟩ (.slice A1 N.length c1)).setCell ⟨g, 2, none⟩ (.map (some w1.heap.size))) := ((Kept.refl [g] w1).setCell (by simp) _).setCell (by simp) _
  have hB := (HB.out.set 1 (.slice A1 N.length c1)).set 2 (.map (some w1.heap.size))
  have hz : ((w1.setCell ⟨g, 1, none⟩ (.slice A1 N.length c1)).setCell ⟨g, 2, none⟩ (.map (some w1.heap.size))).heap.size = w1.heap.size := by simp [World.setCell]
  have hgn : g ∉ blk (.slice A m c) := ownS_ne H2.out H1.out (by decide)
  have hg0 : g ∉ blk (.slice A1 N.length c1) := fun hx => by
    have := (HO.out.lt g (mem_blk hx)).1
    have := H1.out.lt
    omega
  have hM := SetAt.made ((w1.setCell ⟨g, 1, none⟩ (.slice A1 N.length c1)).setCell ⟨g, 2, none⟩ (.map (some w1.heap.size)))
  rw [hz] at hM
  have ho := (HO.out.kept kk (fun x hx => by
    have : x ≠ g := fun e => hg0 (e ▸ blk_mem hx)
    simpa using this)).kept0 ((Kept.refl _ _).alloc (.map #[] 0))
  have hn := (HN.out.kept kk (fun x hx => by
    have : x ≠ g := fun e => hgn (e ▸ blk_mem hx)
    simpa using this)).kept0 ((Kept.refl _ _).alloc (.map #[] 0))
  refine ⟨rfl, _, ⟨_, _, _, rfl, hB.alloc _, hn, ho.base hb, hM, h5, Nat.le_trans hb k1.size, fun x hx hx2 => ?_⟩, ((k1.more (S' := g :: b :: (blk (.slice A m c) ++ blk sv)) (by simp)).trans (kk.more (S' := g :: b :: (blk (.slice A m c) ++ blk sv)) (by simp)) (fun x hx => .inl hx)).alloc _, fun x hx => ?_⟩
  · have q1 := (H2.out.lt x (mem_blk hx)).2
    have q2 := (HO.out.lt x (mem_blk hx2)).1
    omega
  · rcases List.mem_cons.1 hx with rfl | hx
    · exact .inl (by simp)
    rcases List.mem_cons.1 hx with rfl | hx
    · exact .inr k1.size
    rcases List.mem_append.1 hx with hx | hx
    · exact .inl (by simp [hx])
    · exact .inr (HO.out.lt x (mem_blk hx)).1
end
end Go.Proofs.Ytabcchadjgnldaa
