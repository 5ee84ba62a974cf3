/- A file and the reference's file side by side, and one step beside them: what each call does to the three. Conditions: at most 400 pages. -/
import Derived.Test.YtabcchadjgnldaaRPower
import Derived.Test.YtabcchadjgnldaaFLoosePlain
import Derived.Test.YtabcchadjgnldaaFCopies
namespace Go.Proofs.Ytabcchadjgnldaa
open Go.RowKit

theorem ins_row (N : List ByteArray) (L : Int → Bool) : ∀ j, insN (looseL L N.length) N.length j = looseL (padL N L j) (N.length + j)
  | 0 => rfl
  | j + 1 => by
    show insL ((N.length + j : Nat) : Int) (insN (looseL L N.length) N.length j) = looseL (add (padL N L j) ((N.length + j : Nat) : Int)) (N.length + (j + 1))
    rw [ins_row N L j, ins_last, Nat.add_assoc]
theorem ins_write (N : List ByteArray) (L : Int → Bool) (k : Nat) : insL k (insN (looseL L N.length) N.length (k + 1 - N.length)) = looseL (add (padL N L (k + 1 - N.length)) k) (max N.length (k + 1)) := by
  rw [ins_row, ins_loose _ _ _ (by omega), show N.length + (k + 1 - N.length) = max N.length (k + 1) from by omega]
theorem loose_none (k : Nat) : looseL (fun _ => false) k = [] := by simp [looseL]

/-- A file at g (N, S, L) and the reference's at r (V, D, l), apart from one another. -/
def Pair (w wz : World) (g r n : Nat) (N S : List ByteArray) (L : Int → Bool) (V D : List ByteArray) (l : List Int) : Prop := ∃ F G, FileS w wz g N S n L F ∧ RefAt wz w.heap.size r V D l G ∧ Apart wz F G
/-- .. and a block b of a type t beside the two. -/
def PairX (w wz : World) (g r n : Nat) (N S : List ByteArray) (L : Int → Bool) (V D : List ByteArray) (l : List Int) (b : Nat) (t : TypeId) (cs : Array Value) : Prop := ∃ F G, FileS w wz g N S n L F ∧ RefAt wz w.heap.size r V D l G ∧ Apart wz F G ∧ Blk wz b t cs ∧ b ∉ F ∧ b ∉ G

section
variable {w wz wy : World} {g r n : Nat} {N S : List ByteArray} {L : Int → Bool} {V D : List ByteArray} {l : List Int} {b : Nat} {t : TypeId} {cs : Array Value}
theorem RefAt.self {base : Nat} {G : List Nat} (h : RefAt wz base r V D l G) : r ∈ G := by
  obtain ⟨vv, dv, lv, rfl, _⟩ := h
  simp
theorem Pair.all (h : Pair w wz g r n N S L V D l) : Kept [] w wz := by
  obtain ⟨_, _, h, _⟩ := h
  exact h.2
theorem Pair.kept0 (h : Pair w wz g r n N S L V D l) (k : Kept [] wz wy) : Pair w wy g r n N S L V D l := by
  obtain ⟨F, G, h1, h2, h3⟩ := h
  exact ⟨F, G, h1.kept0 k, h2.kept0 k, h3.kept0 k⟩
theorem PairX.all (h : PairX w wz g r n N S L V D l b t cs) : Kept [] w wz := by
  obtain ⟨_, _, h, _⟩ := h
  exact h.2
theorem PairX.drop (h : PairX w wz g r n N S L V D l b t cs) : Pair w wz g r n N S L V D l := by
  obtain ⟨F, G, h1, h2, h3, _⟩ := h
  exact ⟨F, G, h1, h2, h3⟩
theorem PairX.blk (h : PairX w wz g r n N S L V D l b t cs) : Blk wz b t cs := by
  obtain ⟨_, _, _, _, _, h, _⟩ := h
  exact h
theorem PairX.kept0 (h : PairX w wz g r n N S L V D l b t cs) (k : Kept [] wz wy) : PairX w wy g r n N S L V D l b t cs := by
  obtain ⟨F, G, h1, h2, h3, h4, h5, h6⟩ := h
  exact ⟨F, G, h1.kept0 k, h2.kept0 k, h3.kept0 k, h4.kept0 k, h5, h6⟩
theorem Pair.made (h : Pair w wz g r n N S L V D l) (t : TypeId) (cs : Array Value) : PairX w (wz.alloc (.cells cs t)) g r n N S L V D l wz.heap.size t cs := by
  obtain ⟨F, G, h1, h2, h3⟩ := h
  have k := (Kept.refl [] wz).alloc (.cells cs t)
  exact ⟨F, G, h1.kept0 k, h2.kept0 k, h3.kept0 k, Blk.new _ _ _, fun hx => absurd (h1.1.lt _ hx).2 (Nat.lt_irrefl _), fun hx => absurd (h2.lt _ hx).2 (Nat.lt_irrefl _)⟩
/-- The file has turned. -/
theorem PairX.file {n' : Nat} {N' S' : List ByteArray} {L' : Int → Bool} {F F' G : List Nat} (_ : FileS w wz g N S n L F) (h2 : RefAt wz w.heap.size r V D l G) (h3 : Apart wz F G) (h4 : Blk wz b t cs) (h5 : b ∉ F) (h6 : b ∉ G) (h : FileS w wy g N' S' n' L' F') (k : Turn F F' wz wy) : PairX w wy g r n' N' S' L' V D l b t cs :=
  ⟨F', G, h, h2.kept k.1 (fun x hx => (h3 x hx).2), h3.turn k, h4.kept k.1 h5, fun hx => by
    rcases k.2 b hx with h | h
    · exact h5 h
    · exact absurd h4.lt (by omega), h6⟩
/-- The reference's file has turned. -/
theorem PairX.ref {V' D' : List ByteArray} {l' : List Int} {F G G' : List Nat} (h1 : FileS w wz g N S n L F) (h2 : RefAt wz w.heap.size r V D l G) (h3 : Apart wz F G) (h4 : Blk wz b t cs) (h5 : b ∉ F) (h6 : b ∉ G) (h : RefAt wy w.heap.size r V' D' l' G') (k : Kept [r] wz wy) (hG : ∀ x ∈ G', x ∈ G ∨ wz.heap.size ≤ x) : PairX w wy g r n N S L V' D' l' b t cs := by
  have hr := h2.self
  refine ⟨F, G', ⟨h1.1.kept k (fun x hx he => ?_), h1.2.trans k (fun x hx => ?_)⟩, h, fun x hx => ⟨(h.lt x hx).2, fun hf => ?_⟩, h4.kept k (fun hb => ?_), h5, fun hx => ?_⟩
  · simp at he
    subst he
    exact (h3 x hr).2 hx
  · simp at hx
    subst hx
    exact .inr (h2.lt x hr).1
  · rcases hG x hx with h | h
    · exact (h3 x h).2 hf
    · have := (h1.1.lt x hf).2
      omega
  · simp at hb
    subst hb
    exact h6 hr
  · rcases hG b hx with h | h
    · exact h6 h
    · exact absurd h4.lt (by omega)
end

section
variable (w wz : World) (g r n : Nat) (N S : List ByteArray) (L : Int → Bool) (V D : List ByteArray) (l : List Int) (b : Nat) (t : TypeId) (cs : Array Value)
theorem write_P (k : Nat) (s : ByteArray) (h : PairX w wz g r n N S L V D l b t cs) (hN : N.length ≤ 400) (hk : k < 400) (hn : n < 100000000) : Calls Try.prog 11 #[.pointer (some ⟨g, 0, none⟩), .int .i64 k, .string s] wz fun e w' => e = .returned .nilIface ∧ PairX w w' g r (n + 500) ((padN N (k + 1 - N.length)).set k s) S (add (padL N L (k + 1 - N.length)) k) V D l b t cs := by
  obtain ⟨F, G, h1, h2, h3, h4, h5, h6⟩ := h
  exact (writeS w g n N S L F wz k s h1 hN hk hn).mono fun _ _ ⟨he, F', h, k⟩ => ⟨he, PairX.file h1 h2 h3 h4 h5 h6 h k⟩
theorem writer_P (k : Nat) (s : ByteArray) (h : PairX w wz g r n N S L V D l b t cs) (hV : V.length ≤ 400) (hl : l.length ≤ 50000) (hk : k < 400) : Calls Try.prog 12 #[.pointer (some ⟨r, 0, none⟩), .int .i64 k, .string s] wz fun e w' => e = .returned (.int .i64 0) ∧ PairX w w' g r n N S L ((padN V (k + 1 - V.length)).set k s) D (insL k (insN l V.length (k + 1 - V.length))) b t cs := by
  obtain ⟨F, G, h1, h2, h3, h4, h5, h6⟩ := h
  exact (writer_any w.heap.size r V D l G wz k s h2 hV hl hk).mono fun _ _ ⟨he, G', h, k, hG⟩ => ⟨he, PairX.ref h1 h2 h3 h4 h5 h6 h k hG⟩
theorem write_Pf (i : Int) (s : ByteArray) (h : PairX w wz g r n N S L V D l b t cs) (hi : i < 0 ∨ 400 ≤ i) : Calls Try.prog 11 #[.pointer (some ⟨g, 0, none⟩), .int .i64 i, .string s] wz fun e w' => e = .returned (.iface 53 (.int .i64 14)) ∧ PairX w w' g r n N S L V D l b t cs :=
  (writef_no g wz i s hi).mono fun _ _ ⟨he, hw⟩ => ⟨he, hw ▸ h⟩
theorem writer_Pf (i : Int) (s : ByteArray) (h : PairX w wz g r n N S L V D l b t cs) (hi : i < 0 ∨ 400 ≤ i) : Calls Try.prog 12 #[.pointer (some ⟨r, 0, none⟩), .int .i64 i, .string s] wz fun e w' => e = .returned (.int .i64 14) ∧ PairX w w' g r n N S L V D l b t cs :=
  (writer_no r wz i s hi).mono fun _ _ ⟨he, hw⟩ => ⟨he, hw ▸ h⟩
theorem sync_P (h : PairX w wz g r n N S L V D l b t cs) (hN : N.length ≤ 400) : Calls Try.prog 13 #[.pointer (some ⟨g, 0, none⟩)] wz fun e w' => e = .returned (.tuple #[]) ∧ PairX w w' g r 0 N N (fun _ => false) V D l b t cs := by
  obtain ⟨F, G, h1, h2, h3, h4, h5, h6⟩ := h
  exact (syncS w g n N S L F wz h1 hN).mono fun _ _ ⟨he, F', h, k⟩ => ⟨he, PairX.file h1 h2 h3 h4 h5 h6 h k⟩
theorem syncr_P (h : PairX w wz g r n N S L V D l b t cs) (hV : V.length ≤ 400) : Calls Try.prog 14 #[.pointer (some ⟨r, 0, none⟩)] wz fun e w' => e = .returned (.tuple #[]) ∧ PairX w w' g r n N S L V V [] b t cs := by
  obtain ⟨F, G, h1, h2, h3, h4, h5, h6⟩ := h
  exact (syncr_any w.heap.size r V D l G wz h2 hV h1.size).mono fun _ _ ⟨he, G', h, k, hG⟩ => ⟨he, PairX.ref h1 h2 h3 h4 h5 h6 h k hG⟩
theorem power_P (A : Option Addr) (K cc : Nat) (kf : Nat → Bool) (h : PairX w wz g r n N S L V D l b t cs) (hN : N.length ≤ 400) (hK : K ≤ 65536) (hr : Rd w A K (bols kf)) : Calls Try.prog 15 #[.pointer (some ⟨g, 0, none⟩), .slice A K cc] wz fun e w' => e = .returned (.tuple #[]) ∧ PairX w w' g r 0 (trim (powN N S kf K (looseL L N.length) (looseL L N.length).length)) (trim (powN N S kf K (looseL L N.length) (looseL L N.length).length)) (fun _ => false) V D l b t cs := by
  obtain ⟨F, G, h1, h2, h3, h4, h5, h6⟩ := h
  exact (powerS w g n N S L F wz A K cc kf h1 hN hK (hr.kept0 h1.2)).mono fun _ _ ⟨he, F', h, k⟩ => ⟨he, PairX.file h1 h2 h3 h4 h5 h6 h k⟩
theorem powr_P (A : Option Addr) (K cc : Nat) (kf : Nat → Bool) (h : PairX w wz g r n N S L V D l b t cs) (hV : V.length ≤ 400) (hl : l.length ≤ 400) (hlm : ∀ x ∈ l, ∃ p : Nat, p < V.length ∧ x = p) (hr : Rd w A K (bols kf)) : Calls Try.prog 16 #[.pointer (some ⟨r, 0, none⟩), .slice A K cc] wz fun e w' => e = .returned (.tuple #[]) ∧ PairX w w' g r n N S L (trim (powN V D kf K l l.length)) (trim (powN V D kf K l l.length)) [] b t cs := by
  obtain ⟨F, G, h1, h2, h3, h4, h5, h6⟩ := h
  exact (powr_any w.heap.size r V D l G wz A K cc kf h2 hV hl hlm h1.size (hr.kept0 h1.2)).mono fun _ _ ⟨he, G', h, k, hG⟩ => ⟨he, PairX.ref h1 h2 h3 h4 h5 h6 h k hG⟩
theorem len_P (m : Nat) (hm : N.length = m) (h : Pair w wz g r n N S L V D l) : Calls Try.prog 17 #[.pointer (some ⟨g, 0, none⟩)] wz fun e w' => e = .returned (.int .i64 m) ∧ wz = w' := by
  obtain ⟨F, G, h1, _⟩ := h
  subst hm
  exact lenf_any w.heap.size g n N S L F wz h1.1
theorem loose_P (q : List Int) (m : Nat) (hq : looseL L N.length = q) (hm : q.length = m) (h : Pair w wz g r n N S L V D l) (hN : N.length ≤ 400) : Calls Try.prog 19 #[.pointer (some ⟨g, 0, none⟩)] wz fun e w' => ∃ A c, e = .returned (.slice A m c) ∧ Kept [] wz w' ∧ Rd w' A m (ints q) := by
  obtain ⟨F, G, h1, _⟩ := h
  subst hq
  subst hm
  exact (looseS w g n N S L F wz h1 hN).mono fun _ _ ⟨A, c, he, _, _, k, hr, _⟩ => ⟨A, c, he, k, hr⟩
theorem read_P (i : Int) (h : Pair w wz g r n N S L V D l) : Calls Try.prog 20 #[.pointer (some ⟨g, 0, none⟩), .int .i64 i] wz fun e w' => e = .returned (.string (at' N i)) ∧ wz = w' := by
  obtain ⟨F, G, h1, _⟩ := h
  exact readf_any w.heap.size g n N S L F wz i h1.1
theorem readr_P (i : Int) (h : Pair w wz g r n N S L V D l) : Calls Try.prog 21 #[.pointer (some ⟨r, 0, none⟩), .int .i64 i] wz fun e w' => e = .returned (.string (at' V i)) ∧ wz = w' := by
  obtain ⟨F, G, _, h2, _⟩ := h
  exact readr_any w.heap.size r V D l G wz i h2
theorem same_P (A B : Option Addr) (m c d : Nat) (q : List Int) (hm : q.length = m) (hb : m ≤ 9223372036854775807) (ha : Rd wz A m (ints q)) (hr : Rd wz B m (ints q)) : Calls Try.prog 18 #[.slice A m c, .slice B m d] wz fun e w' => e = .returned (.bool true) ∧ ∃ z, w' = wz.drewN z :=
  (same_any A B m m c d q q wz hm hm hb hb ha hr).mono fun e w' ⟨he, hw⟩ => ⟨by rw [he]; simp, hw⟩
/-- What the reference's file shows to one who reads its fields. -/
theorem Pair.refs (h : Pair w wz g r n N S L V D l) : ∃ A c B d, wz.cell? ⟨r, 0, none⟩ = some (.slice A V.length c) ∧ wz.cell? ⟨r, 2, none⟩ = some (.slice B l.length d) ∧ Rd wz B l.length (ints l) ∧ r < wz.heap.size := by
  obtain ⟨F, G, _, ⟨vv, dv, lv, rfl, h1, h2, h3, h4, h5⟩, _⟩ := h
  obtain ⟨A, c, rfl, _⟩ := h2.shape
  obtain ⟨B, d, rfl, _, hr, _⟩ := h4.shape
  exact ⟨A, c, B, d, h1.cell 0, h1.cell 2, hr, h1.lt⟩
end
end Go.Proofs.Ytabcchadjgnldaa
