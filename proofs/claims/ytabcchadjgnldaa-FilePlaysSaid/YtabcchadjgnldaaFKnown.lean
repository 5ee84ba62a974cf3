/- A file over a row of calls, made since a; what the statements on files hold against the program first: it is met. Conditions: at most 400 pages. -/
import Derived.Test.YtabcchadjgnldaaFCopy
import Derived.Test.YtabcchadjgnldaaErrs
namespace Go.Proofs.Ytabcchadjgnldaa
open Go.RowKit

/-- A file made since a. -/
def FileS (a w : World) (g : Nat) (N S : List ByteArray) (n : Nat) (L : Int → Bool) (F : List Nat) : Prop := FileAt w a.heap.size g N S n L F ∧ Kept [] a w
section
variable {a w w' : World} {g n n' : Nat} {N S N' S' : List ByteArray} {L L' : Int → Bool} {F F' G : List Nat}
theorem FileS.size (h : FileS a w g N S n L F) : a.heap.size ≤ w.heap.size := h.2.size
theorem FileS.turn (h : FileS a w g N S n L F) (h' : FileAt w' a.heap.size g N' S' n' L' F') (t : Turn F F' w w') : FileS a w' g N' S' n' L' F' := ⟨h', h.2.trans t.1 (fun x hx => .inr (h.1.lt x hx).1)⟩
theorem FileS.kept0 (h : FileS a w g N S n L F) (k : Kept [] w w') : FileS a w' g N S n L F := ⟨h.1.kept0 k, h.2.trans0 k⟩
/-- The blocks G were there, and are apart from F. -/
def Apart (w : World) (F G : List Nat) : Prop := ∀ x ∈ G, x < w.heap.size ∧ x ∉ F
theorem Apart.turn (h : Apart w F G) (t : Turn F F' w w') : Apart w' F' G := fun x hx => by
  obtain ⟨h1, h2⟩ := h x hx
  refine ⟨Nat.lt_of_lt_of_le h1 t.1.size, fun hf => ?_⟩
  rcases t.2 x hf with h3 | h3
  · exact h2 h3
  · omega
theorem Apart.kept0 (h : Apart w F G) (k : Kept [] w w') : Apart w' F G := fun x hx => ⟨Nat.lt_of_lt_of_le (h x hx).1 k.size, (h x hx).2⟩
theorem Own.apart {base : Nat} {v : Value} {l : List Int} (h : Own w base v l) (ha : Apart w F (blk v)) (k : Kept F w w') : Own w' base v l := h.kept k (fun x hx => (ha x (blk_mem hx)).2)
theorem FileAt.apart {base : Nat} (h : FileAt w base g N S n L G) (ha : Apart w F G) (k : Kept F w w') : FileAt w' base g N S n L G := h.kept k (fun x hx => (ha x hx).2)
end

section
variable (a : World) (g n : Nat) (N S : List ByteArray) (L : Int → Bool) (F : List Nat) (w : World)
theorem newS (A : Option Addr) (m c : Nat) (l : List ByteArray) (hK : Kept [] a w) (hmc : m ≤ c) (hl : l.length = m) (hm : m ≤ 400) (hr : Rd w A m (strs l)) : Calls Try.prog 9 #[.slice A m c] w fun e w' => ∃ g F, e = .returned (.pointer (some ⟨g, 0, none⟩)) ∧ FileS a w' g l l 0 (fun _ => false) F ∧ Kept [] w w' ∧ ∀ x ∈ F, w.heap.size ≤ x :=
  (newf_any w A m c l hmc hl hm hr).mono fun _ _ ⟨g, F, he, h, k⟩ => ⟨g, F, he, ⟨h.low hK.size, hK.trans0 k⟩, k, fun x hx => (h.lt x hx).1⟩
theorem writeS (k : Nat) (s : ByteArray) (h : FileS a w g N S n L F) (hN : N.length ≤ 400) (hk : k < 400) (hn : n < 100000000) : Calls Try.prog 11 #[.pointer (some ⟨g, 0, none⟩), .int .i64 k, .string s] w fun e w' => e = .returned .nilIface ∧ ∃ F', FileS a w' g ((padN N (k + 1 - N.length)).set k s) S (n + 500) (add (padL N L (k + 1 - N.length)) k) F' ∧ Turn F F' w w' :=
  (writef_any a.heap.size g n N S L F w k s h.1 hN hk hn).mono fun _ _ ⟨he, F', h1, t⟩ => ⟨he, F', h.turn h1 t, t⟩
theorem powerS (A : Option Addr) (K cc : Nat) (kf : Nat → Bool) (h : FileS a w g N S n L F) (hN : N.length ≤ 400) (hK : K ≤ 65536) (hr : Rd w A K (bols kf)) : Calls Try.prog 15 #[.pointer (some ⟨g, 0, none⟩), .slice A K cc] w fun e w' => e = .returned (.tuple #[]) ∧ ∃ F', FileS a w' g (trim (powN N S kf K (looseL L N.length) (looseL L N.length).length)) (trim (powN N S kf K (looseL L N.length) (looseL L N.length).length)) 0 (fun _ => false) F' ∧ Turn F F' w w' :=
  (powerf_any a.heap.size g n N S L F w A K cc kf h.1 hN h.size hK hr).mono fun _ _ ⟨he, F', h1, t⟩ => ⟨he, F', h.turn h1 t, t⟩
theorem syncS (h : FileS a w g N S n L F) (hN : N.length ≤ 400) : Calls Try.prog 13 #[.pointer (some ⟨g, 0, none⟩)] w fun e w' => e = .returned (.tuple #[]) ∧ ∃ F', FileS a w' g N N 0 (fun _ => false) F' ∧ Turn F F' w w' :=
  (syncf_any a.heap.size g n N S L F w h.1 hN h.size).mono fun _ _ ⟨he, F', h1, t⟩ => ⟨he, F', h.turn h1 t, t⟩
theorem looseS (h : FileS a w g N S n L F) (hN : N.length ≤ 400) : Calls Try.prog 19 #[.pointer (some ⟨g, 0, none⟩)] w fun e w' => ∃ A c, e = .returned (.slice A (looseL L N.length).length c) ∧ Own w' w.heap.size (.slice A (looseL L N.length).length c) (looseL L N.length) ∧ FileS a w' g N S n L F ∧ Kept [] w w' ∧ Rd w' A (looseL L N.length).length (ints (looseL L N.length)) ∧ Apart w' F (blk (.slice A (looseL L N.length).length c)) :=
  (loosef_any a.heap.size g n N S L F w h.1 hN).mono fun _ w' ⟨v, he, ho, k⟩ => by
    obtain ⟨A, c, rfl, _, hr, _⟩ := ho.shape
    refine ⟨A, c, he, ho, h.kept0 k, k, hr, fun x hx => ?_⟩
    obtain ⟨h1, h2⟩ := ho.lt x (mem_blk hx)
    exact ⟨h2, fun hf => by have := (h.1.lt x hf).2; omega⟩
theorem copyS (h : FileS a w g N S n L F) (hN : N.length ≤ 400) (hS : S.length ≤ 400) (hn : n < 100000) : Calls Try.prog 22 #[.pointer (some ⟨g, 0, none⟩)] w fun e w' => ∃ g2 F2, e = .returned (.pointer (some ⟨g2, 0, none⟩)) ∧ FileS a w' g2 N S n L F2 ∧ FileS a w' g N S n L F ∧ Kept [] w w' ∧ Apart w' F F2 ∧ Apart w' F2 F :=
  (copyf_any a.heap.size g n N S L F w h.1 hN hS hn).mono fun _ w' ⟨g2, F2, he, h2, k⟩ => by
    refine ⟨g2, F2, he, ⟨h2.low h.size, h.2.trans0 k⟩, h.kept0 k, k, fun x hx => ?_, fun x hx => ?_⟩
    · obtain ⟨h3, h4⟩ := h2.lt x hx
      exact ⟨h4, fun hf => by have := (h.1.lt x hf).2; omega⟩
    · have h3 := (h.1.lt x hx).2
      exact ⟨Nat.lt_of_lt_of_le h3 k.size, fun hf => by have := (h2.lt x hf).1; omega⟩
end

theorem k_w1 : (padN [⟨#[97]⟩] (2 + 1 - 1)).set 2 ⟨#[99]⟩ = [⟨#[97]⟩, ⟨#[]⟩, ⟨#[99]⟩] := by decide +kernel
theorem k_l1 : looseL (add (padL [⟨#[97]⟩] (fun _ => false) (2 + 1 - 1)) 2) 3 = [1, 2] := by decide +kernel
def k_keep (i : Nat) : Bool := decide (i = 1)
theorem k_p1 : trim (powN [⟨#[97]⟩, ⟨#[]⟩, ⟨#[99]⟩] [⟨#[97]⟩] k_keep 2 [1, 2] 2) = [⟨#[97]⟩, ⟨#[]⟩, ⟨#[99]⟩] := by decide +kernel
theorem k_a2 : at' [⟨#[97]⟩, ⟨#[]⟩, ⟨#[99]⟩] 2 = ⟨#[99]⟩ := by decide +kernel
theorem k_a1 : at' [⟨#[97]⟩, ⟨#[]⟩, ⟨#[99]⟩] 1 = ⟨#[]⟩ := by decide +kernel
theorem k_a9 : at' [⟨#[97]⟩, ⟨#[]⟩, ⟨#[99]⟩] 9 = ⟨#[]⟩ := by decide +kernel
theorem rd_two (w : World) (x y : Int) : Rd (w.alloc (.cells #[.int .i64 x, .int .i64 y] 3)) (some ⟨w.heap.size, 0, none⟩) 2 (ints [x, y]) := by
  intro k hk
  refine ⟨w.heap.size, 0, rfl, by simp, ?_⟩
  rw [(Blk.new w 3 _).cell]
  match k, hk with
  | 0, _ => rfl
  | 1, _ => rfl
theorem rd_keep (w : World) : Rd (w.alloc (.cells #[.bool false, .bool true] 4)) (some ⟨w.heap.size, 0, none⟩) 2 (bols k_keep) := by
  intro k hk
  refine ⟨w.heap.size, 0, rfl, by simp, ?_⟩
  rw [(Blk.new w 4 _).cell]
  match k, hk with
  | 0, _ => rfl
  | 1, _ => rfl

set_option maxRecDepth 100000 in
set_option maxHeartbeats 2000000 in
theorem known4_any (w : World) : Calls Try.prog 8 #[] w fun e w' => e = .returned (.bool true) ∧ Kept [] w w' := by
  go_enter Try.func8, Try.ntmps8
  go_wp2_with fail
  refine (newS w _ _ 1 1 [⟨#[97]⟩] ((Kept.refl _ _).alloc _) (by omega) rfl (by omega) (rd_oneS w _ _)).mono ?_
  rintro e w1 ⟨g, F1, rfl, h1, _, _⟩
  go_wp2_with fail
  refine (writeS w g _ _ _ _ _ w1 2 ⟨#[99]⟩ h1 (by simp) (by omega) (by omega)).mono ?_
  rintro e w2 ⟨rfl, F2, h2, _⟩
  rw [show ([⟨#[97]⟩] : List ByteArray).length = 1 from rfl, k_w1] at h2
  generalize hL : add (padL [⟨#[97]⟩] (fun _ => false) (2 + 1 - 1)) ((2 : Nat) : Int) = L at h2
  have HL := hide hL
  clear hL
  go_wp2_with fail
  refine (writef_no g w2 (-1) _ (.inl (by omega))).mono ?_
  rintro e w' ⟨rfl, rfl⟩
  go_wp2_with fail
  refine (writef_no g w2 400 _ (.inr (by omega))).mono ?_
  rintro e w' ⟨rfl, rfl⟩
  go_wp2_with fail
  refine (looseS w g _ _ _ _ _ w2 h2 (by simp)).mono ?_
  rintro e w3 ⟨A3, c3, rfl, ho3, h3, _, hr3, ha3⟩
  have hLL : looseL L 3 = [1, 2] := by rw [← HL.out]; exact k_l1
  simp only [show ([⟨#[97]⟩, ⟨#[]⟩, ⟨#[99]⟩] : List ByteArray).length = 3 from rfl, hLL] at ho3 hr3 ha3 ⊢
  simp only [show ([1, 2] : List Int).length = 2 from rfl] at ho3 hr3 ha3 ⊢
  have HLL := hide hLL
  clear hLL
  go_wp2_with fail
  refine (copyS w g _ _ _ _ _ w3 h3 (by simp) (by simp) (by omega)).mono ?_
  rintro e w4 ⟨g4, F4, rfl, hc4, h4, k4, ha4, _⟩
  have ho4 := ho3.kept0 k4
  have ha34 := ha3.kept0 k4
  clear ho3 hr3 ha3 h1 h2 h3
  go_wp2_with fail
  have k5 : Kept [] w4 (w4.alloc (.cells #[.bool false, .bool true] 4)) := (Kept.refl _ _).alloc _
  refine (powerS w g _ _ _ _ _ _ _ 2 2 k_keep (h4.kept0 k5) (by simp) (by omega) (rd_keep w4)).mono ?_
  rintro e w6 ⟨rfl, F6, h6, t6⟩
  simp only [show ([⟨#[97]⟩, ⟨#[]⟩, ⟨#[99]⟩] : List ByteArray).length = 3 from rfl, HLL.out, show ([1, 2] : List Int).length = 2 from rfl, k_p1] at h6
  have ho6 := (ho4.kept0 k5).apart (ha34.kept0 k5) t6.1
  have hc6 : FileS w w6 g4 _ _ _ _ F4 := ⟨(hc4.kept0 k5).1.apart (ha4.kept0 k5) t6.1, h6.2⟩
  clear h4 ho4 hc4 ha34 ha4 t6 k5
  go_wp2_with fail
  refine (is_same 14 _).mono ?_
  rintro e w' ⟨rfl, rfl⟩
  go_wp2_with fail
  refine (is_same 14 _).mono ?_
  rintro e w' ⟨rfl, rfl⟩
  have hr6 : Rd w6 A3 2 (ints [1, 2]) := by
    obtain ⟨A', c', e', _, hr', _⟩ := ho6.shape
    injection e' with e1 e2 e3
    subst e1
    exact hr'
  clear ho6
  go_wp2_with fail
  refine (same_any A3 (some ⟨w6.heap.size, 0, none⟩) 2 2 c3 2 [1, 2] [1, 2] _ rfl rfl (by omega) (by omega) (hr6.kept0 ((Kept.refl _ _).alloc _)) (rd_two w6 1 2)).mono ?_
  rintro e w7 ⟨rfl, q, rfl⟩
  have k7 : Kept [] w6 ((w6.alloc (.cells #[.int .i64 1, .int .i64 2] 3)).drewN q) := ((Kept.refl _ _).alloc _).drewN q
  have h7 := h6.kept0 k7
  have hc7 := hc6.kept0 k7
  rw [show decide (([1, 2] : List Int) = [1, 2]) = true from by decide]
  clear h6 hc6 hr6
  generalize (w6.alloc (.cells #[.int .i64 1, .int .i64 2] 3)).drewN q = w7 at h7 hc7 ⊢
  go_wp2_with fail
  refine (lenf_any _ g _ _ _ _ _ w7 h7.1).mono ?_
  rintro e w' ⟨rfl, rfl⟩
  go_wp2_with fail
  refine (readf_any _ g _ _ _ _ _ w7 2 h7.1).mono ?_
  rintro e w' ⟨rfl, rfl⟩
  rw [k_a2]
  go_wp2_with fail
  refine (readf_any _ g _ _ _ _ _ w7 1 h7.1).mono ?_
  rintro e w' ⟨rfl, rfl⟩
  rw [k_a1]
  go_wp2_with fail
  refine (readf_any _ g _ _ _ _ _ w7 9 h7.1).mono ?_
  rintro e w' ⟨rfl, rfl⟩
  rw [k_a9]
  go_wp2_with fail
  refine (looseS w g _ _ _ _ _ w7 h7 (by simp)).mono ?_
  rintro e w8 ⟨A8, c8, rfl, _, h8, k8, _, _⟩
  have hc8 := hc7.kept0 k8
  simp only [show looseL (fun _ => false) ([⟨#[97]⟩, ⟨#[]⟩, ⟨#[99]⟩] : List ByteArray).length = [] from by decide +kernel, List.length_nil]
  clear h7 hc7
  go_wp2_with fail
  refine (looseS w g4 _ _ _ _ _ w8 hc8 (by simp)).mono ?_
  rintro e w9 ⟨A9, c9, rfl, _, h9, k9, _, _⟩
  simp only [show ([⟨#[97]⟩, ⟨#[]⟩, ⟨#[99]⟩] : List ByteArray).length = 3 from rfl, HLL.out, show ([1, 2] : List Int).length = 2 from rfl]
  go_wp2
  go_ret
  exact ⟨rfl, h9.2⟩
end Go.Proofs.Ytabcchadjgnldaa
