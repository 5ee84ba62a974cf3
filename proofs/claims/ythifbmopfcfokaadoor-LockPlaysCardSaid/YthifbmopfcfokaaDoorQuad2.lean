/- The program's lock and processes beside the document's: Sweep, Spawn, Kill; what both show. Conditions: at most 64 live, numbers fit their types. -/
import Derived.Test.YthifbmopfcfokaaDoorQuad
namespace Go.Proofs.YthifbmopfcfokaaDoor
open Go.RowKit

section
variable (a : World) (gl g : Nat) (ow : Int) (p t : Nat → Int) (l : List Int) (last : Int) (S : List Nat) (w : World)
set_option maxRecDepth 100000 in
theorem sweep_K (h : LockAt w gl ow p t) (hp : Live a w g l last S) (hS : gl ∈ S) (hg : a.heap.size ≤ gl) : Calls Tryd.prog 18 #[.pointer (some ⟨gl, 0, none⟩), .pointer (some ⟨g, 0, none⟩)] w fun e w' => e = .returned (.int .i64 (cnt p l 8)) ∧ LockAt w' gl ow (swp p p l 8) (swp p t l 8) ∧ Kept [gl] w w' := by
  have hgl := Blk.lt h
  obtain ⟨c1, c2, c3, c4, c5, c6, c7, c8, c9, c10, c11, c12, c13, c14, c15, c16⟩ := h.cells
  have HL := hide h
  have HP : Hid (∀ W, Kept [gl] w W → Live a W g l last S) := hide fun W k => hp.turn k (fun b hb => by simp at hb; subst hb; exact ⟨hS, hg⟩) (fun b hb => .inl hb)
  clear h hp hS hg
  go_enter Tryd.func18, Tryd.ntmps18
  go_wp2
  clear c1 c2 c3 c4 c5 c6 c7 c8 c9 c10 c11 c12 c13 c14 c15 c16
  have HI := hide (idx_all p t)
  generalize hsv : slotsV p t = sv at HI
  unfold slotsV at hsv
  rw [hsv]
  clear hsv
  go_loopw [5, 6, 7, 12] (fun n _ _ i wz => ∃ k : Nat, k ≤ 8 ∧ i = .int .i64 k ∧ n = .int .i64 (cnt p l k) ∧ LockAt wz gl ow (swp p p l k) (swp p t l k) ∧ Kept [gl] w wz) (fun _ _ _ i _ => 8 - (intOf i).toNat)
  case atStart => exact ⟨0, Nat.zero_le _, rfl, rfl, by rw [swp_zero, swp_zero]; exact HL.out, Kept.refl _ _⟩
  case round =>
    obtain ⟨k, hk, rfl, rfl, hP, hKK⟩ := hrel
    by_cases hlt : k < 8
    · have hi := HI.out k hlt
      have hc := cnt_bd p l k
      have hP2 : LockAt (wr.alloc (.cells #[.int .i64 (p k), .int .u64 (t k)] 31)) gl ow (swp p p l k) (swp p t l k) ∧ Kept [gl] w (wr.alloc (.cells #[.int .i64 (p k), .int .u64 (t k)] 31)) := ⟨Blk.alloc hP _, hKK.alloc _⟩
      by_cases h0 : 0 < p k
      · by_cases hm : p k ∈ l
        · have hd : dead p l k = false := by simp [dead, hm]
          have HX : Hid (swp p p l (k + 1) = swp p p l k ∧ swp p t l (k + 1) = swp p t l k ∧ cnt p l (k + 1) = cnt p l k) := hide ⟨swp_live hd, swp_live hd, if_neg (by simp [hd])⟩
          have HM := hide (decide_eq_true hm)
          clear hd hm hP hKK
          have HQ := hide hP2
          clear hP2
          generalize t k = y at hi HQ
          generalize p k = x at hi h0 HM HQ
          generalize cnt p l k = n at hc HX
          go_wp2_with fail
          refine (lives_L a g l last S _ x (HP.out _ HQ.out.2)).mono ?_
          rintro e w' ⟨rfl, rfl⟩
          rw [HM.out]
          go_wp2
          go_roundw
          case rel => exact ⟨k + 1, hlt, by go_num, by rw [HX.out.2.2], by rw [HX.out.1, HX.out.2.1]; exact HQ.out⟩
          case measure => simp [intOf]; omega
        · have hd : dead p l k = true := by simp [dead, hm, h0]
          have HX : Hid (swp p p l (k + 1) = upd (swp p p l k) k 0 ∧ swp p t l (k + 1) = upd (swp p t l k) k 0 ∧ cnt p l (k + 1) = cnt p l k + 1) := hide ⟨swp_dead hd, swp_dead hd, if_pos hd⟩
          have HM := hide (decide_eq_false hm)
          clear hd hm hP hKK
          have d0 := hP2.1.pid hlt
          have d1 := hP2.1.txn hlt
          have f0 := Blk.free hP2.1 (1 + k * 2)
          have f1 := Blk.free hP2.1 (1 + k * 2 + 1)
          have HQ := hide hP2
          clear hP2
          generalize t k = y at hi HQ d0 d1 f0 f1
          generalize p k = x at hi h0 HM HQ d0 d1 f0 f1
          generalize cnt p l k = n at hc HX
          go_wp2_with fail
          refine (lives_L a g l last S _ x (HP.out _ HQ.out.2)).mono ?_
          rintro e w' ⟨rfl, rfl⟩
          rw [HM.out]
          go_wp2
          go_roundw
          case rel => exact ⟨k + 1, hlt, by go_num, by rw [HX.out.2.2], by rw [HX.out.1, HX.out.2.1]; exact ⟨(HQ.out.1.setPid hlt 0).setTxn hlt 0, (HQ.out.2.setCell (by simp) _).setCell (by simp) _⟩⟩
          case measure => simp [intOf]; omega
      · have hd : dead p l k = false := by simp [dead, h0]
        have HX : Hid (swp p p l (k + 1) = swp p p l k ∧ swp p t l (k + 1) = swp p t l k ∧ cnt p l (k + 1) = cnt p l k) := hide ⟨swp_live hd, swp_live hd, if_neg (by simp [hd])⟩
        clear hd hP hKK
        have HQ := hide hP2
        clear hP2
        generalize t k = y at hi HQ
        generalize p k = x at hi h0 HQ
        generalize cnt p l k = n at hc HX
        go_wp2
        go_roundw
        case rel => exact ⟨k + 1, hlt, by go_num, by rw [HX.out.2.2], by rw [HX.out.1, HX.out.2.1]; exact HQ.out⟩
        case measure => simp [intOf]; omega
    · obtain rfl : k = 8 := by omega
      go_wp2
      go_ret
      exact ⟨rfl, hP, hKK⟩
end

section
variable (a o w : World) (X : List Nat) (gl g rl rp : Nat) (s s' : LS) (l : List Int) (last : Int) (m : List Int) (lastr : Int)
set_option maxRecDepth 100000 in
theorem sweep_Q (h : Quad a o w X gl g rl rp s s' l last m lastr) : Calls Tryd.prog 18 #[.pointer (some ⟨gl, 0, none⟩), .pointer (some ⟨g, 0, none⟩)] w fun e w' => e = .returned (.int .i64 (cnt s.p l 8)) ∧ Quad a o w' X gl g rl rp ⟨s.ow, swp s.p s.p l 8, swp s.p s.t l 8⟩ s' l last m lastr := by
  have h' := h
  obtain ⟨v, h1, h2, h3, h4, h5, h6⟩ := h'
  exact (sweep_K a gl g s.ow s.p s.t l last _ w h1 h5 (by simp) h4.1).mono fun _ _ ⟨he, h1, k⟩ => ⟨he, h.stepL (s1 := ⟨s.ow, swp s.p s.p l 8, swp s.p s.t l 8⟩) h1 k⟩
theorem rsweep_Q (hf : s'.fit) (h : Quad a o w X gl g rl rp s s' l last m lastr) : Calls Tryd.prog 19 #[.pointer (some ⟨rl, 0, none⟩), .pointer (some ⟨rp, 0, none⟩)] w fun e w' => e = .returned (.int .i64 (cnt s'.p m 8)) ∧ Quad a o w' X gl g rl rp s ⟨s'.ow, swp s'.p s'.p m 8, swp s'.p s'.t m 8⟩ l last m lastr := by
  have h' := h
  obtain ⟨v, h1, h2, h3, h4, h5, h6⟩ := h'
  exact (rsweep_any rl s'.ow s'.p s'.t w a.heap.size rp v m lastr h2 h3 (fun k hk => (hf.2.2 k hk).1)).mono fun _ _ ⟨he, h1, k⟩ => ⟨he, h.stepR (s1 := ⟨s'.ow, swp s'.p s'.p m 8, swp s'.p s'.t m 8⟩) h1 k⟩
theorem spawn_Q (h : Quad a o w X gl g rl rp s s' l last m lastr) (hl : l.length < 64) (h0 : 0 ≤ last) (h1 : last < 1000000) :
    Calls Tryd.prog 20 #[.pointer (some ⟨g, 0, none⟩)] w fun e w' => e = .returned (.tuple #[.int .i64 (last + 1), .nilIface]) ∧ Quad a o w' X gl g rl rp s s' (l ++ [last + 1]) (last + 1) m lastr := by
  obtain ⟨v, q1, q2, q3, q4, q5, q6⟩ := h
  exact (spawn_L a g l last _ w q5 hl h0 h1).mono fun _ _ ⟨he, h5, h6, _⟩ => ⟨he, Quad.stepP q1 q2 q3 q4 q6 h5 h6⟩
theorem spawn_Qf (h : Quad a o w X gl g rl rp s s' l last m lastr) (hl : l.length = 64) :
    Calls Tryd.prog 20 #[.pointer (some ⟨g, 0, none⟩)] w fun e w' => e = .returned (.tuple #[.int .i64 0, .iface 69 (.int .i64 26)]) ∧ Quad a o w' X gl g rl rp s s' l last m lastr := by
  have h' := h
  obtain ⟨v, q1, q2, q3, q4, q5, q6⟩ := h'
  exact (spawn_Lf a g l last _ w q5 hl).mono fun _ _ ⟨he, _, k⟩ => ⟨he, h.kept0 k⟩
theorem kill_Q (x : Int) (h : Quad a o w X gl g rl rp s s' l last m lastr) (hx : x ∈ l) :
    Calls Tryd.prog 22 #[.pointer (some ⟨g, 0, none⟩), .int .i64 x] w fun e w' => e = .returned .nilIface ∧ Quad a o w' X gl g rl rp s s' (wo l x) last m lastr := by
  obtain ⟨v, q1, q2, q3, q4, q5, q6⟩ := h
  exact (kill_L a g l last _ w x q5 hx).mono fun _ _ ⟨he, h5, h6, _⟩ => ⟨he, Quad.stepP q1 q2 q3 q4 q6 h5 h6⟩
theorem kill_Qf (x : Int) (h : Quad a o w X gl g rl rp s s' l last m lastr) (hx : x ∉ l) :
    Calls Tryd.prog 22 #[.pointer (some ⟨g, 0, none⟩), .int .i64 x] w fun e w' => e = .returned (.iface 69 (.int .i64 25)) ∧ Quad a o w' X gl g rl rp s s' l last m lastr := by
  have h' := h
  obtain ⟨v, q1, q2, q3, q4, q5, q6⟩ := h'
  exact (kill_Lf a g l last _ w x q5 hx).mono fun _ _ ⟨he, _, k⟩ => ⟨he, h.kept0 k⟩
theorem spawnr_Q (h : Quad a o w X gl g rl rp s s' l last m lastr) (hl : m.length < 64) (h0 : 0 ≤ lastr) (h1 : lastr < 1000000) :
    Calls Tryd.prog 21 #[.pointer (some ⟨rp, 0, none⟩)] w fun e w' => e = .returned (.tuple #[.int .i64 (lastr + 1), .int .i64 0]) ∧ Quad a o w' X gl g rl rp s s' l last (m ++ [lastr + 1]) (lastr + 1) := by
  obtain ⟨v, q1, q2, q3, q4, q5, q6⟩ := h
  exact (spawnr_room a.heap.size rp v m lastr w q3 hl h0 h1 q5.size).mono fun _ _ ⟨he, v', h5, h6, h7⟩ => ⟨he, Quad.stepRP q1 q2 q3 q4 q5 q6 h5 h6 h7⟩
theorem spawnr_Qf (h : Quad a o w X gl g rl rp s s' l last m lastr) (hl : m.length = 64) :
    Calls Tryd.prog 21 #[.pointer (some ⟨rp, 0, none⟩)] w fun e w' => e = .returned (.tuple #[.int .i64 0, .int .i64 26]) ∧ Quad a o w' X gl g rl rp s s' l last m lastr := by
  have h' := h
  obtain ⟨v, q1, q2, q3, q4, q5, q6⟩ := h'
  exact (spawnr_full a.heap.size rp v m lastr w q3 hl).mono fun _ _ ⟨he, hw⟩ => ⟨he, hw ▸ h⟩
theorem killr_Q (x : Int) (h : Quad a o w X gl g rl rp s s' l last m lastr) (hx : x ∈ m) (hl : m.length ≤ 60000) :
    Calls Tryd.prog 23 #[.pointer (some ⟨rp, 0, none⟩), .int .i64 x] w fun e w' => e = .returned (.int .i64 0) ∧ Quad a o w' X gl g rl rp s s' l last (wo m x) lastr := by
  obtain ⟨v, q1, q2, q3, q4, q5, q6⟩ := h
  exact (killr_some a.heap.size rp v m lastr w x q3 hx hl q5.size).mono fun _ _ ⟨he, v', h5, h6, h7⟩ => ⟨he, Quad.stepRP q1 q2 q3 q4 q5 q6 h5 h6 h7⟩
theorem killr_Qf (x : Int) (h : Quad a o w X gl g rl rp s s' l last m lastr) (hx : x ∉ m) :
    Calls Tryd.prog 23 #[.pointer (some ⟨rp, 0, none⟩), .int .i64 x] w fun e w' => e = .returned (.int .i64 25) ∧ Quad a o w' X gl g rl rp s s' l last m lastr := by
  have h' := h
  obtain ⟨v, q1, q2, q3, q4, q5, q6⟩ := h'
  exact (killr_none a.heap.size rp v m lastr w x q3 hx).mono fun _ _ ⟨he, hw⟩ => ⟨he, hw ▸ h⟩
theorem same_Q (h : Quad a o w X gl g rl rp s s l last m lastr) : Calls Tryd.prog 24 #[.pointer (some ⟨gl, 0, none⟩), .pointer (some ⟨rl, 0, none⟩)] w fun e w' => e = .returned (.bool true) ∧ Quad a o w' X gl g rl rp s s l last m lastr := by
  have h' := h
  obtain ⟨v, q1, q2, q3, q4, q5, q6⟩ := h'
  exact (sameL_any gl rl s.p s.t w s.ow q1 q2).mono fun _ _ ⟨he, k⟩ => ⟨he, h.kept0 k⟩
theorem oldest_Q (x : Int) (hf : s.fit) (h : Quad a o w X gl g rl rp s s' l last m lastr) : Calls Tryd.prog 25 #[.pointer (some ⟨gl, 0, none⟩), .int .u64 x] w fun e w' => e = .returned (.int .u64 (old s.t x 8)) ∧ Quad a o w' X gl g rl rp s s' l last m lastr := by
  have h' := h
  obtain ⟨v, q1, q2, q3, q4, q5, q6⟩ := h'
  exact (oldest_any gl s.ow s.p s.t w x q1 (fun k hk => (hf.2.2 k hk).2.2.1)).mono fun _ _ ⟨he, k⟩ => ⟨he, h.kept0 k⟩
theorem roldest_Q (x : Int) (hf : s'.fit) (h : Quad a o w X gl g rl rp s s' l last m lastr) : Calls Tryd.prog 26 #[.pointer (some ⟨rl, 0, none⟩), .int .u64 x] w fun e w' => e = .returned (.int .u64 (old s'.t x 8)) ∧ Quad a o w' X gl g rl rp s s' l last m lastr := by
  have h' := h
  obtain ⟨v, q1, q2, q3, q4, q5, q6⟩ := h'
  exact (roldest_any rl s'.ow s'.p s'.t w x q2 (fun k hk => (hf.2.2 k hk).2.2.1)).mono fun _ _ ⟨he, hw⟩ => ⟨he, hw ▸ h⟩
theorem bytes_Q (hf : s.fit) (h : Quad a o w X gl g rl rp s s' l last m lastr) : Calls Tryd.prog 27 #[.pointer (some ⟨gl, 0, none⟩)] w fun e w' => e = .returned (.string (lockB s.ow s.p s.t 8)) ∧ Quad a o w' X gl g rl rp s s' l last m lastr := by
  have h' := h
  obtain ⟨v, q1, q2, q3, q4, q5, q6⟩ := h'
  exact (bytes_any gl s.ow s.p s.t w q1 hf.1 (by have := hf.2.1; omega) hf.bytes).mono fun _ _ ⟨he, k⟩ => ⟨he, h.kept0 k⟩
theorem rbytes_Q (hf : s'.fit) (h : Quad a o w X gl g rl rp s s' l last m lastr) : Calls Tryd.prog 28 #[.pointer (some ⟨rl, 0, none⟩)] w fun e w' => e = .returned (.string (lockB s'.ow s'.p s'.t 8)) ∧ Quad a o w' X gl g rl rp s s' l last m lastr := by
  have h' := h
  obtain ⟨v, q1, q2, q3, q4, q5, q6⟩ := h'
  exact (rbytes_any rl s'.p s'.t w s'.ow q2 hf.1 (by have := hf.2.1; omega) hf.bytes).mono fun _ _ ⟨he, k⟩ => ⟨he, h.kept0 k⟩
theorem code_Qn (h : Quad a o w X gl g rl rp s s' l last m lastr) : Calls Tryd.prog 13 #[.nilIface] w fun e w' => e = .returned (.int .i64 0) ∧ Quad a o w' X gl g rl rp s s' l last m lastr :=
  (code_nil w).mono fun _ _ ⟨he, k⟩ => ⟨he, h.kept0 k⟩
theorem code_Qe (n : Int) (hg : ErrVar a) (h : Quad a o w X gl g rl rp s s' l last m lastr) : Calls Tryd.prog 13 #[.iface 69 (.int .i64 n)] w fun e w' => e = .returned (.int .i64 n) ∧ Quad a o w' X gl g rl rp s s' l last m lastr :=
  (code_errno n w (hg.kept0 h.all)).mono fun _ _ ⟨he, k⟩ => ⟨he, h.kept0 k⟩
end
end Go.Proofs.YthifbmopfcfokaaDoor
