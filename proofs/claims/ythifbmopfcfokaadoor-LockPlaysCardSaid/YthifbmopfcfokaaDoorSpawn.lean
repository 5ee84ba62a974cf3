/- procs.Spawn: the next number, if there is room. -/
import Derived.Test.YthifbmopfcfokaaDoorAppend
import Derived.Test.YthifbmopfcfokaaDoorComm
import Derived.Deep.Cut
namespace Go.Proofs.YthifbmopfcfokaaDoor
open Go.RowKit Go.Conc

/-- The processes: the struct at g, its slice v, those that live, the last number. -/
def ProcsAt (w : World) (base g : Nat) (v : Value) (l : List Int) (last : Int) : Prop := Blk w g 75 #[v, .int .i64 last] ∧ Own w base v l
theorem mk_room (w : World) : (Instr.makeChan 80 (.int .i64 64)).run Tryd.prog w = .ok (.chan (some w.heap.size)) (w.alloc (.chan 64 #[] false 0 0 false)) := by
  have hb : (Tryd.prog.info? 81).map (·.bytes) = some 0 := by kernel_rfl
  obtain ⟨i, hi, hb⟩ := Option.map_eq_some_iff.1 hb
  simpa using run_makeChan (P := Tryd.prog) (w := w) Tryd.underlying80 hi .i64 64 (by omega) (by rw [hb]; omega)

/-- A row of ints does not lie in a block of another type. -/
theorem own_ne {w : World} {base : Nat} {v : Value} {l : List Int} {g : Nat} {t : TypeId} {cs : Array Value} (h : Own w base v l) (hg : Blk w g t cs) (hne : 3 ≠ t) : v.ownBlock ≠ some g := by
  rcases h.2 with ⟨rfl, _⟩ | ⟨g', cap, cur, rfl, _, hh, _⟩
  · simp [Value.ownBlock]
  · intro he
    have : g' = g := by simpa [Value.ownBlock] using he
    subst this
    exact Blk.ne (t := 3) (cs := cur) hh hg hne rfl

/-- k units in a channel. -/
def units (k : Nat) : Array Value := (List.replicate k (.agg #[])).toArray
theorem units_push (k : Nat) : (units k).push (.agg #[]) = units (k + 1) := by
  unfold units
  rw [List.push_toArray, List.replicate_succ']
theorem units_size (k : Nat) : (units k).size = k := by simp [units]

/-- A new value lies where the old one did, or in memory that was not there. -/
def Fresh (w : World) (v v' : Value) : Prop := ∀ b, v'.ownBlock = some b → b ∈ blk v ∨ w.heap.size ≤ b
theorem Fresh.refl (w : World) (v : Value) : Fresh w v v := fun _ h => .inl (blk_mem h)

set_option maxRecDepth 100000 in
theorem spawn_room (base g : Nat) (v : Value) (l : List Int) (last : Int) (w : World) (hp : ProcsAt w base g v l last) (hl : l.length < 64) (h0 : 0 ≤ last) (h1 : last < 1000000) (hb : base ≤ w.heap.size) :
    Calls Tryd.prog 20 #[.pointer (some ⟨g, 0, none⟩)] w fun e w' => e = .returned (.tuple #[.int .i64 (last + 1), .nilIface]) ∧ ∃ v', ProcsAt w' base g v' (l ++ [last + 1]) (last + 1) ∧ Kept (g :: blk v) w w' ∧ Fresh w v v' := by
  obtain ⟨hs, ho⟩ := hp
  obtain ⟨A, c, rfl, hm, hr, hbk⟩ := ho.shape
  have c0 : w.cell? ⟨g, 0, none⟩ = some (.slice A l.length c) := hs.cell 0
  have c1 : w.cell? ⟨g, 1, none⟩ = some (.int .i64 last) := hs.cell 1
  have hmk := mk_room
  have hgl := hs.lt
  generalize hn : l.length = n at *
  have HN := hide hn
  clear hn
  go_enter Tryd.func20, Tryd.ntmps20
  go_wp2
  generalize hcs : w.heap.size = ch
  have HCS := hide hcs
  clear hcs
  go_loopw [11] (fun i wr => ∃ k : Nat, k ≤ n ∧ i = .int .i64 k ∧ wr.heap[ch]? = some (.chan 64 (units k) false k 0 false) ∧ Kept [] w wr) (fun i _ => n - (intOf i).toNat)
  case atStart => exact ⟨0, Nat.zero_le _, rfl, by rw [← HCS.out]; exact heap_alloc_new w _, (Kept.refl _ _).alloc _⟩
  case round =>
    obtain ⟨k, hk, rfl, hch, hK⟩ := hrel
    by_cases hlt : k < n
    · go_upto_region 4 with (fail)
      refine wp_send2 (c := ch) (z := .tuple #[]) (v := .agg #[]) (v0 := .chan (some ch)) (v1 := .agg #[]) rfl rfl rfl rfl (by simp [go_sem, execOp, Act.eval]) (by simp [go_sem, execOp, scase, Act.eval, Act.put]) hch (by rw [units_size]; omega) ?_
      go_wp2
      go_roundw
      case rel => exact ⟨k + 1, hlt, by go_num, by rw [chan_set _ _ _ _ _ _ _ _ (chan_lt hch), units_push], kept_setChan hK (.inr (by rw [HCS.out]; exact Nat.le_refl _)) _ _ _ _ _ _⟩
      case measure => simp [intOf]; omega
    · go_upto_region 8 with (fail)
      refine wp_sel_send (c := ch) (v := .agg #[]) (z := .agg #[]) rfl (by simp [go_sem, execOp, scase, Act.eval]) hch (by rw [units_size]; omega) ?_
      have hK2 := kept_setChan hK (c := ch) (.inr (by rw [HCS.out]; exact Nat.le_refl _)) 64 ((units k).push (.agg #[])) false (k + 1) 0 false
      generalize wr.setChan ch 64 ((units k).push (.agg #[])) false (k + 1) 0 false = w2 at hK2 ⊢
      have hs2 := hs.kept0 hK2
      have ho2 := ho.kept0 hK2
      clear hK hch hr c0 c1 hs ho
      have c0 : w2.cell? ⟨g, 0, none⟩ = some (.slice A n c) := hs2.cell 0
      have c1 : w2.cell? ⟨g, 1, none⟩ = some (.int .i64 last) := hs2.cell 1
      have f0 := hs2.free 0
      have f1 := hs2.free 1
      go_wp2
      have hgb : ∀ b, (Value.slice A n c).ownBlock = some b → b ∉ [g] := by
        intro b hb' hm
        obtain rfl : b = g := by simpa using hm
        exact own_ne ho2 hs2 (by decide) hb'
      have hs3 := Blk.set hs2 1 (.int .i64 (last + 1))
      have ho3 := ho2.kept ((Kept.refl [g] w2).setCell (p := ⟨g, 1, none⟩) (by simp) (.int .i64 (last + 1))) hgb
      have hK3 := (hK2.more (S' := g :: blk (.slice A n c)) (by simp)).setCell (p := ⟨g, 1, none⟩) (by simp) (.int .i64 (last + 1))
      generalize w2.setCell ⟨g, 1, none⟩ (.int .i64 (last + 1)) = w3 at hs3 ho3 hK3 ⊢
      clear hK2 hs2 ho2 c0 c1 f0 f1
      have c0 : w3.cell? ⟨g, 0, none⟩ = some (.slice A n c) := hs3.cell 0
      have c1 : w3.cell? ⟨g, 1, none⟩ = some (.int .i64 (last + 1)) := hs3.cell 1
      have c0a : (w3.alloc (.cells #[.int .i64 (last + 1)] 3)).cell? ⟨g, 0, none⟩ = some (.slice A n c) := (hs3.alloc _).cell 0
      go_region_law (
        refine step_app rfl (.tmp 33) (.tmp 38) rfl base (.slice A n c) l (by simp [Act.eval]) (ho3.kept0 ((Kept.refl _ _).alloc _).drew) (some ⟨w3.heap.size, 0, none⟩) 1 1 [last + 1] (by simp [Act.eval]) (by simp) rfl (rd_one w3 (last + 1) 3) (by rw [HN.out]; omega) (Nat.le_trans hb (hK3.alloc _).size) ?_
        intro v4 w4 ho4 hk4 hat4
        obtain ⟨A4, c4, rfl, _, _, _⟩ := ho4.shape
        have hs4 := (hs3.alloc (.cells #[.int .i64 (last + 1)] 3)).drew.kept hk4 (fun hm => own_ne ho3 hs3 (by decide) (mem_blk hm))
        have d0 : w4.cell? ⟨g, 0, none⟩ = some (.slice A n c) := hs4.cell 0
        have d1 : w4.frozen? ⟨g, 0, none⟩ = false := hs4.free 0
        have d2 : w4.cell? ⟨g, 1, none⟩ = some (.int .i64 (last + 1)) := hs4.cell 1)
      all_goals
        go_wp2
        go_ret2
        have hne4 := own_ne ho4 hs4 (by decide)
        refine ⟨rfl, _, ⟨Blk.set hs4 0 _, by simpa using ho4.kept ((Kept.refl [g] w4).setCell (p := ⟨g, 0, none⟩) (by simp) (.slice A4 (l.length + 1) c4)) (fun b hb' hm => hne4 (by rw [hb']; simpa using hm))⟩, (((hK3.alloc _).drew.trans hk4 (fun x hx => .inl (List.mem_cons_of_mem _ hx))).setCell (p := ⟨g, 0, none⟩) (by simp) _), fun b hb' => ?_⟩
        rcases hat4 with h4 | h4
        · exact .inl (blk_mem (h4.symm.trans (by simpa using hb')))
        · refine .inr ?_
          have h5 := h4.symm.trans (show (Value.slice A4 (l ++ [last + 1]).length c4).ownBlock = some b by simpa using hb')
          have h6 := Option.some.inj h5
          rw [← h6]
          exact (hK3.alloc _).drew.size

set_option maxRecDepth 100000 in
theorem spawn_full (base g : Nat) (v : Value) (l : List Int) (last : Int) (w : World) (hp : ProcsAt w base g v l last) (hl : l.length = 64) :
    Calls Tryd.prog 20 #[.pointer (some ⟨g, 0, none⟩)] w fun e w' => e = .returned (.tuple #[.int .i64 0, .iface 69 (.int .i64 26)]) ∧ Kept [] w w' := by
  obtain ⟨hs, ho⟩ := hp
  obtain ⟨A, c, rfl, hm, hr, hbk⟩ := ho.shape
  have c0 : w.cell? ⟨g, 0, none⟩ = some (.slice A l.length c) := hs.cell 0
  have hmk := mk_room
  have hgl := hs.lt
  rw [hl] at c0
  clear hs ho hr hm hbk hl
  go_enter Tryd.func20, Tryd.ntmps20
  go_wp2
  generalize hcs : w.heap.size = ch
  have HCS := hide hcs
  clear hcs
  go_loopw [11] (fun i wr => ∃ k : Nat, k ≤ 64 ∧ i = .int .i64 k ∧ wr.heap[ch]? = some (.chan 64 (units k) false k 0 false) ∧ Kept [] w wr) (fun i _ => 64 - (intOf i).toNat)
  case atStart => exact ⟨0, Nat.zero_le _, rfl, by rw [← HCS.out]; exact heap_alloc_new w _, (Kept.refl _ _).alloc _⟩
  case round =>
    obtain ⟨k, hk, rfl, hch, hK⟩ := hrel
    by_cases hlt : k < 64
    · go_upto_region 4 with (fail)
      refine wp_send2 (c := ch) (z := .tuple #[]) (v := .agg #[]) (v0 := .chan (some ch)) (v1 := .agg #[]) rfl rfl rfl rfl (by simp [go_sem, execOp, Act.eval]) (by simp [go_sem, execOp, scase, Act.eval, Act.put]) hch (by rw [units_size]; omega) ?_
      go_wp2
      go_roundw
      case rel => exact ⟨k + 1, hlt, by go_num, by rw [chan_set _ _ _ _ _ _ _ _ (chan_lt hch), units_push], kept_setChan hK (.inr (by rw [HCS.out]; exact Nat.le_refl _)) _ _ _ _ _ _⟩
      case measure => simp [intOf]; omega
    · go_upto_region 8 with (fail)
      refine wp_sel_full (c := ch) (v := .agg #[]) (z := .agg #[]) rfl (by simp [go_sem, execOp, scase, Act.eval]) hch (by rw [units_size]; omega) ?_
      go_wp2
      go_ret2
      exact ⟨rfl, hK⟩
end Go.Proofs.YthifbmopfcfokaaDoor
