/- Contracts in the evaluator's words: the keys of a map in their order. Conditions: few keys. -/
import Derived.Test.YtkdihjhndebloaaGreatDoorEvFnA
import Derived.Test.YtkdihjhndebloaaGreatDoorEvShelf
import Derived.Maps.OwnSet
import Derived.Maps.RangeWalk
import Derived.WideKeyEntry
import Derived.StringKeys
import Derived.Test.YtkdihjhndebloaaGreatDoorEvGiven
set_option linter.unusedSectionVars false
set_option linter.unusedVariables false
set_option linter.unusedSimpArgs false
namespace Go.Ev
open Go Go.Conc Go.Maps Go.Sort Go.Shelf Go.RowKit Go.Proofs Go.Proofs.YtkdihjhndebloaaGreatDoor
open Go.WideElems (Fit rd rg pl rd_val elemAt)

theorem perm_sorted : ∀ {l1 l2 : List Int}, l1.Perm l2 → l1.Pairwise (· ≤ ·) → l2.Pairwise (· ≤ ·) → l1 = l2
  | [], l2, h, _, _ => (List.nil_perm.1 h).symm
  | a :: t1, [], h, _, _ => absurd (List.perm_nil.1 h) (by simp)
  | a :: t1, b :: t2, h, h1, h2 => by
    have e : a = b := by
      have ha : a ∈ b :: t2 := h.mem_iff.1 (by simp)
      have hb : b ∈ a :: t1 := h.mem_iff.2 (by simp)
      have q1 : b ≤ a := by
        rcases List.mem_cons.1 ha with e | e
        · exact Int.le_of_eq e.symm
        · exact (List.pairwise_cons.1 h2).1 a e
      have q2 : a ≤ b := by
        rcases List.mem_cons.1 hb with e | e
        · exact Int.le_of_eq e.symm
        · exact (List.pairwise_cons.1 h1).1 b e
      omega
    subst e
    rw [perm_sorted ((List.perm_cons a).1 h) (List.pairwise_cons.1 h1).2 (List.pairwise_cons.1 h2).2]
theorem merge_sorted {ss l : List Int} (h : ss.Perm l) (hl : l.Pairwise (· < ·)) : (ss.mergeSort fun x y => decide (x ≤ y)) = l := by
  refine perm_sorted ((List.mergeSort_perm ss _).trans h) ?_ (hl.imp fun h => Int.le_of_lt h)
  have := List.pairwise_mergeSort (le := fun x y : Int => decide (x ≤ y)) (fun a b c h1 h2 => by simp at h1 h2 ⊢; omega) (fun a b => by simp; omega) ss
  exact this.imp fun h => by simpa using h
theorem insert_perm {H : Type} (x : Lit × DataW H) : ∀ l : List (Lit × DataW H), (DataW.insert x l).Perm (x :: l)
  | [] => List.Perm.refl _
  | y :: r => by
    unfold DataW.insert
    split
    · exact List.Perm.refl _
    · exact ((insert_perm x r).cons y).trans (List.Perm.swap x y r)
theorem inserts_perm {H : Type} : ∀ l : List (Lit × DataW H), (l.foldr DataW.insert []).Perm l
  | [] => List.Perm.refl _
  | x :: r => (insert_perm x _).trans ((inserts_perm r).cons x)
/-- How a value that is not looked into reads. -/
def RX : Value → Option (DataW Unit × List MemPlace) := fun _ => some (.lit (.bool false), [])
theorem owns_of {P : Program} {kt : TypeId} {w : World} {b : Nat} {es : Array MapEntry} {clock : Nat} {K : List Lit} (h1 : w.heap[b]? = some (.map es clock)) (h3 : MapKept.Stamped es clock)
    (hK : es.toList.map (fun e => keyOf P kt e.key) = K.map some) (hl : K.length ≤ 1000) :
    ∃ D0 : DataW Unit, w.ownsMap P kt RX b 1000 D0 ∧ (∃ l, D0 = .map l ∧ (l.map (·.1)).Perm K) ∧ Maps.size D0 ≤ 1000 := by
  have hsz : es.size = K.length := by
    have := congrArg List.length hK
    simpa using this
  have hkey : ∀ x ∈ es.toList, ∃ k, keyOf P kt x.key = some k := fun x hx => by
    have : keyOf P kt x.key ∈ K.map some := by rw [← hK]; exact List.mem_map.2 ⟨x, hx, rfl⟩
    obtain ⟨k, _, e⟩ := List.mem_map.1 this
    exact ⟨k, e.symm⟩
  have hfit : Fit P kt RX es clock := by
    refine ⟨by unfold maxLen; omega, h3, fun x hx => ?_⟩
    obtain ⟨k, e⟩ := hkey x hx
    exact ⟨_, by show (keyOf _ _ x.key).bind _ = _; rw [e]; rfl⟩
  refine ⟨_, ⟨es, clock, h1, hfit, by omega, rfl⟩, ⟨_, rfl, ?_⟩, ?_⟩
  · have hm : (es.toList.map (rg P kt RX)).map (·.1) = K := by
      have e1 : ((es.toList.map (rg P kt RX)).map (·.1)).map some = K.map some := by
        rw [← hK, List.map_map, List.map_map]
        refine List.map_congr_left fun x hx => ?_
        obtain ⟨k, e⟩ := hkey x hx
        show some (((keyOf P kt x.key).bind fun key => (RX x.val).map fun y => (key, y.1)).getD (.bool false, .nil)).1 = _
        rw [e]
        rfl
      have e2 := congrArg (List.filterMap id) e1
      simpa [List.filterMap_map, Function.comp_def] using e2
    refine ((inserts_perm _).map (·.1)).trans ?_
    rw [hm]
  · show ((es.toList.map (rg P kt RX)).foldr DataW.insert []).length ≤ 1000
    rw [(inserts_perm _).length_eq]
    simp
    omega

variable [G : Given]
section
variable {m m' : M} {h h' : H} {w w' : World} {v : V}
theorem row_gives {e : TypeId} {l : List V} {xs : List Value} {x : Value} {n : Nat} (hr : Rel m h w) (hb : Below w.heap.size w w') (hrow : w'.ownsRow w.heap.size e 1 x n xs) (hn : 0 < n) (hx : ∀ m : M, concL m l = some xs) (ha : allOne l = true) (hc : cutT e = false) :
    Gives m h w (h.pushRow (.cells e l)) (.sl h.next 0 n (.un h.nc 0 1)) (.returned x) w' := by
  obtain ⟨hlen, ⟨rfl, h0⟩ | ⟨g, cap, cur, rfl, hbase, hg, hle, hmax, hsz, htk⟩⟩ := hrow
  · omega
  · have hcur : cur = (xs ++ cur.toList.drop n).toArray := by
      apply Array.ext'
      simp only [Nat.mul_one] at htk
      rw [← htk]; simp
    have hxl : xs.length = n := by omega
    obtain ⟨p1, p2⟩ := pushed (w' := w') hr (m' := m.addRow (g, cap) cap) (h' := h.pushRow (.cells e l)) (o := .cells e l) (p := (g, cap)) rfl (M.le_addRow _ _ _) rfl (addRow_nc (o := .cells e l) (p := (g, cap)) hr hmax) (fun b => H.get_pushRow h b _) (.inl hbase)
      (fun k hk _ => hb.block k hk) ⟨ha, xs, cur.toList.drop n, hx _, hcur ▸ hg, by simp; omega, fun ht => by rw [hc] at ht; cases ht⟩
    obtain ⟨a1, a2⟩ := addRow_at (p := (g, cap)) (c := cap) hr
    refine ⟨_, ⟨M.le_addRow _ _ _, hb.os, hb.tape, hb.output, hb.size, fun k hk _ => hb.block k hk, fun k hk => (p2 k hk).imp id (fun e => by subst e; exact hbase)⟩, p1, ?_⟩
    have := conc_un (ot := 0) (n := n) (u := h.nc) (d := 0) (s := 1) a1 a2 (Nat.zero_le _) (by omega) (by simp)
    simpa using this
theorem nil_gives {e : TypeId} {x : Value} (hr : Rel m h w) (hb : Below w.heap.size w w') (hrow : w'.ownsRow w.heap.size e 1 x 0 []) (hnil : x = .slice none 0 0) : Gives m h w h .snil (.returned x) w' := by
  subst hnil
  exact ⟨m, ⟨.refl _, hb.os, hb.tape, hb.output, hb.size, fun k hk _ => hb.block k hk, fun _ hk => .inl hk⟩, ⟨hr.next, hr.nc, fun hg => let ⟨p, hp, ho⟩ := hr.obj hg; ⟨p, hp, ho.mono (.refl _) (hb.block _ ho.lt)⟩, hr.inj⟩, rfl⟩
end
open Go.Proofs.Tryz in
theorem sortsI (m : Nat) : AnyZI.SortsIn prog laySorted_ren Fence.wide m :=
  ⟨fun blk off cap ss W hH hblk hsz => callsIn_wide.2 (AnyM.slices_Sort_int laySortM blk off cap ss W hH hblk hsz),
   fun p cap W => callsIn_wide.2 (AnyM.slices_Sort_int_none laySortM p cap W)⟩
open Go.Proofs.Tryz in
theorem sortsS (m : Nat) : AnyZ.SortsIn prog laySortedS_ren Fence.wide m :=
  ⟨fun blk off cap ss W hH hblk hsz => callsIn_wide.2 (AnyM.slices_Sort_string laySortMS blk off cap ss W hH hblk hsz),
   fun p cap W => callsIn_wide.2 (AnyM.slices_Sort_string_none laySortMS p cap W)⟩
set_option maxRecDepth 100000 in
open Go.Proofs.Tryz in
theorem sortedI_any (w : World) (b Bm : Nat) (es : Array MapEntry) (clock : Nat) (K : List Lit) (h1 : w.heap[b]? = some (.map es clock)) (h3 : MapKept.Stamped es clock)
    (hK : es.toList.map (fun e => keyOf prog 3 e.key) = K.map some) (hl : K.length ≤ 1000) (hBm : Bm < w.heap.size) (hm : w.cell? ⟨Bm, 0, none⟩ = some (.map (some b))) :
    Calls prog 429 #[.func (.func 441) #[] #[.pointer (some ⟨Bm, 0, none⟩)]] w fun e w' => ∃ (v : Value) (ss : List Int), e = .returned v ∧ ss.Perm (K.map Go.intOf) ∧
      w'.ownsRow w.heap.size 3 1 v ss.length ((ss.mergeSort (fun x y => decide (x ≤ y))).map encZ) ∧ (v = .slice none 0 0 ↔ ss = []) ∧ Below w.heap.size w w' := by
  refine (callsIn_wide (n := 5)).1 ?_
  obtain ⟨D0, hown, ⟨l0, rfl, hperm⟩, hsize⟩ := owns_of (P := prog) (kt := 3) h1 h3 hK hl
  have hseq : SeqGives Fence.wide 2 prog 441 #[.pointer (some ⟨Bm, 0, none⟩)] encZ (fun ss => ss.Perm (intKeys (.map l0 : DataW Unit))) (Maps.size (.map l0 : DataW Unit)) w :=
    AnyZI.keys_gives (ρ := layKeys_ren) { layKeys with } Fence.wide _ trivial rfl (by omega) Bm b 1000 _ _ hBm hm hown
  refine (AnyZI.sorted_in laySorted Fence.wide 5 trivial trivial trivial trivial rfl (by omega) (sortsI _) (enters_of func89 (by kernel_rfl) rfl) 441 #[.pointer (some ⟨Bm, 0, none⟩)] trivial (enters_of func441 (by kernel_rfl) rfl) _ _ (by unfold maxLen; omega) (by omega) _ hseq).mono ?_
  rintro e w' ⟨v, ss, rfl, hS, hrow, hnil, hb⟩
  refine ⟨v, ss, rfl, hS.trans ?_, hrow, hnil, hb⟩
  have := hperm.map Go.intOf
  simpa [intKeys, List.map_map, Function.comp_def] using this
set_option maxRecDepth 100000 in
open Go.Proofs.Tryz in
theorem sortedB_any (w : World) (b Bm : Nat) (es : Array MapEntry) (clock : Nat) (K : List Lit) (h1 : w.heap[b]? = some (.map es clock)) (h3 : MapKept.Stamped es clock)
    (hK : es.toList.map (fun e => keyOf prog 9 e.key) = K.map some) (hl : K.length ≤ 1000) (hBm : Bm < w.heap.size) (hm : w.cell? ⟨Bm, 0, none⟩ = some (.map (some b))) :
    Calls prog 94 #[.func (.func 155) #[] #[.pointer (some ⟨Bm, 0, none⟩)]] w fun e w' => ∃ (v : Value) (ss : List (List UInt8)), e = .returned v ∧ ss.Perm (K.map Go.strOf) ∧
      w'.ownsRow w.heap.size 9 1 v ss.length ((ss.mergeSort (fun x y => decide (x ≤ y))).map encStr) ∧ (v = .slice none 0 0 ↔ ss = []) ∧ Below w.heap.size w w' := by
  refine (callsIn_wide (n := 5)).1 ?_
  obtain ⟨D0, hown, ⟨l0, rfl, hperm⟩, hsize⟩ := owns_of (P := prog) (kt := 9) h1 h3 hK hl
  have hseq : SeqGives Fence.wide 2 prog 155 #[.pointer (some ⟨Bm, 0, none⟩)] encStr (fun ss => ss.Perm (strKeys (.map l0 : DataW Unit))) (Maps.size (.map l0 : DataW Unit)) w :=
    AnyZ.keys_gives (ρ := layKeysB_ren) { layKeysB with } Fence.wide _ trivial rfl (by omega) Bm b 1000 _ _ hBm hm hown
  refine (AnyZ.sorted_in laySortedS Fence.wide 5 trivial trivial trivial trivial rfl (by omega) (sortsS _) (enters_of func154 (by kernel_rfl) rfl) 155 #[.pointer (some ⟨Bm, 0, none⟩)] trivial (enters_of func155 (by kernel_rfl) rfl) _ _ (by unfold maxLen; omega) (by omega) _ hseq).mono ?_
  rintro e w' ⟨v, ss, rfl, hS, hrow, hnil, hb⟩
  refine ⟨v, ss, rfl, hS.trans ?_, hrow, hnil, hb⟩
  have := hperm.map Go.strOf
  simpa [strKeys, List.map_map, Function.comp_def] using this
set_option maxRecDepth 100000 in
open Go.Proofs.Tryz in
theorem sortedS_any (w : World) (b Bm : Nat) (es : Array MapEntry) (clock : Nat) (K : List Lit) (h1 : w.heap[b]? = some (.map es clock)) (h3 : MapKept.Stamped es clock)
    (hK : es.toList.map (fun e => keyOf prog 9 e.key) = K.map some) (hl : K.length ≤ 1000) (hBm : Bm < w.heap.size) (hm : w.cell? ⟨Bm, 0, none⟩ = some (.map (some b))) :
    Calls prog 94 #[.func (.func 252) #[] #[.pointer (some ⟨Bm, 0, none⟩)]] w fun e w' => ∃ (v : Value) (ss : List (List UInt8)), e = .returned v ∧ ss.Perm (K.map Go.strOf) ∧
      w'.ownsRow w.heap.size 9 1 v ss.length ((ss.mergeSort (fun x y => decide (x ≤ y))).map encStr) ∧ (v = .slice none 0 0 ↔ ss = []) ∧ Below w.heap.size w w' := by
  refine (callsIn_wide (n := 5)).1 ?_
  obtain ⟨D0, hown, ⟨l0, rfl, hperm⟩, hsize⟩ := owns_of (P := prog) (kt := 9) h1 h3 hK hl
  have hseq : SeqGives Fence.wide 2 prog 252 #[.pointer (some ⟨Bm, 0, none⟩)] encStr (fun ss => ss.Perm (strKeys (.map l0 : DataW Unit))) (Maps.size (.map l0 : DataW Unit)) w :=
    AnyZ.keys_gives (ρ := layKeysS_ren) { layKeysS with } Fence.wide _ trivial rfl (by omega) Bm b 1000 _ _ hBm hm hown
  refine (AnyZ.sorted_in laySortedS Fence.wide 5 trivial trivial trivial trivial rfl (by omega) (sortsS _) (enters_of func154 (by kernel_rfl) rfl) 252 #[.pointer (some ⟨Bm, 0, none⟩)] trivial (enters_of func252 (by kernel_rfl) rfl) _ _ (by unfold maxLen; omega) (by omega) _ hseq).mono ?_
  rintro e w' ⟨v, ss, rfl, hS, hrow, hnil, hb⟩
  refine ⟨v, ss, rfl, hS.trans ?_, hrow, hnil, hb⟩
  have := hperm.map Go.strOf
  simpa [strKeys, List.map_map, Function.comp_def] using this
end Go.Ev
namespace Go.Ev
open Go Go.Conc Go.Maps Go.Sort Go.Shelf Go.RowKit Go.Proofs Go.Proofs.YtkdihjhndebloaaGreatDoor
variable [G : Given]

section
variable {m m' : M} {h h' : H} {w w' : World} {v : V}
theorem bodied {P : Program} {f : FuncId} {fn : Func} (h1 : P.funcs[f]? = some fn) (h2 : fn.body.isSome = true) : ∃ fn c, P.funcs[f]? = some fn ∧ fn.body = some c := by
  obtain ⟨c, hc⟩ := Option.isSome_iff_exists.1 h2
  exact ⟨fn, c, h1, hc⟩
theorem cell_of {t : TypeId} {o : V} {p : Nat × Nat} {x : Value} (ho : OC m w p (.cells t [o])) (hc : conc m o = some x) : w.cell? ⟨p.1, 0, none⟩ = some x := by
  obtain ⟨_, c, rest, hc1, hw, _⟩ := ho
  obtain ⟨y, l', hy, hl, rfl⟩ := concL_cons.1 hc1
  obtain rfl := concL_nil.1 hl
  rw [hc] at hy
  obtain rfl := Option.some.inj hy
  simp [World.cell?, hw]
/-- A map with one entry, with two. -/
theorem ent1 {k v : V} {p : Nat} {es : List MapEntry} (h : concE m [(k, v, p)] = some es) : ∃ x y, conc m k = some x ∧ es = [{ key := x, val := y, born := p }] := by
  simp only [concE, entryC, Option.bind_eq_some_iff, Option.map_eq_some_iff] at h
  obtain ⟨_, ⟨x, hx, y, _, rfl⟩, l, hl, rfl⟩ := h
  obtain rfl := Option.some.inj hl
  exact ⟨x, y, hx, rfl⟩
theorem ent2 {k v k2 v2 : V} {p q : Nat} {es : List MapEntry} (h : concE m [(k, v, p), (k2, v2, q)] = some es) : ∃ x y x2 y2, conc m k = some x ∧ conc m k2 = some x2 ∧ es = [{ key := x, val := y, born := p }, { key := x2, val := y2, born := q }] := by
  simp only [concE, entryC, Option.bind_eq_some_iff, Option.map_eq_some_iff] at h
  obtain ⟨_, ⟨x, hx, y, _, rfl⟩, l, ⟨_, ⟨x2, hx2, y2, _, rfl⟩, _, hl, rfl⟩, rfl⟩ := h
  obtain rfl := Option.some.inj hl
  exact ⟨x, y, x2, y2, hx, hx2, rfl⟩
end
open Go.Proofs.Tryz in
theorem keyI {x : Nat} (h : x < 9223372036854775808) : keyOf prog 3 (.int .i64 (x : Int)) = some (.int .i64 (x : Int)) := Maps.keyOf_int_mk underlying3 (by
  simp [Lit.wf, IntKind.min, IntKind.max, IntKind.signed, IntKind.bits]
  omega)
open Go.Proofs.Tryz in
theorem sortI_fn : FnOk prog 429 (xSortI 441) := by
  intro l h v h' e
  refine ⟨bodied func429 (by kernel_rfl), fun m w args hr ha => ?_⟩
  unfold xSortI at e
  split at e <;> try (cases e; done)
  rename_i f c
  simp only [okIf_ok, some_ok] at e
  obtain ⟨hf, oc, hoc, e⟩ := e
  obtain rfl : f = 441 := Nat.eq_of_beq_eq_true hf
  split at e <;> try (cases e; done)
  rename_i t b
  simp only [some_ok] at e
  obtain ⟨ob, hob, e⟩ := e
  obtain ⟨y, l', hy, hl', rfl⟩ := concL_cons.1 ha
  obtain rfl := concL_nil.1 hl'
  simp only [conc, concL, Option.bind_eq_some_iff, Option.map_eq_some_iff, Option.some.injEq] at hy
  obtain ⟨_, rfl, cl, ⟨_, ⟨p, hp, rfl⟩, _, rfl, rfl⟩, rfl⟩ := hy
  have hcell := hr.at hoc hp
  have hlt := hcell.lt
  obtain ⟨_, c1, r1, hc1, hw1, _⟩ := id hcell
  obtain ⟨y, l', hy, hl, rfl⟩ := concL_cons.1 hc1
  obtain rfl := concL_nil.1 hl
  have hm := cell_of hcell hy
  simp only [conc, Option.map_eq_some_iff] at hy
  obtain ⟨q, hq, rfl⟩ := hy
  split at e <;> try (cases e; done)
  · rename_i x val p0 clk
    simp only [okIf_ok, H.row_eq, Bool.and_eq_true] at e
    obtain ⟨⟨hx, hp0⟩, e⟩ := e
    injection e with e1 e2
    subst e1 e2
    have hx : x < 9223372036854775808 := Nat.le_of_ble_eq_true hx
    have hp0 : p0 < clk := Nat.le_of_ble_eq_true hp0
    obtain ⟨es, hes, hw⟩ := hr.at hob hq
    obtain ⟨kx, vy, hk, rfl⟩ := ent1 hes
    simp only [conc, Option.some.injEq] at hk
    subst hk
    refine (sortedI_any w q.1 p.1 _ clk [.int .i64 (x : Int)] hw ⟨by simp [hp0], by simp, by simp⟩ (by simp; exact keyI hx) (by simp) hlt hm).mono ?_
    rintro _ w' ⟨v, ss, rfl, hS, hrow, hnil, hb⟩
    have hs1 := merge_sorted (l := [(x : Int)]) (by simpa [Go.intOf] using hS) (by simp)
    have hl1 : ss.length = 1 := by simpa using hS.length_eq
    rw [hs1, hl1] at hrow
    exact row_gives hr hb hrow (by omega) (fun m => by simp [concL, conc, encZ]) rfl (by kernel_rfl)
  · rename_i x vx p0 y vy q0 clk
    simp only [okIf_ok, Bool.and_eq_true] at e
    obtain ⟨⟨⟨⟨⟨hx, hy⟩, hp0⟩, hq0⟩, hpq⟩, e⟩ := e
    have hx : x < 9223372036854775808 := Nat.le_of_ble_eq_true hx
    have hy : y < 9223372036854775808 := Nat.le_of_ble_eq_true hy
    have hp0 : p0 < clk := Nat.le_of_ble_eq_true hp0
    have hq0 : q0 < clk := Nat.le_of_ble_eq_true hq0
    have hpq : p0 ≠ q0 := fun e => by subst e; simp [Nat.beq_refl] at hpq
    obtain ⟨es, hes, hw⟩ := hr.at hob hq
    obtain ⟨kx, vy, kx2, vy2, hk, hk2, rfl⟩ := ent2 hes
    simp only [conc, Option.some.injEq] at hk hk2
    subst hk hk2
    have gen : ∀ (a b : Nat), a < b → [(x : Int), (y : Int)].Perm [(a : Int), (b : Int)] → x ≠ y → Calls prog 429 #[.func (.func 441) #[] #[.pointer (some ⟨p.1, 0, none⟩)]] w (Gives m h w (h.pushRow (.cells 3 [.int .i64 (.ofNat a), .int .i64 (.ofNat b)])) (.sl h.next 0 2 (.un h.nc 0 1))) := by
      intro a b hab hperm hne
      refine (sortedI_any w q.1 p.1 _ clk [.int .i64 (x : Int), .int .i64 (y : Int)] hw ⟨by simp [hp0, hq0], by simp [hpq], by simp; omega⟩ (by simp; exact ⟨keyI hx, keyI hy⟩) (by simp) hlt hm).mono ?_
      rintro _ w' ⟨v, ss, rfl, hS, hrow, hnil, hb⟩
      have hS' : ss.Perm [(x : Int), (y : Int)] := by simpa [Go.intOf] using hS
      have hs1 := merge_sorted (hS'.trans hperm) (by simp; omega)
      have hl1 : ss.length = 2 := by simpa using hS.length_eq
      rw [hs1, hl1] at hrow
      exact row_gives hr hb hrow (by omega) (fun m => by simp [concL, conc, encZ]) rfl (by kernel_rfl)
    rw [sel_ite, sel_ite] at e
    split at e
    · rename_i h1
      have h1 : x < y := Nat.le_of_ble_eq_true h1
      rw [H.row_eq] at e
      injection e with e1 e2
      subst e1 e2
      exact gen x y h1 (List.Perm.refl _) (by omega)
    · split at e <;> try (cases e; done)
      rename_i h1
      have h1 : y < x := Nat.le_of_ble_eq_true h1
      rw [H.row_eq] at e
      injection e with e1 e2
      subst e1 e2
      exact gen y x h1 (List.Perm.swap _ _ _) (by omega)
open Go.Proofs.Tryz in
theorem sortS_fn : FnOk prog 94 (xSortS 155 252) := by
  intro l h v h' e
  refine ⟨bodied func94 (by kernel_rfl), fun m w args hr ha => ?_⟩
  unfold xSortS at e
  split at e <;> try (cases e; done)
  rename_i f c
  simp only [okIf_ok, some_ok, Bool.or_eq_true] at e
  obtain ⟨hf, oc, hoc, e⟩ := e
  split at e <;> try (cases e; done)
  rename_i t b
  simp only [some_ok] at e
  obtain ⟨ob, hob, e⟩ := e
  obtain ⟨y, l', hy, hl', rfl⟩ := concL_cons.1 ha
  obtain rfl := concL_nil.1 hl'
  simp only [conc, concL, Option.bind_eq_some_iff, Option.map_eq_some_iff, Option.some.injEq] at hy
  obtain ⟨_, rfl, cl, ⟨_, ⟨p, hp, rfl⟩, _, rfl, rfl⟩, rfl⟩ := hy
  have hcell := hr.at hoc hp
  have hlt := hcell.lt
  obtain ⟨_, c1, r1, hc1, hw1, _⟩ := id hcell
  obtain ⟨y, l', hy, hl, rfl⟩ := concL_cons.1 hc1
  obtain rfl := concL_nil.1 hl
  have hm := cell_of hcell hy
  simp only [conc, Option.map_eq_some_iff] at hy
  obtain ⟨q, hq, rfl⟩ := hy
  have any : ∀ (es : Array MapEntry) (clock : Nat) (K : List Lit), w.heap[q.1]? = some (.map es clock) → MapKept.Stamped es clock → es.toList.map (fun e => keyOf prog 9 e.key) = K.map some → K.length ≤ 1000 →
      Calls prog 94 #[.func (.func f) #[] #[.pointer (some ⟨p.1, 0, none⟩)]] w fun e w' => ∃ (v : Value) (ss : List (List UInt8)), e = .returned v ∧ ss.Perm (K.map Go.strOf) ∧
      w'.ownsRow w.heap.size 9 1 v ss.length ((ss.mergeSort (fun x y => decide (x ≤ y))).map encStr) ∧ (v = .slice none 0 0 ↔ ss = []) ∧ Below w.heap.size w w' := by
    intro es clock K h1 h3 hK hl
    rcases hf with hf | hf
    · obtain rfl : f = 155 := Nat.eq_of_beq_eq_true hf
      exact sortedB_any w q.1 p.1 es clock K h1 h3 hK hl hlt hm
    · obtain rfl : f = 252 := Nat.eq_of_beq_eq_true hf
      exact sortedS_any w q.1 p.1 es clock K h1 h3 hK hl hlt hm
  split at e <;> try (cases e; done)
  · rename_i clk
    injection e with e1 e2
    subst e1 e2
    obtain ⟨es, hes, hw⟩ := hr.at hob hq
    obtain rfl := Option.some.inj (show some [] = some es from hes)
    refine (any _ clk [] hw ⟨by simp, by simp, by simp⟩ rfl (by simp)).mono ?_
    rintro _ w' ⟨v, ss, rfl, hS, hrow, hnil, hb⟩
    obtain rfl : ss = [] := List.perm_nil.1 (by simpa using hS)
    exact nil_gives (e := 9) hr hb (by simpa using hrow) (hnil.2 rfl)
  · rename_i s val p0 clk
    simp only [okIf_ok, H.row_eq, Bool.and_eq_true, lenN_eq] at e
    obtain ⟨⟨hs, hp0⟩, e⟩ := e
    injection e with e1 e2
    subst e1 e2
    have hs : s.length < 1000000 := Nat.le_of_ble_eq_true hs
    have hp0 : p0 < clk := Nat.le_of_ble_eq_true hp0
    obtain ⟨es, hes, hw⟩ := hr.at hob hq
    obtain ⟨kx, vy, hk, rfl⟩ := ent1 hes
    simp only [conc, Option.ite_none_right_eq_some, Option.some.injEq] at hk
    obtain ⟨hsm, rfl⟩ := hk
    refine (any _ clk [.string (bytesA s).data.toList] hw ⟨by simp [hp0], by simp, by simp⟩ (by simp; exact Go.WideMaps.keyOf_string_mk underlying9 (by simp [bytesA, ByteArray.size, maxLen]; omega)) (by simp)).mono ?_
    rintro _ w' ⟨v, ss, rfl, hS, hrow, hnil, hb⟩
    obtain rfl : ss = [(bytesA s).data.toList] := List.perm_singleton.1 (by simpa [Go.strOf] using hS)
    refine row_gives (n := 1) hr hb (by simpa using hrow) (by omega) (fun m => ?_) rfl (by kernel_rfl)
    simp [concL, conc, hsm, encStr]
end Go.Ev
