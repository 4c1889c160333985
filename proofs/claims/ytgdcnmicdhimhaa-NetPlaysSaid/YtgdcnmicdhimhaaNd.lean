/- Contracts of slices.Delete at packets, of Take. -/
import Derived.Test.YtgdcnmicdhimhaaNc
import Derived.Lib.SliceRun
namespace Go.Proofs.Ytgdcnmicdhimhaa
open Go.RowKit
set_option linter.unusedVariables false

def putL (cur : List Value) (o : Nat) (vs : List Value) : List Value := cur.take o ++ vs ++ cur.drop (o + vs.length)
theorem putL_cons (cur : List Value) (o : Nat) (v : Value) (r : List Value) (h : o < cur.length) : putL (cur.set o v) (o + 1) r = putL cur o (v :: r) := by
  unfold putL
  rw [List.take_set, List.drop_set, if_pos (by omega)]
  rw [List.take_add_one, List.getElem?_eq_getElem h, Option.toList_some, List.set_append_right _ _ (by simp; omega)]
  have : o - (cur.take o).length = 0 := by simp; omega
  rw [this, List.set_cons_zero, List.length_cons, Nat.add_assoc, Nat.add_comm 1]
  simp
theorem putL_length (cur : List Value) (o : Nat) (vs : List Value) (h : o + vs.length ≤ cur.length) : (putL cur o vs).length = cur.length := by
  unfold putL
  simp
  omega
theorem putL_take (X : List Value) (k : Nat) (vs : List Value) (h : k ≤ X.length) : (putL X k vs).take k = X.take k := by
  unfold putL
  rw [List.append_assoc, List.take_append_of_le_length (by simp; omega), List.take_take, Nat.min_self]
theorem putL_take2 (cur R : List Value) (i m : Nat) (hR : R.length = m * 3) (h : (i + m) * 3 ≤ cur.length) : (putL cur (i * 3) R).take ((i + m) * 3) = cur.take (i * 3) ++ R := by
  have hl : (cur.take (i * 3) ++ R).length = (i + m) * 3 := by simp; omega
  unfold putL
  rw [← hl, List.take_left]
theorem heap_setCells : ∀ (vs : List Value) (g o : Nat) (cur : Array Value) (t : TypeId) (w : World), w.heap[g]? = some (Obj.cells cur t (0, 0)) → o + vs.length ≤ cur.size →
    (w.setCells g o vs).heap[g]? = some (Obj.cells (putL cur.toList o vs).toArray t (0, 0)) ∧ w.grownBy (w.setCells g o vs) (some g)
  | [], g, o, cur, t, w, hg, h => by
    refine ⟨?_, World.grownBy.refl w _⟩
    rw [World.setCells, hg]
    simp [putL]
  | v :: r, g, o, cur, t, w, hg, h => by
    have h1 : (w.setCell ⟨g, o, none⟩ v).heap[g]? = some (Obj.cells (cur.setIfInBounds o v) t (0, 0)) := by simp [World.setCell, Array.getElem?_modify, hg]
    have h2 := heap_setCells r g (o + 1) _ t _ h1 (by simp at h ⊢; omega)
    refine ⟨?_, ?_⟩
    · rw [World.setCells, h2.1]
      rw [← putL_cons _ _ _ _ (by simp at h ⊢; omega)]
      simp
    · refine World.grownBy.trans (b := w.setCell ⟨g, o, none⟩ v) ⟨rfl, rfl, rfl, by simp [World.setCell], fun k _ hk => Below.heap_setCell w ⟨g, o, none⟩ v k (fun e => hk (by rw [e]))⟩ h2.2
theorem cell_at_row {w : World} {g : Nat} {cur : Array Value} {t : TypeId} (hg : w.heap[g]? = some (Obj.cells cur t (0, 0))) (j : Nat) (h : j < cur.size) : (w.cell? ⟨g, j, none⟩).isSome = true ∧ w.frozen? ⟨g, j, none⟩ = false := by
  refine ⟨?_, free_at hg j⟩
  rw [cell_of_row w g j _ _ _ hg]
  simp [h]

theorem zero36 (w : World) : (zeroValue 36).run Try.prog w = .ok (.agg #[.int .i64 0, .int .i64 0, .slice none 0 0]) w := by kernel_rfl
theorem run_clear1 (w : World) (ty : TypeId) (b o c : Nat) (hc : ∀ j, j < 3 → (w.cell? ⟨b, o + j, none⟩).isSome = true) (hf : ∀ j, j < 3 → w.frozen? ⟨b, o + j, none⟩ = false) :
    (Builtin.clear_ #[54] ty #[.slice (some ⟨b, o, none⟩) 1 c]).run Try.prog w = .ok (.tuple #[]) (w.setCells b o [.int .i64 0, .int .i64 0, .slice none 0 0]) := by
  have hzc : (Builtin.zeroCells (Value.agg #[.int .i64 0, .int .i64 0, .slice none 0 0]).cells 1).toList = [.int .i64 0, .int .i64 0, .slice none 0 0] := by kernel_rfl
  have hst := run_storeCells_cells (P := Try.prog) b o [.int .i64 0, .int .i64 0, .slice none 0 0] 0 w (by simpa using hc) (by simpa using hf) (by simp [Value.oneCell'])
  simp only [Nat.add_zero] at hst
  simp [Builtin.clear_, run_underlying Try.underlying54, hzc, hst]

theorem pcells_erase (ps : List Pkt) (i m : Nat) (h : ps.length = i + m + 1) : pcells (ps.eraseIdx i) = (pcells ps).take (i * 3) ++ (pcells ps).drop ((i + 1) * 3) := by
  have ht : ∀ k, (pcells ps).take (k * 3) = pcells (ps.take k) ∧ (pcells ps).drop (k * 3) = pcells (ps.drop k) := by
    intro k
    have e : pcells ps = pcells (ps.take k) ++ pcells (ps.drop k) := by rw [← pcells_append, List.take_append_drop]
    by_cases hk : k ≤ ps.length
    · have hl : (pcells (ps.take k)).length = k * 3 := by rw [pcells_length, List.length_take]; congr 1; omega
      constructor
      · rw [e, ← hl, List.take_left]
      · conv => lhs; rw [e, ← hl, List.drop_left]
    · have h1 : (pcells ps).length ≤ k * 3 := by rw [pcells_length]; omega
      rw [List.take_of_length_le h1, List.take_of_length_le (by omega), List.drop_eq_nil_of_le h1, show ps.drop k = [] from List.drop_eq_nil_of_le (by omega)]
      exact ⟨rfl, rfl⟩
  rw [(ht i).1, (ht (i + 1)).2, ← pcells_append, List.eraseIdx_eq_take_drop_succ]

theorem deleted {w : World} {B g c i m : Nat} {ps : List Pkt} (hlen : ps.length = i + m + 1) (h : w.ownsRow B 36 3 (.slice (some ⟨g, 0, none⟩) (i + m + 1) c) (i + m + 1) (pcells ps)) :
    (∀ j, j < 3 → ((w.setCells g (i * 3) ((pcells ps).drop ((i + 1) * 3))).cell? ⟨g, (i + m) * 3 + j, none⟩).isSome = true) ∧ (∀ j, j < 3 → (w.setCells g (i * 3) ((pcells ps).drop ((i + 1) * 3))).frozen? ⟨g, (i + m) * 3 + j, none⟩ = false) ∧
    ((w.setCells g (i * 3) ((pcells ps).drop ((i + 1) * 3))).setCells g ((i + m) * 3) [.int .i64 0, .int .i64 0, .slice none 0 0]).ownsRow B 36 3 (.slice (some ⟨g, 0, none⟩) (i + m) c) (i + m) (pcells (ps.eraseIdx i)) ∧
    w.grownBy ((w.setCells g (i * 3) ((pcells ps).drop ((i + 1) * 3))).setCells g ((i + m) * 3) [.int .i64 0, .int .i64 0, .slice none 0 0]) (some g) := by
  rcases h.2 with ⟨e, _⟩ | ⟨g', cap, cur, e, hB, hg, hnc, hcm, hsz, ht⟩
  · cases e
  · simp only [Value.slice.injEq, Option.some.injEq, Addr.mk.injEq, and_true, true_and] at e
    obtain ⟨rfl, rfl⟩ := e
    have hpl := pcells_length ps
    have hdl : ((pcells ps).drop ((i + 1) * 3)).length = m * 3 := by rw [List.length_drop, hpl, hlen]; omega
    obtain ⟨h1, g1⟩ := heap_setCells ((pcells ps).drop ((i + 1) * 3)) g (i * 3) cur 36 w hg (by rw [hdl, hsz]; omega)
    have hs1 : (putL cur.toList (i * 3) ((pcells ps).drop ((i + 1) * 3))).toArray.size = cur.size := by
      rw [List.size_toArray, putL_length _ _ _ (by rw [hdl, Array.length_toList, hsz]; omega), Array.length_toList]
    obtain ⟨h2, g2⟩ := heap_setCells [.int .i64 0, .int .i64 0, .slice none 0 0] g ((i + m) * 3) _ 36 _ h1 (by rw [hs1, hsz]; simp; omega)
    refine ⟨fun j hj => (cell_at_row h1 _ (by rw [hs1, hsz]; omega)).1, fun j hj => free_at h1 _, ⟨by rw [pcells_length, List.length_eraseIdx_of_lt (by omega), hlen]; rfl, .inr ⟨g, c, _, rfl, hB, h2, by omega, hcm, ?_, ?_⟩⟩, g1.trans g2⟩
    · rw [List.size_toArray, putL_length _ _ _ (by simp at hs1 ⊢; omega)]
      simpa [hsz] using hs1
    · rw [pcells_erase ps i m hlen]
      have e2 : (pcells ps).take (i * 3) = cur.toList.take (i * 3) := by rw [← ht, List.take_take, Nat.min_eq_left (by omega)]
      have hcl : cur.toList.length = c * 3 := by rw [Array.length_toList]; exact hsz
      clear h2 g2 h1 g1 hg ht h
      rw [putL_take _ _ _ (by rw [putL_length _ _ _ (by omega)]; omega), putL_take2 _ _ i m hdl (by omega), e2]

theorem wpList_clear {P : Program} {w w' : World} {ops : Array Oper} {rest : List Oper} {o : Oper} {a : Act} {Q : Exit → Act → World → Prop} (hgd : o.guard = none) (x : Operand) (t : TypeId)
    (ho : o.op = .call { callee := .builtin .clear, args := #[x], argTypes := #[t] }) (v : Value) (hx : a.eval x = v) (hrun : ∀ ty, (Builtin.clear_ #[t] ty #[v]).run P w = .ok (.tuple #[]) w')
    (h : wpList P ops Q rest (a.put o.dst (.tuple #[])) w') : wpList P ops Q (o :: rest) a w := by
  refine wpList_plain hgd fun K hK => ?_
  unfold Oper.wp execOp
  simp only [ho, resolve, invoke, builtin, Sem.run_bind, Sem.run_pure, Result.andThen_ok, List.map_toArray, List.map_cons, List.map_nil, hx, hrun]
  exact hK _ _ h
/-- What is left of the row when one is struck. -/
def Struck (w : World) (B g c i m : Nat) (ps : List Pkt) (e : Ending) (w' : World) : Prop :=
  e = .returned (.slice (some ⟨g, 0, none⟩) (i + m) c) ∧ w'.ownsRow B 36 3 (.slice (some ⟨g, 0, none⟩) (i + m) c) (i + m) (pcells (ps.eraseIdx i)) ∧ w.grownBy w' (some g)
theorem pcells_one (ps : List Pkt) : ∀ u ∈ pcells ps, u.oneCell' = true := by
  intro u hu
  unfold pcells at hu
  rw [List.mem_flatMap] at hu
  obtain ⟨p, _, hu⟩ := hu
  simp [Pkt.cells, Pkt.body] at hu
  rcases hu with rfl | rfl | rfl <;> rfl
set_option maxRecDepth 100000 in
set_option maxHeartbeats 1000000 in
theorem delete_any (B g c i m : Nat) (ps : List Pkt) (w : World) (hlen : ps.length = i + m + 1) (h : w.ownsRow B 36 3 (.slice (some ⟨g, 0, none⟩) (i + m + 1) c) (i + m + 1) (pcells ps)) (hc : i + m + 1 ≤ c) (hcm : c ≤ 9223372036854775807) :
    Calls Try.prog 21 #[.slice (some ⟨g, 0, none⟩) (i + m + 1) c, .int .i64 (i : Int), .int .i64 ((i : Int) + 1)] w (Struck w B g c i m ps) := by
  obtain ⟨i0, hi0, hz0, hz1, hz2⟩ := info_parts info36
  obtain ⟨d1, d2, d3, d4⟩ := deleted hlen h.drew
  have hnl : ((pcells ps).drop ((i + 1) * 3)).length = m * 3 := by rw [List.length_drop, pcells_length, hlen]; omega
  have hone : ∀ u ∈ (pcells ps).drop ((i + 1) * 3), u.oneCell' = true := fun u hu => pcells_one ps u (List.mem_of_mem_drop hu)
  have hspare : ∀ j, j < ((pcells ps).drop ((i + 1) * 3)).length → (w.drew.cell? ⟨g, 0 + i * 3 + j, none⟩).isSome = true ∧ w.drew.frozen? ⟨g, 0 + i * 3 + j, none⟩ = false := by
    intro j hj
    rw [hnl] at hj
    rcases h.drew.2 with ⟨e, _⟩ | ⟨g', cap, cur, e, hB, hg, hnc, hcm, hsz, ht⟩
    · cases e
    · simp only [Value.slice.injEq, Option.some.injEq, Addr.mk.injEq, and_true, true_and] at e
      obtain ⟨rfl, rfl⟩ := e
      exact cell_at_row hg _ (by rw [hsz]; omega)
  have hnews : ∀ j u, ((pcells ps).drop ((i + 1) * 3))[j]? = some u → w.drew.cell? ((⟨g, (i + 1) * 3, none⟩ : Addr).add j) = some u := by
    intro j u hj
    have hjl : j < m * 3 := by rw [← hnl]; exact (List.getElem?_eq_some_iff.1 hj).1
    rw [List.getElem?_drop] at hj
    have := h.drew.cellAt ((i + 1) * 3 + j) (by omega)
    rw [hj] at this
    unfold Addr.add
    split
    · subst j; simpa using this
    · exact this
  have hclr := fun ty => run_clear1 (w.drew.setCells g (i * 3) ((pcells ps).drop ((i + 1) * 3))) ty g ((i + m) * 3) (c - (i + m)) d1 d2
  have HCL := Lib.hid hclr
  clear hclr
  have D3 := Lib.hid d3
  have D4 := Lib.hid d4
  have HSP := Lib.hid hspare
  have HNW := Lib.hid hnews
  have HN := Lib.hid hnl
  have HO := Lib.hid hone
  clear d1 d2 d3 d4 h hlen hnl hone hspare hnews
  have e1 : ¬ (i : Int) = (i : Int) + 1 := by omega
  have q1 : (0 : Int) ≤ (i : Int) := by omega
  have q2 : (i : Int) ≤ (c : Int) := by omega
  have q3 : (0 : Int) ≤ (i : Int) + 1 := by omega
  have q4 : (i : Int) + 1 ≤ (i : Int) + (m : Int) + 1 := by omega
  by_cases hlast : i + 1 = c
  · have hm0 : m = 0 := by omega
    subst hm0
    have hn0 : (pcells ps).drop ((i + 1) * 3) = [] := List.eq_nil_of_length_eq_zero (by rw [HN.out, Nat.zero_mul])
    have HN0 := Lib.hid hn0
    subst hlast
    clear hn0 q2 q4 hcm
    have q6 : (i : Int) ≤ (i : Int) + 1 := by omega
    have q7 : ¬ (i : Int) + 1 < (i : Int) := by omega
    go_enter Try.func21, Try.ntmps21
    go_wp2_with fail
    go_region_law (refine step_append_room rfl (.tmp 22) (.tmp 25) 54 rfl 36 i0 3 Try.underlying54 hi0 hz1 g 0 i (i + 1) (by simp [Act.eval, Act.put]) ⟨g, 0, none⟩ 0 0 ((pcells ps).drop ((i + 1) * 3)) (by simp [Act.eval, Act.put]) HN.out (fun j u hj => by rw [HN0.out] at hj; simp at hj) HO.out (by omega) HSP.out ?_)
    have hcl := HCL.out
    rw [Nat.add_zero, Nat.add_sub_cancel_left] at hcl
    have HCL2 := Lib.hid hcl
    clear hcl
    go_wp2_with (refine wpList_clear rfl (.tmp 31) 54 rfl (.slice (some ⟨g, i * 3, none⟩) 1 1) rfl HCL2.out ?_)
    go_returns
    exact ⟨rfl, D3.out, ⟨D4.out.os, D4.out.tape, D4.out.output, D4.out.size, D4.out.block⟩⟩
  · have q5 : ¬ c = i + 1 := by omega
    go_enter Try.func21, Try.ntmps21
    go_wp2_with fail
    go_region_law (refine step_append_room rfl (.tmp 22) (.tmp 25) 54 rfl 36 i0 3 Try.underlying54 hi0 hz1 g 0 i c (by simp [Act.eval, Act.put]) ⟨g, (i + 1) * 3, none⟩ m (c - (i + 1)) ((pcells ps).drop ((i + 1) * 3)) (by simp [Act.eval, Act.put]) HN.out HNW.out HO.out (by omega) HSP.out ?_)
    have e9 : i + m + 1 - (i + m) = 1 := by omega
    have E9 := Lib.hid e9
    clear e9
    go_wp2_with (refine wpList_clear rfl (.tmp 31) 54 rfl (.slice (some ⟨g, (i + m) * 3, none⟩) (i + m + 1 - (i + m)) (c - (i + m))) rfl (fun ty => by rw [E9.out]; exact HCL.out ty) ?_)
    go_returns
    exact ⟨rfl, D3.out, ⟨D4.out.os, D4.out.tape, D4.out.output, D4.out.size, D4.out.block⟩⟩

theorem take_nil (i : Int) (w : World) : Calls Try.prog 9 #[.pointer none, .int .i64 i] w fun e w' => e = .returned (.tuple #[.agg #[.int .i64 0, .int .i64 0, .slice none 0 0], .bool false]) ∧ Below w.heap.size w w' := by
  go_enter Try.func9, Try.ntmps9
  go_wp2_with (go_at_call 20; refine (there_nil _ _).mono ?_; rintro e w' ⟨rfl, rfl⟩)
  go_returns
  exact ⟨rfl, (Below.refl _ _).alloc (Nat.le_refl _) _⟩
theorem take_no (B r mb : Nat) (v : Value) (nodes : Int) (ps : List Pkt) (n : Nat) (par : Int → Int → Bool) (i : Int) (w : World) (h : NetAt w B r v mb nodes ps n par) (hi : ¬ (0 ≤ i ∧ i < ps.length)) :
    Calls Try.prog 9 #[.pointer (some ⟨r, 0, none⟩), .int .i64 i] w fun e w' => e = .returned (.tuple #[.agg #[.int .i64 0, .int .i64 0, .slice none 0 0], .bool false]) ∧ Below w.heap.size w w' := by
  obtain ⟨A, c, hv, _⟩ := own_sliceN h.own
  have HT := Lib.hid (fun W (hc : W.cell? ⟨r, 1, none⟩ = some v) => there_any r v ps.length i A c W hv hc)
  have hd : decide (0 ≤ i ∧ i < (ps.length : Int)) = false := by simpa using hi
  rw [hd] at HT
  have H := Lib.hid h
  clear h hv hi hd
  go_enter Try.func9, Try.ntmps9
  go_wp2_with (go_at_call 20; refine (HT.out _ (H.out.below ((Below.refl _ _).alloc (Nat.le_refl _) _)).c1).mono ?_; rintro e w' ⟨rfl, rfl⟩)
  go_returns
  exact ⟨rfl, (Below.refl _ _).alloc (Nat.le_refl _) _⟩

theorem NetAt.set_far {w : World} {B r mb : Nat} {v : Value} {nodes : Int} {ps : List Pkt} {n : Nat} {par : Int → Int → Bool} (h : NetAt w B r v mb nodes ps n par) (k o : Nat) (u : Value)
    (hr : r ≠ k) (hm : mb ≠ k) (hv : ∀ j, v.ownBlock = some j → j ≠ k) (hb : ∀ q ∈ ps, ∀ j, q.body.ownBlock = some j → j ≠ k) : NetAt (w.setCell ⟨k, o, none⟩ u) B r v mb nodes ps n par :=
  ⟨(Below.heap_setCell w ⟨k, o, none⟩ u r hr).trans h.blk, own_set h.own _ _ hv, map_set h.map _ _ hm, h.hr, h.hm, fun q hq => own_set (h.bod q hq) _ _ (hb q hq)⟩

theorem took {w W1 W2 W3 : World} {B r mb g c i m : Nat} {nodes : Int} {ps : List Pkt} {n : Nat} {par : Int → Int → Bool} (h : NetAt w B r (.slice (some ⟨g, 0, none⟩) (i + m + 1) c) mb nodes ps n par) (hB : B ≤ w.heap.size) (hlen : ps.length = i + m + 1)
    (bel : Below w.heap.size w W2) (hk : w.heap.size < W2.heap.size) (own3 : W3.ownsRow B 36 3 (.slice (some ⟨g, 0, none⟩) (i + m) c) (i + m) (pcells (ps.eraseIdx i))) (gr3 : W2.grownBy W3 (some g)) (u0 u1 u2 : Value) :
    ∃ v', NetAt ((((W3.setCell ⟨r, 1, none⟩ (.slice (some ⟨g, 0, none⟩) (i + m) c)).setCell ⟨w.heap.size, 0, none⟩ u0).setCell ⟨w.heap.size, 1, none⟩ u1).setCell ⟨w.heap.size, 2, none⟩ u2) B r v' mb nodes (ps.eraseIdx i) n par ∧
      Turn B w ((((W3.setCell ⟨r, 1, none⟩ (.slice (some ⟨g, 0, none⟩) (i + m) c)).setCell ⟨w.heap.size, 0, none⟩ u0).setCell ⟨w.heap.size, 1, none⟩ u1).setCell ⟨w.heap.size, 2, none⟩ u2) := by
  have hgl := h.own.lt g rfl
  have hml := h.map.lt
  have hrl := h.lt
  have N2 := h.below bel
  have hbl : ∀ q ∈ ps.eraseIdx i, ∀ j, q.body.ownBlock = some j → j ≠ w.heap.size := fun q hq j hj => by
    have := (h.bod q (List.mem_of_mem_eraseIdx hq)).lt j hj
    omega
  have hel : (ps.eraseIdx i).length = i + m := by rw [List.length_eraseIdx_of_lt (by omega), hlen]; rfl
  obtain ⟨h1, h2⟩ := N2.turned (ps' := ps.eraseIdx i) gr3 (by rw [hel]; exact own3) (fun q hq => N2.bod q (List.mem_of_mem_eraseIdx hq))
  have h2 := h2 (by omega)
  have hv : ∀ j, (Value.slice (some ⟨g, 0, none⟩) (i + m) c).ownBlock = some j → j ≠ w.heap.size := fun j hj => by
    have : g = j := by simpa [Value.ownBlock] using hj
    omega
  have f1 := ((h1.set_far w.heap.size 0 u0 (by omega) (by omega) hv hbl).set_far w.heap.size 1 u1 (by omega) (by omega) hv hbl).set_far w.heap.size 2 u2 (by omega) (by omega) hv hbl
  refine ⟨_, f1, ?_, ?_⟩
  · exact (((((Turn.of_below bel hB).trans h2).below.setCell (by exact hB) _).setCell (by exact hB) _).setCell (by exact hB) _)
  · intro k cs t fr hk' h36 h64
    have e1 := ((Turn.of_below bel hB).trans h2).quiet k cs t fr hk' h36 h64
    have hkl := lt_of_heap hk'
    rw [Below.heap_setCell _ _ _ _ (by show k ≠ w.heap.size; omega), Below.heap_setCell _ _ _ _ (by show k ≠ w.heap.size; omega), Below.heap_setCell _ _ _ _ (by show k ≠ w.heap.size; omega)]
    exact e1

set_option maxRecDepth 100000 in
set_option maxHeartbeats 1000000 in
theorem take_on (B r mb : Nat) (v : Value) (nodes : Int) (ps : List Pkt) (n : Nat) (par : Int → Int → Bool) (i : Nat) (w : World) (h : NetAt w B r v mb nodes ps n par) (hB : B ≤ w.heap.size) (hi : i < ps.length) :
    Calls Try.prog 9 #[.pointer (some ⟨r, 0, none⟩), .int .i64 (i : Int)] w fun e w' => e = .returned (.tuple #[.agg #[.int .i64 (ps[i]).frm, .int .i64 (ps[i]).to, (ps[i]).body], .bool true]) ∧
      ∃ v', NetAt w' B r v' mb nodes (ps.eraseIdx i) n par ∧ Turn B w w' := by
  obtain ⟨g, c, hv, hgl, hgB, hgr, hcl, hcm, p0, p1, p2⟩ := h.packet i hi
  have HT := Lib.hid (fun W (hc : W.cell? ⟨r, 1, none⟩ = some v) => there_any r v ps.length (i : Int) _ c W hv hc)
  have hd : decide (0 ≤ (i : Int) ∧ (i : Int) < (ps.length : Int)) = true := by simp; omega
  rw [hd] at HT
  obtain ⟨m, hm⟩ : ∃ m, ps.length = i + m + 1 := ⟨ps.length - i - 1, by omega⟩
  obtain ⟨p, hp⟩ : ∃ p, p = ps[i] := ⟨_, rfl⟩
  rw [← hp] at p0 p1 p2 ⊢
  obtain ⟨fa, fb, fA, fc, l⟩ := p
  simp only [Pkt.body] at p0 p1 p2 ⊢
  obtain ⟨k, hkl⟩ : ∃ k, k = l.length := ⟨_, rfl⟩
  rw [← hkl] at p2 ⊢
  rw [hm] at hv hcl
  subst hv
  have hrl := h.lt
  obtain ⟨W1, hW1⟩ : ∃ W1, W1 = w.alloc (Obj.cells #[Value.int IntKind.i64 0, Value.int IntKind.i64 0, Value.slice none 0 0] 36) := ⟨_, rfl⟩
  have bel1 : Below w.heap.size w W1 := by rw [hW1]; exact (Below.refl _ _).alloc (Nat.le_refl _) _
  have hs1 : W1.heap.size = w.heap.size + 1 := by rw [hW1]; simp
  have N1 := h.below bel1
  have R1 : W1.heap[w.heap.size]? = some (Obj.cells #[Value.int IntKind.i64 0, Value.int IntKind.i64 0, Value.slice none 0 0] 36 (0, 0)) := by rw [hW1]; exact heap_alloc_new w _
  have j1 := N1.c1
  have o0 : W1.cell? ⟨g, i * 3, none⟩ = some (.int .i64 fa) := (bel1.cell hgl).trans p0
  have o1 : W1.cell? ⟨g, i * 3 + 1, none⟩ = some (.int .i64 fb) := (bel1.cell hgl).trans p1
  have o2 : W1.cell? ⟨g, i * 3 + 2, none⟩ = some (.slice fA k fc) := (bel1.cell hgl).trans p2
  obtain ⟨W2, hW2⟩ : ∃ W2, W2 = W1.alloc (Obj.cells #[Value.int IntKind.i64 fa, Value.int IntKind.i64 fb, Value.slice fA k fc] 36) := ⟨_, rfl⟩
  have bel2 : Below W1.heap.size W1 W2 := by rw [hW2]; exact (Below.refl _ _).alloc (Nat.le_refl _) _
  have N2 := N1.below bel2
  have R2 : W2.heap[w.heap.size]? = some (Obj.cells #[Value.int IntKind.i64 0, Value.int IntKind.i64 0, Value.slice none 0 0] 36 (0, 0)) := by rw [bel2.block _ (by omega)]; exact R1
  have P2 : W2.heap[W1.heap.size]? = some (Obj.cells #[Value.int IntKind.i64 fa, Value.int IntKind.i64 fb, Value.slice fA k fc] 36 (0, 0)) := by rw [hW2]; exact heap_alloc_new W1 _
  have k1 := N2.c1
  have hs2 : W2.heap.size = W1.heap.size + 1 := by rw [hW2]; simp
  have HD := Lib.hid (delete_any B g c i m ps W2 hm (by have := N2.own; rw [hm] at this; exact this) hcl hcm)
  unfold Struck at HD
  have H := Lib.hid h
  have HM := Lib.hid hm
  have HW1 := Lib.hid hW1
  have HW2 := Lib.hid hW2
  have HR2 := Lib.hid R2
  have HP2 := Lib.hid P2
  have HN2 := Lib.hid N2
  have HS1 := Lib.hid hs1
  have HS2 := Lib.hid hs2
  have HB12 := Lib.hid (bel1.trans (bel2.mono (by omega)))
  have a1 : (0 : Int) ≤ (i : Int) := by omega
  have a2 : (i : Int) < (i : Int) + (m : Int) + 1 := by omega
  clear h hd hp hkl hm hW1 hW2 R1 R2 P2 N1 N2 hs1 hs2 p0 p1 p2 bel1 bel2 hi
  go_enter Try.func9, Try.ntmps9
  go_wp2_with fail
  rw [← HW1.out]
  refine (HT.out W1 j1).mono ?_
  rintro e w' ⟨rfl, rfl⟩
  rw [HW2.out] at k1
  go_wp2_with fail
  rw [← HW2.out]
  refine HD.out.mono ?_
  rintro e W3 ⟨rfl, own3, gr3⟩
  have j3 := HN2.out.grown_cell gr3
  obtain ⟨j3c, j3f⟩ := j3
  have hwg : w.heap.size ≠ g := by omega
  have R3 : W3.heap[w.heap.size]? = some (Obj.cells #[Value.int IntKind.i64 0, Value.int IntKind.i64 0, Value.slice none 0 0] 36 (0, 0)) := by
    have := HS1.out; have := HS2.out
    rw [gr3.block _ (by omega) (by simp; omega)]; exact HR2.out
  have P3 : W3.heap[W1.heap.size]? = some (Obj.cells #[Value.int IntKind.i64 fa, Value.int IntKind.i64 fb, Value.slice fA k fc] 36 (0, 0)) := by
    have := HS1.out; have := HS2.out
    rw [gr3.block _ (by omega) (by simp; omega)]; exact HP2.out
  have c00 := cell_of_row W3 w.heap.size 0 _ _ _ R3
  have c01 := cell_of_row W3 w.heap.size 1 _ _ _ R3
  have c02 := cell_of_row W3 w.heap.size 2 _ _ _ R3
  have c10 := cell_of_row W3 W1.heap.size 0 _ _ _ P3
  have c11 := cell_of_row W3 W1.heap.size 1 _ _ _ P3
  have c12 := cell_of_row W3 W1.heap.size 2 _ _ _ P3
  have f0 := fun i => free_at R3 i
  have f1 := fun i => free_at P3 i
  have n1 : ¬ r = w.heap.size := by omega
  have n2 : ¬ w.heap.size = r := by omega
  have n3 : ¬ r = W1.heap.size := by have := HS1.out; omega
  have n4 : ¬ W1.heap.size = r := by have := HS1.out; omega
  have n5 : ¬ W1.heap.size = w.heap.size := by have := HS1.out; omega
  have n6 : ¬ w.heap.size = W1.heap.size := by have := HS1.out; omega
  have OWN3 := Lib.hid own3
  have GR3 := Lib.hid gr3
  simp at c00 c01 c02 c10 c11 c12
  clear own3 gr3 R3 P3 j1 k1 o0 o1 o2 hwg
  go_wp2_with fail
  refine bodyPost_ret (v := .tuple #[.agg #[.int .i64 fa, .int .i64 fb, .slice fA k fc], .bool true]) ?_ rfl ⟨rfl, took (W1 := W1) H.out hB HM.out HB12.out (by have := HS1.out; have := HS2.out; omega) OWN3.out GR3.out _ _ _⟩
  simp [results, Try.results9, go_sem, c00, c01, c02]
end Go.Proofs.Ytgdcnmicdhimhaa
