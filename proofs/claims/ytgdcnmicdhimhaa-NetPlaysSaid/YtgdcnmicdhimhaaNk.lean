/- Contracts of the reference: Twice, Send. -/
import Derived.Test.YtgdcnmicdhimhaaNj
namespace Go.Proofs.Ytgdcnmicdhimhaa
open Go.RowKit
set_option linter.unusedVariables false

theorem info40 : (Try.prog.info? 40).map (fun i => (i.zero, i.size, i.bytes)) = some (some (.agg #[.int .i64 0, .int .i64 0, .string ByteArray.empty]), 3, 32) := by kernel_rfl
theorem info67 : (Try.prog.info? 67).map (fun i => (i.zero, i.size, i.bytes)) = some (some (.agg #[.int .i64 0, .int .i64 0]), 2, 16) := by kernel_rfl
theorem lcells_one (L : List (Int × Int × List UInt8)) : ∀ u ∈ lcells L, u.oneCell' = true := by
  intro u hu
  unfold lcells at hu
  rw [List.mem_flatMap] at hu
  obtain ⟨p, _, hu⟩ := hu
  simp [lcell] at hu
  rcases hu with rfl | rfl | rfl <;> rfl
theorem lcells_snoc (L : List (Int × Int × List UInt8)) (p : Int × Int × List UInt8) : lcells (L ++ [p]) = lcells L ++ lcell p := by unfold lcells; rw [List.flatMap_append]; simp
theorem RdT.set {w : World} {t : TypeId} {A : Option Addr} {xs : List Value} (h : RdT w t A xs) {k : Nat} {cur : Array Value} {t' : TypeId} {fr : Nat × Nat} (hk : w.heap[k]? = some (Obj.cells cur t' fr)) (hne : t ≠ t') (o : Nat) (u : Value) :
    RdT (w.setCell ⟨k, o, none⟩ u) t A xs := by
  rcases h with h | ⟨b, off, cs, fr', hA, hg, hc⟩
  · exact .inl h
  · refine .inr ⟨b, off, cs, fr', hA, (Below.heap_setCell w ⟨k, o, none⟩ u b (fun e => ?_)).trans hg, hc⟩
    have e : b = k := e
    subst e
    rw [hk] at hg
    injection hg with hg
    injection hg with _ hg
    exact hne hg.symm
theorem heap_set' {w : World} {g : Nat} {cur : Array Value} {t : TypeId} (h : w.heap[g]? = some (Obj.cells cur t (0, 0))) (k o : Nat) (u : Value) : ∃ cur', (w.setCell ⟨k, o, none⟩ u).heap[g]? = some (Obj.cells cur' t (0, 0)) := by
  obtain ⟨c, h1, _⟩ := heap_set h k o u
  exact ⟨c, h1⟩

/-- The end of a call that answers a network by value: its copy in the box at block k, the result at block k + 1. -/
theorem ref_fin {w w5 : World} {A5 AP : Option Addr} {n' c5 cP : Nat} {L' : List (Int × Int × List UInt8)} {P : List (Int × Int)} {c0 c1 : Array Value}
    (own5 : w5.ownsRow (w.heap.size + 2) 40 3 (.slice A5 n' c5) n' (lcells L')) (hn : L'.length = n') (hp : RdT w5 67 AP (qcells P)) (hpl : P.length ≤ cP) (hpm : cP ≤ 9223372036854775807)
    (b0 : w5.heap[w.heap.size]? = some (Obj.cells c0 31 (0, 0))) (b1 : w5.heap[w.heap.size + 1]? = some (Obj.cells c1 31 (0, 0))) (bel : Below w.heap.size w w5) (u u0 u1 u2 : Value) :
    RefAt ((((w5.setCell ⟨w.heap.size, 1, none⟩ u).setCell ⟨w.heap.size + 1, 0, none⟩ u0).setCell ⟨w.heap.size + 1, 1, none⟩ u1).setCell ⟨w.heap.size + 1, 2, none⟩ u2) A5 c5 AP cP L' P ∧
    Below w.heap.size w ((((w5.setCell ⟨w.heap.size, 1, none⟩ u).setCell ⟨w.heap.size + 1, 0, none⟩ u0).setCell ⟨w.heap.size + 1, 1, none⟩ u1).setCell ⟨w.heap.size + 1, 2, none⟩ u2) := by
  obtain ⟨_, _, hs, hc1, hc2, _⟩ := own_sliceN own5
  simp only [Value.slice.injEq] at hs
  obtain ⟨_, _, rfl⟩ := hs
  obtain ⟨d1, e1⟩ := heap_set' b1 w.heap.size 1 u
  obtain ⟨d2, e2⟩ := heap_set' e1 (w.heap.size + 1) 0 u0
  obtain ⟨d3, e3⟩ := heap_set' e2 (w.heap.size + 1) 1 u1
  have hown : ∀ k, (Value.slice A5 n' c5).ownBlock = some k → w.heap.size + 2 ≤ k := own_geN own5
  have o1 := own_set own5 ⟨w.heap.size, 1, none⟩ u (fun k hk => by have := hown k hk; show k ≠ w.heap.size; omega)
  have o2 := own_set o1 ⟨w.heap.size + 1, 0, none⟩ u0 (fun k hk => by have := hown k hk; show k ≠ w.heap.size + 1; omega)
  have o3 := own_set o2 ⟨w.heap.size + 1, 1, none⟩ u1 (fun k hk => by have := hown k hk; show k ≠ w.heap.size + 1; omega)
  have o4 := own_set o3 ⟨w.heap.size + 1, 2, none⟩ u2 (fun k hk => by have := hown k hk; show k ≠ w.heap.size + 1; omega)
  refine ⟨⟨RdT.of_own o4, (((hp.set b0 (by decide) 1 u).set e1 (by decide) 0 u0).set e2 (by decide) 1 u1).set e3 (by decide) 2 u2, by omega, hc2, hpl, hpm⟩, ?_⟩
  exact (((bel.setCell (by show w.heap.size ≤ w.heap.size; omega) _).setCell (by show w.heap.size ≤ w.heap.size + 1; omega) _).setCell (by show w.heap.size ≤ w.heap.size + 1; omega) _).setCell (by show w.heap.size ≤ w.heap.size + 1; omega) _

theorem RdT.side {w w' : World} {t t' : TypeId} {A : Option Addr} {xs ys : List Value} {base size n : Nat} {v : Value} (h : RdT w t A xs) (hg : w.grownBy w' v.ownBlock) (own : w.ownsRow base t' size v n ys) (hne : t ≠ t') : RdT w' t A xs := by
  rcases h with h | ⟨b, off, cs, fr', hA, hgg, hc⟩
  · exact .inl h
  · refine .inr ⟨b, off, cs, fr', hA, ?_, hc⟩
    rw [hg.block b (lt_of_heap hgg) (fun e => ?_)]
    · exact hgg
    · obtain ⟨cur, hcur⟩ := own_at own e.symm
      rw [hgg] at hcur
      injection hcur with hcur
      injection hcur with _ hcur
      exact hne hcur
theorem box_after {w4 w5 : World} {o o' : Obj} {v : Value} {n base k size : Nat} {t : TypeId} {xs : List Value} (gr : (w4.alloc o).grownBy w5 v.ownBlock) (own : w4.ownsRow base t size v n xs) (hk : k < base) (hb : w4.heap[k]? = some o') : w5.heap[k]? = some o' := by
  rw [gr.block k (by have := lt_of_heap hb; simp; omega) (fun e => by have := own_geN own k e.symm; omega), Below.heap_alloc _ _ _ (lt_of_heap hb)]
  exact hb

set_option maxRecDepth 100000 in
theorem rtwice_no (nodes i : Int) (AL AP : Option Addr) (nL cL nP cP : Nat) (w : World) (hi : ¬ (0 ≤ i ∧ i < nL)) :
    Calls Try.prog 12 #[.agg #[.int .i64 nodes, .slice AL nL cL, .slice AP nP cP], .int .i64 i] w fun e w' => e = .returned (.tuple #[.agg #[.int .i64 nodes, .slice AL nL cL, .slice AP nP cP], .bool false]) ∧ Below w.heap.size w w' := by
  by_cases h0 : i < 0
  · go_enter Try.func12, Try.ntmps12
    go_wp2_with fail
    go_returns
    exact ⟨rfl, ((Below.refl _ _).alloc (Nat.le_refl _) _).alloc (by simp) _⟩
  · have h1 : (nL : Int) ≤ i := by omega
    clear hi
    go_enter Try.func12, Try.ntmps12
    go_wp2_with fail
    go_returns
    exact ⟨rfl, ((Below.refl _ _).alloc (Nat.le_refl _) _).alloc (by simp) _⟩

set_option maxRecDepth 100000 in
set_option maxHeartbeats 1000000 in
theorem rtwice_on (nodes : Int) (AL AP : Option Addr) (nL cL nP cP i : Nat) (L : List (Int × Int × List UInt8)) (P : List (Int × Int)) (w : World) (h : RefAt w AL cL AP cP L P) (hn : L.length = nL) (hi : i < L.length) (hL : L.length ≤ 1000000) :
    Calls Try.prog 12 #[.agg #[.int .i64 nodes, .slice AL nL cL, .slice AP nP cP], .int .i64 (i : Int)] w fun e w' => ∃ A' c', e = .returned (.tuple #[.agg #[.int .i64 nodes, .slice A' (nL + 1) c', .slice AP nP cP], .bool true]) ∧
      RefAt w' A' c' AP cP (L ++ [L[i]]) P ∧ Below w.heap.size w w' := by
  obtain ⟨i0, hi0, hz0, hz1, hz2⟩ := info_parts info40
  obtain ⟨bL, oL, rfl, hbL, p0, p1, p2⟩ := h.packet i hi
  obtain ⟨fa, hfa⟩ : ∃ x, x = (L[i]).1 := ⟨_, rfl⟩
  obtain ⟨fb, hfb⟩ : ∃ x, x = (L[i]).2.1 := ⟨_, rfl⟩
  obtain ⟨fl, hfl⟩ : ∃ x, x = (L[i]).2.2 := ⟨_, rfl⟩
  have hlc : lcell (L[i]) = [.int .i64 fa, .int .i64 fb, .string ⟨fl.toArray⟩] := by rw [hfa, hfb, hfl]; rfl
  rw [← hfa] at p0
  rw [← hfb] at p1
  rw [← hfl] at p2
  have HLC := Lib.hid hlc
  have HFA := Lib.hid hfa
  have HFB := Lib.hid hfb
  have HFL := Lib.hid hfl
  have H := Lib.hid h
  have HN := Lib.hid hn
  have hil : i < nL := by omega
  have hnm : nL ≤ 1000000 := by omega
  have a1 : (0 : Int) ≤ (i : Int) := by omega
  have a2 : (i : Int) < (nL : Int) := by omega
  obtain ⟨W2, hW2⟩ : ∃ W2, W2 = (w.alloc (Obj.cells #[.int .i64 nodes, .slice (some ⟨bL, oL, none⟩) nL cL, .slice AP nP cP] 31)).alloc (Obj.cells #[.int .i64 0, .slice none 0 0, .slice none 0 0] 31) := ⟨_, rfl⟩
  have bel2 : Below w.heap.size w W2 := by rw [hW2]; exact ((Below.refl _ _).alloc (Nat.le_refl _) _).alloc (by simp) _
  have hs2 : W2.heap.size = w.heap.size + 2 := by rw [hW2]; simp
  have B0 : W2.heap[w.heap.size]? = some (Obj.cells #[.int .i64 nodes, .slice (some ⟨bL, oL, none⟩) nL cL, .slice AP nP cP] 31 (0, 0)) := by
    rw [hW2, Below.heap_alloc _ _ _ (by simp)]
    exact heap_alloc_new w _
  have B1 : W2.heap[w.heap.size + 1]? = some (Obj.cells #[.int .i64 0, .slice none 0 0, .slice none 0 0] 31 (0, 0)) := by
    rw [hW2]
    have := heap_alloc_new (w.alloc (Obj.cells #[.int .i64 nodes, .slice (some ⟨bL, oL, none⟩) nL cL, .slice AP nP cP] 31)) (Obj.cells #[.int .i64 0, .slice none 0 0, .slice none 0 0] 31)
    simpa using this
  have H2 := h.below bel2
  have HH2 := Lib.hid H2
  have HB0 := Lib.hid B0
  have HB1 := Lib.hid B1
  have HW2 := Lib.hid hW2
  have HS2 := Lib.hid hs2
  have HBEL2 := Lib.hid bel2
  have x0 := cell_of_row W2 w.heap.size 0 _ _ _ B0
  have x1 := cell_of_row W2 w.heap.size 1 _ _ _ B0
  have x2 := cell_of_row W2 w.heap.size 2 _ _ _ B0
  simp at x0 x1 x2
  clear h hn hL hfa hfb hfl hlc hW2 bel2 hs2 B0 B1 H2
  go_enter Try.func12, Try.ntmps12
  go_upto_region 1 with fail
  rw [← HW2.out]
  go_upto_region 5 with (at_builtin; refine wpList_appN _ rfl (.tmp 17) (.tmp 19) 28 rfl (w.heap.size + 2) 40 i0 _ 3 32 Try.underlying28 hi0 hz0 hz1 hz2 rfl (by decide) (.slice none 0 0) 0 [] rfl (World.ownsRow_nil _ _ _ _) W2.heap.size (some ⟨bL, oL, none⟩) nL cL (lcells L) (by rw [lcells_length, HN.out]) rfl HH2.out.l.rd (lcells_one L) (by unfold maxLen; omega) (by omega) (by rw [HS2.out]; omega) ?_; intro v4 w4 own4 gr4 at4; obtain ⟨A4, c4, rfl, _⟩ := own_sliceN own4)
  rw [Nat.zero_add, List.nil_append] at own4
  have gr4' : W2.grownBy w4 none := gr4
  have hs2 := HS2.out
  have B04 : w4.heap[w.heap.size]? = some (Obj.cells #[.int .i64 nodes, .slice (some ⟨bL, oL, none⟩) nL cL, .slice AP nP cP] 31 (0, 0)) := (gr4'.block _ (by omega) (by simp)).trans HB0.out
  have B14 : w4.heap[w.heap.size + 1]? = some (Obj.cells #[.int .i64 0, .slice none 0 0, .slice none 0 0] 31 (0, 0)) := (gr4'.block _ (by omega) (by simp)).trans HB1.out
  have HR4 := Lib.hid (HH2.out.quiet (Quiet.grownNone gr4'))
  have hs4 : w.heap.size + 2 ≤ w4.heap.size := by have := gr4'.size; omega
  have HBEL4 := Lib.hid (HBEL2.out.grown gr4' (by omega) (fun k hk => by cases hk))
  obtain ⟨bL', oL', hAL, hbL4, p0, p1, p2⟩ := HR4.out.packet i hi
  simp only [Option.some.injEq, Addr.mk.injEq, and_true] at hAL
  obtain ⟨rfl, rfl⟩ := hAL
  rw [← HFA.out] at p0
  rw [← HFB.out] at p1
  rw [← HFL.out] at p2
  have x0 := cell_of_row w4 w.heap.size 0 _ _ _ B04
  have x1 := cell_of_row w4 w.heap.size 1 _ _ _ B04
  have x2 := cell_of_row w4 w.heap.size 2 _ _ _ B04
  simp at x0 x1 x2
  have HB04 := Lib.hid B04
  have HB14 := Lib.hid B14
  have OWN4 := Lib.hid own4
  clear own4 gr4 gr4' at4 hs2 B04 B14
  go_upto_region 6 with (at_builtin; refine wpList_appN _ rfl (.tmp 21) (.tmp 27) 28 rfl (w.heap.size + 2) 40 i0 _ 3 32 Try.underlying28 hi0 hz0 hz1 hz2 rfl (by decide) (.slice A4 nL c4) nL (lcells L) rfl (OWN4.out.alloc _) (w4.heap.size + 1) (some ⟨w4.heap.size, 0, none⟩) 1 1 [.int .i64 fa, .int .i64 fb, .string ⟨fl.toArray⟩] rfl rfl (new_cells w4 _ _ _ (by omega)) (by simp [Value.oneCell']) (by unfold maxLen; omega) (by omega) (by simp; omega) ?_; intro v5 w5 own5 gr5 at5; obtain ⟨A5, c5, rfl, _⟩ := own_sliceN own5; (have B05 := box_after gr5 OWN4.out (by omega) HB04.out); (have B15 := box_after gr5 OWN4.out (by omega) HB14.out); (have y0 := cell_of_row w5 w.heap.size 0 _ _ _ B05); (have y1 := cell_of_row w5 w.heap.size 1 _ _ _ B05); (have y2 := cell_of_row w5 w.heap.size 2 _ _ _ B05); (have z0 := cell_of_row w5 (w.heap.size + 1) 0 _ _ _ B15); (have z1 := cell_of_row w5 (w.heap.size + 1) 1 _ _ _ B15); (have z2 := cell_of_row w5 (w.heap.size + 1) 2 _ _ _ B15); (have g5 := fun i => free_at B05 i); (have g5' := fun i => free_at B15 i); (have HB05 := Lib.hid B05); (have HB15 := Lib.hid B15); (have OWN5 := Lib.hid own5); (have GR5 := Lib.hid gr5); (simp at y0 y1 y2 z0 z1 z2); clear B05 B15 own5 gr5 at5 x0 x1 x2)
  go_wp2_with fail
  refine bodyPost_ret (v := .tuple #[.agg #[.int .i64 nodes, .slice A5 (nL + 1) c5, .slice AP nP cP], .bool true]) ?_ rfl ⟨A5, c5, rfl, ref_fin (L' := L ++ [L[i]]) (by rw [lcells_snoc, HLC.out]; exact OWN5.out) (by rw [List.length_append, HN.out]; rfl) ?_ HR4.out.hp HR4.out.hp2 HB05.out HB15.out ?_ _ _ _ _⟩
  · simp [results, Try.results12, go_sem, z0, z1, z2]
  · exact (HR4.out.p.below ((Below.refl _ _).alloc (Nat.le_refl _) _)).side GR5.out (OWN4.out.alloc _) (by decide)
  · exact (HBEL4.out.alloc (by omega) _).grown GR5.out (by simp; omega) (fun k hk => by have := own_geN OWN4.out k hk; omega)

set_option maxRecDepth 100000 in
set_option maxHeartbeats 1000000 in
theorem rsend_no (nodes a b : Int) (AL AP : Option Addr) (nL cL nP cP : Nat) (s : ByteArray) (w : World) (hb : bothB nodes a b = false) :
    Calls Try.prog 16 #[.agg #[.int .i64 nodes, .slice AL nL cL, .slice AP nP cP], .int .i64 a, .int .i64 b, .string s] w fun e w' => e = .returned (.tuple #[.agg #[.int .i64 nodes, .slice AL nL cL, .slice AP nP cP], .int .i64 90]) ∧ Below w.heap.size w w' := by
  obtain ⟨W2, hW2⟩ : ∃ W2, W2 = (w.alloc (Obj.cells #[.int .i64 nodes, .slice AL nL cL, .slice AP nP cP] 31)).alloc (Obj.cells #[.int .i64 0, .slice none 0 0, .slice none 0 0] 31) := ⟨_, rfl⟩
  have bel2 : Below w.heap.size w W2 := by rw [hW2]; exact ((Below.refl _ _).alloc (Nat.le_refl _) _).alloc (by simp) _
  have hs2 : W2.heap.size = w.heap.size + 2 := by rw [hW2]; simp
  have B0 : W2.heap[w.heap.size]? = some (Obj.cells #[.int .i64 nodes, .slice AL nL cL, .slice AP nP cP] 31 (0, 0)) := by
    rw [hW2, Below.heap_alloc _ _ _ (by simp)]
    exact heap_alloc_new w _
  have B1 : W2.heap[w.heap.size + 1]? = some (Obj.cells #[.int .i64 0, .slice none 0 0, .slice none 0 0] 31 (0, 0)) := by
    rw [hW2]
    have := heap_alloc_new (w.alloc (Obj.cells #[.int .i64 nodes, .slice AL nL cL, .slice AP nP cP] 31)) (Obj.cells #[.int .i64 0, .slice none 0 0, .slice none 0 0] 31)
    simpa using this
  have HW2 := Lib.hid hW2
  have HS2 := Lib.hid hs2
  have HBEL2 := Lib.hid bel2
  have HBO := Lib.hid (fun W => rboth_any nodes a b (.slice AL nL cL) (.slice AP nP cP) W)
  rw [hb] at HBO
  have x0 := cell_of_row W2 w.heap.size 0 _ _ _ B0
  have x1 := cell_of_row W2 w.heap.size 1 _ _ _ B0
  have x2 := cell_of_row W2 w.heap.size 2 _ _ _ B0
  simp at x0 x1 x2
  have HB0 := Lib.hid B0
  have HB1 := Lib.hid B1
  clear hb hW2 bel2 hs2 B0 B1
  go_enter Try.func16, Try.ntmps16
  go_upto_region 1 with fail
  rw [← HW2.out]
  go_wp2_with fail
  refine (HBO.out _).mono ?_
  rintro e w3 ⟨rfl, bel3⟩
  have hs2 := HS2.out
  have B03 := (bel3.block w.heap.size (by omega)).trans HB0.out
  have B13 := (bel3.block (w.heap.size + 1) (by omega)).trans HB1.out
  have HB3 := Lib.hid (HBEL2.out.trans (bel3.mono (by omega)))
  clear x0 x1 x2
  have x0 := cell_of_row w3 w.heap.size 0 _ _ _ B03
  have x1 := cell_of_row w3 w.heap.size 1 _ _ _ B03
  have x2 := cell_of_row w3 w.heap.size 2 _ _ _ B03
  simp at x0 x1 x2
  have z0 := cell_of_row w3 (w.heap.size + 1) 0 _ _ _ B13
  have z1 := cell_of_row w3 (w.heap.size + 1) 1 _ _ _ B13
  have z2 := cell_of_row w3 (w.heap.size + 1) 2 _ _ _ B13
  simp at z0 z1 z2
  have g5' := fun i => free_at B13 i
  clear bel3 B03 B13 hs2
  go_wp2_with fail
  refine bodyPost_ret (v := .tuple #[.agg #[.int .i64 nodes, .slice AL nL cL, .slice AP nP cP], .int .i64 90]) ?_ rfl ⟨rfl, ((((Below.refl w.heap.size w).trans HB3.out).setCell (by show w.heap.size ≤ w.heap.size + 1; omega) _).setCell (by show w.heap.size ≤ w.heap.size + 1; omega) _).setCell (by show w.heap.size ≤ w.heap.size + 1; omega) _⟩
  simp [results, Try.results16, go_sem, z0, z1, z2]

set_option maxRecDepth 100000 in
set_option maxHeartbeats 1000000 in
theorem rsend_off (nodes a b : Int) (AL AP : Option Addr) (nL cL nP cP : Nat) (bl : List UInt8) (L : List (Int × Int × List UInt8)) (P : List (Int × Int)) (w : World) (h : RefAt w AL cL AP cP L P) (hn : L.length = nL) (hnp : P.length = nP) (hb : bothB nodes a b = true) (hany : P.any (hit a b) = true) :
    Calls Try.prog 16 #[.agg #[.int .i64 nodes, .slice AL nL cL, .slice AP nP cP], .int .i64 a, .int .i64 b, .string ⟨bl.toArray⟩] w fun e w' => e = .returned (.tuple #[.agg #[.int .i64 nodes, .slice AL nL cL, .slice AP nP cP], .int .i64 0]) ∧ Below w.heap.size w w' := by
  obtain ⟨W2, hW2⟩ : ∃ W2, W2 = (w.alloc (Obj.cells #[.int .i64 nodes, .slice AL nL cL, .slice AP nP cP] 31)).alloc (Obj.cells #[.int .i64 0, .slice none 0 0, .slice none 0 0] 31) := ⟨_, rfl⟩
  have bel2 : Below w.heap.size w W2 := by rw [hW2]; exact ((Below.refl _ _).alloc (Nat.le_refl _) _).alloc (by simp) _
  have hs2 : W2.heap.size = w.heap.size + 2 := by rw [hW2]; simp
  have B0 : W2.heap[w.heap.size]? = some (Obj.cells #[.int .i64 nodes, .slice AL nL cL, .slice AP nP cP] 31 (0, 0)) := by
    rw [hW2, Below.heap_alloc _ _ _ (by simp)]
    exact heap_alloc_new w _
  have B1 : W2.heap[w.heap.size + 1]? = some (Obj.cells #[.int .i64 0, .slice none 0 0, .slice none 0 0] 31 (0, 0)) := by
    rw [hW2]
    have := heap_alloc_new (w.alloc (Obj.cells #[.int .i64 nodes, .slice AL nL cL, .slice AP nP cP] 31)) (Obj.cells #[.int .i64 0, .slice none 0 0, .slice none 0 0] 31)
    simpa using this
  have HW2 := Lib.hid hW2
  have HS2 := Lib.hid hs2
  have HBEL2 := Lib.hid bel2
  have HBO := Lib.hid (fun W => rboth_any nodes a b (.slice AL nL cL) (.slice AP nP cP) W)
  rw [hb] at HBO
  have x0 := cell_of_row W2 w.heap.size 0 _ _ _ B0
  have x1 := cell_of_row W2 w.heap.size 1 _ _ _ B0
  have x2 := cell_of_row W2 w.heap.size 2 _ _ _ B0
  simp at x0 x1 x2
  have HB0 := Lib.hid B0
  have HB1 := Lib.hid B1
  have HR := Lib.hid h
  have HNP := Lib.hid hnp
  have HBB := Lib.hid hb
  have HANY := Lib.hid hany
  clear hb hW2 bel2 hs2 B0 B1 h hn hnp hany
  go_enter Try.func16, Try.ntmps16
  go_upto_region 1 with fail
  rw [← HW2.out]
  go_wp2_with fail
  refine (HBO.out _).mono ?_
  rintro e w3 ⟨rfl, bel3⟩
  have hs2 := HS2.out
  have B03 := (bel3.block w.heap.size (by omega)).trans HB0.out
  have B13 := (bel3.block (w.heap.size + 1) (by omega)).trans HB1.out
  have HB3 := Lib.hid (HBEL2.out.trans (bel3.mono (by omega)))
  have R3 := Lib.hid ((HR.out.below HBEL2.out).below bel3)
  have hs3 : w.heap.size + 2 ≤ w3.heap.size := by have := bel3.size; omega
  have HL := rlinked_any nodes a b AL AP nL cL nP cP L P w3 R3.out HNP.out
  rw [HBB.out, HANY.out] at HL
  have HLK := Lib.hid HL
  clear x0 x1 x2 HL
  have x0 := cell_of_row w3 w.heap.size 0 _ _ _ B03
  have x1 := cell_of_row w3 w.heap.size 1 _ _ _ B03
  have x2 := cell_of_row w3 w.heap.size 2 _ _ _ B03
  simp at x0 x1 x2
  have HB03 := Lib.hid B03
  have HB13 := Lib.hid B13
  clear bel3 B03 B13 hs2
  go_wp2_with fail
  refine HLK.out.mono ?_
  rintro e w6 ⟨rfl, bel6⟩
  have B06 := (bel6.block w.heap.size (by omega)).trans HB03.out
  have B16 := (bel6.block (w.heap.size + 1) (by omega)).trans HB13.out
  have HB6 := Lib.hid (HB3.out.trans (bel6.mono (by omega)))
  have R6 := Lib.hid (R3.out.below bel6)
  have hs6 : w.heap.size + 2 ≤ w6.heap.size := by have := bel6.size; omega
  clear x0 x1 x2
  have x0 := cell_of_row w6 w.heap.size 0 _ _ _ B06
  have x1 := cell_of_row w6 w.heap.size 1 _ _ _ B06
  have x2 := cell_of_row w6 w.heap.size 2 _ _ _ B06
  simp at x0 x1 x2
  have z0 := cell_of_row w6 (w.heap.size + 1) 0 _ _ _ B16
  have z1 := cell_of_row w6 (w.heap.size + 1) 1 _ _ _ B16
  have z2 := cell_of_row w6 (w.heap.size + 1) 2 _ _ _ B16
  simp at z0 z1 z2
  have g5' := fun i => free_at B16 i
  clear bel6 B06 B16
  go_wp2_with fail
  refine bodyPost_ret (v := .tuple #[.agg #[.int .i64 nodes, .slice AL nL cL, .slice AP nP cP], .int .i64 0]) ?_ rfl ⟨rfl, ((((Below.refl w.heap.size w).trans HB6.out).setCell (by show w.heap.size ≤ w.heap.size + 1; omega) _).setCell (by show w.heap.size ≤ w.heap.size + 1; omega) _).setCell (by show w.heap.size ≤ w.heap.size + 1; omega) _⟩
  simp [results, Try.results16, go_sem, z0, z1, z2]

set_option maxRecDepth 100000 in
set_option maxHeartbeats 1000000 in
theorem rsend_on (nodes a b : Int) (AL AP : Option Addr) (nL cL nP cP : Nat) (bl : List UInt8) (L : List (Int × Int × List UInt8)) (P : List (Int × Int)) (w : World) (h : RefAt w AL cL AP cP L P) (hn : L.length = nL) (hnp : P.length = nP) (hL : L.length ≤ 1000000) (hb : bothB nodes a b = true) (hany : P.any (hit a b) = false) :
    Calls Try.prog 16 #[.agg #[.int .i64 nodes, .slice AL nL cL, .slice AP nP cP], .int .i64 a, .int .i64 b, .string ⟨bl.toArray⟩] w fun e w' => ∃ A' c', e = .returned (.tuple #[.agg #[.int .i64 nodes, .slice A' (nL + 1) c', .slice AP nP cP], .int .i64 0]) ∧
      RefAt w' A' c' AP cP (L ++ [(a, b, bl)]) P ∧ Below w.heap.size w w' := by
  obtain ⟨i0, hi0, hz0, hz1, hz2⟩ := info_parts info40
  have hnm : nL ≤ 1000000 := by omega
  obtain ⟨W2, hW2⟩ : ∃ W2, W2 = (w.alloc (Obj.cells #[.int .i64 nodes, .slice AL nL cL, .slice AP nP cP] 31)).alloc (Obj.cells #[.int .i64 0, .slice none 0 0, .slice none 0 0] 31) := ⟨_, rfl⟩
  have bel2 : Below w.heap.size w W2 := by rw [hW2]; exact ((Below.refl _ _).alloc (Nat.le_refl _) _).alloc (by simp) _
  have hs2 : W2.heap.size = w.heap.size + 2 := by rw [hW2]; simp
  have B0 : W2.heap[w.heap.size]? = some (Obj.cells #[.int .i64 nodes, .slice AL nL cL, .slice AP nP cP] 31 (0, 0)) := by
    rw [hW2, Below.heap_alloc _ _ _ (by simp)]
    exact heap_alloc_new w _
  have B1 : W2.heap[w.heap.size + 1]? = some (Obj.cells #[.int .i64 0, .slice none 0 0, .slice none 0 0] 31 (0, 0)) := by
    rw [hW2]
    have := heap_alloc_new (w.alloc (Obj.cells #[.int .i64 nodes, .slice AL nL cL, .slice AP nP cP] 31)) (Obj.cells #[.int .i64 0, .slice none 0 0, .slice none 0 0] 31)
    simpa using this
  have HW2 := Lib.hid hW2
  have HS2 := Lib.hid hs2
  have HBEL2 := Lib.hid bel2
  have HBO := Lib.hid (fun W => rboth_any nodes a b (.slice AL nL cL) (.slice AP nP cP) W)
  rw [hb] at HBO
  have x0 := cell_of_row W2 w.heap.size 0 _ _ _ B0
  have x1 := cell_of_row W2 w.heap.size 1 _ _ _ B0
  have x2 := cell_of_row W2 w.heap.size 2 _ _ _ B0
  simp at x0 x1 x2
  have HB0 := Lib.hid B0
  have HB1 := Lib.hid B1
  have HR := Lib.hid h
  have HN := Lib.hid hn
  have HNP := Lib.hid hnp
  have HBB := Lib.hid hb
  have HANY := Lib.hid hany
  clear hb hW2 bel2 hs2 B0 B1 h hn hnp hany hL
  go_enter Try.func16, Try.ntmps16
  go_upto_region 1 with fail
  rw [← HW2.out]
  go_wp2_with fail
  refine (HBO.out _).mono ?_
  rintro e w3 ⟨rfl, bel3⟩
  have hs2 := HS2.out
  have B03 := (bel3.block w.heap.size (by omega)).trans HB0.out
  have B13 := (bel3.block (w.heap.size + 1) (by omega)).trans HB1.out
  have HB3 := Lib.hid (HBEL2.out.trans (bel3.mono (by omega)))
  have R3 := Lib.hid ((HR.out.below HBEL2.out).below bel3)
  have hs3 : w.heap.size + 2 ≤ w3.heap.size := by have := bel3.size; omega
  have HL := rlinked_any nodes a b AL AP nL cL nP cP L P w3 R3.out HNP.out
  rw [HBB.out, HANY.out] at HL
  have HLK := Lib.hid HL
  clear x0 x1 x2 HL
  have x0 := cell_of_row w3 w.heap.size 0 _ _ _ B03
  have x1 := cell_of_row w3 w.heap.size 1 _ _ _ B03
  have x2 := cell_of_row w3 w.heap.size 2 _ _ _ B03
  simp at x0 x1 x2
  have HB03 := Lib.hid B03
  have HB13 := Lib.hid B13
  clear bel3 B03 B13 hs2
  go_wp2_with fail
  refine HLK.out.mono ?_
  rintro e w6 ⟨rfl, bel6⟩
  have B06 := (bel6.block w.heap.size (by omega)).trans HB03.out
  have B16 := (bel6.block (w.heap.size + 1) (by omega)).trans HB13.out
  have HB6 := Lib.hid (HB3.out.trans (bel6.mono (by omega)))
  have R6 := Lib.hid (R3.out.below bel6)
  have hs6 : w.heap.size + 2 ≤ w6.heap.size := by have := bel6.size; omega
  clear x0 x1 x2
  have x0 := cell_of_row w6 w.heap.size 0 _ _ _ B06
  have x1 := cell_of_row w6 w.heap.size 1 _ _ _ B06
  have x2 := cell_of_row w6 w.heap.size 2 _ _ _ B06
  simp at x0 x1 x2
  have HB06 := Lib.hid B06
  have HB16 := Lib.hid B16
  clear bel6 B06 B16
  go_upto_region 8 with (at_builtin; refine wpList_appN _ rfl (.tmp 25) (.tmp 27) 28 rfl (w.heap.size + 2) 40 i0 _ 3 32 Try.underlying28 hi0 hz0 hz1 hz2 rfl (by decide) (.slice none 0 0) 0 [] rfl (World.ownsRow_nil _ _ _ _) w6.heap.size AL nL cL (lcells L) (by rw [lcells_length, HN.out]) rfl R6.out.l.rd (lcells_one L) (by unfold maxLen; omega) (by omega) hs6 ?_; intro v4 w4 own4 gr4 at4; obtain ⟨A4, c4, rfl, _⟩ := own_sliceN own4)
  rw [Nat.zero_add, List.nil_append] at own4
  have gr4' : w6.grownBy w4 none := gr4
  have B04 := (gr4'.block w.heap.size (by omega) (by simp)).trans HB06.out
  have B14 := (gr4'.block (w.heap.size + 1) (by omega) (by simp)).trans HB16.out
  have HR4 := Lib.hid (R6.out.quiet (Quiet.grownNone gr4'))
  have hs4 : w.heap.size + 2 ≤ w4.heap.size := by have := gr4'.size; omega
  have HBEL4 := Lib.hid (HB6.out.grown gr4' (by omega) (fun k hk => by cases hk))
  clear x0 x1 x2
  have x0 := cell_of_row w4 w.heap.size 0 _ _ _ B04
  have x1 := cell_of_row w4 w.heap.size 1 _ _ _ B04
  have x2 := cell_of_row w4 w.heap.size 2 _ _ _ B04
  simp at x0 x1 x2
  have HB04 := Lib.hid B04
  have HB14 := Lib.hid B14
  have OWN4 := Lib.hid own4
  clear own4 gr4 gr4' at4 B04 B14
  go_upto_region 9 with (at_builtin; refine wpList_appN _ rfl (.tmp 29) (.tmp 34) 28 rfl (w.heap.size + 2) 40 i0 _ 3 32 Try.underlying28 hi0 hz0 hz1 hz2 rfl (by decide) (.slice A4 nL c4) nL (lcells L) rfl (OWN4.out.alloc _) (w4.heap.size + 1) (some ⟨w4.heap.size, 0, none⟩) 1 1 [.int .i64 a, .int .i64 b, .string ⟨bl.toArray⟩] rfl rfl (new_cells w4 _ _ _ (by omega)) (by simp [Value.oneCell']) (by unfold maxLen; omega) (by omega) (by simp; omega) ?_; intro v5 w5 own5 gr5 at5; obtain ⟨A5, c5, rfl, _⟩ := own_sliceN own5; (have B05 := box_after gr5 OWN4.out (by omega) HB04.out); (have B15 := box_after gr5 OWN4.out (by omega) HB14.out); (have y0 := cell_of_row w5 w.heap.size 0 _ _ _ B05); (have y1 := cell_of_row w5 w.heap.size 1 _ _ _ B05); (have y2 := cell_of_row w5 w.heap.size 2 _ _ _ B05); (have z0 := cell_of_row w5 (w.heap.size + 1) 0 _ _ _ B15); (have z1 := cell_of_row w5 (w.heap.size + 1) 1 _ _ _ B15); (have z2 := cell_of_row w5 (w.heap.size + 1) 2 _ _ _ B15); (have g5 := fun i => free_at B05 i); (have g5' := fun i => free_at B15 i); (have HB05 := Lib.hid B05); (have HB15 := Lib.hid B15); (have OWN5 := Lib.hid own5); (have GR5 := Lib.hid gr5); (simp at y0 y1 y2 z0 z1 z2); clear B05 B15 own5 gr5 at5 x0 x1 x2)
  go_wp2_with fail
  refine bodyPost_ret (v := .tuple #[.agg #[.int .i64 nodes, .slice A5 (nL + 1) c5, .slice AP nP cP], .int .i64 0]) ?_ rfl ⟨A5, c5, rfl, ref_fin (L' := L ++ [(a, b, bl)]) (by rw [lcells_snoc]; exact OWN5.out) (by rw [List.length_append, HN.out]; rfl) ?_ HR4.out.hp HR4.out.hp2 HB05.out HB15.out ?_ _ _ _ _⟩
  · simp [results, Try.results16, go_sem, z0, z1, z2]
  · exact (HR4.out.p.below ((Below.refl _ _).alloc (Nat.le_refl _) _)).side GR5.out (OWN4.out.alloc _) (by decide)
  · exact (HBEL4.out.alloc (by omega) _).grown GR5.out (by simp; omega) (fun k hk => by have := own_geN OWN4.out k hk; omega)
end Go.Proofs.Ytgdcnmicdhimhaa
