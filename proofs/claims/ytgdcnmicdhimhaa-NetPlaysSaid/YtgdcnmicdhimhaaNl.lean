/- Contracts of the reference: Take. -/
import Derived.Test.YtgdcnmicdhimhaaNk
namespace Go.Proofs.Ytgdcnmicdhimhaa
open Go.RowKit
set_option linter.unusedVariables false

/-- The end of a call that answers a network by value: what stays so under the stores into its own boxes (the blocks from w's size up to s). -/
structure Fin (w W : World) (s : Nat) (A5 : Option Addr) (n' c5 : Nat) (AP : Option Addr) (nP cP : Nat) (L : List (Int × Int × List UInt8)) (P : List (Int × Int)) : Prop where
  own : W.ownsRow s 40 3 (.slice A5 n' c5) n' (lcells L)
  p : RdT W 67 AP (qcells P)
  bel : Below w.heap.size w W
  b : ∀ k, w.heap.size ≤ k → k < s → ∃ c t, W.heap[k]? = some (Obj.cells c t (0, 0)) ∧ t ≠ 67
  hl : L.length = n'
  hp : P.length ≤ cP
  hp2 : cP ≤ 9223372036854775807
theorem Fin.set {w W : World} {s : Nat} {A5 : Option Addr} {n' c5 : Nat} {AP : Option Addr} {nP cP : Nat} {L : List (Int × Int × List UInt8)} {P : List (Int × Int)} (h : Fin w W s A5 n' c5 AP nP cP L P) (k o : Nat) (u : Value) (h1 : w.heap.size ≤ k) (h2 : k < s) :
    Fin w (W.setCell ⟨k, o, none⟩ u) s A5 n' c5 AP nP cP L P := by
  obtain ⟨c, t, hb, ht⟩ := h.b k h1 h2
  refine ⟨own_set h.own _ _ (fun j hj => by have := own_geN h.own j hj; show j ≠ k; omega), h.p.set hb (fun e => ht e.symm) o u, h.bel.setCell (by exact h1) _, ?_, h.hl, h.hp, h.hp2⟩
  intro k' h3 h4
  obtain ⟨c', t', hb', ht'⟩ := h.b k' h3 h4
  obtain ⟨c2, e2⟩ := heap_set' hb' k o u
  exact ⟨c2, t', e2, ht'⟩
theorem Fin.drew {w W : World} {s : Nat} {A5 : Option Addr} {n' c5 : Nat} {AP : Option Addr} {nP cP : Nat} {L : List (Int × Int × List UInt8)} {P : List (Int × Int)} (h : Fin w W s A5 n' c5 AP nP cP L P) : Fin w W.drew s A5 n' c5 AP nP cP L P :=
  ⟨own_keepN h.own ((Below.refl _ _).drewN 1), h.p.below ((Below.refl _ _).drewN 1), h.bel.drewN 1, h.b, h.hl, h.hp, h.hp2⟩
theorem Fin.ref {w W : World} {s : Nat} {A5 : Option Addr} {n' c5 : Nat} {AP : Option Addr} {nP cP : Nat} {L : List (Int × Int × List UInt8)} {P : List (Int × Int)} (h : Fin w W s A5 n' c5 AP nP cP L P) : RefAt W A5 c5 AP cP L P := by
  obtain ⟨_, _, hs, hc1, hc2, _⟩ := own_sliceN h.own
  simp only [Value.slice.injEq] at hs
  obtain ⟨_, _, rfl⟩ := hs
  exact ⟨RdT.of_own h.own, h.p, by have := h.hl; omega, hc2, h.hp, h.hp2⟩
theorem box_at {w4 w5 : World} {o' : Obj} {v : Value} {n base k size : Nat} {t : TypeId} {xs : List Value} (gr : w4.grownBy w5 v.ownBlock) (own : w4.ownsRow base t size v n xs) (hk : k < base) (hb : w4.heap[k]? = some o') : w5.heap[k]? = some o' := by
  rw [gr.block k (lt_of_heap hb) (fun e => by have := own_geN own k e.symm; omega)]
  exact hb
theorem lcells_app (L M : List (Int × Int × List UInt8)) : lcells (L ++ M) = lcells L ++ lcells M := by unfold lcells; rw [List.flatMap_append]
theorem lcells_split (L : List (Int × Int × List UInt8)) (k : Nat) (hk : k ≤ L.length) : (lcells L).take (k * 3) = lcells (L.take k) ∧ (lcells L).drop (k * 3) = lcells (L.drop k) := by
  have h := lcells_app (L.take k) (L.drop k)
  rw [List.take_append_drop] at h
  have hl : (lcells (L.take k)).length = k * 3 := by rw [lcells_length, List.length_take, Nat.min_eq_left hk]
  constructor
  · rw [h, List.take_append_of_le_length (by omega), List.take_of_length_le (by omega)]
  · rw [h, List.drop_append_of_le_length (by omega), List.drop_of_length_le (by omega), List.nil_append]

set_option maxRecDepth 100000 in
theorem rtake_no (nodes i : Int) (AL AP : Option Addr) (nL cL nP cP : Nat) (w : World) (hi : ¬ (0 ≤ i ∧ i < nL)) :
    Calls Try.prog 10 #[.agg #[.int .i64 nodes, .slice AL nL cL, .slice AP nP cP], .int .i64 i] w fun e w' => e = .returned (.tuple #[.agg #[.int .i64 nodes, .slice AL nL cL, .slice AP nP cP], .agg #[.int .i64 0, .int .i64 0, .string ByteArray.empty], .bool false]) ∧ Below w.heap.size w w' := by
  by_cases h0 : i < 0
  · go_enter Try.func10, Try.ntmps10
    go_wp2_with fail
    go_returns
    exact ⟨rfl, (((Below.refl _ _).alloc (Nat.le_refl _) _).alloc (by simp) _).alloc (by simp <;> omega) _⟩
  · have h1 : (nL : Int) ≤ i := by omega
    clear hi
    go_enter Try.func10, Try.ntmps10
    go_wp2_with fail
    go_returns
    exact ⟨rfl, (((Below.refl _ _).alloc (Nat.le_refl _) _).alloc (by simp) _).alloc (by simp <;> omega) _⟩

set_option maxRecDepth 100000 in
set_option maxHeartbeats 1000000 in
theorem rtake_on (nodes : Int) (AL AP : Option Addr) (nL cL nP cP i : Nat) (L : List (Int × Int × List UInt8)) (P : List (Int × Int)) (w : World) (h : RefAt w AL cL AP cP L P) (hn : L.length = nL) (hi : i < L.length) (hL : L.length ≤ 1000000) :
    Calls Try.prog 10 #[.agg #[.int .i64 nodes, .slice AL nL cL, .slice AP nP cP], .int .i64 (i : Int)] w fun e w' => ∃ A' c', e = .returned (.tuple #[.agg #[.int .i64 nodes, .slice A' (nL - 1) c', .slice AP nP cP], .agg #[.int .i64 (L[i]).1, .int .i64 (L[i]).2.1, .string ⟨(L[i]).2.2.toArray⟩], .bool true]) ∧
      RefAt w' A' c' AP cP (L.eraseIdx i) P ∧ Below w.heap.size w w' := by
  obtain ⟨i0, hi0, hz0, hz1, hz2⟩ := info_parts info40
  obtain ⟨bL, oL, rfl, hbL, p0, p1, p2⟩ := h.packet i hi
  obtain ⟨fa, hfa⟩ : ∃ x, x = (L[i]).1 := ⟨_, rfl⟩
  obtain ⟨fb, hfb⟩ : ∃ x, x = (L[i]).2.1 := ⟨_, rfl⟩
  obtain ⟨fl, hfl⟩ : ∃ x, x = (L[i]).2.2 := ⟨_, rfl⟩
  rw [← hfa] at p0
  rw [← hfb] at p1
  rw [← hfl] at p2
  rw [← hfa, ← hfb, ← hfl]
  have hlc := h.hl
  have hlc2 := h.hl2
  obtain ⟨m, hm⟩ : ∃ m, nL = i + m + 1 := ⟨nL - i - 1, by omega⟩
  have sp1 := lcells_split L i (by omega)
  have sp2 := lcells_split L (i + 1) (by omega)
  have he : L.eraseIdx i = L.take i ++ L.drop (i + 1) := List.eraseIdx_eq_take_drop_succ L i
  have H := Lib.hid h
  have HN := Lib.hid hn
  have HSP1 := Lib.hid sp1
  have HSP2 := Lib.hid sp2
  have HE := Lib.hid he
  have hcl : i + m + 1 ≤ cL := by omega
  have hnm : i + m + 1 ≤ 1000000 := by omega
  subst hm
  have a1 : (0 : Int) ≤ (i : Int) := by omega
  have a2 : (i : Int) < (i : Int) + (m : Int) + 1 := by omega
  obtain ⟨W1, hW1⟩ : ∃ W1, W1 = ((w.alloc (Obj.cells #[.int .i64 nodes, .slice (some ⟨bL, oL, none⟩) (i + m + 1) cL, .slice AP nP cP] 31)).alloc (Obj.cells #[.int .i64 0, .slice none 0 0, .slice none 0 0] 31)).alloc (Obj.cells #[.int .i64 0, .int .i64 0, .string ⟨#[]⟩] 40) := ⟨_, rfl⟩
  have bel1 : Below w.heap.size w W1 := by rw [hW1]; exact (((Below.refl _ _).alloc (Nat.le_refl _) _).alloc (by simp) _).alloc (by simp <;> omega) _
  have hs1 : W1.heap.size = w.heap.size + 3 := by rw [hW1]; simp
  have B0 : W1.heap[w.heap.size]? = some (Obj.cells #[.int .i64 nodes, .slice (some ⟨bL, oL, none⟩) (i + m + 1) cL, .slice AP nP cP] 31 (0, 0)) := by
    rw [hW1, Below.heap_alloc _ _ _ (by simp <;> omega), Below.heap_alloc _ _ _ (by simp)]
    exact heap_alloc_new w _
  have B1 : W1.heap[w.heap.size + 1]? = some (Obj.cells #[.int .i64 0, .slice none 0 0, .slice none 0 0] 31 (0, 0)) := by
    rw [hW1, Below.heap_alloc _ _ _ (by simp <;> omega)]
    have := heap_alloc_new (w.alloc (Obj.cells #[.int .i64 nodes, .slice (some ⟨bL, oL, none⟩) (i + m + 1) cL, .slice AP nP cP] 31)) (Obj.cells #[.int .i64 0, .slice none 0 0, .slice none 0 0] 31)
    simpa using this
  have B2 : W1.heap[w.heap.size + 2]? = some (Obj.cells #[.int .i64 0, .int .i64 0, .string ⟨#[]⟩] 40 (0, 0)) := by
    rw [hW1]
    have := heap_alloc_new ((w.alloc (Obj.cells #[.int .i64 nodes, .slice (some ⟨bL, oL, none⟩) (i + m + 1) cL, .slice AP nP cP] 31)).alloc (Obj.cells #[.int .i64 0, .slice none 0 0, .slice none 0 0] 31)) (Obj.cells #[.int .i64 0, .int .i64 0, .string ⟨#[]⟩] 40)
    simpa using this
  obtain ⟨W2, hW2⟩ : ∃ W2, W2 = W1.alloc (Obj.cells #[.int .i64 fa, .int .i64 fb, .string ⟨fl.toArray⟩] 40) := ⟨_, rfl⟩
  have B3 : W2.heap[w.heap.size + 3]? = some (Obj.cells #[.int .i64 fa, .int .i64 fb, .string ⟨fl.toArray⟩] 40 (0, 0)) := by
    rw [hW2, ← hs1]
    exact heap_alloc_new W1 _
  have bel12 : Below W1.heap.size W1 W2 := by rw [hW2]; exact (Below.refl _ _).alloc (Nat.le_refl _) _
  have x0 := cell_of_row W1 w.heap.size 0 _ _ _ B0
  have x1 := cell_of_row W1 w.heap.size 1 _ _ _ B0
  have x2 := cell_of_row W1 w.heap.size 2 _ _ _ B0
  have B0 := (bel12.block _ (by omega)).trans B0
  have B1 := (bel12.block _ (by omega)).trans B1
  have B2 := (bel12.block _ (by omega)).trans B2
  have p0 := (bel1.cell hbL).trans p0
  have p1 := (bel1.cell hbL).trans p1
  have p2 := (bel1.cell hbL).trans p2
  have bel2 : Below w.heap.size w W2 := bel1.trans (bel12.mono (by omega))
  have hs2 : W2.heap.size = w.heap.size + 4 := by rw [hW2]; simp; omega
  have H2 := h.below bel2
  have HH2 := Lib.hid H2
  have HB0 := Lib.hid B0
  have HB1 := Lib.hid B1
  have HB2 := Lib.hid B2
  have HB3 := Lib.hid B3
  have HW1 := Lib.hid hW1
  have HW2 := Lib.hid hW2
  have HS1 := Lib.hid hs1
  have HS2 := Lib.hid hs2
  have HBEL2 := Lib.hid bel2
  have y0 := cell_of_row W2 w.heap.size 0 _ _ _ B0
  have y1 := cell_of_row W2 w.heap.size 1 _ _ _ B0
  have y2 := cell_of_row W2 w.heap.size 2 _ _ _ B0
  have r1 := H2.l.take (i * 3)
  rw [HSP1.out.1] at r1
  have HR1 := Lib.hid r1
  simp at x0 x1 x2 y0 y1 y2
  clear h hn hL hfa hfb hfl hlc hW1 hW2 bel1 bel2 bel12 hs1 hs2 B0 B1 B2 B3 H2 hi sp1 sp2 he r1
  go_enter Try.func10, Try.ntmps10
  go_upto_region 3 with fail
  rw [← HW1.out]
  go_upto_region 4 with fail
  rw [← HW2.out]
  clear x0 x1 x2 p0 p1 p2
  go_upto_region 6 with (at_builtin; refine wpList_appN _ rfl (.tmp 25) (.tmp 29) 28 rfl (w.heap.size + 4) 40 i0 _ 3 32 Try.underlying28 hi0 hz0 hz1 hz2 rfl (by decide) (.slice none 0 0) 0 [] rfl (World.ownsRow_nil _ _ _ _) W2.heap.size (some ⟨bL, oL, none⟩) i cL (lcells (L.take i)) (by rw [lcells_length, List.length_take, HN.out]; omega) rfl HR1.out.rd (lcells_one _) (by unfold maxLen; omega) (by omega) (by rw [HS2.out]; omega) ?_; intro v4 w4 own4 gr4 at4; obtain ⟨A4, c4, rfl, _⟩ := own_sliceN own4)
  rw [Nat.zero_add, List.nil_append] at own4
  have gr4' : W2.grownBy w4 none := gr4
  have hs2 := HS2.out
  have B04 := (gr4'.block w.heap.size (by omega) (by simp)).trans HB0.out
  have B14 := (gr4'.block (w.heap.size + 1) (by omega) (by simp)).trans HB1.out
  have B24 := (gr4'.block (w.heap.size + 2) (by omega) (by simp)).trans HB2.out
  have B34 := (gr4'.block (w.heap.size + 3) (by omega) (by simp)).trans HB3.out
  have HR4 := Lib.hid (HH2.out.quiet (Quiet.grownNone gr4'))
  have hs4 : w.heap.size + 4 ≤ w4.heap.size := by have := gr4'.size; omega
  have HBEL4 := Lib.hid (HBEL2.out.grown gr4' (by omega) (fun k hk => by cases hk))
  have r2 := HR4.out.l.drop ((i + 1) * 3)
  rw [HSP2.out.2] at r2
  have r3 : RdT w4 40 (if cL = i + 1 then some ⟨bL, oL, none⟩ else some ⟨bL, oL + (i + 1) * 3, none⟩) (lcells (L.drop (i + 1))) := by
    split
    · refine .inl ?_
      rw [List.drop_of_length_le (by rw [HN.out]; omega)]
      rfl
    · exact r2
  have HR3 := Lib.hid r3
  have x0 := cell_of_row w4 w.heap.size 0 _ _ _ B04
  have x1 := cell_of_row w4 w.heap.size 1 _ _ _ B04
  have x2 := cell_of_row w4 w.heap.size 2 _ _ _ B04
  simp at x0 x1 x2
  have HB04 := Lib.hid B04
  have HB14 := Lib.hid B14
  have HB24 := Lib.hid B24
  have HB34 := Lib.hid B34
  have OWN4 := Lib.hid own4
  have b1 : (0 : Int) ≤ (i : Int) + 1 := by omega
  have b2 : (i : Int) + 1 ≤ (i : Int) + (m : Int) + 1 := by omega
  clear own4 gr4 gr4' at4 B04 B14 B24 B34 hs2 y0 y1 y2 r2 r3
  have hfar : ¬ w.heap.size = w.heap.size + 1 ∧ ¬ w.heap.size = w.heap.size + 2 := by omega
  clear hfar
  by_cases hc : cL = i + 1
  · have r4 := HR3.out
    rw [if_pos hc] at r4
    have HR3 := Lib.hid r4
    clear r4
    go_upto_region 7 with (at_builtin; refine wpList_appN _ rfl (.tmp 31) (.tmp 36) 28 rfl (w.heap.size + 4) 40 i0 _ 3 32 Try.underlying28 hi0 hz0 hz1 hz2 rfl (by decide) (.slice A4 i c4) i (lcells (L.take i)) rfl OWN4.out w4.heap.size (some ⟨bL, oL, none⟩) m 0 (lcells (L.drop (i + 1))) (by rw [lcells_length, List.length_drop, HN.out]; omega) rfl HR3.out.rd (lcells_one _) (by unfold maxLen; omega) (by omega) hs4 ?_; intro v5 w5 own5 gr5 at5; obtain ⟨A5, c5, rfl, _⟩ := own_sliceN own5; (have B05 := box_at gr5 OWN4.out (by omega) HB04.out); (have B15 := box_at gr5 OWN4.out (by omega) HB14.out); (have B25 := box_at gr5 OWN4.out (by omega) HB24.out); (have B35 := box_at gr5 OWN4.out (by omega) HB34.out); (have g5 := fun i => free_at B05 i); (have y0 := cell_of_row w5 w.heap.size 0 _ _ _ B05); (have y1 := cell_of_row w5 w.heap.size 1 _ _ _ B05); (have y2 := cell_of_row w5 w.heap.size 2 _ _ _ B05); (have q0 := cell_of_row w5 (w.heap.size + 3) 0 _ _ _ B35); (have q1 := cell_of_row w5 (w.heap.size + 3) 1 _ _ _ B35); (have q2 := cell_of_row w5 (w.heap.size + 3) 2 _ _ _ B35); (have z0 := cell_of_row w5 (w.heap.size + 1) 0 _ _ _ B15); (have z1 := cell_of_row w5 (w.heap.size + 1) 1 _ _ _ B15); (have z2 := cell_of_row w5 (w.heap.size + 1) 2 _ _ _ B15); (have t0 := cell_of_row w5 (w.heap.size + 2) 0 _ _ _ B25); (have t1 := cell_of_row w5 (w.heap.size + 2) 1 _ _ _ B25); (have t2 := cell_of_row w5 (w.heap.size + 2) 2 _ _ _ B25); (have g5' := fun i => free_at B15 i); (have g5'' := fun i => free_at B25 i); (have HB05 := Lib.hid B05); (have HB15 := Lib.hid B15); (have HB25 := Lib.hid B25); (have HB35 := Lib.hid B35); (have HOWN5 := Lib.hid own5); (have HGR5 := Lib.hid gr5); simp at y0 y1 y2 q0 q1 q2 z0 z1 z2 t0 t1 t2; clear own5 gr5 at5 x0 x1 x2 B05 B15 B25 B35)
    have hs1 := HS1.out
    rw [hs1]
    clear hs1
    go_region
    go_wp2_with fail
    have hF0 : Fin w w5 (w.heap.size + 4) A5 (i + m) c5 AP nP cP (L.eraseIdx i) P := ⟨by rw [HE.out, lcells_app]; exact HOWN5.out, HR4.out.p.side HGR5.out OWN4.out (by decide), HBEL4.out.grown HGR5.out (by omega) (fun k hk => by have := own_geN OWN4.out k hk; omega), fun k h1 h2 => by
      rcases Nat.lt_or_ge k (w.heap.size + 1) with h3 | h3
      · have : k = w.heap.size := by omega
        subst this
        exact ⟨_, _, HB05.out, by decide⟩
      · rcases Nat.lt_or_ge k (w.heap.size + 2) with h4 | h4
        · have : k = w.heap.size + 1 := by omega
          subst this
          exact ⟨_, _, HB15.out, by decide⟩
        · rcases Nat.lt_or_ge k (w.heap.size + 3) with h5 | h5
          · have : k = w.heap.size + 2 := by omega
            subst this
            exact ⟨_, _, HB25.out, by decide⟩
          · have : k = w.heap.size + 3 := by omega
            subst this
            exact ⟨_, _, HB35.out, by decide⟩, by rw [HE.out, List.length_append, List.length_take, List.length_drop, HN.out]; omega, HR4.out.hp, HR4.out.hp2⟩
    have hF := (((((((hF0.set w.heap.size 1 (.slice A5 (i + m) c5) (by omega) (by omega)).set (w.heap.size + 1) 0 (.int .i64 nodes) (by omega) (by omega)).set (w.heap.size + 1) 1 (.slice A5 (i + m) c5) (by omega) (by omega)).set (w.heap.size + 1) 2 (.slice AP nP cP) (by omega) (by omega)).set (w.heap.size + 1 + 1) 0 (.int .i64 fa) (by omega) (by omega)).set (w.heap.size + 1 + 1) 1 (.int .i64 fb) (by omega) (by omega)).set (w.heap.size + 1 + 1) 2 (.string ⟨fl.toArray⟩) (by omega) (by omega)).drew
    refine bodyPost_ret (v := .tuple #[.agg #[.int .i64 nodes, .slice A5 (i + m) c5, .slice AP nP cP], .agg #[.int .i64 fa, .int .i64 fb, .string ⟨fl.toArray⟩], .bool true]) ?_ rfl ⟨A5, c5, rfl, hF.ref, hF.bel⟩
    simp [results, Try.results10, go_sem, z0, z1, z2, t0, t1, t2]
  · have r4 := HR3.out
    rw [if_neg hc] at r4
    have HR3 := Lib.hid r4
    clear r4
    go_upto_region 7 with (at_builtin; refine wpList_appN _ rfl (.tmp 31) (.tmp 36) 28 rfl (w.heap.size + 4) 40 i0 _ 3 32 Try.underlying28 hi0 hz0 hz1 hz2 rfl (by decide) (.slice A4 i c4) i (lcells (L.take i)) rfl OWN4.out w4.heap.size (some ⟨bL, oL + (i + 1) * 3, none⟩) m (cL - (i + 1)) (lcells (L.drop (i + 1))) (by rw [lcells_length, List.length_drop, HN.out]; omega) rfl HR3.out.rd (lcells_one _) (by unfold maxLen; omega) (by omega) hs4 ?_; intro v5 w5 own5 gr5 at5; obtain ⟨A5, c5, rfl, _⟩ := own_sliceN own5; (have B05 := box_at gr5 OWN4.out (by omega) HB04.out); (have B15 := box_at gr5 OWN4.out (by omega) HB14.out); (have B25 := box_at gr5 OWN4.out (by omega) HB24.out); (have B35 := box_at gr5 OWN4.out (by omega) HB34.out); (have g5 := fun i => free_at B05 i); (have y0 := cell_of_row w5 w.heap.size 0 _ _ _ B05); (have y1 := cell_of_row w5 w.heap.size 1 _ _ _ B05); (have y2 := cell_of_row w5 w.heap.size 2 _ _ _ B05); (have q0 := cell_of_row w5 (w.heap.size + 3) 0 _ _ _ B35); (have q1 := cell_of_row w5 (w.heap.size + 3) 1 _ _ _ B35); (have q2 := cell_of_row w5 (w.heap.size + 3) 2 _ _ _ B35); (have z0 := cell_of_row w5 (w.heap.size + 1) 0 _ _ _ B15); (have z1 := cell_of_row w5 (w.heap.size + 1) 1 _ _ _ B15); (have z2 := cell_of_row w5 (w.heap.size + 1) 2 _ _ _ B15); (have t0 := cell_of_row w5 (w.heap.size + 2) 0 _ _ _ B25); (have t1 := cell_of_row w5 (w.heap.size + 2) 1 _ _ _ B25); (have t2 := cell_of_row w5 (w.heap.size + 2) 2 _ _ _ B25); (have g5' := fun i => free_at B15 i); (have g5'' := fun i => free_at B25 i); (have HB05 := Lib.hid B05); (have HB15 := Lib.hid B15); (have HB25 := Lib.hid B25); (have HB35 := Lib.hid B35); (have HOWN5 := Lib.hid own5); (have HGR5 := Lib.hid gr5); simp at y0 y1 y2 q0 q1 q2 z0 z1 z2 t0 t1 t2; clear own5 gr5 at5 x0 x1 x2 B05 B15 B25 B35)
    have hs1 := HS1.out
    rw [hs1]
    clear hs1
    go_region
    go_wp2_with fail
    have hF0 : Fin w w5 (w.heap.size + 4) A5 (i + m) c5 AP nP cP (L.eraseIdx i) P := ⟨by rw [HE.out, lcells_app]; exact HOWN5.out, HR4.out.p.side HGR5.out OWN4.out (by decide), HBEL4.out.grown HGR5.out (by omega) (fun k hk => by have := own_geN OWN4.out k hk; omega), fun k h1 h2 => by
      rcases Nat.lt_or_ge k (w.heap.size + 1) with h3 | h3
      · have : k = w.heap.size := by omega
        subst this
        exact ⟨_, _, HB05.out, by decide⟩
      · rcases Nat.lt_or_ge k (w.heap.size + 2) with h4 | h4
        · have : k = w.heap.size + 1 := by omega
          subst this
          exact ⟨_, _, HB15.out, by decide⟩
        · rcases Nat.lt_or_ge k (w.heap.size + 3) with h5 | h5
          · have : k = w.heap.size + 2 := by omega
            subst this
            exact ⟨_, _, HB25.out, by decide⟩
          · have : k = w.heap.size + 3 := by omega
            subst this
            exact ⟨_, _, HB35.out, by decide⟩, by rw [HE.out, List.length_append, List.length_take, List.length_drop, HN.out]; omega, HR4.out.hp, HR4.out.hp2⟩
    have hF := (((((((hF0.set w.heap.size 1 (.slice A5 (i + m) c5) (by omega) (by omega)).set (w.heap.size + 1) 0 (.int .i64 nodes) (by omega) (by omega)).set (w.heap.size + 1) 1 (.slice A5 (i + m) c5) (by omega) (by omega)).set (w.heap.size + 1) 2 (.slice AP nP cP) (by omega) (by omega)).set (w.heap.size + 1 + 1) 0 (.int .i64 fa) (by omega) (by omega)).set (w.heap.size + 1 + 1) 1 (.int .i64 fb) (by omega) (by omega)).set (w.heap.size + 1 + 1) 2 (.string ⟨fl.toArray⟩) (by omega) (by omega)).drew
    refine bodyPost_ret (v := .tuple #[.agg #[.int .i64 nodes, .slice A5 (i + m) c5, .slice AP nP cP], .agg #[.int .i64 fa, .int .i64 fb, .string ⟨fl.toArray⟩], .bool true]) ?_ rfl ⟨A5, c5, rfl, hF.ref, hF.bel⟩
    simp [results, Try.results10, go_sem, z0, z1, z2, t0, t1, t2]
end Go.Proofs.Ytgdcnmicdhimhaa
