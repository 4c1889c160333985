/- Contracts of the reference: Part. -/
import Derived.Test.YtgdcnmicdhimhaaNl
namespace Go.Proofs.Ytgdcnmicdhimhaa
open Go.RowKit
set_option linter.unusedVariables false

structure Fin2 (w W : World) (s : Nat) (AL : Option Addr) (cL : Nat) (A5 : Option Addr) (n' c5 : Nat) (L : List (Int × Int × List UInt8)) (P : List (Int × Int)) : Prop where
  own : W.ownsRow s 67 2 (.slice A5 n' c5) n' (qcells P)
  l : RdT W 40 AL (lcells L)
  bel : Below w.heap.size w W
  b : ∀ k, w.heap.size ≤ k → k < s → ∃ c t, W.heap[k]? = some (Obj.cells c t (0, 0)) ∧ t ≠ 40
  hp : P.length = n'
  hl : L.length ≤ cL
  hl2 : cL ≤ 9223372036854775807
theorem Fin2.set {w W : World} {s : Nat} {AL A5 : Option Addr} {n' c5 cL : Nat} {L : List (Int × Int × List UInt8)} {P : List (Int × Int)} (h : Fin2 w W s AL cL A5 n' c5 L P) (k o : Nat) (u : Value) (h1 : w.heap.size ≤ k) (h2 : k < s) :
    Fin2 w (W.setCell ⟨k, o, none⟩ u) s AL cL A5 n' c5 L P := by
  obtain ⟨c, t, hb, ht⟩ := h.b k h1 h2
  refine ⟨own_set h.own _ _ (fun j hj => by have := own_geN h.own j hj; show j ≠ k; omega), h.l.set hb (fun e => ht e.symm) o u, h.bel.setCell (by exact h1) _, ?_, h.hp, h.hl, h.hl2⟩
  intro k' h3 h4
  obtain ⟨c', t', hb', ht'⟩ := h.b k' h3 h4
  obtain ⟨c2, e2⟩ := heap_set' hb' k o u
  exact ⟨c2, t', e2, ht'⟩
theorem Fin2.ref {w W : World} {s : Nat} {AL A5 : Option Addr} {n' c5 cL : Nat} {L : List (Int × Int × List UInt8)} {P : List (Int × Int)} (h : Fin2 w W s AL cL A5 n' c5 L P) : RefAt W AL cL A5 c5 L P := by
  obtain ⟨_, _, hs, hc1, hc2, _⟩ := own_sliceN h.own
  simp only [Value.slice.injEq] at hs
  obtain ⟨_, _, rfl⟩ := hs
  exact ⟨h.l, RdT.of_own h.own, h.hl, h.hl2, by have := h.hp; omega, hc2⟩
theorem qcells_one (P : List (Int × Int)) : ∀ u ∈ qcells P, u.oneCell' = true := by
  intro u hu
  unfold qcells at hu
  rw [List.mem_flatMap] at hu
  obtain ⟨p, _, hu⟩ := hu
  simp [qcell] at hu
  rcases hu with rfl | rfl <;> rfl
theorem qcells_snoc (P : List (Int × Int)) (p : Int × Int) : qcells (P ++ [p]) = qcells P ++ qcell p := by unfold qcells; rw [List.flatMap_append]; simp
/-- The pairs that stay. -/
def kept (a b : Int) (P : List (Int × Int)) : List (Int × Int) := P.filter fun p => !hit a b p
theorem kept_snoc (a b : Int) (P : List (Int × Int)) (i : Nat) (h : i < P.length) : kept a b (P.take (i + 1)) = if hit a b P[i] then kept a b (P.take i) else kept a b (P.take i) ++ [P[i]] := by
  rw [List.take_succ_eq_append_getElem h]
  unfold kept
  rw [List.filter_append]
  cases hh : hit a b P[i] <;> simp [hh]
theorem kept_len (a b : Int) (P : List (Int × Int)) : (kept a b P).length ≤ P.length := List.length_filter_le _ _

set_option maxRecDepth 100000 in
set_option maxHeartbeats 1000000 in
theorem rpart_no (nodes a b : Int) (AL AP : Option Addr) (nL cL nP cP : Nat) (pt : Bool) (w : World) (hb : bothB nodes a b = false) :
    Calls Try.prog 14 #[.agg #[.int .i64 nodes, .slice AL nL cL, .slice AP nP cP], .int .i64 a, .int .i64 b, .bool pt] w fun e w' => e = .returned (.tuple #[.agg #[.int .i64 nodes, .slice AL nL cL, .slice AP nP cP], .int .i64 90]) ∧ Below w.heap.size w w' := by
  obtain ⟨W2, hW2⟩ : ∃ W2, W2 = (w.alloc (Obj.cells #[.int .i64 nodes, .slice AL nL cL, .slice AP nP cP] 31)).alloc (Obj.cells #[.int .i64 0, .slice none 0 0, .slice none 0 0] 31) := ⟨_, rfl⟩
  have bel2 : Below w.heap.size w W2 := by rw [hW2]; exact ((Below.refl _ _).alloc (Nat.le_refl _) _).alloc (by simp) _
  have hs2 : W2.heap.size = w.heap.size + 2 := by rw [hW2]; simp
  have B0 : W2.heap[w.heap.size]? = some (Obj.cells #[.int .i64 nodes, .slice AL nL cL, .slice AP nP cP] 31 (0, 0)) := by
    rw [hW2, Below.heap_alloc _ _ _ (by simp)]
    exact heap_alloc_new w _
  have B1 : W2.heap[w.heap.size + 1]? = some (Obj.cells #[.int .i64 0, .slice none 0 0, .slice none 0 0] 31 (0, 0)) := by
    rw [hW2]
    have := heap_alloc_new (w.alloc (Obj.cells #[.int .i64 nodes, .slice AL nL cL, .slice AP nP cP] 31)) (Obj.cells #[.int .i64 0, .slice none 0 0, .slice none 0 0] 31)
    simpa using this
  have HW2 := Lib.hid hW2
  have HS2 := Lib.hid hs2
  have HBEL2 := Lib.hid bel2
  have HBO := Lib.hid (fun W => rboth_any nodes a b (.slice AL nL cL) (.slice AP nP cP) W)
  rw [hb] at HBO
  have x0 := cell_of_row W2 w.heap.size 0 _ _ _ B0
  have x1 := cell_of_row W2 w.heap.size 1 _ _ _ B0
  have x2 := cell_of_row W2 w.heap.size 2 _ _ _ B0
  simp at x0 x1 x2
  have HB0 := Lib.hid B0
  have HB1 := Lib.hid B1
  clear hb hW2 bel2 hs2 B0 B1
  go_enter Try.func14, Try.ntmps14
  go_upto_region 1 with fail
  rw [← HW2.out]
  go_wp2_with fail
  refine (HBO.out _).mono ?_
  rintro e w3 ⟨rfl, bel3⟩
  have hs2 := HS2.out
  have B03 := (bel3.block w.heap.size (by omega)).trans HB0.out
  have B13 := (bel3.block (w.heap.size + 1) (by omega)).trans HB1.out
  have HB3 := Lib.hid (HBEL2.out.trans (bel3.mono (by omega)))
  clear x0 x1 x2
  have x0 := cell_of_row w3 w.heap.size 0 _ _ _ B03
  have x1 := cell_of_row w3 w.heap.size 1 _ _ _ B03
  have x2 := cell_of_row w3 w.heap.size 2 _ _ _ B03
  simp at x0 x1 x2
  have z0 := cell_of_row w3 (w.heap.size + 1) 0 _ _ _ B13
  have z1 := cell_of_row w3 (w.heap.size + 1) 1 _ _ _ B13
  have z2 := cell_of_row w3 (w.heap.size + 1) 2 _ _ _ B13
  simp at z0 z1 z2
  have g5' := fun i => free_at B13 i
  clear bel3 B03 B13 hs2
  go_wp2_with fail
  refine bodyPost_ret (v := .tuple #[.agg #[.int .i64 nodes, .slice AL nL cL, .slice AP nP cP], .int .i64 90]) ?_ rfl ⟨rfl, ((((Below.refl w.heap.size w).trans HB3.out).setCell (by show w.heap.size ≤ w.heap.size + 1; omega) _).setCell (by show w.heap.size ≤ w.heap.size + 1; omega) _).setCell (by show w.heap.size ≤ w.heap.size + 1; omega) _⟩
  simp [results, Try.results14, go_sem, z0, z1, z2]

set_option maxRecDepth 100000 in
set_option maxHeartbeats 2000000 in
theorem rpart_on (nodes a b : Int) (AL AP : Option Addr) (nL cL nP cP : Nat) (pt : Bool) (L : List (Int × Int × List UInt8)) (P : List (Int × Int)) (w : World) (h : RefAt w AL cL AP cP L P) (hnp : P.length = nP) (hP : P.length ≤ 1000000) (hb : bothB nodes a b = true) :
    Calls Try.prog 14 #[.agg #[.int .i64 nodes, .slice AL nL cL, .slice AP nP cP], .int .i64 a, .int .i64 b, .bool pt] w fun e w' => ∃ A' n' c', e = .returned (.tuple #[.agg #[.int .i64 nodes, .slice AL nL cL, .slice A' n' c'], .int .i64 0]) ∧
      RefAt w' AL cL A' c' L (kept a b P ++ if pt then [(a, b)] else []) ∧ (kept a b P ++ if pt then [(a, b)] else []).length = n' ∧ Below w.heap.size w w' := by
  obtain ⟨i0, hi0, hz0, hz1, hz2⟩ := info_parts info67
  have hnm : nP ≤ 1000000 := by omega
  obtain ⟨W2, hW2⟩ : ∃ W2, W2 = (w.alloc (Obj.cells #[.int .i64 nodes, .slice AL nL cL, .slice AP nP cP] 31)).alloc (Obj.cells #[.int .i64 0, .slice none 0 0, .slice none 0 0] 31) := ⟨_, rfl⟩
  have bel2 : Below w.heap.size w W2 := by rw [hW2]; exact ((Below.refl _ _).alloc (Nat.le_refl _) _).alloc (by simp) _
  have hs2 : W2.heap.size = w.heap.size + 2 := by rw [hW2]; simp
  have B0 : W2.heap[w.heap.size]? = some (Obj.cells #[.int .i64 nodes, .slice AL nL cL, .slice AP nP cP] 31 (0, 0)) := by
    rw [hW2, Below.heap_alloc _ _ _ (by simp)]
    exact heap_alloc_new w _
  have B1 : W2.heap[w.heap.size + 1]? = some (Obj.cells #[.int .i64 0, .slice none 0 0, .slice none 0 0] 31 (0, 0)) := by
    rw [hW2]
    have := heap_alloc_new (w.alloc (Obj.cells #[.int .i64 nodes, .slice AL nL cL, .slice AP nP cP] 31)) (Obj.cells #[.int .i64 0, .slice none 0 0, .slice none 0 0] 31)
    simpa using this
  have HW2 := Lib.hid hW2
  have HS2 := Lib.hid hs2
  have HBEL2 := Lib.hid bel2
  have HBO := Lib.hid (fun W => rboth_any nodes a b (.slice AL nL cL) (.slice AP nP cP) W)
  rw [hb] at HBO
  have x0 := cell_of_row W2 w.heap.size 0 _ _ _ B0
  have x1 := cell_of_row W2 w.heap.size 1 _ _ _ B0
  have x2 := cell_of_row W2 w.heap.size 2 _ _ _ B0
  simp at x0 x1 x2
  have HB0 := Lib.hid B0
  have HB1 := Lib.hid B1
  have HR := Lib.hid h
  have HNP := Lib.hid hnp
  clear hb hW2 bel2 hs2 B0 B1 h hnp hP
  go_enter Try.func14, Try.ntmps14
  go_upto_region 1 with fail
  rw [← HW2.out]
  go_wp2_with fail
  refine (HBO.out _).mono ?_
  rintro e w3 ⟨rfl, bel3⟩
  have hs2 := HS2.out
  have HB03 := Lib.hid ((bel3.block w.heap.size (by omega)).trans HB0.out)
  have HB13 := Lib.hid ((bel3.block (w.heap.size + 1) (by omega)).trans HB1.out)
  have HB3 := Lib.hid (HBEL2.out.trans (bel3.mono (by omega)))
  have hs3 : w.heap.size + 2 ≤ w3.heap.size := by have := bel3.size; omega
  clear x0 x1 x2 bel3 hs2
  go_wp2_with fail
  go_loopw [11, 12] (fun v x wr => ∃ i : Nat, x = .int .i64 i ∧ i ≤ nP ∧ Hid (wr.ownsRow (w.heap.size + 2) 67 2 v (kept a b (P.take i)).length (qcells (kept a b (P.take i)))) ∧ Hid (Below w.heap.size w wr) ∧ Hid (wr.heap[w.heap.size]? = some (Obj.cells #[.int .i64 nodes, .slice AL nL cL, .slice AP nP cP] 31 (0, 0))) ∧ Hid (wr.heap[w.heap.size + 1]? = some (Obj.cells #[.int .i64 0, .slice none 0 0, .slice none 0 0] 31 (0, 0))) ∧ w.heap.size + 2 ≤ wr.heap.size) (fun _ x _ => nP - (intOf x).toNat)
  case atStart => exact ⟨0, rfl, by omega, World.ownsRow_nil _ _ _ _, HB3.out, HB03.out, HB13.out, hs3⟩
  obtain ⟨i, rfl, hi, OWN, HB, HX0, HX1, hsr⟩ := hrel
  have x0 := cell_of_row wr w.heap.size 0 _ _ _ HX0.out
  have x1 := cell_of_row wr w.heap.size 1 _ _ _ HX0.out
  have x2 := cell_of_row wr w.heap.size 2 _ _ _ HX0.out
  simp at x0 x1 x2
  by_cases hend : i < nP
  · have hil : i < P.length := by rw [HNP.out]; exact hend
    have R := HR.out.below HB.out
    obtain ⟨b2, o2, rfl, hb2, y1, y2⟩ := R.pair i hil
    have hsn := kept_snoc a b P i hil
    have hkl : (kept a b (P.take i)).length ≤ i := by have := kept_len a b (P.take i); rw [List.length_take] at this; omega
    rw [hit_eq] at hsn
    obtain ⟨p1, hp1⟩ : ∃ p1, p1 = (P[i]).1 := ⟨_, rfl⟩
    obtain ⟨p2, hp2⟩ : ∃ p2, p2 = (P[i]).2 := ⟨_, rfl⟩
    have hpp : P[i] = (p1, p2) := by rw [hp1, hp2]
    rw [hpp] at hsn
    rw [← hp1] at y1
    rw [← hp2] at y2
    simp only at hsn
    have HSN := Lib.hid hsn
    have e1 := run_eq67' p1 p2 a b wr
    have e2 := run_eq67' p1 p2 b a wr
    have a1 : (0 : Int) ≤ (i : Int) := by omega
    have a2 : (i : Int) < (nP : Int) := by omega
    obtain ⟨m, hm⟩ : ∃ m, m = (kept a b (P.take i)).length := ⟨_, rfl⟩
    rw [← hm] at OWN hkl
    obtain ⟨Q, hQ⟩ : ∃ Q, Q = kept a b (P.take i) := ⟨_, rfl⟩
    rw [← hQ] at OWN hm HSN
    have HM := Lib.hid hm
    have HQ := Lib.hid hQ
    obtain ⟨Ao, co, ho, hmc, _⟩ := own_sliceN OWN.out
    subst ho
    clear hsn hp1 hp2 hpp R hm hQ
    by_cases h1 : p1 = a ∧ p2 = b
    · have hd1 : decide (p1 = a ∧ p2 = b) = true := by simp [h1]
      rw [hd1] at e1 HSN
      simp at HSN
      have HO2 := Lib.hid (show wr.ownsRow (w.heap.size + 2) 67 2 (.slice Ao m co) (kept a b (P.take (i + 1))).length (qcells (kept a b (P.take (i + 1)))) by rw [HSN.out, ← HM.out]; exact OWN.out)
      clear h1 hd1 e2
      go_wp2_with fail
      go_roundw
      case rel => exact ⟨i + 1, by go_num, by omega, HO2.out, HB.out, HX0.out, HX1.out, hsr⟩
      case measure => simp [intOf]; omega
    · have hd1 : decide (p1 = a ∧ p2 = b) = false := by simpa using h1
      rw [hd1] at e1 HSN
      clear h1 hd1
      by_cases h2 : p1 = b ∧ p2 = a
      · have hd2 : decide (p1 = b ∧ p2 = a) = true := by simp [h2]
        rw [hd2] at e2 HSN
        simp at HSN
        have HO2 := Lib.hid (show wr.ownsRow (w.heap.size + 2) 67 2 (.slice Ao m co) (kept a b (P.take (i + 1))).length (qcells (kept a b (P.take (i + 1)))) by rw [HSN.out, ← HM.out]; exact OWN.out)
        clear h2 hd2
        go_wp2_with fail
        go_roundw
        case rel => exact ⟨i + 1, by go_num, by omega, HO2.out, HB.out, HX0.out, HX1.out, hsr⟩
        case measure => simp [intOf]; omega
      · have hd2 : decide (p1 = b ∧ p2 = a) = false := by simpa using h2
        rw [hd2] at e2 HSN
        simp at HSN
        clear h2 hd2
        go_wp2_with (at_builtin; refine wpList_appN _ rfl (.tmp 47) (.tmp 53) 29 rfl (w.heap.size + 2) 67 i0 _ 2 16 Try.underlying29 hi0 hz0 hz1 hz2 rfl (by decide) (.slice Ao m co) m (qcells Q) rfl (OWN.out.alloc _) (wr.heap.size + 1) (some ⟨wr.heap.size, 0, none⟩) 1 1 [.int .i64 p1, .int .i64 p2] rfl rfl (new_cells wr _ _ _ (by omega)) (by simp [Value.oneCell']) (by unfold maxLen; omega) (by omega) (by simp; omega) ?_; intro v' w4 own4 gr4 at4; obtain ⟨A4, c4, rfl, _⟩ := own_sliceN own4)
        have HO2 := Lib.hid (show w4.ownsRow (w.heap.size + 2) 67 2 (.slice A4 (m + 1) c4) (kept a b (P.take (i + 1))).length (qcells (kept a b (P.take (i + 1)))) by rw [HSN.out, List.length_append, qcells_snoc, ← HM.out]; exact own4)
        have HX04 := Lib.hid (box_after gr4 OWN.out (by omega) HX0.out)
        have HX14 := Lib.hid (box_after gr4 OWN.out (by omega) HX1.out)
        have HB4 := Lib.hid ((HB.out.alloc (by omega) _).grown gr4 (by simp; omega) (fun k hk => by have := own_geN OWN.out k hk; omega))
        have hs4 : w.heap.size + 2 ≤ w4.heap.size := by have := gr4.size; simp at this; omega
        clear own4 gr4 at4
        go_roundw
        case rel => exact ⟨i + 1, by go_num, by omega, HO2.out, HB4.out, HX04.out, HX14.out, hs4⟩
        case measure => simp [intOf]; omega
  · have hin : i = nP := by omega
    subst hin
    have hko : kept a b (P.take i) = kept a b P := by rw [List.take_of_length_le (by rw [HNP.out]; exact Nat.le_refl _)]
    have hkl := kept_len a b P
    rw [HNP.out] at hkl
    rw [hko] at OWN
    obtain ⟨m, hm⟩ : ∃ m, m = (kept a b P).length := ⟨_, rfl⟩
    rw [← hm] at OWN hkl
    have HM := Lib.hid hm
    obtain ⟨Ao, co, ho, hmc, _⟩ := own_sliceN OWN.out
    subst ho
    have g5 := fun i => free_at HX0.out i
    have g5' := fun i => free_at HX1.out i
    have z0 := cell_of_row wr (w.heap.size + 1) 0 _ _ _ HX1.out
    have z1 := cell_of_row wr (w.heap.size + 1) 1 _ _ _ HX1.out
    have z2 := cell_of_row wr (w.heap.size + 1) 2 _ _ _ HX1.out
    simp at z0 z1 z2
    clear hko hm hend hi
    cases pt with
    | false =>
      go_wp2_with fail
      have hF0 : Fin2 w wr (w.heap.size + 2) AL cL Ao m co L (kept a b P) := ⟨by rw [HM.out]; rw [← HM.out]; exact OWN.out, (HR.out.below HB.out).l, HB.out, fun k h1 h2 => by
        rcases Nat.lt_or_ge k (w.heap.size + 1) with h3 | h3
        · have : k = w.heap.size := by omega
          subst this
          exact ⟨_, _, HX0.out, by decide⟩
        · have : k = w.heap.size + 1 := by omega
          subst this
          exact ⟨_, _, HX1.out, by decide⟩, HM.out.symm, HR.out.hl, HR.out.hl2⟩
      have hF := ((((hF0.set w.heap.size 2 (.slice Ao m co) (by omega) (by omega)).set (w.heap.size + 1) 0 (.int .i64 nodes) (by omega) (by omega)).set (w.heap.size + 1) 1 (.slice AL nL cL) (by omega) (by omega)).set (w.heap.size + 1) 2 (.slice Ao m co) (by omega) (by omega))
      refine bodyPost_ret (v := .tuple #[.agg #[.int .i64 nodes, .slice AL nL cL, .slice Ao m co], .int .i64 0]) ?_ rfl ⟨Ao, m, co, rfl, by simpa using hF.ref, by simpa using HM.out.symm, hF.bel⟩
      simp [results, Try.results14, go_sem, z0, z1, z2]
    | true =>
      go_upto_region 12 with (at_builtin; refine wpList_appN _ rfl (.tmp 56) (.tmp 60) 29 rfl (w.heap.size + 2) 67 i0 _ 2 16 Try.underlying29 hi0 hz0 hz1 hz2 rfl (by decide) (.slice Ao m co) m (qcells (kept a b P)) rfl (OWN.out.alloc _) (wr.heap.size + 1) (some ⟨wr.heap.size, 0, none⟩) 1 1 [.int .i64 a, .int .i64 b] rfl rfl (new_cells wr _ _ _ (by omega)) (by simp [Value.oneCell']) (by unfold maxLen; omega) (by omega) (by simp; omega) ?_; intro v' w4 own4 gr4 at4; obtain ⟨A4, c4, rfl, _⟩ := own_sliceN own4)
      have HX04 := Lib.hid (box_after gr4 OWN.out (by omega) HX0.out)
      have HX14 := Lib.hid (box_after gr4 OWN.out (by omega) HX1.out)
      have HB4 := Lib.hid ((HB.out.alloc (by omega) _).grown gr4 (by simp; omega) (fun k hk => by have := own_geN OWN.out k hk; omega))
      have OWN4 := Lib.hid own4
      clear own4 gr4 at4 g5 g5' z0 z1 z2 x0 x1 x2
      have x0 := cell_of_row w4 w.heap.size 0 _ _ _ HX04.out
      have x1 := cell_of_row w4 w.heap.size 1 _ _ _ HX04.out
      have x2 := cell_of_row w4 w.heap.size 2 _ _ _ HX04.out
      have z0 := cell_of_row w4 (w.heap.size + 1) 0 _ _ _ HX14.out
      have z1 := cell_of_row w4 (w.heap.size + 1) 1 _ _ _ HX14.out
      have z2 := cell_of_row w4 (w.heap.size + 1) 2 _ _ _ HX14.out
      simp at x0 x1 x2 z0 z1 z2
      have g5 := fun i => free_at HX04.out i
      have g5' := fun i => free_at HX14.out i
      go_wp2_with fail
      have hF0 : Fin2 w w4 (w.heap.size + 2) AL cL A4 (m + 1) c4 L (kept a b P ++ [(a, b)]) := ⟨by rw [qcells_snoc]; exact OWN4.out, (HR.out.below HB4.out).l, HB4.out, fun k h1 h2 => by
        rcases Nat.lt_or_ge k (w.heap.size + 1) with h3 | h3
        · have : k = w.heap.size := by omega
          subst this
          exact ⟨_, _, HX04.out, by decide⟩
        · have : k = w.heap.size + 1 := by omega
          subst this
          exact ⟨_, _, HX14.out, by decide⟩, by rw [List.length_append, HM.out]; rfl, HR.out.hl, HR.out.hl2⟩
      have hF := ((((hF0.set w.heap.size 2 (.slice A4 (m + 1) c4) (by omega) (by omega)).set (w.heap.size + 1) 0 (.int .i64 nodes) (by omega) (by omega)).set (w.heap.size + 1) 1 (.slice AL nL cL) (by omega) (by omega)).set (w.heap.size + 1) 2 (.slice A4 (m + 1) c4) (by omega) (by omega))
      refine bodyPost_ret (v := .tuple #[.agg #[.int .i64 nodes, .slice AL nL cL, .slice A4 (m + 1) c4], .int .i64 0]) ?_ rfl ⟨A4, m + 1, c4, rfl, by simpa using hF.ref, by rw [HM.out], hF.bel⟩
      simp [results, Try.results14, go_sem, z0, z1, z2]
end Go.Proofs.Ytgdcnmicdhimhaa
