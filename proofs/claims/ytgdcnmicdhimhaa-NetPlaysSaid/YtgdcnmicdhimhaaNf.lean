/- awake. -/
import Derived.Test.YtgdcnmicdhimhaaNe
import Derived.Laws.BytesArg
import Derived.Laws.IdiomStrings
import Derived.Lib.SlBytesConst
namespace Go.Proofs.Ytgdcnmicdhimhaa
open Go.RowKit
set_option linter.unusedVariables false

theorem conv_any {W : World} {B : Nat} {A : Option Addr} {l : List UInt8} (n cap : Nat) (hn : l.length = n) (h : Rd W B A (bv l)) : (convert 32 9 (.slice A n cap)).run Try.prog W = .ok (.string ⟨l.toArray⟩) W := by
  subst hn
  cases A with
  | none =>
    have hl : l = [] := by
      rcases h with h | ⟨b, off, h, _⟩
      · exact List.eq_nil_of_length_eq_zero (by have := congrArg List.length h; rwa [bv_length] at this)
      · cases h
    subst hl
    exact run_convert_bytes_nil W 32 5 Try.underlying32 Try.underlying5 0 cap 9 Try.underlying9
  | some a =>
    refine run_convert_bytes_back W 32 9 5 a cap l Try.underlying32 Try.underlying5 Try.underlying9 fun j hj => ?_
    rcases h with h | ⟨b, off, h, _, hc⟩
    · have := congrArg List.length h
      rw [bv_length, List.length_nil] at this
      omega
    · simp only [Option.some.injEq] at h
      subst h
      have e := hc j _ (bv_get l j hj)
      have eg : l.getD j 0 = l[j] := by simp [hj]
      rw [eg] at e
      unfold Addr.add
      split
      · subst j; simpa using e
      · exact e

theorem lit_rd (l : List UInt8) (w : World) (fr : Nat × Nat) : Rd (w.alloc (.cells (bv l).toArray 5 fr)) (w.heap.size + 1) (some ⟨w.heap.size, 0, none⟩) (bv l) := by
  refine .inr ⟨_, 0, rfl, by omega, fun j x hj => ?_⟩
  rw [cell_of_row _ _ _ _ 5 fr (heap_alloc_new w _), Nat.zero_add]
  simpa using hj
theorem Told.packet {w : World} {B : Nat} {v : Value} {qs : List Pkt} (h : Told w B v qs) (i : Nat) (hi : i < qs.length) :
    ∃ g c, v = .slice (some ⟨g, 0, none⟩) qs.length c ∧ g < w.heap.size ∧ B ≤ g ∧ qs.length ≤ c ∧ c ≤ 9223372036854775807 ∧ w.cell? ⟨g, i * 3, none⟩ = some (.int .i64 (qs[i]).frm) ∧ w.cell? ⟨g, i * 3 + 1, none⟩ = some (.int .i64 (qs[i]).to) ∧ w.cell? ⟨g, i * 3 + 2, none⟩ = some (qs[i]).body := by
  obtain ⟨g, c, hv, hg, hgl⟩ := h.own.form (by omega)
  have ho := h.own
  rw [hv] at ho
  obtain ⟨_, _, hs, hc1, hc2, _⟩ := own_sliceN ho
  simp only [Value.slice.injEq] at hs
  obtain ⟨_, _, rfl⟩ := hs
  refine ⟨g, c, hv, hgl, hg, hc1, hc2, ?_, ?_, ?_⟩
  · rw [ho.cellAt (i * 3) (by omega), show i * 3 = i * 3 + 0 from rfl, pcells_get qs i hi 0 (by omega)]; rfl
  · rw [ho.cellAt (i * 3 + 1) (by omega), pcells_get qs i hi 1 (by omega)]; rfl
  · rw [ho.cellAt (i * 3 + 2) (by omega), pcells_get qs i hi 2 (by omega)]; rfl

set_option maxRecDepth 100000 in
set_option maxHeartbeats 1000000 in
theorem awake_true (w : World) : Calls Try.prog 7 #[] w fun e w' => e = .returned (.bool true) ∧ Below w.heap.size w w' := by
  have kc := fun (w : World) (C : Array Value) (n c : Nat) => Lib.run_convert_bytes_const (P := Try.prog) w 32 5 C n c Try.underlying32 Try.underlying5
  go_enter Try.func7, Try.ntmps7
  go_wp2_with fail
  refine (new_any 2 w (by decide) (by decide)).mono ?_
  rintro e w1 ⟨r, rfl, ⟨v1, mb, N1⟩, bel1⟩
  have HN1 := Lib.hid N1
  have T1 := Lib.hid (Turn.of_below bel1 (Nat.le_refl _))
  have hs1 := bel1.size
  clear N1 bel1
  go_wp2_with fail
  refine (send_on w.heap.size r mb v1 2 [] 0 (fun _ _ => false) 0 1 (some ⟨w1.heap.size, 0, none⟩) [97] 1 1 _ _ (HN1.out.below ((Below.refl _ _).alloc (Nat.le_refl _) _)) (by decide) (by simp; omega) (by decide) rfl (by decide) (lit_rd [97] w1 (1, 2)) (by decide) rfl).mono ?_
  rintro e w2 ⟨rfl, v2, A1, k1, N2, T2, own2⟩
  have HN2 := Lib.hid N2
  have T12 := Lib.hid (T1.out.trans ((Turn.of_below ((Below.refl _ _).alloc (Nat.le_refl _) _) hs1).trans T2))
  have hs2 := T12.out.below.size
  clear N2 T2 own2
  go_wp2_with fail
  refine (send_on w.heap.size r mb v2 2 _ 0 (fun _ _ => false) 1 0 (some ⟨w2.heap.size, 0, none⟩) [98] 1 1 _ _ (HN2.out.below ((Below.refl _ _).alloc (Nat.le_refl _) _)) (by decide) (by simp; omega) (by simp) rfl (by decide) (lit_rd [98] w2 (1, 2)) (by decide) rfl).mono ?_
  rintro e w3 ⟨rfl, v3, A2, k2, N3, T3, own3⟩
  have HN3 := Lib.hid N3
  have T13 := Lib.hid (T12.out.trans ((Turn.of_below ((Below.refl _ _).alloc (Nat.le_refl _) _) hs2).trans T3))
  have hs3 := T13.out.below.size
  clear N3 T3 own3
  go_wp2_with fail
  refine (twice_on w.heap.size r mb v3 2 _ 0 (fun _ _ => false) 0 w3 HN3.out hs3 (by simp) (by simp) (by simp)).mono ?_
  rintro e w4 ⟨rfl, v4, A3, k3, N4, T4, own4⟩
  have HN4 := Lib.hid N4
  have T14 := Lib.hid (T13.out.trans T4)
  have hs4 := T14.out.below.size
  clear N4 T4 own4
  go_wp2_with fail
  refine (take_on w.heap.size r mb v4 2 _ 0 (fun _ _ => false) 1 w4 HN4.out hs4 (by simp)).mono ?_
  rintro e w5 ⟨rfl, v5, N5, T5⟩
  have OB := Lib.hid (own_quiet (HN4.out.bod ⟨1, 0, A2, k2, [98]⟩ (by simp)) T5.quiet (by decide) (by decide))
  have HN5 := Lib.hid N5
  have T15 := Lib.hid (T14.out.trans T5)
  have hs5 := T15.out.below.size
  have hbd : (Pkt.mk 1 0 A2 k2 [98]).body = .slice A2 1 k2 := rfl
  clear N5 T5
  go_wp2_with fail
  obtain ⟨W6, hW6⟩ : ∃ W6, W6 = w5.alloc (Obj.cells #[Value.int IntKind.i64 1, Value.int IntKind.i64 0, Value.slice A2 1 k2] 36) := ⟨_, rfl⟩
  rw [← hW6]
  have bel6 : Below w5.heap.size w5 W6 := by rw [hW6]; exact (Below.refl _ _).alloc (Nat.le_refl _) _
  have P6 : W6.heap[w5.heap.size]? = some (Obj.cells #[Value.int IntKind.i64 1, Value.int IntKind.i64 0, Value.slice A2 1 k2] 36 (0, 0)) := by rw [hW6]; exact heap_alloc_new w5 _
  have N6 := HN5.out.below bel6
  refine (waiting_any w.heap.size r mb v5 2 _ 0 (fun _ _ => false) W6 N6 (by simp) (by simp)).mono ?_
  rintro e w7 ⟨v7, qs, rfl, hkeys, told, bel7⟩
  have N7 := N6.below bel7
  have P7 : w7.heap[w5.heap.size]? = some (Obj.cells #[Value.int IntKind.i64 1, Value.int IntKind.i64 0, Value.slice A2 1 k2] 36 (0, 0)) := by rw [bel7.block _ (lt_of_heap P6)]; exact P6
  have c62 := cell_of_row w7 w5.heap.size 2 _ _ _ P7
  have ob7 := own_keepN (own_keepN OB.out bel6) bel7
  have cv1 := conv_any (W := w7) 1 k2 rfl (RdT.of_own ob7).rd
  have hql : qs.length = 2 := by have := congrArg List.length hkeys; simpa using this
  obtain ⟨g7, c7, rfl, hg7l, hg7, hc7, hc7m, d0, d1, d2⟩ := told.packet 1 (by omega)
  have hq1 : (qs[1]'(by omega)).bytes = [97] := by
    have := congrArg (fun l : List (Int × Int × List UInt8) => l[1]?) hkeys
    simp at this
    rw [List.getElem?_eq_getElem (by omega)] at this
    simp [Pkt.key] at this
    exact this.2.2
  have ob1 := told.bod (qs[1]'(by omega)) (List.getElem_mem _)
  have hb1 : (qs[1]'(by omega)).body = .slice (qs[1]'(by omega)).A 1 (qs[1]'(by omega)).c := by unfold Pkt.body; rw [hq1]; rfl
  rw [hb1, hq1] at ob1
  rw [hb1] at d2
  have cv2 := conv_any (W := w7) 1 (qs[1]'(by omega)).c rfl (RdT.of_own ob1).rd
  obtain ⟨A8, hA8⟩ : ∃ A8, A8 = (qs[1]'(by omega)).A := ⟨_, rfl⟩
  obtain ⟨c8, hc8⟩ : ∃ c8, c8 = (qs[1]'(by omega)).c := ⟨_, rfl⟩
  rw [← hA8, ← hc8] at d2 cv2
  have hl := linked_any w.heap.size r mb v5 2 _ 0 (fun _ _ => false) 0 1 w7 N7 (by decide)
  have HL := Lib.hid hl
  have HB7 := Lib.hid (T15.out.below.trans ((bel6.mono hs5).trans (bel7.mono (Nat.le_trans hs5 bel6.size))))
  rw [hql]
  rw [hql] at hc7
  simp at c62
  clear hl N7 N6 P7 P6 told bel7 ob7 ob1 hb1 hq1 hA8 hc8 hkeys hql hbd d0 d1 hW6 bel6
  go_wp2_with fail
  refine HL.out.mono ?_
  rintro e w8 ⟨rfl, bel8⟩
  have HB8 := Lib.hid (HB7.out.trans (bel8.mono HB7.out.size))
  clear bel8
  go_wp2_with fail
  go_returns
  exact ⟨rfl, HB8.out⟩
end Go.Proofs.Ytgdcnmicdhimhaa
