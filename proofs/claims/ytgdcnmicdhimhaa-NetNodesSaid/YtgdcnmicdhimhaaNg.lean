/- The walk of NetNodes. -/
import Derived.Test.YtgdcnmicdhimhaaNf
import Derived.Deep.DeepCutAuto
namespace Go.Proofs.Ytgdcnmicdhimhaa
open Go.RowKit
set_option linter.unusedVariables false

theorem netNodes.bad (nodes a b : Int) (w : World) (h : nodes < 1 ∨ 65536 < nodes) :
    Calls Try.prog 6 #[.int .i64 nodes, .int .i64 a, .int .i64 b] w fun e w' => e = .returned (.bool true) ∧ Below w.heap.size w w' := by
  have HN := Lib.hid (fun W => new_no nodes W h)
  by_cases h1 : nodes < 1
  · clear h
    go_enter Try.func6, Try.ntmps6
    go_wp2_with (first
      | (go_at_call 7; refine (awake_true _).mono ?_; rintro e w1 ⟨rfl, hb1⟩; (have HB1 := Lib.hid hb1); clear hb1)
      | (go_at_call 8; refine (HN.out _).mono ?_; rintro e w2 ⟨rfl, rfl⟩))
    go_returns
    exact ⟨rfl, HB1.out⟩
  · have h2 : 65536 < nodes := by omega
    clear h
    go_enter Try.func6, Try.ntmps6
    go_wp2_with (first
      | (go_at_call 7; refine (awake_true _).mono ?_; rintro e w1 ⟨rfl, hb1⟩; (have HB1 := Lib.hid hb1); clear hb1)
      | (go_at_call 8; refine (HN.out _).mono ?_; rintro e w2 ⟨rfl, rfl⟩))
    go_returns
    exact ⟨rfl, HB1.out⟩

set_option maxRecDepth 100000 in
set_option maxHeartbeats 1000000 in
theorem netNodes.good (nodes a b : Int) (w : World) (h1 : 1 ≤ nodes) (h2 : nodes ≤ 65536) :
    Calls Try.prog 6 #[.int .i64 nodes, .int .i64 a, .int .i64 b] w fun e w' => e = .returned (.bool true) ∧ Below w.heap.size w w' := by
  go_enter Try.func6, Try.ntmps6
  go_upto_region 7 with (first
      | (go_at_call 7; refine (awake_true _).mono ?_; rintro e w1 ⟨rfl, hb1⟩; (have HB1 := Lib.hid hb1); clear hb1)
      | (go_at_call 8; refine (new_any nodes _ h1 h2).mono ?_; rintro e w2 ⟨r, rfl, ⟨v, mb, N2⟩, bel2⟩; (have HN2 := Lib.hid N2); (have BEL2 := Lib.hid bel2); clear N2 bel2))
  go_cut [10] (fun c wx => c = .bool (bothB nodes a b) ∧ wx = w2)
  case first =>
    by_cases g1 : 0 ≤ a
    · by_cases g2 : a < nodes
      · by_cases g3 : 0 ≤ b
        · by_cases g4 : b < nodes
          · by_cases g5 : a = b
            · have hr : bothB nodes a b = false := by unfold bothB; simp; omega
              have HRR := Lib.hid hr
              subst g5
              clear hr
              go_wp2_with fail
              go_meet
              exact ⟨by rw [HRR.out], rfl⟩
            · have hr : bothB nodes a b = true := by unfold bothB; simp; omega
              have HRR := Lib.hid hr
              have h6 : (a != b) = true := by simp; omega
              clear hr g5
              go_wp2_with fail
              go_meet
              exact ⟨by rw [HRR.out], rfl⟩
          · have hr : bothB nodes a b = false := by unfold bothB; simp; omega
            have HRR := Lib.hid hr
            clear hr
            go_wp2_with fail
            go_meet
            exact ⟨by rw [HRR.out], rfl⟩
        · have hr : bothB nodes a b = false := by unfold bothB; simp; omega
          have HRR := Lib.hid hr
          clear hr
          go_wp2_with fail
          go_meet
          exact ⟨by rw [HRR.out], rfl⟩
      · have hr : bothB nodes a b = false := by unfold bothB; simp; omega
        have HRR := Lib.hid hr
        clear hr
        go_wp2_with fail
        go_meet
        exact ⟨by rw [HRR.out], rfl⟩
    · have hr : bothB nodes a b = false := by unfold bothB; simp; omega
      have HRR := Lib.hid hr
      clear hr
      go_wp2_with fail
      go_meet
      exact ⟨by rw [HRR.out], rfl⟩
  case rest =>
    obtain ⟨rfl, rfl⟩ := hcut
    have hs2 := BEL2.out.size
    have hs1 := HB1.out.size
    have HB0 := Lib.hid (HB1.out.trans (BEL2.out.mono hs1))
    cases hb : bothB nodes a b with
    | true =>
      have HSE := Lib.hid (send_on _ r mb v nodes [] 0 (fun _ _ => false) a b none [] 0 0 0 _ HN2.out h2 hs2 (by simp) rfl (by decide) .nil hb rfl)
      have HPA := Lib.hid (fun W v ps n (h : NetAt W w1.heap.size r v mb nodes ps n (fun _ _ => false)) (hs : w1.heap.size ≤ W.heap.size) (hn : n < 1000000) => part_on w1.heap.size r mb v nodes ps n (fun _ _ => false) a b false W h h2 hs hn hb)
      have hpar : upd (fun _ _ => false) (min a b) (max a b) false = fun _ _ => false := by
        funext x y
        unfold upd
        split <;> rfl
      rw [hpar] at HPA
      have hlk : linkB nodes a b (fun _ _ => false) = true := by unfold linkB; rw [hb]; rfl
      clear hb hpar
      go_wp2_with fail
      refine HSE.out.mono ?_
      rintro e w3 ⟨rfl, v3, A3, c3, N3, T3, _⟩
      have HN3 := Lib.hid N3
      have T13 := Lib.hid (HB0.out.trans (T3.below.mono hs1))
      have hs3 := Nat.le_trans hs2 T3.below.size
      clear N3 T3
      go_wp2_with fail
      refine (HPA.out w3 v3 _ _ HN3.out hs3 (by decide)).mono ?_
      rintro e w4 ⟨rfl, N4, T4⟩
      have HN4 := Lib.hid N4
      have T14 := Lib.hid (T13.out.trans (T4.below.mono hs1))
      have hs4 := Nat.le_trans hs3 T4.below.size
      have hl := linked_any w1.heap.size r mb v3 nodes _ _ _ a b w4 N4 h2
      rw [hlk] at hl
      have HL := Lib.hid hl
      clear N4 T4 hl hlk
      go_wp2_with fail
      refine HL.out.mono ?_
      rintro e w5 ⟨rfl, bel5⟩
      have N5 := HN4.out.below bel5
      have T15 := Lib.hid (T14.out.trans (bel5.mono (Nat.le_trans hs1 hs4)))
      have hs5 := Nat.le_trans hs4 bel5.size
      have HWT := Lib.hid (waiting_any w1.heap.size r mb v3 nodes _ _ _ w5 N5 (by simp) (by simp))
      clear N5 bel5
      go_wp2_with fail
      refine HWT.out.mono ?_
      rintro e w6 ⟨v6, qs, rfl, hkeys, told, bel6⟩
      have hql : qs.length = 1 := by have := congrArg List.length hkeys; simpa using this
      obtain ⟨A6, c6, rfl, _⟩ := own_sliceN told.own
      rw [hql]
      have HB6 := Lib.hid (T15.out.trans (bel6.mono (Nat.le_trans hs1 hs5)))
      clear told bel6 hkeys hql
      go_wp2_with fail
      go_returns
      exact ⟨rfl, HB6.out⟩
    | false =>
      have HSE := Lib.hid (send_no r nodes a b (.slice none 0 0) _ HN2.out.c0 hb)
      have HPA := Lib.hid (part_no r nodes a b (.bool false) _ HN2.out.c0 hb)
      have hlk : linkB nodes a b (fun _ _ => false) = false := by unfold linkB; rw [hb]; rfl
      have hl := linked_any w1.heap.size r mb v nodes _ _ _ a b _ HN2.out h2
      rw [hlk] at hl
      have HL := Lib.hid hl
      clear hb hl hlk
      go_wp2_with (first
        | (go_at_call 15; refine HSE.out.mono ?_; rintro e w3 ⟨rfl, rfl⟩)
        | (go_at_call 13; refine HPA.out.mono ?_; rintro e w4 ⟨rfl, rfl⟩))
      refine HL.out.mono ?_
      rintro e w5 ⟨rfl, bel5⟩
      have N5 := HN2.out.below bel5
      have T15 := Lib.hid (HB0.out.trans (bel5.mono (Nat.le_trans hs1 hs2)))
      have hs5 := Nat.le_trans hs2 bel5.size
      have HWT := Lib.hid (waiting_any w1.heap.size r mb v nodes _ _ _ w5 N5 (by simp) (by simp))
      clear N5 bel5
      go_wp2_with fail
      refine HWT.out.mono ?_
      rintro e w6 ⟨v6, qs, rfl, hkeys, told, bel6⟩
      have hql : qs.length = 0 := by have := congrArg List.length hkeys; simpa using this
      obtain ⟨A6, c6, rfl, _⟩ := own_sliceN told.own
      rw [hql]
      have HB6 := Lib.hid (T15.out.trans (bel6.mono (Nat.le_trans hs1 hs5)))
      clear told bel6 hkeys hql
      go_wp2_with fail
      go_returns
      exact ⟨rfl, HB6.out⟩

theorem netNodes.walk (a0 : Int) (a1 : Int) (a2 : Int) (w0 : (Lit.int .i64 a0).wf = true) (w1 : (Lit.int .i64 a1).wf = true) (w2 : (Lit.int .i64 a2).wf = true) (w : World) :
    Calls Try.prog 6 #[.int .i64 a0, .int .i64 a1, .int .i64 a2] w fun e w' => e = .returned (.bool true) ∧ Below w.heap.size w w' := by
  by_cases h : a0 < 1 ∨ 65536 < a0
  · exact netNodes.bad a0 a1 a2 w h
  · exact netNodes.good a0 a1 a2 w (by omega) (by omega)
end Go.Proofs.Ytgdcnmicdhimhaa
