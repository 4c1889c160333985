/- The walks of ClockNone and ClockPairs. -/
import Derived.Test.YtgglckagenapgaaCl
namespace Go.Proofs.Ytgglckagenapgaa
open Go.RowKit

theorem clockNone.walk (a0 : Int) (_w0 : (Lit.int .i64 a0).wf = true) (w : World) :
    Calls Try.prog 7 #[.int .i64 a0] w fun e w' => e = .returned (.bool true) ∧ Below w.heap.size w w' := by
  go_enter Try.func7, Try.ntmps7
  go_wp2_with (first
    | (go_at_call 8; refine (awake_true _).mono ?_; rintro e w' ⟨rfl, hb1⟩)
    | (go_at_call 12; refine (see_nil _ _).mono ?_; rintro e w' ⟨rfl, rfl⟩)
    | (go_at_call 13; refine (next_nil _).mono ?_; rintro e w' ⟨rfl, c, rfl⟩)
    | (go_at_call 16; refine (actor_nil _).mono ?_; rintro e w' ⟨rfl, rfl⟩)
    | (go_at_call 17; refine (seq_nil _).mono ?_; rintro e w' ⟨rfl, rfl⟩)
    | (go_at_call 18; refine (time_nil _).mono ?_; rintro e w' ⟨rfl, rfl⟩))
  go_returns
  exact ⟨rfl, (hb1.alloc hb1.size _).alloc (by have := hb1.size; simp; omega) _⟩

theorem ret_true {b : Bool} (h : b = true) : Ending.returned (.bool b) = .returned (.bool true) := by rw [h]

namespace clockPairs
theorem no_any (a b c d : Int) (h : a < 0 ∨ (0 ≤ a ∧ 65536 ≤ a) ∨ (0 ≤ a ∧ a < 65536 ∧ b < 0) ∨ (0 ≤ a ∧ a < 65536 ∧ 0 ≤ b ∧ 256 ≤ b))
    (x f : Int) (hx : ∀ w, Calls Try.prog 9 #[.int .i64 c, .int .i64 d] w fun e w' => e = .returned (.tuple #[.int .i64 x, .int .i64 f]) ∧ w = w') (w : World) :
    Calls Try.prog 4 #[.int .i64 a, .int .i64 b, .int .i64 c, .int .i64 d] w fun e w' => e = .returned (.bool true) ∧ Below w.heap.size w w' := by
  have g := Lib.hid (fun w => actor_no a b w h)
  have g1 := Lib.hid hx
  clear hx h
  go_enter Try.func4, Try.ntmps4
  go_wp2_with (first
    | (go_at_call 8; refine (awake_true _).mono ?_; rintro e w' ⟨rfl, hb1⟩)
    | (go_at_call 9; (with_reducible refine (g.out _).mono ?_); rintro e w' ⟨rfl, rfl⟩)
    | (go_at_call 9; (with_reducible refine (g1.out _).mono ?_); rintro e w' ⟨rfl, rfl⟩))
  go_returns
  exact ⟨rfl, hb1⟩

theorem yes_no (a b c d : Int) (h : c < 0 ∨ (0 ≤ c ∧ 65536 ≤ c) ∨ (0 ≤ c ∧ c < 65536 ∧ d < 0) ∨ (0 ≤ c ∧ c < 65536 ∧ 0 ≤ d ∧ 256 ≤ d))
    (h0 : 0 ≤ a) (h1 : a < 65536) (h2 : 0 ≤ b) (h3 : b < 256) (w : World) :
    Calls Try.prog 4 #[.int .i64 a, .int .i64 b, .int .i64 c, .int .i64 d] w fun e w' => e = .returned (.bool true) ∧ Below w.heap.size w w' := by
  have g := Lib.hid (fun w => actor_yes a b w h0 h1 h2 h3)
  have g1 := Lib.hid (fun w => actor_no c d w h)
  clear h
  go_enter Try.func4, Try.ntmps4
  go_wp2_with (first
    | (go_at_call 8; refine (awake_true _).mono ?_; rintro e w' ⟨rfl, hb1⟩)
    | (go_at_call 9; (with_reducible refine (g.out _).mono ?_); rintro e w' ⟨rfl, rfl⟩)
    | (go_at_call 9; (with_reducible refine (g1.out _).mono ?_); rintro e w' ⟨rfl, rfl⟩))
  go_returns
  exact ⟨rfl, hb1⟩

theorem yes_yes (a b c d : Int) (h0 : 0 ≤ a) (h1 : a < 65536) (h2 : 0 ≤ b) (h3 : b < 256) (k0 : 0 ≤ c) (k1 : c < 65536) (k2 : 0 ≤ d) (k3 : d < 256) (w : World) :
    Calls Try.prog 4 #[.int .i64 a, .int .i64 b, .int .i64 c, .int .i64 d] w fun e w' => e = .returned (.bool true) ∧ Below w.heap.size w w' := by
  have g := Lib.hid (fun w => actor_yes a b w h0 h1 h2 h3)
  have g1 := Lib.hid (fun w => actor_yes c d w k0 k1 k2 k3)
  by_cases e : a = c
  · subst e
    by_cases e : b = d
    · subst e
      go_enter Try.func4, Try.ntmps4
      go_wp2_with (first
        | (go_at_call 8; refine (awake_true _).mono ?_; rintro e w' ⟨rfl, hb1⟩)
        | (go_at_call 9; (with_reducible refine (g.out _).mono ?_); rintro e w' ⟨rfl, rfl⟩))
      go_returns
      exact ⟨ret_true (by simp; omega), hb1⟩
    · have e1 : (a * 256 + b == a * 256 + d) = false := by simp; omega
      have e2 : (b == d) = false := by simp; omega
      clear e
      go_enter Try.func4, Try.ntmps4
      go_wp2_with (first
        | (go_at_call 8; refine (awake_true _).mono ?_; rintro e w' ⟨rfl, hb1⟩)
        | (go_at_call 9; (with_reducible refine (g.out _).mono ?_); rintro e w' ⟨rfl, rfl⟩)
        | (go_at_call 9; (with_reducible refine (g1.out _).mono ?_); rintro e w' ⟨rfl, rfl⟩))
      go_returns
      exact ⟨ret_true (by simp; omega), hb1⟩
  · have e1 : (a * 256 + b == c * 256 + d) = false := by simp; omega
    have e2 : (a == c) = false := by simp; omega
    rcases Int.lt_or_le a c with hac | hac
    all_goals
      clear e
      go_enter Try.func4, Try.ntmps4
      go_wp2_with (first
        | (go_at_call 8; refine (awake_true _).mono ?_; rintro e w' ⟨rfl, hb1⟩)
        | (go_at_call 9; (with_reducible refine (g.out _).mono ?_); rintro e w' ⟨rfl, rfl⟩)
        | (go_at_call 9; (with_reducible refine (g1.out _).mono ?_); rintro e w' ⟨rfl, rfl⟩))
      go_returns
      exact ⟨ret_true (by simp; omega), hb1⟩

theorem walk (a0 a1 a2 a3 : Int) (_ : (Lit.int .i64 a0).wf = true) (_ : (Lit.int .i64 a1).wf = true) (_ : (Lit.int .i64 a2).wf = true) (_ : (Lit.int .i64 a3).wf = true) (w : World) :
    Calls Try.prog 4 #[.int .i64 a0, .int .i64 a1, .int .i64 a2, .int .i64 a3] w fun e w' => e = .returned (.bool true) ∧ Below w.heap.size w w' := by
  by_cases h : 0 ≤ a0 ∧ a0 < 65536 ∧ 0 ≤ a1 ∧ a1 < 256 <;> by_cases k : 0 ≤ a2 ∧ a2 < 65536 ∧ 0 ≤ a3 ∧ a3 < 256
  · exact yes_yes _ _ _ _ (by omega) (by omega) (by omega) (by omega) (by omega) (by omega) (by omega) (by omega) w
  · exact yes_no _ _ _ _ (by omega) (by omega) (by omega) (by omega) (by omega) w
  · exact no_any _ _ _ _ (by omega) _ _ (fun w => actor_yes _ _ w (by omega) (by omega) (by omega) (by omega)) w
  · exact no_any _ _ _ _ (by omega) _ _ (fun w => actor_no _ _ w (by omega)) w
end clockPairs
end Go.Proofs.Ytgglckagenapgaa
