/- The walk of NumNone. -/
import Derived.Test.YtmhhppolhciigaaAw
import Derived.DataShut
namespace Go.Proofs.Ytmhhppolhciigaa
open Go.RowKit
set_option linter.unusedVariables false

theorem fail_nil (x : Int) (w : World) : Calls Try.prog 23 #[.pointer none, .int .i64 x] w fun e w' => e = .returned (.tuple #[]) ∧ w' = w := by
  go_enter Try.func23, Try.ntmps23
  go_wp2_with fail
  go_returns
  exact ⟨rfl, rfl⟩
theorem take_nil (w : World) : Calls Try.prog 26 #[.pointer none, .int .u64 0] w fun e w' => e = .returned (.slice none 0 0) ∧ w' = w := by
  go_enter Try.func26, Try.ntmps26
  go_wp2_with (go_at_call 23; refine (fail_nil _ _).mono ?_; rintro e w' ⟨rfl, rfl⟩)
  go_returns
  exact ⟨rfl, rfl⟩
theorem uint_nil (w : World) : Calls Try.prog 12 #[.pointer none] w fun e w' => e = .returned (.int .u64 0) ∧ w' = w := by
  go_enter Try.func12, Try.ntmps12
  go_wp2_with (go_at_call 23; refine (fail_nil _ _).mono ?_; rintro e w' ⟨rfl, rfl⟩)
  go_returns
  exact ⟨rfl, rfl⟩
theorem int_nil (w : World) : Calls Try.prog 21 #[.pointer none] w fun e w' => e = .returned (.int .i64 0) ∧ w' = w := by
  go_enter Try.func21, Try.ntmps21
  go_wp2_with (go_at_call 12; refine (uint_nil _).mono ?_; rintro e w' ⟨rfl, rfl⟩)
  go_returns
  refine ⟨?_, rfl⟩
  refine congrArg (fun x => Ending.returned (Value.int .i64 x)) (?_ : _ = (0 : Int))
  decide +kernel
theorem text_nil (w : World) : Calls Try.prog 22 #[.pointer none] w fun e w' => e = .returned (.string ⟨#[]⟩) ∧ w' = w := by
  have cv := conv_any (W := w) (B := 0) (A := none) (l := []) 0 0 rfl .nil
  go_enter Try.func22, Try.ntmps22
  go_wp2_with (first
    | (go_at_call 12; refine (uint_nil _).mono ?_; rintro e w' ⟨rfl, rfl⟩)
    | (go_at_call 26; refine (take_nil _).mono ?_; rintro e w' ⟨rfl, rfl⟩))
  go_returns
  exact ⟨rfl, rfl⟩
theorem left_nil (w : World) : Calls Try.prog 11 #[.pointer none] w fun e w' => e = .returned (.int .i64 0) ∧ w' = w := by
  go_enter Try.func11, Try.ntmps11
  go_wp2_with fail
  go_returns
  exact ⟨rfl, rfl⟩
theorem err_nil (w : World) : Calls Try.prog 13 #[.pointer none] w fun e w' => e = .returned (.int .i64 1) ∧ w' = w := by
  go_enter Try.func13, Try.ntmps13
  go_wp2_with fail
  go_returns
  exact ⟨rfl, rfl⟩
theorem end_nil (w : World) : Calls Try.prog 15 #[.pointer none] w fun e w' => e = .returned (.int .i64 1) ∧ w' = w := by
  go_enter Try.func15, Try.ntmps15
  go_wp2_with (first
    | (go_at_call 11; refine (left_nil _).mono ?_; rintro e w' ⟨rfl, rfl⟩)
    | (go_at_call 13; refine (err_nil _).mono ?_; rintro e w' ⟨rfl, rfl⟩))
  go_returns
  exact ⟨rfl, rfl⟩
theorem count_nil (x : Int) (h0 : -9223372036854775808 ≤ x) (h1 : x ≤ 9223372036854775807) (w : World) : Calls Try.prog 24 #[.pointer none, .int .i64 x] w fun e w' => e = .returned (.int .i64 0) ∧ w' = w := by
  obtain ⟨m, hm⟩ : ∃ m : Int, m = max x 1 := ⟨_, rfl⟩
  have hm1 : 1 ≤ m := by omega
  have e1 : max x 1 = m := hm.symm
  have e2 : (0 : Int).tdiv m = 0 := Int.zero_tdiv m
  have e3 : (m == 0) = false := by simp; omega
  have e4 : (0 : Int) < m := by omega
  clear hm h0 h1
  go_enter Try.func24, Try.ntmps24
  go_wp2_with (first
    | (go_at_call 12; refine (uint_nil _).mono ?_; rintro e w' ⟨rfl, rfl⟩)
    | (go_at_call 11; refine (left_nil _).mono ?_; rintro e w' ⟨rfl, rfl⟩))
  go_returns
  exact ⟨rfl, rfl⟩

theorem numNone.main (x : Int) (h0 : -9223372036854775808 ≤ x) (h1 : x ≤ 9223372036854775807) (w : World) :
    Calls Try.prog 8 #[.int .i64 x] w fun e w' => e = .returned (.bool true) ∧ Below w.heap.size w w' := by
  go_enter Try.func8, Try.ntmps8
  go_wp2_with (first
    | (go_at_call 9; refine (awake_true _).mono ?_; rintro e w1 ⟨rfl, hb1⟩; (have HB1 := Lib.hid hb1); clear hb1)
    | (go_at_call 23; refine (fail_nil _ _).mono ?_; rintro e w' ⟨rfl, rfl⟩)
    | (go_at_call 12; refine (uint_nil _).mono ?_; rintro e w' ⟨rfl, rfl⟩)
    | (go_at_call 21; refine (int_nil _).mono ?_; rintro e w' ⟨rfl, rfl⟩)
    | (go_at_call 22; refine (text_nil _).mono ?_; rintro e w' ⟨rfl, rfl⟩)
    | (go_at_call 24; refine (count_nil _ h0 h1 _).mono ?_; rintro e w' ⟨rfl, rfl⟩)
    | (go_at_call 11; refine (left_nil _).mono ?_; rintro e w' ⟨rfl, rfl⟩)
    | (go_at_call 13; refine (err_nil _).mono ?_; rintro e w' ⟨rfl, rfl⟩)
    | (go_at_call 15; refine (end_nil _).mono ?_; rintro e w' ⟨rfl, rfl⟩))
  go_returns
  exact ⟨rfl, HB1.out⟩

theorem numNone.walk (a0 : Int) (w0 : (Lit.int .i64 a0).wf = true) (w : World) :
    Calls Try.prog 8 #[.int .i64 a0] w fun e w' => e = .returned (.bool true) ∧ Below w.heap.size w w' := by
  have h : -9223372036854775808 ≤ a0 ∧ a0 ≤ 9223372036854775807 := by rw [Go.Lit.wf_int_iff] at w0; simpa [IntKind.min, IntKind.max, IntKind.bits, IntKind.signed] using w0
  exact numNone.main a0 h.1 h.2 w
end Go.Proofs.Ytmhhppolhciigaa
