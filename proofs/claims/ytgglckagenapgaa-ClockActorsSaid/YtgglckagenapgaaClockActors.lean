/- ClockActors is true at every three integers: an actor is made of a replica and a branch just in their bounds, and split into them. No condition. -/
import Derived.Test.YtgglckagenapgaaCl
import Derived.ChangeOld
namespace Go.Proofs.Ytgglckagenapgaa.clockActors
open Go.ChangeShapes Go.WideShapes Go.ChangeAt Go.RowKit

theorem own : ownKnob Try.prog.godebug = none := by kernel_rfl
theorem laidOut : laidOutB Try.prog = true := by kernel_rfl

theorem no_no (r b a : Int) (h : r < 0 ∨ (0 ≤ r ∧ 65536 ≤ r) ∨ (0 ≤ r ∧ r < 65536 ∧ b < 0) ∨ (0 ≤ r ∧ r < 65536 ∧ 0 ≤ b ∧ 256 ≤ b)) (ha : a < 0 ∨ (0 ≤ a ∧ 16777216 ≤ a)) (w : World) :
    Calls Try.prog 3 #[.int .i64 r, .int .i64 b, .int .i64 a] w fun e w' => e = .returned (.bool true) ∧ Below w.heap.size w w' := by
  have g := Lib.hid (fun w => actor_no r b w h)
  have g2 := Lib.hid (fun w => split_no a w ha)
  rcases h with h | ⟨h, h1⟩ | ⟨h, h1, h2⟩ | ⟨h, h1, h2, h3⟩
  all_goals rcases ha with ha | ⟨ha, ha1⟩
  all_goals
    go_enter Try.func3, Try.ntmps3
    go_wp2_with (first
      | (go_at_call 8; refine (awake_true _).mono ?_; rintro e w' ⟨rfl, hb1⟩)
      | (go_at_call 9; (with_reducible refine (g.out _).mono ?_); rintro e w' ⟨rfl, rfl⟩)
      | (go_at_call 10; (with_reducible refine (split_yes 0 _ (by omega) (by omega)).mono ?_); rintro e w' ⟨rfl, rfl⟩)
      | (go_at_call 10; (with_reducible refine (g2.out _).mono ?_); rintro e w' ⟨rfl, rfl⟩))
    go_returns
    exact ⟨rfl, hb1⟩

theorem no_yes (r b a : Int) (h : r < 0 ∨ (0 ≤ r ∧ 65536 ≤ r) ∨ (0 ≤ r ∧ r < 65536 ∧ b < 0) ∨ (0 ≤ r ∧ r < 65536 ∧ 0 ≤ b ∧ 256 ≤ b)) (ha0 : 0 ≤ a) (ha1 : a < 16777216) (w : World) :
    Calls Try.prog 3 #[.int .i64 r, .int .i64 b, .int .i64 a] w fun e w' => e = .returned (.bool true) ∧ Below w.heap.size w w' := by
  have g := Lib.hid (fun w => actor_no r b w h)
  have g2 := Lib.hid (fun w => split_yes a w ha0 ha1)
  have e1 : wrap64 (a / 256 * 256 + a % 256) = a := by rw [IntWalk.wrap64_in _ ⟨by omega, by omega⟩]; omega
  have e2 : a / 256 * 256 + a % 256 = a := by omega
  rcases h with h | ⟨h, h1⟩ | ⟨h, h1, h2⟩ | ⟨h, h1, h2, h3⟩
  all_goals
    go_enter Try.func3, Try.ntmps3
    go_wp2_with (first
      | (go_at_call 8; refine (awake_true _).mono ?_; rintro e w' ⟨rfl, hb1⟩)
      | (go_at_call 9; (with_reducible refine (g.out _).mono ?_); rintro e w' ⟨rfl, rfl⟩)
      | (go_at_call 10; (with_reducible refine (split_yes 0 _ (by omega) (by omega)).mono ?_); rintro e w' ⟨rfl, rfl⟩)
      | (go_at_call 10; (with_reducible refine (g2.out _).mono ?_); rintro e w' ⟨rfl, rfl⟩)
      | (go_at_call 9; (with_reducible refine (actor_yes (a / 256) (a % 256) _ (by omega) (by omega) (by omega) (by omega)).mono ?_); rintro e w' ⟨rfl, rfl⟩))
    go_returns
    exact ⟨rfl, hb1⟩

theorem split_made (r b : Int) (h0 : 0 ≤ r) (h1 : r < 65536) (h2 : 0 ≤ b) (h3 : b < 256) (w : World) :
    Calls Try.prog 10 #[.int .i64 (r * 256 + b)] w fun e w' => e = .returned (.tuple #[.int .i64 r, .int .i64 b]) ∧ w = w' := by
  have h := split_yes (r * 256 + b) w (by omega) (by omega)
  rwa [show (r * 256 + b) / 256 = r from by omega, show (r * 256 + b) % 256 = b from by omega] at h

theorem yes_no (r b a : Int) (h0 : 0 ≤ r) (h1 : r < 65536) (h2 : 0 ≤ b) (h3 : b < 256) (ha : a < 0 ∨ (0 ≤ a ∧ 16777216 ≤ a)) (w : World) :
    Calls Try.prog 3 #[.int .i64 r, .int .i64 b, .int .i64 a] w fun e w' => e = .returned (.bool true) ∧ Below w.heap.size w w' := by
  have g := Lib.hid (fun w => actor_yes r b w h0 h1 h2 h3)
  have g1 := Lib.hid (split_made r b h0 h1 h2 h3)
  have g2 := Lib.hid (fun w => split_no a w ha)
  rcases ha with ha | ⟨ha, ha1⟩
  all_goals
    go_enter Try.func3, Try.ntmps3
    go_wp2_with (first
      | (go_at_call 8; refine (awake_true _).mono ?_; rintro e w' ⟨rfl, hb1⟩)
      | (go_at_call 9; (with_reducible refine (g.out _).mono ?_); rintro e w' ⟨rfl, rfl⟩)
      | (go_at_call 10; (with_reducible refine (g1.out _).mono ?_); rintro e w' ⟨rfl, rfl⟩)
      | (go_at_call 10; (with_reducible refine (g2.out _).mono ?_); rintro e w' ⟨rfl, rfl⟩))
    go_returns
    exact ⟨rfl, hb1⟩

theorem yes_yes (r b a : Int) (h0 : 0 ≤ r) (h1 : r < 65536) (h2 : 0 ≤ b) (h3 : b < 256) (ha0 : 0 ≤ a) (ha1 : a < 16777216) (w : World) :
    Calls Try.prog 3 #[.int .i64 r, .int .i64 b, .int .i64 a] w fun e w' => e = .returned (.bool true) ∧ Below w.heap.size w w' := by
  have g := Lib.hid (fun w => actor_yes r b w h0 h1 h2 h3)
  have g1 := Lib.hid (split_made r b h0 h1 h2 h3)
  have g2 := Lib.hid (fun w => split_yes a w ha0 ha1)
  have e2 : a / 256 * 256 + a % 256 = a := by omega
  all_goals
    go_enter Try.func3, Try.ntmps3
    go_wp2_with (first
      | (go_at_call 8; refine (awake_true _).mono ?_; rintro e w' ⟨rfl, hb1⟩)
      | (go_at_call 9; (with_reducible refine (g.out _).mono ?_); rintro e w' ⟨rfl, rfl⟩)
      | (go_at_call 10; (with_reducible refine (g1.out _).mono ?_); rintro e w' ⟨rfl, rfl⟩)
      | (go_at_call 10; (with_reducible refine (g2.out _).mono ?_); rintro e w' ⟨rfl, rfl⟩)
      | (go_at_call 9; (with_reducible refine (actor_yes (a / 256) (a % 256) _ (by omega) (by omega) (by omega) (by omega)).mono ?_); rintro e w' ⟨rfl, rfl⟩))
    go_returns
    exact ⟨rfl, hb1⟩

theorem walk (r b a : Int) (w : World) :
    Calls Try.prog 3 #[.int .i64 r, .int .i64 b, .int .i64 a] w fun e w' => e = .returned (.bool true) ∧ Below w.heap.size w w' := by
  by_cases h : 0 ≤ r ∧ r < 65536 ∧ 0 ≤ b ∧ b < 256 <;> by_cases ha : 0 ≤ a ∧ a < 16777216
  · exact yes_yes r b a (by omega) (by omega) (by omega) (by omega) (by omega) (by omega) w
  · exact yes_no r b a (by omega) (by omega) (by omega) (by omega) (by omega) w
  · exact no_yes r b a (by omega) (by omega) (by omega) w
  · exact no_no r b a (by omega) (by omega) w

set_option maxRecDepth 100000 in
theorem lifted (os : Os) (started : os.Started) (H : Type) (enc : TypeId × Value → H) :
    ReturnsInHanded {} Try.checked os 3 .any (Rows.clockActorsSpec.pre6 enc Try.prog Try.f3 Rows.clockActorsRow.domain false) (Rows.clockActorsSpec.post enc Try.prog Try.f3 false true false false) := by
  refine returnsInHanded_of_change (C := Try.checked) own started (by kernel_rfl) Try.func3
    (ChangeSpec.witness6 (enc := enc) (C := Try.checked) false ⟨#[], #[.int .i64 0, .int .i64 0, .int .i64 0], []⟩ 8 (by kernel_rfl) (by kernel_rfl) (by kernel_rfl) (by kernel_rfl)) ?_
  intro W base args ds gs before hval0 hW hcnd _
  have hval : ∀ (j : Nat) t v, Try.f3.params[j]? = some t → args[j]? = some v → Value.okWide Try.prog W .any base t v := hval0
  have hW' := hW
  obtain ⟨p, q, hA0, hV, rfl, hfz, hnd⟩ := hW
  have hA : DataW.TrodAll enc Try.prog W 0 (fun _ => true) true Try.f3.params.toList args.toList ds p := hA0
  rw [Try.params3] at hA hval
  obtain ⟨v0, vs0, d0, ds0, p0, q0, hargs, rfl, rfl, h0, r0⟩ := trodAll_cons hA
  obtain ⟨v1, vs1, d1, ds1, p1, q1, rfl, rfl, rfl, h1, r1⟩ := trodAll_cons r0
  obtain ⟨v2, vs2, d2, ds2, p2, q2, rfl, rfl, rfl, h2, r2⟩ := trodAll_cons r1
  obtain ⟨rfl, rfl, rfl⟩ := trodAll_nil r2
  obtain rfl : args = #[v0, v1, v2] := by cases args; simp_all
  obtain ⟨rfl, rfl⟩ := trodVars_none hV
  obtain ⟨a0, rfl, rfl, rfl, w0⟩ := open_int Try.underlying3 (hval 0 3 v0 rfl rfl) h0
  obtain ⟨a1, rfl, rfl, rfl, w1⟩ := open_int Try.underlying3 (hval 1 3 v1 rfl rfl) h1
  obtain ⟨a2, rfl, rfl, rfl, w2⟩ := open_int Try.underlying3 (hval 2 3 v2 rfl rfl) h2
  clear hA0 hval0
  refine (walk a0 a1 a2 W).mono fun e W' ⟨he, bel⟩ => ?_
  subst he
  exact ⟨_, rfl, _, _, _, [], _, [], hW', trodAll_mk1 (shut_bool Try.underlying4 _), (trodAll_cons_mk (shut_int Try.underlying3 w0) (trodAll_cons_mk (shut_int Try.underlying3 w1) (trodAll_cons_mk (shut_int Try.underlying3 w2) trodAll_mk0))), rfl, bel.frame _, fun h => by cases h⟩

theorem proved : Rows.ClockActorsSaid :=
  OpenClaim.holds_of_wide 3 Try.f3 rfl rfl rfl rfl rfl rfl rfl ⟨rfl, rfl, rfl, rfl, rfl⟩ rfl rfl rfl rfl rfl (by kernel_rfl) Try.func3 (by kernel_rfl)
    (of_decide_eq_true (by kernel_rfl)) (by unfold Func.isWrapper; first | (rw [if_pos (by decide +kernel)]; kernel_rfl) | (rw [if_neg (by decide +kernel)]; exact ⟨rfl, rfl⟩))
    (fun os started H enc _ => lifted os started H enc)
#print axioms proved
end Go.Proofs.Ytgglckagenapgaa.clockActors
