/- Contracts of size and head. -/
import Derived.Test.YtmhhppolhciigaaLn
import Derived.Test.YtmhhppolhciigaaPn
import Derived.Test.YtmhhppolhciigaaMm
import Derived.ProofKit
import Derived.OpenShut
import Derived.Handy
import Derived.Outline
import Derived.Below
import Derived.Deep.Light
import Derived.Lib.Hide
import Derived.Deep.Draws
namespace Go.Proofs.Ytmhhppolhciigaa
open Go.RowKit
set_option linter.unusedVariables false

theorem size_any (n : Nat) (w : World) (h : n < 18446744073709551616) :
    Calls Try.prog 28 #[.int .u64 (n : Int)] w fun e w' => e = .returned (.int .i64 (sizeN n : Nat)) ∧ w' = w := by
  have hL := len64_any (n : Int) w (by omega) (by omega)
  rw [Int.toNat_natCast] at hL
  have hs := size_eq n h
  have hb := Lib.bitLen_le n 64 (Nat.le_refl _) h
  obtain ⟨b, hbb⟩ : ∃ b, b = Lib.bitLen n := ⟨_, rfl⟩
  rw [← hbb] at hL hs hb
  have HL := Lib.hid hL
  clear hL hbb
  go_enter Try.func28, Try.ntmps28
  go_wp2_with (go_at_call 31; refine HL.out.mono ?_; rintro e w' ⟨rfl, rfl⟩)
  go_returns
  refine ⟨?_, rfl⟩
  have e : min (max (((b : Int) + 6) / 7) 1) 9 = ((min (max ((b + 6) / 7) 1) 9 : Nat) : Int) := by omega
  rw [hs] at e
  exact congrArg (fun x => Ending.returned (.int .i64 x)) e

theorem head_any (k : Nat) (w : World) (h1 : 1 ≤ k) (h9 : k ≤ 9) :
    Calls Try.prog 27 #[.int .i64 (k : Int)] w fun e w' => e = .returned (.int .u8 (headN k : Nat)) ∧ w' = w := by
  have hk : k = 1 ∨ k = 2 ∨ k = 3 ∨ k = 4 ∨ k = 5 ∨ k = 6 ∨ k = 7 ∨ k = 8 ∨ k = 9 := by omega
  rcases hk with rfl | rfl | rfl | rfl | rfl | rfl | rfl | rfl | rfl
  all_goals
    go_enter Try.func27, Try.ntmps27
    go_wp2_with fail
    go_returns
    exact ⟨rfl, rfl⟩
end Go.Proofs.Ytmhhppolhciigaa
