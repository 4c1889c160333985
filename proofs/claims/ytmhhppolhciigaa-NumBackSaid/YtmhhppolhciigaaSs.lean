/- The walk of NumSizes. -/
import Derived.Test.YtmhhppolhciigaaAw
import Derived.DataShut
namespace Go.Proofs.Ytmhhppolhciigaa
open Go.RowKit
set_option linter.unusedVariables false

theorem sizeN_pow (k y : Nat) (hk : k < 64) (h1 : 2 ^ k ≤ y) (h2 : y < 2 ^ (k + 1)) : sizeN y = min (k / 7 + 1) 9 := by
  have h64 : (2 : Nat) ^ (k + 1) ≤ 2 ^ 64 := Nat.pow_le_pow_right (by decide) (by omega)
  have hy : y < 18446744073709551616 := Nat.lt_of_lt_of_le h2 h64
  have g1 := bitLen_ge y k hy h1
  have g2 := Lib.bitLen_le y (k + 1) (by omega) h2
  rw [← size_eq y hy]
  omega

theorem numSizes.big (k n : Int) (w : World) (h : k < 0 ∨ 63 < k) :
    Calls Try.prog 5 #[.int .i64 k, .int .u64 n] w fun e w' => e = .returned (.bool true) ∧ Below w.heap.size w w' := by
  by_cases h0 : k < 0
  · go_enter Try.func5, Try.ntmps5
    go_wp2_with (go_at_call 9; refine (awake_true _).mono ?_; rintro e w1 ⟨rfl, hb1⟩)
    go_returns
    exact ⟨rfl, hb1⟩
  · have h1 : 63 < k := by omega
    go_enter Try.func5, Try.ntmps5
    go_wp2_with (go_at_call 9; refine (awake_true _).mono ?_; rintro e w1 ⟨rfl, hb1⟩)
    go_returns
    exact ⟨rfl, hb1⟩

theorem uint0 (n : Nat) (w : World) (hn : n < 18446744073709551616) : Calls Try.prog 14 #[.slice none 0 0, .int .u64 (n : Int)] w fun e w' =>
    ∃ g c, e = .returned (.slice (some ⟨g, 0, none⟩) (sizeN n) c) ∧ w'.ownsRow w.heap.size 5 1 (.slice (some ⟨g, 0, none⟩) (sizeN n) c) (sizeN n) (bv (enc n)) ∧ Below w.heap.size w w' := by
  have h := uint_any none 0 [] 0 n w .nil hn (by decide)
  rw [List.nil_append] at h
  unfold Wrote at h
  rw [enc_length] at h
  exact h

set_option maxRecDepth 100000 in
set_option maxHeartbeats 1000000 in
theorem numSizes.small (k n : Nat) (w : World) (hk : k ≤ 63) (hn : n < 18446744073709551616) :
    Calls Try.prog 5 #[.int .i64 k, .int .u64 n] w fun e w' => e = .returned (.bool true) ∧ Below w.heap.size w w' := by
  obtain ⟨X, hX⟩ : ∃ X : Nat, X = 2 ^ k := ⟨_, rfl⟩
  have hX1 : 1 ≤ X := by rw [hX]; exact Nat.two_pow_pos k
  have hX2 : X ≤ 9223372036854775808 := by rw [hX]; exact Nat.pow_le_pow_right (n := 2) (i := k) (j := 63) (by decide) hk
  have e1 : IntKind.u64.wrap ((2 : Int) ^ k) = (X : Int) := by
    rw [show (2 : Int) ^ k = (X : Int) from by rw [hX, Int.natCast_pow]; rfl]
    exact IntWalk.u64_in _ ⟨by omega, by omega⟩
  obtain ⟨X1, hX1e⟩ : ∃ X1 : Nat, X1 = X - 1 := ⟨_, rfl⟩
  have e2 : IntKind.u64.wrap ((X : Int) - 1) = (X1 : Int) := by rw [IntWalk.u64_in _ ⟨by omega, by omega⟩]; omega
  obtain ⟨M, hM⟩ : ∃ M : Nat, M = n &&& X1 := ⟨_, rfl⟩
  have hMX : M < X := by
    have : M ≤ X1 := by rw [hM]; exact Nat.and_le_right
    omega
  have e3 : bits .and .u64 (n : Int) (X1 : Int) = (M : Int) := by rw [u64_and_nat _ _ hn (by omega), hM]
  obtain ⟨Y, hY⟩ : ∃ Y : Nat, Y = X ||| M := ⟨_, rfl⟩
  have e4 : bits .or .u64 (X : Int) (M : Int) = (Y : Int) := by rw [u64_or_nat _ _ (by omega) (by omega), hY]
  have hYX : Y = X + M := by
    have h := Nat.two_pow_add_eq_or_of_lt (i := k) (b := M) (by rw [← hX]; exact hMX) 1
    rw [Nat.mul_one, ← hX] at h
    rw [hY, ← h]
  have hpow : 2 ^ (k + 1) = X + X := by rw [Nat.pow_succ, ← hX]; omega
  have s1 : sizeN X = min (k / 7 + 1) 9 := sizeN_pow k X (by omega) (by omega) (by omega)
  have s2 : sizeN Y = min (k / 7 + 1) 9 := sizeN_pow k Y (by omega) (by omega) (by omega)
  obtain ⟨W, hW⟩ : ∃ W, W = min (k / 7 + 1) 9 := ⟨_, rfl⟩
  have e0 : min ((k : Int) / 7 + 1) 9 = (W : Int) := by omega
  rw [← hW] at s1 s2
  have hu1 := fun w' => uint0 X w' (by omega)
  have hu2 := fun w' => uint0 Y w' (by omega)
  have hu3 := fun w' => uint0 X1 w' (by omega)
  rw [s1] at hu1
  rw [s2] at hu2
  have U1 := Lib.hid hu1
  have U2 := Lib.hid hu2
  have e5 : 0 < k → k % 7 = 0 → k ≤ 56 → sizeN X1 = W - 1 := by
    intro h0 h7 h56
    obtain ⟨j, rfl⟩ : ∃ j, k = j + 1 := ⟨k - 1, by omega⟩
    have hj : 2 ^ (j + 1) = 2 ^ j + 2 ^ j := by rw [Nat.pow_succ]; omega
    have hjp := Nat.two_pow_pos j
    rw [sizeN_pow j X1 (by omega) (by omega) (by omega), hW]
    omega
  have hWb : 1 ≤ W := by omega
  by_cases hc : 0 < k ∧ k % 7 = 0 ∧ k ≤ 56
  · have e6 := e5 hc.1 hc.2.1 hc.2.2
    rw [e6] at hu3
    have U3 := Lib.hid hu3
    obtain ⟨hc1, hc2, hc3⟩ := hc
    obtain ⟨V, hV⟩ : ∃ V, V = W - 1 := ⟨_, rfl⟩
    rw [← hV] at U3
    have hVW : (W : Int) - 1 = (V : Int) := by omega
    have hVW2 : (V : Int) = (W : Int) - 1 := by omega
    have hVW3 : ((V : Int) == (W : Int) - 1) = true := by simp; omega
    have q1 : (k : Int).tmod 7 = 0 := by rw [Int.tmod_eq_emod_of_nonneg (by omega)]; omega
    have q2 : ((k : Int) == 0) = false := by simp; omega
    clear hu1 hu2 hu3 e5 e6 hX hX1 hX2 hX1e hM hMX hY hYX hpow s1 s2 hW hV hVW2
    go_enter Try.func5, Try.ntmps5
    go_wp2_with (go_at_call 9; refine (awake_true _).mono ?_; rintro e w1 ⟨rfl, hb1⟩; (have HB1 := Lib.hid hb1); clear hb1)
    refine (U1.out w1).mono ?_
    rintro e w2 ⟨g2, c2, rfl, _, bel2⟩
    have HB2 := Lib.hid (HB1.out.trans (bel2.mono HB1.out.size))
    clear bel2
    go_wp2_with fail
    refine (U2.out w2).mono ?_
    rintro e w3 ⟨g3, c3, rfl, _, bel3⟩
    have HB3 := Lib.hid (HB2.out.trans (bel3.mono HB2.out.size))
    clear bel3
    go_wp2_with fail
    refine (U3.out w3).mono ?_
    rintro e w4 ⟨g4, c4, rfl, _, bel4⟩
    have HB4 := Lib.hid (HB3.out.trans (bel4.mono HB3.out.size))
    clear bel4
    go_wp2_with fail
    go_returns
    exact ⟨rfl, HB4.out⟩
  · have q1 : (decide (0 < (k : Int).tmod 7) || (k : Int) == 0 || decide (56 < (k : Int))) = true := by
      rw [Int.tmod_eq_emod_of_nonneg (by omega)]
      simp
      omega
    have Q1 := Lib.hid q1
    clear hu1 hu2 hu3 e5 hX hX1 hX2 hX1e hM hMX hY hYX hpow s1 s2 hW q1
    go_enter Try.func5, Try.ntmps5
    go_wp2_with (go_at_call 9; refine (awake_true _).mono ?_; rintro e w1 ⟨rfl, hb1⟩; (have HB1 := Lib.hid hb1); clear hb1)
    refine (U1.out w1).mono ?_
    rintro e w2 ⟨g2, c2, rfl, _, bel2⟩
    have HB2 := Lib.hid (HB1.out.trans (bel2.mono HB1.out.size))
    clear bel2
    go_wp2_with fail
    refine (U2.out w2).mono ?_
    rintro e w3 ⟨g3, c3, rfl, _, bel3⟩
    have HB3 := Lib.hid (HB2.out.trans (bel3.mono HB2.out.size))
    clear bel3
    by_cases k7 : k % 7 = 0
    · have r1 : (k : Int).tmod 7 = 0 := by rw [Int.tmod_eq_emod_of_nonneg (by omega)]; omega
      by_cases k0 : k = 0
      · subst k0
        go_wp2_with fail
        go_returns
        exact ⟨rfl, HB3.out⟩
      · have r2 : ((k : Int) == 0) = false := by simp; omega
        have r3 : 56 < k := by omega
        go_wp2_with fail
        go_returns
        exact ⟨rfl, HB3.out⟩
    · have r1 : 0 < (k : Int).tmod 7 := by rw [Int.tmod_eq_emod_of_nonneg (by omega)]; omega
      go_wp2_with fail
      go_returns
      exact ⟨rfl, HB3.out⟩

theorem numSizes.walk (a0 : Int) (a1 : Int) (w0 : (Lit.int .i64 a0).wf = true) (w1 : (Lit.int .u64 a1).wf = true) (w : World) :
    Calls Try.prog 5 #[.int .i64 a0, .int .u64 a1] w fun e w' => e = .returned (.bool true) ∧ Below w.heap.size w w' := by
  have h2 : 0 ≤ a1 ∧ a1 ≤ 18446744073709551615 := by rw [Go.Lit.wf_int_iff] at w1; simpa [IntKind.min, IntKind.max, IntKind.bits, IntKind.signed] using w1
  by_cases h : a0 < 0 ∨ 63 < a0
  · exact numSizes.big a0 a1 w h
  · have := numSizes.small a0.toNat a1.toNat w (by omega) (by omega)
    rwa [Int.toNat_of_nonneg (by omega), Int.toNat_of_nonneg h2.1] at this
end Go.Proofs.Ytmhhppolhciigaa
