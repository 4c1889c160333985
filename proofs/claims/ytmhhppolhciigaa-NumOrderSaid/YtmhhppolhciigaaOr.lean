/- The walk of NumOrder. -/
import Derived.Test.YtmhhppolhciigaaSs
import Derived.Test.YtmhhppolhciigaaPo
namespace Go.Proofs.Ytmhhppolhciigaa
open Go.RowKit
set_option linter.unusedVariables false

set_option maxRecDepth 100000 in
set_option maxHeartbeats 1000000 in
theorem numOrder.main (a b : Nat) (w : World) (ha : a < 18446744073709551616) (hb : b < 18446744073709551616) :
    Calls Try.prog 4 #[.int .u64 a, .int .u64 b] w fun e w' => e = .returned (.bool true) ∧ Below w.heap.size w w' := by
  have hu1 := fun w' => uint0 a w' ha
  have hu2 := fun w' => uint0 b w' hb
  have U1 := Lib.hid hu1
  have U2 := Lib.hid hu2
  have hsa := sizeN_le a
  have hsb := sizeN_le b
  clear hu1 hu2
  by_cases hs : sizeN a = sizeN b
  · have hle := enc_less a b ha hb hs
    have hel1 := enc_length a
    have hel2 := enc_length b
    rw [hs] at U1 hel1 hsa
    have HLE := Lib.hid hle
    obtain ⟨ea, hea⟩ : ∃ x, x = enc a := ⟨_, rfl⟩
    obtain ⟨eb, heb⟩ : ∃ x, x = enc b := ⟨_, rfl⟩
    rw [← hea] at U1 hel1 hle
    rw [← heb] at U2 hel2 hle
    obtain ⟨s, hs2⟩ : ∃ s, s = sizeN b := ⟨_, rfl⟩
    rw [← hs2] at U1 U2 hel1 hel2 hsa
    clear HLE hea heb hs hs2 hsb
    go_enter Try.func4, Try.ntmps4
    go_wp2_with (go_at_call 9; refine (awake_true _).mono ?_; rintro e w1 ⟨rfl, hb1⟩; (have HB1 := Lib.hid hb1); clear hb1)
    refine (U1.out w1).mono ?_
    rintro e w2 ⟨g2, c2, rfl, own2, bel2⟩
    have HB2 := Lib.hid (HB1.out.trans (bel2.mono HB1.out.size))
    have OWN2 := Lib.hid own2
    clear bel2 own2
    go_wp2_with fail
    refine (U2.out w2).mono ?_
    rintro e w3 ⟨g3, c3, rfl, own3, bel3⟩
    have HB3 := Lib.hid (HB2.out.trans (bel3.mono HB2.out.size))
    have cv1 := fun j => conv_any (W := w3.drewN j) s c2 hel1 ((Rd.of_own (own_keep OWN2.out bel3)).drewN j)
    have cv2 := fun j => conv_any (W := w3.drewN j) s c3 hel2 ((Rd.of_own own3).drewN j)
    have cv3 := cv1 0
    have cv4 := cv2 0
    rw [World.drewN_zero] at cv3 cv4
    clear bel3 own3 hel1 hel2
    go_wp2_with fail
    go_returns
    exact ⟨rfl, HB3.out⟩
  · have hne : ((sizeN a : Int) != (sizeN b : Int)) = true := by simp; omega
    have hlt : decide (sizeN a < sizeN b) = decide (a < b) := by
      rcases Nat.lt_or_ge a b with h | h
      · have := sizeN_mono a b (by omega)
        rw [decide_eq_true h, decide_eq_true (by omega)]
      · have := sizeN_mono b a h
        rw [decide_eq_false (by omega), decide_eq_false (by omega)]
    obtain ⟨s, hs2⟩ : ∃ s, s = sizeN b := ⟨_, rfl⟩
    obtain ⟨q, hq⟩ : ∃ s, s = sizeN a := ⟨_, rfl⟩
    rw [← hs2] at U2 hsb hne hlt hs
    rw [← hq] at U1 hsa hne hlt hs
    have HLT := Lib.hid hlt
    clear hs2 hq hlt hs
    go_enter Try.func4, Try.ntmps4
    go_wp2_with (go_at_call 9; refine (awake_true _).mono ?_; rintro e w1 ⟨rfl, hb1⟩; (have HB1 := Lib.hid hb1); clear hb1)
    refine (U1.out w1).mono ?_
    rintro e w2 ⟨g2, c2, rfl, own2, bel2⟩
    have HB2 := Lib.hid (HB1.out.trans (bel2.mono HB1.out.size))
    clear bel2 own2
    go_wp2_with fail
    refine (U2.out w2).mono ?_
    rintro e w3 ⟨g3, c3, rfl, own3, bel3⟩
    have HB3 := Lib.hid (HB2.out.trans (bel3.mono HB2.out.size))
    clear bel3 own3
    go_wp2_with fail
    go_returns
    refine ⟨congrArg (fun x => Ending.returned (.bool x)) (?_ : (decide (q < s) == decide (a < b)) = true), HB3.out⟩
    rw [HLT.out]
    simp

theorem numOrder.walk (a0 : Int) (a1 : Int) (w0 : (Lit.int .u64 a0).wf = true) (w1 : (Lit.int .u64 a1).wf = true) (w : World) :
    Calls Try.prog 4 #[.int .u64 a0, .int .u64 a1] w fun e w' => e = .returned (.bool true) ∧ Below w.heap.size w w' := by
  have h1 : 0 ≤ a0 ∧ a0 ≤ 18446744073709551615 := by rw [Go.Lit.wf_int_iff] at w0; simpa [IntKind.min, IntKind.max, IntKind.bits, IntKind.signed] using w0
  have h2 : 0 ≤ a1 ∧ a1 ≤ 18446744073709551615 := by rw [Go.Lit.wf_int_iff] at w1; simpa [IntKind.min, IntKind.max, IntKind.bits, IntKind.signed] using w1
  have := numOrder.main a0.toNat a1.toNat w (by omega) (by omega)
  rwa [Int.toNat_of_nonneg h1.1, Int.toNat_of_nonneg h2.1] at this
end Go.Proofs.Ytmhhppolhciigaa
