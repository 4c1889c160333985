/- The walk of FrameMakes. -/
import Derived.Test.YtihioccpnadieaaLa
namespace Go.Proofs.Ytihioccpnadieaa
open Go.RowKit
set_option linter.unusedVariables false

theorem frameMakes.big (a0 : Option Addr) (n cap0 : Nat) (w : World) (h : 5000 < n) :
    Calls Try.prog 4 #[.slice a0 n cap0] w fun e w' => e = .returned (.bool true) ∧ Below w.heap.size w w' := by
  go_enter Try.func4, Try.ntmps4
  go_wp2_with (go_at_call 10; refine (awake_true _).mono ?_; rintro e w1 ⟨rfl, hb1⟩)
  go_returns
  exact ⟨rfl, hb1⟩

theorem bv_set (l : List UInt8) (k : Nat) (c : UInt8) : (bv l).set k (.int .u8 (c.toNat : Int)) = bv (l.set k c) := by simp [bv, List.map_set]

set_option maxRecDepth 100000 in
set_option maxHeartbeats 1000000 in
theorem frameMakes.small (a0 : Option Addr) (l : List UInt8) (cap0 : Nat) (w : World) (hrd : Rd w w.heap.size a0 (bv l)) (h5 : l.length ≤ 5000) :
    Calls Try.prog 4 #[.slice a0 l.length cap0] w fun e w' => e = .returned (.bool true) ∧ Below w.heap.size w w' := by
  have HR := Lib.hid hrd
  clear hrd
  go_enter Try.func4, Try.ntmps4
  go_wp2_with (go_at_call 10; refine (awake_true _).mono ?_; rintro e w1 ⟨rfl, hb1⟩; (have hcs := conv_any (W := w1) l.length cap0 rfl (HR.out.size hb1)); (have HB1 := Lib.hid hb1))
  refine (frame_any a0 w.heap.size l cap0 w1 (HR.out.size HB1.out) (by omega)).mono ?_
  rintro e w2 ⟨g, c2, rfl, own2, bel2⟩
  have HB2 := Lib.hid (HB1.out.trans (bel2.mono HB1.out.size))
  have own2' := own_base own2 (base' := w.heap.size) HB1.out.size
  have OWN2 := Lib.hid own2'
  clear bel2 own2 own2' hcs
  go_wp2_with fail
  refine (rframe_any a0 w.heap.size l cap0 w2 (HR.out.size HB2.out) (by omega)).mono ?_
  rintro e w3 ⟨g3, c3, rfl, own3, bel3⟩
  have HB3 := Lib.hid (HB2.out.trans (bel3.mono HB2.out.size))
  have OWN3 := Lib.hid (own_keep OWN2.out bel3)
  have hcs1 := conv_any (W := w3) (l.length + 8) c2 (frameOf_length l) (Rd.of_own (own_keep OWN2.out bel3))
  have hcs2 := conv_any (W := w3) (l.length + 8) c3 (frameOf_length l) (Rd.of_own own3)
  clear bel3 own3 hb1
  go_wp2_with fail
  have hlen : (frameOf l).length = l.length + 8 := frameOf_length l
  go_loopw [10] (fun v wr => ∃ (k : Nat) (l' : List UInt8), v = .int .i64 k ∧ k ≤ l.length + 8 ∧ l'.length = l.length + 8 ∧ Hid (wr.ownsRow w.heap.size 5 1 (.slice (some ⟨g, 0, none⟩) (l.length + 8) c2) (l.length + 8) (bv l')) ∧ Hid (Below w.heap.size w wr)) (fun v _ => l.length + 8 - (intOf v).toNat)
  case atStart => exact ⟨0, frameOf l, rfl, by omega, hlen, OWN3, HB3⟩
  obtain ⟨k, l', rfl, hk, hl', OWN4, HB4⟩ := hrel
  by_cases hend : k < l.length + 8
  · have hc1 := OWN4.out.cellAt k (by omega)
    rw [bv_get l' k (by omega)] at hc1
    have hf1 := OWN4.out.frozenAt k
    have hx : bits .xor .u8 ((l'.getD k 0).toNat : Int) 255 = (((l'.getD k 0) ^^^ 255).toNat : Int) := by
      have := u8_xor_nat (l'.getD k 0).toNat 255 (UInt8.toNat_lt _) (by decide)
      rw [UInt8.toNat_xor]
      exact this
    have hgb : w.heap.size ≤ g := by
      obtain ⟨g', c', hv, hg', _⟩ := OWN4.out.form (by omega)
      cases hv
      exact hg'
    have hset : (bv l').set k (.int .u8 (bits .xor .u8 ((l'.getD k 0).toNat : Int) 255)) = bv (l'.set k ((l'.getD k 0) ^^^ 255)) := by rw [hx, bv_set]
    have hst := (OWN4.out.stored k (.int .u8 (bits .xor .u8 ((l'.getD k 0).toNat : Int) 255))).1
    rw [hset] at hst
    have hbt := HB4.out.setCell (p := ⟨g, k, none⟩) hgb (.int .u8 (bits .xor .u8 ((l'.getD k 0).toNat : Int) 255))
    obtain ⟨x, hX⟩ : ∃ x : Int, x = ((l'.getD k 0).toNat : Int) := ⟨_, rfl⟩
    rw [← hX] at hc1 hst hbt
    have HST := Lib.hid hst
    have HBT := Lib.hid hbt
    clear hst hbt hset hx hX
    go_wp2_with fail
    go_roundw
    case rel => exact ⟨k + 1, _, by go_num, by omega, by simpa using hl', HST, HBT⟩
    case measure => simp [intOf]; omega
  · have hke : k = l.length + 8 := by omega
    subst hke
    have hcs3 := conv_any (W := wr) l.length cap0 rfl (HR.out.below HB4.out)
    go_wp2_with fail
    go_returns
    exact ⟨by simp, HB4.out⟩

theorem frameMakes.walk (a0 : Option Addr) (len0 cap0 : Nat) (z0 : List Int) (w : World) (w0 : IsRow .u8 w a0 len0 cap0 z0) :
    Calls Try.prog 4 #[.slice a0 len0 cap0] w fun e w' => e = .returned (.bool true) ∧ Below w.heap.size w w' := by
  obtain ⟨l, rfl, hrd, hl, hm⟩ := w0.bytes
  by_cases h5 : 5000 < l.length
  · exact frameMakes.big a0 _ cap0 w h5
  · exact frameMakes.small a0 l cap0 w hrd (by omega)
end Go.Proofs.Ytihioccpnadieaa
