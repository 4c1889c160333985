/- The walk of FrameTurned. -/
import Derived.Test.YtihioccpnadieaaRd
import Derived.Test.YtihioccpnadieaaMa
import Derived.Test.YtihioccpnadieaaPt
namespace Go.Proofs.Ytihioccpnadieaa
open Go.RowKit
set_option linter.unusedVariables false

theorem frameTurned.big (A : Option Addr) (n cap : Nat) (at_ cut : Int) (turn : Int) (w : World) (h : 5000 < n) :
    Calls Try.prog 7 #[.slice A n cap, .int .i64 at_, .int .u8 turn, .int .i64 cut] w fun e w' => e = .returned (.bool true) ∧ Below w.heap.size w w' := by
  go_enter Try.func7, Try.ntmps7
  go_wp2_with (go_at_call 10; refine (awake_true _).mono ?_; rintro e w1 ⟨rfl, hb1⟩)
  go_returns
  exact ⟨rfl, hb1⟩

set_option maxRecDepth 100000 in
set_option maxHeartbeats 2000000 in
theorem frameTurned.small (A : Option Addr) (l : List UInt8) (cap : Nat) (at_ cut : Int) (p c : Nat) (t : UInt8) (w : World) (hlen : l.length ≤ cap) (hcap : cap ≤ 9223372036854775807) (hrd : Rd w w.heap.size A (bv l)) (h5 : l.length ≤ 5000)
    (hp : (at_ < 0 ∧ wrap64 (-wrap64 (at_ + 1)) = (p : Int)) ∨ at_ = (p : Int)) (hc : (cut < 0 ∧ wrap64 (-wrap64 (cut + 1)) = (c : Int)) ∨ cut = (c : Int)) :
    Calls Try.prog 7 #[.slice A l.length cap, .int .i64 at_, .int .u8 (t.toNat : Int), .int .i64 cut] w fun e w' => e = .returned (.bool true) ∧ Below w.heap.size w w' := by
  have HR := Lib.hid hrd
  clear hrd
  obtain ⟨r, hr, fr⟩ : ∃ r, r < l.length + 8 ∧ (c : Int).tmod ((l.length : Int) + 8) = (r : Int) := ⟨c % (l.length + 8), Nat.mod_lt _ (by omega), by rw [Int.tmod_eq_emod_of_nonneg (by omega)]; push_cast; rfl⟩
  obtain ⟨s, hs, fs⟩ : ∃ s, s < l.length + 4 ∧ (p : Int).tmod ((l.length : Int) + 4) = (s : Int) := ⟨p % (l.length + 4), Nat.mod_lt _ (by omega), by rw [Int.tmod_eq_emod_of_nonneg (by omega)]; push_cast; rfl⟩
  have fs2 : (p : Int).tmod ((l.length : Int) + 8 - 4) = (s : Int) := by rw [← fs]; congr 1; omega
  have hlt : ((frameOf l).take r).length = r := by rw [List.length_take, frameOf_length]; omega
  have hcut := firstOf_cut l r hr (by omega)
  have HLT := Lib.hid hlt
  have HCUT := Lib.hid hcut
  clear hlt hcut
  go_enter Try.func7, Try.ntmps7
  go_wp2_with (go_at_call 10; refine (awake_true _).mono ?_; rintro e w1 ⟨rfl, hb1⟩; (have HB1 := Lib.hid hb1); clear hb1)
  refine (frame_any A w.heap.size l cap w1 (HR.out.size HB1.out) (by omega)).mono ?_
  rintro e w2 ⟨g, c2, rfl, own2, bel2⟩
  have HB2 := Lib.hid (HB1.out.trans (bel2.mono HB1.out.size))
  obtain ⟨_, _, hv2, hc2, hc2x, rd2⟩ := own_slice own2
  cases hv2
  have RD2 := Lib.hid rd2
  have OWN2 := Lib.hid (own_base own2 (base' := w.heap.size) HB1.out.size)
  have hnb : ∀ W, Rd W w2.heap.size (some ⟨g, 0, none⟩) (bv (frameOf l)) → Calls Try.prog 15 #[.slice (some ⟨g, 0, none⟩) r c2] W fun e w' => e = .returned (.tuple #[.slice none 0 0, .slice none 0 0, .int .i64 10]) ∧ ∃ n, w' = W.drewN n := by
    intro W h
    have := next_bad (some ⟨g, 0, none⟩) w2.heap.size ((frameOf l).take r) c2 W (by rw [bv_take]; exact h.take r) (by rw [HLT.out]; omega) hc2x (by rw [HCUT.out]; decide)
    rw [HLT.out, HCUT.out] at this
    exact this
  have HNB := Lib.hid hnb
  clear bel2 own2 hnb rd2
  have k1 : (r : Int) ≤ (c2 : Int) := by omega
  have hL := frameOf_length l
  obtain ⟨x, hx⟩ : ∃ x, x = (frameOf l).getD (4 + s) 0 := ⟨_, rfl⟩
  have hxor : bits .xor .u8 (x.toNat : Int) (t.toNat : Int) = ((x ^^^ t).toNat : Int) := by
    rw [u8_xor_nat _ _ (UInt8.toNat_lt _) (UInt8.toNat_lt _), UInt8.toNat_xor]
  have hfo : if t = 0 then firstOf ((frameOf l).set (4 + s) (x ^^^ t)) = (l.length + 8, 0) ∧ (frameOf l).set (4 + s) (x ^^^ t) = frameOf l else firstOf ((frameOf l).set (4 + s) (x ^^^ t)) = (0, 12) := by
    by_cases ht : t = 0
    · rw [if_pos ht, ht]
      have e : (frameOf l).set (4 + s) (x ^^^ 0) = frameOf l := by
        have : x ^^^ 0 = x := by simp
        rw [this, hx, List.getD_eq_getElem?_getD, List.getElem?_eq_getElem (by omega), Option.getD_some, List.set_getElem_self]
      rw [e]
      refine ⟨?_, rfl⟩
      have := firstOf_frame l [] (by omega)
      simpa using this
    · rw [if_neg ht]
      refine firstOf_turned l _ _ (by omega) (by omega) (by omega) fun e => ht ?_
      rw [← hx] at e
      have := congrArg (x ^^^ ·) e
      simpa [← UInt8.xor_assoc] using this
  have HX := Lib.hid hx
  have HFO := Lib.hid hfo
  have HXOR := Lib.hid hxor
  obtain ⟨y, hy⟩ : ∃ y : Int, y = (x.toNat : Int) := ⟨_, rfl⟩
  have HY := Lib.hid hy
  clear hx hfo hxor hy
  rcases hp with ⟨hp1, hp2⟩ | rfl <;> rcases hc with ⟨hcc1, hcc2⟩ | rfl
  all_goals
    go_wp2_with fail
    refine (HNB.out _ RD2.out).mono ?_
    rintro e w3 ⟨rfl, n3, hw3⟩
    have own3 : w3.ownsRow w.heap.size 5 1 (.slice (some ⟨g, 0, none⟩) (l.length + 8) c2) (l.length + 8) (bv (frameOf l)) := by rw [hw3]; exact OWN2.out
    have bel3 : Below w.heap.size w w3 := by rw [hw3]; exact HB2.out.drewN _
    have hgb : w.heap.size ≤ g := by
      obtain ⟨g', c', hv, hg', _⟩ := own3.form (by omega)
      cases hv
      exact hg'
    have hcl := own3.cellAt (4 + s) (by omega)
    rw [bv_get _ _ (by omega), ← HX.out, ← HY.out] at hcl
    have hfr := own3.frozenAt (4 + s)
    have hst := (own3.stored (4 + s) (.int .u8 (bits .xor .u8 y (t.toNat : Int)))).1
    have hbt := bel3.setCell (p := ⟨g, 4 + s, none⟩) hgb (.int .u8 (bits .xor .u8 y (t.toNat : Int)))
    have hset : (bv (frameOf l)).set (4 + s) (.int .u8 (bits .xor .u8 y (t.toNat : Int))) = bv ((frameOf l).set (4 + s) (x ^^^ t)) := by rw [HY.out, HXOR.out, bv_set]
    rw [hset] at hst
    have HST := Lib.hid hst
    have HBT := Lib.hid hbt
    clear hw3 own3 bel3 hst hbt hset
    have q1 : (4 : Int) + (s : Int) < (l.length : Int) + 8 := by omega
    go_wp2_with fail
    generalize hW : w3.setCell _ _ = W at *
    clear hW
    have rdW := Rd.of_own HST.out
    have hfo := HFO.out
    by_cases ht : t = 0
    · rw [if_pos ht] at hfo
      rw [hfo.2] at rdW hfo
      have hok : (firstOf (frameOf l)).2 = 0 := by rw [hfo.1]
      have hnx := next_ok (some ⟨g, 0, none⟩) W.heap.size (frameOf l) c2 W rdW (by omega) (by omega) hc2x hok
      rw [hL] at hnx
      refine hnx.mono ?_
      rintro e w5 ⟨A1, c1, A2, c4, rfl, hd1, hd2, own1, own2, bel5⟩
      have hn4 := num4_frame l (by omega)
      rw [hn4] at hd1 own1 hd2 own2 ⊢
      have hbd : ((frameOf l).drop 4).take l.length = l := by
        have := body_of_frame l []
        simpa using this
      rw [hbd] at own1
      have bel6 : Below w.heap.size w w5 := HBT.out.trans (bel5.mono HBT.out.size)
      have cv1 := fun j => conv_any (W := w5.drewN j) l.length c1 rfl ((Rd.of_own own1).drewN j)
      have cv2 := fun j => conv_any (W := w5.drewN j) l.length cap rfl ((HR.out.below bel6).drewN j)
      have cv3 := cv1 0
      have cv4 := cv2 0
      simp only [World.drewN_zero] at cv3 cv4
      have BEL6 := Lib.hid bel6
      subst ht
      clear own1 own2 bel5 bel6 hbd hn4 hnx hok rdW hfo HST HBT
      go_wp2_with fail
      go_returns
      exact ⟨rfl, BEL6.out⟩
    · rw [if_neg ht] at hfo
      have hll : ((frameOf l).set (4 + s) (x ^^^ t)).length = l.length + 8 := by rw [List.length_set, hL]
      have hnx := next_bad (some ⟨g, 0, none⟩) W.heap.size ((frameOf l).set (4 + s) (x ^^^ t)) c2 W rdW (by omega) hc2x (by rw [hfo]; decide)
      rw [hll, hfo] at hnx
      refine hnx.mono ?_
      rintro e w5 ⟨rfl, n5, hw5⟩
      have BEL6 := Lib.hid (hw5 ▸ HBT.out.drewN n5 : Below w.heap.size w w5)
      have ht2 : ((t.toNat : Int) == 0) = false := by
        have : t.toNat ≠ 0 := fun e => ht (UInt8.toNat_inj.1 e)
        simp; omega
      clear hnx hll rdW hfo HST HBT hw5
      go_wp2_with fail
      go_returns
      exact ⟨rfl, BEL6.out⟩

theorem frameTurned.walk (a0 : Option Addr) (len0 cap0 : Nat) (z0 : List Int) (a1 : Int) (a2 : Int) (a3 : Int) (w : World) (w0 : IsRow .u8 w a0 len0 cap0 z0) (w1 : (Lit.int .i64 a1).wf = true) (w2 : (Lit.int .u8 a2).wf = true) (w3 : (Lit.int .i64 a3).wf = true) :
    Calls Try.prog 7 #[.slice a0 len0 cap0, .int .i64 a1, .int .u8 a2, .int .i64 a3] w fun e w' => e = .returned (.bool true) ∧ Below w.heap.size w w' := by
  obtain ⟨l, rfl, hrd, hl, hm⟩ := w0.bytes
  have h1 : -9223372036854775808 ≤ a1 ∧ a1 ≤ 9223372036854775807 := by rw [Go.Lit.wf_int_iff] at w1; simpa [IntKind.min, IntKind.max, IntKind.bits, IntKind.signed] using w1
  have h2 : 0 ≤ a2 ∧ a2 ≤ 255 := by rw [Go.Lit.wf_int_iff] at w2; simpa [IntKind.min, IntKind.max, IntKind.bits, IntKind.signed] using w2
  have h3 : -9223372036854775808 ≤ a3 ∧ a3 ≤ 9223372036854775807 := by rw [Go.Lit.wf_int_iff] at w3; simpa [IntKind.min, IntKind.max, IntKind.bits, IntKind.signed] using w3
  by_cases h5 : 5000 < l.length
  · exact frameTurned.big a0 _ cap0 a1 a3 a2 w h5
  · have nat : ∀ a : Int, -9223372036854775808 ≤ a ∧ a ≤ 9223372036854775807 → ∃ p : Nat, (a < 0 ∧ wrap64 (-wrap64 (a + 1)) = (p : Int)) ∨ a = (p : Int) := by
      intro a ha
      by_cases h0 : a < 0
      · refine ⟨(-(a + 1)).toNat, .inl ⟨h0, ?_⟩⟩
        rw [IntWalk.wrap64_in (a + 1) ⟨by omega, by omega⟩, IntWalk.wrap64_in _ ⟨by omega, by omega⟩]
        omega
      · exact ⟨a.toNat, .inr (by omega)⟩
    obtain ⟨p, hp⟩ := nat a1 h1
    obtain ⟨c, hc⟩ := nat a3 h3
    have ht : a2 = (((UInt8.ofNat a2.toNat).toNat : Nat) : Int) := by rw [UInt8.toNat_ofNat']; omega
    rw [ht]
    exact frameTurned.small a0 l cap0 a1 a3 p c _ w hl hm hrd (by omega) hp hc
end Go.Proofs.Ytihioccpnadieaa
