/- The walk of FrameMany. -/
import Derived.Test.YtihioccpnadieaaRd
namespace Go.Proofs.Ytihioccpnadieaa
open Go.RowKit
set_option linter.unusedVariables false

theorem frameMany.big (a0 : Option Addr) (n cap0 : Nat) (w : World) (h : 3000 < n) :
    Calls Try.prog 9 #[.slice a0 n cap0] w fun e w' => e = .returned (.bool true) ∧ Below w.heap.size w w' := by
  go_enter Try.func9, Try.ntmps9
  go_wp2_with (go_at_call 10; refine (awake_true _).mono ?_; rintro e w1 ⟨rfl, hb1⟩)
  go_returns
  exact ⟨rfl, hb1⟩

set_option maxRecDepth 100000 in
set_option maxHeartbeats 1000000 in
theorem frameMany.small (A : Option Addr) (l : List UInt8) (cap : Nat) (w : World) (hlen : l.length ≤ cap) (hcap : cap ≤ 9223372036854775807) (hrd : Rd w w.heap.size A (bv l)) (h5 : l.length ≤ 3000) :
    Calls Try.prog 9 #[.slice A l.length cap] w fun e w' => e = .returned (.bool true) ∧ Below w.heap.size w w' := by
  have HR := Lib.hid hrd
  clear hrd
  go_enter Try.func9, Try.ntmps9
  go_wp2_with (go_at_call 10; refine (awake_true _).mono ?_; rintro e w1 ⟨rfl, hb1⟩; (have HB1 := Lib.hid hb1); clear hb1)
  refine (split_any A l cap w1 hlen hcap (by omega) ((HR.out.size HB1.out).more HB1.out.size)).mono ?_
  rintro e w2 ⟨v, xs, q, vs, rfl, ch1, no1, own1, rows1, bel1⟩
  obtain ⟨Av, cv, rfl, _, _, rdv⟩ := own_slice own1
  have H1 := Lib.hid ch1
  have H2 := Lib.hid no1
  have H3 := Lib.hid rdv
  have H4 := Lib.hid rows1
  have HB2 := Lib.hid (HB1.out.trans (bel1.mono HB1.out.size))
  clear ch1 no1 own1 rows1 bel1 rdv
  go_wp2_with fail
  have hb := H1.out.bound
  have hv0 := H4.out.1
  rw [List.length_map] at hv0
  go_loopw [6, 7] (fun r i wr => ∃ (k p r0 : Nat) (pre suf : List Nat) (Ar : Option Addr) (cr : Nat), i = .int .i64 k ∧ k ≤ xs.length ∧ Hid (xs = pre ++ suf) ∧ pre.length = k ∧ Hid (Chain l p suf q) ∧ r0 + p = l.length ∧
      r = .slice Ar r0 cr ∧ r0 ≤ cr ∧ cr ≤ 9223372036854775807 ∧ Hid (Rd wr wr.heap.size Ar (bv (l.drop p))) ∧ Hid (Below w2.heap.size w2 wr)) (fun _ i _ => xs.length - (intOf i).toNat)
  case atStart => exact ⟨0, 0, l.length, [], xs, A, cap, rfl, by omega, rfl, rfl, H1.out, by omega, rfl, by omega, by omega, (HR.out.size HB2.out).more HB2.out.size, Below.refl _ _⟩
  obtain ⟨k, p, r0, pre, suf, Ar, cr, rfl, hk, HXS, hpk, HCH, hp, rfl, hc1, hc2, HRR, HBW⟩ := hrel
  have hdl : (l.drop p).length = r0 := by rw [List.length_drop]; omega
  by_cases hend : k < xs.length
  · obtain ⟨x, suf', rfl⟩ : ∃ x suf', suf = x :: suf' := by
      cases suf with
      | nil => have := congrArg List.length HXS.out; simp at this; omega
      | cons x t => exact ⟨x, t, rfl⟩
    obtain ⟨hxp, hok, hch'⟩ := HCH.out
    subst hxp
    have hxk : xs[k]? = some x := by rw [HXS.out, ← hpk]; simp
    have hfit := okAt_fits hok
    have hnx := next_ok Ar wr.heap.size (l.drop x) cr wr HRR.out (by rw [hdl]; exact hc1) (by rw [hdl]; omega) hc2 hok
    have hbl := bodyAt_length hok
    rw [hdl] at hnx
    obtain ⟨A', c', hvk, hc1', hc2', hrk⟩ := H4.out.2 k (by rw [List.length_map]; exact hend)
    have hbk : (xs.map (bodyAt l)).getD k [] = bodyAt l x := by rw [List.getD_eq_getElem?_getD, List.getElem?_map, hxk]; rfl
    rw [hbk] at hvk hc1' hrk
    unfold nextAt at hfit
    obtain ⟨m, hm⟩ : ∃ x', x' = num4 (l.drop x) := ⟨_, rfl⟩
    rw [hbl, ← hm] at hvk hc1'
    rw [← hm] at hbl hfit
    have HM := Lib.hid hm
    have HNX := Lib.hid hnx
    have HOK := Lib.hid hok
    have HCH' := Lib.hid hch'
    obtain ⟨bv0, ov, rfl, _, hcv⟩ := H3.out.at_ (fun e => by rw [e] at hvk; simp at hvk)
    have hcell := hcv k _ hvk
    have HRK := Lib.hid hrk
    have HVK := Lib.hid hvk
    clear hnx hm hok hch' hcv hxk hbk hrk hvk
    go_wp2_with fail
    refine HNX.out.mono ?_
    rintro e w3 ⟨A1, c1, A2, c2, rfl, hd1, hd2, own1, own2, bel3⟩
    rw [hdl, ← HM.out] at hd2 own2 ⊢
    rw [← HM.out] at hd1 own1
    obtain ⟨r1, hr1⟩ : ∃ r1, r1 = r0 - (m + 8) := ⟨_, rfl⟩
    rw [← hr1] at hd2 own2 ⊢
    have e3 : ((r1 : Int) != (r0 : Int) - (m : Int) - 8) = false := by simp; omega
    have hr1' : r1 + (m + 8) = r0 := by omega
    clear hr1
    have hbw3 : Below w2.heap.size w2 w3 := HBW.out.trans (bel3.mono HBW.out.size)
    have hcell3 : w3.cell? ⟨bv0, ov + k, none⟩ = some (.slice A' m c') := (hbw3.cell (by assumption)).trans hcell
    have hbd : (bodyAt l x) = ((l.drop x).drop 4).take m := by unfold bodyAt; rw [← HM.out]
    rw [← hbd] at own1
    have cv1 := fun j => conv_any (W := w3.drewN j) m c1 hbl ((Rd.of_own own1).drewN j)
    have cv2 := fun j => conv_any (W := w3.drewN j) m c' hbl ((HRK.out.below hbw3).drewN j)
    obtain ⟨_, _, hv2, _, hc2x, rd2⟩ := own_slice own2
    cases hv2
    obtain ⟨y, hy⟩ : ∃ y, y = bodyAt l x := ⟨_, rfl⟩
    rw [← hy] at cv1 cv2
    have RD2 := Lib.hid rd2
    have HBW3 := Lib.hid hbw3
    clear hy own1 own2 bel3 hbd rd2 hbw3 hcell
    go_wp2_with fail
    go_quiet (fail)
    go_wp2_with fail
    go_roundw
    case rel =>
      refine ⟨k + 1, nextAt l x, r1, pre ++ [x], suf', A2, c2, by go_num, by omega, ?_, by simp [hpk], HCH'.out, ?_, rfl, hd2, hc2x, ?_, ?_⟩
      · show xs = pre ++ [x] ++ suf'
        rw [HXS.out]; simp
      · unfold nextAt; rw [← HM.out]; omega
      · have : l.drop (nextAt l x) = (l.drop x).drop (m + 8) := by rw [List.drop_drop]; unfold nextAt; rw [← HM.out]
        rw [this]
        exact RD2.out.drewN _
      · exact HBW3.out.drewN _
    case measure => simp [intOf]; omega
  · obtain rfl : suf = [] := by
      cases suf with
      | nil => rfl
      | cons x t => have := congrArg List.length HXS.out; simp at this; omega
    have hpq : p = q := HCH.out
    subst hpq
    have hnb := next_bad Ar wr.heap.size (l.drop p) cr wr HRR.out (by rw [hdl]; exact hc1) hc2 H2.out
    rw [hdl] at hnb
    obtain ⟨z, hz⟩ : ∃ z, z = (firstOf (l.drop p)).2 := ⟨_, rfl⟩
    have hz0 : z ≠ 0 := by rw [hz]; exact H2.out
    rw [← hz] at hnb
    have HNB := Lib.hid hnb
    have e1 : ((z : Int) != 0) = true := by simp; omega
    have e2 : ((p : Int) == (l.length : Int) - (r0 : Int)) = true := by simp; omega
    clear hnb hz hz0
    go_wp2_with (go_at_call 15; refine HNB.out.mono ?_; rintro e w3 ⟨rfl, n3, rfl⟩)
    go_returns
    exact ⟨rfl, (HB2.out.trans (HBW.out.mono HB2.out.size)).drewN _⟩

theorem frameMany.walk (a0 : Option Addr) (len0 cap0 : Nat) (z0 : List Int) (w : World) (w0 : IsRow .u8 w a0 len0 cap0 z0) :
    Calls Try.prog 9 #[.slice a0 len0 cap0] w fun e w' => e = .returned (.bool true) ∧ Below w.heap.size w w' := by
  obtain ⟨l, rfl, hrd, hl, hm⟩ := w0.bytes
  by_cases h5 : 3000 < l.length
  · exact frameMany.big a0 _ cap0 w h5
  · exact frameMany.small a0 l cap0 w hl hm hrd (by omega)
end Go.Proofs.Ytihioccpnadieaa
