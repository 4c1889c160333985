/- The walk of FrameReads. -/
import Derived.Test.YtihioccpnadieaaRs
namespace Go.Proofs.Ytihioccpnadieaa
open Go.RowKit
set_option linter.unusedVariables false

theorem rsplit_nil (A : Option Addr) (cap : Nat) (w : World) : Calls Try.prog 18 #[.slice A 0 cap] w (Splitted [] w) := by
  have hcall := fun A cap => rnext_short A [] cap w (by simp)
  have HN := Lib.hid hcall
  clear hcall
  cases A with
  | none =>
    go_enter Try.func18, Try.ntmps18
    go_wp2_with fail
    go_rounds 1
    go_wp2_with (go_at_call 16; refine (HN.out _ _).mono ?_; rintro e w' ⟨rfl, rfl⟩)
    go_returns
    exact ⟨_, [], 0, [], rfl, rfl, fun h => by simp [okAt, firstOf] at h, ⟨rfl, .inl ⟨rfl, rfl⟩⟩, Rows2.nil, Below.refl _ _⟩
  | some x =>
    by_cases hc : cap = 0
    · subst hc
      go_enter Try.func18, Try.ntmps18
      go_wp2_with fail
      go_rounds 1
      go_wp2_with (go_at_call 16; refine (HN.out _ _).mono ?_; rintro e w' ⟨rfl, rfl⟩)
      go_returns
      exact ⟨_, [], 0, [], rfl, rfl, fun h => by simp [okAt, firstOf] at h, ⟨rfl, .inl ⟨rfl, rfl⟩⟩, Rows2.nil, Below.refl _ _⟩
    · go_enter Try.func18, Try.ntmps18
      go_wp2_with fail
      go_rounds 1
      go_wp2_with (go_at_call 16; refine (HN.out _ _).mono ?_; rintro e w' ⟨rfl, rfl⟩)
      go_returns
      exact ⟨_, [], 0, [], rfl, rfl, fun h => by simp [okAt, firstOf] at h, ⟨rfl, .inl ⟨rfl, rfl⟩⟩, Rows2.nil, Below.refl _ _⟩

theorem rsplit_all (A : Option Addr) (l : List UInt8) (cap : Nat) (w : World) (hlen : l.length ≤ cap) (hcap : cap ≤ 9223372036854775807) (hl : l.length ≤ 1099511627776) (hc : Rd w w.heap.size A (bv l)) :
    Calls Try.prog 18 #[.slice A l.length cap] w (Splitted l w) := by
  rcases hc with h | ⟨b, off, rfl, hb, hcc⟩
  · have hl0 : l = [] := by simpa [bv] using h
    subst hl0
    exact rsplit_nil A cap w
  · exact rsplit_any b off l cap w hlen hcap hl (.inr ⟨b, off, rfl, hb, hcc⟩)

/-- What the two Splits answered is the same. -/
theorem both_same {l : List UInt8} {w4 w5 W : World} {v v' : Value} {xs xs' : List Nat} {q q' : Nat} {vs vs' : List Value}
    (c1 : Chain l 0 xs q) (k1 : ¬ okAt l q) (o1 : w4.ownsRow W.heap.size 22 1 v xs.length vs) (r1 : Rows2 w4 w4.heap.size vs (xs.map (bodyAt l)))
    (c2 : Chain l 0 xs' q') (k2 : ¬ okAt l q') (o2 : w5.ownsRow w4.heap.size 22 1 v' xs'.length vs') (r2 : Rows2 w5 w5.heap.size vs' (xs'.map (bodyAt l))) (bel : Below w4.heap.size w4 w5) (hl : l.length ≤ 1099511627776) :
    q = q' ∧ ∀ w6 n, w6 = w5.drewN n → Calls Try.prog 19 #[v, v'] w6 fun e w' => e = .returned (.bool true) ∧ ∃ n, w' = w6.drewN n := by
  obtain ⟨rfl, rfl⟩ := c1.unique k1 c2 k2
  refine ⟨rfl, fun w6 n hw6 => ?_⟩
  subst hw6
  obtain ⟨A1, d1, rfl, _, _, h1⟩ := own_slice (own_keep o1 bel)
  obtain ⟨A2, d2, rfl, _, _, h2⟩ := own_slice o2
  have hb := c1.bound
  have l1 := o1.1
  have l2 := o2.1
  have := same_any A1 A2 vs vs' (xs.map (bodyAt l)) (xs.map (bodyAt l)) d1 d2 w5.heap.size w5.heap.size w4.heap.size w5.heap.size (w5.drewN n) (h1.drewN n) (h2.drewN n) (r1.map fun A ys h => (h.below bel).drewN n) (r2.map fun A ys h => h.drewN n) (by rw [List.length_map]; omega)
  rw [l1, l2, Nat.mul_one] at this
  refine this.mono ?_
  rintro e w' ⟨rfl, h⟩
  exact ⟨by simp, h⟩

set_option maxRecDepth 100000 in
set_option maxHeartbeats 1000000 in
theorem frameReads.bad (A : Option Addr) (l : List UInt8) (cap : Nat) (w : World) (hlen : l.length ≤ cap) (hcap : cap ≤ 9223372036854775807) (hrd : Rd w w.heap.size A (bv l)) (h5 : l.length ≤ 5000) (hf : (firstOf l).2 ≠ 0) :
    Calls Try.prog 5 #[.slice A l.length cap] w fun e w' => e = .returned (.bool true) ∧ Below w.heap.size w w' := by
  have HR := Lib.hid hrd
  have HF := Lib.hid hf
  obtain ⟨x, hx⟩ : ∃ x, x = (firstOf l).2 := ⟨_, rfl⟩
  have HX := Lib.hid hx
  have e1 : ((x : Int) == 0) = false := by simp; omega
  have e2 : ((x : Int) != 0) = true := by simp; omega
  clear hrd hf hx
  go_enter Try.func5, Try.ntmps5
  go_wp2_with (first
    | (go_at_call 10; refine (awake_true _).mono ?_; rintro e w1 ⟨rfl, hb1⟩; (have HB1 := Lib.hid hb1); clear hb1)
    | (go_at_call 15; refine (next_bad A w.heap.size l cap _ (HR.out.size HB1.out) hlen hcap HF.out).mono ?_; rintro e w2 ⟨rfl, n2, hw2⟩; rw [← HX.out]; (have HW2 := Lib.hid hw2); clear hw2)
    | (go_at_call 16; refine (rnext_bad A w.heap.size l cap _ (by rw [HW2.out]; exact (HR.out.size HB1.out).drewN _) hlen hcap HF.out).mono ?_; rintro e w3 ⟨rfl, n3, hw3⟩; rw [← HX.out]; (have HW3 := Lib.hid hw3); clear hw3))
  have HB3 : Below w.heap.size w w3 := by rw [HW3.out, HW2.out]; exact (HB1.out.drewN _).drewN _
  have HB3 := Lib.hid HB3
  go_quiet (fail)
  go_wp2_with fail
  generalize hW : w3.drewN nq = W
  have HBW : Below w.heap.size w W := by rw [← hW]; exact HB3.out.drewN _
  have HB3 := Lib.hid HBW
  refine (split_any A l cap W hlen hcap (by omega) ((HR.out.size HB3.out).more HB3.out.size)).mono ?_
  rintro e w4 ⟨v, xs, q, vs, rfl, ch1, no1, own1, rows1, bel1⟩
  have H1 := Lib.hid ch1
  have H2 := Lib.hid no1
  have H3 := Lib.hid own1
  have H4 := Lib.hid rows1
  have HB4 := Lib.hid (HB3.out.trans (bel1.mono HB3.out.size))
  clear ch1 no1 own1 rows1 bel1 HBW hW
  go_wp2_with fail
  refine (rsplit_all A l cap w4 hlen hcap (by omega) ((HR.out.size HB4.out).more HB4.out.size)).mono ?_
  rintro e w5 ⟨v', xs', q', vs', rfl, ch2, no2, own2, rows2, bel2⟩
  obtain ⟨rfl, H5⟩ := both_same H1.out H2.out H3.out H4.out ch2 no2 own2 rows2 bel2 (by omega)
  have H5 := Lib.hid H5
  have HB5 := Lib.hid (HB4.out.trans (bel2.mono HB4.out.size))
  clear ch2 no2 own2 rows2 bel2
  go_wp2_with fail
  refine (H5.out w5 0 rfl).mono ?_
  rintro e w6 ⟨rfl, n6, rfl⟩
  go_wp2_with fail
  go_returns
  exact ⟨rfl, HB5.out.drewN _⟩

set_option maxRecDepth 100000 in
set_option maxHeartbeats 1000000 in
theorem frameReads.good (A : Option Addr) (l : List UInt8) (cap : Nat) (w : World) (hlen : l.length ≤ cap) (hcap : cap ≤ 9223372036854775807) (hrd : Rd w w.heap.size A (bv l)) (h5 : l.length ≤ 5000) (hf : (firstOf l).2 = 0) :
    Calls Try.prog 5 #[.slice A l.length cap] w fun e w' => e = .returned (.bool true) ∧ Below w.heap.size w w' := by
  obtain ⟨g1, g2, g3⟩ := firstOf_ok hf
  obtain ⟨b, off, rfl, hb, hc⟩ := hrd.at_ (fun e => by have := congrArg List.length e; rw [bv_length] at this; simp only [List.length_nil] at this; omega)
  have HR := Lib.hid hrd
  have HF := Lib.hid hf
  obtain ⟨m, hm⟩ : ∃ m, m = num4 l := ⟨_, rfl⟩
  rw [← hm] at g2 g3
  have HM := Lib.hid hm
  clear hrd hf hc hb g1 hm
  go_enter Try.func5, Try.ntmps5
  go_wp2_with (first
    | (go_at_call 10; refine (awake_true _).mono ?_; rintro e w1 ⟨rfl, hb1⟩; (have HB1 := Lib.hid hb1); clear hb1))
  refine (next_ok _ w.heap.size l cap w1 (HR.out.size HB1.out) hlen (by omega) hcap HF.out).mono ?_
  rintro e w2 ⟨A1, c1, A2, c2, rfl, hc1, hc2, own1, own2, bel2⟩
  rw [← HM.out] at hc1 hc2 own1 own2 ⊢
  have HO1 := Lib.hid own1
  have HO2 := Lib.hid own2
  have HB2 := Lib.hid (HB1.out.trans (bel2.mono HB1.out.size))
  clear own1 own2 bel2
  go_wp2_with fail
  refine (rnext_ok b off w.heap.size l cap w2 (HR.out.size HB2.out) hlen hcap HF.out).mono ?_
  rintro e w3 ⟨rfl, n3, hw3⟩
  rw [← HM.out]
  have HO1' : w3.ownsRow w1.heap.size 5 1 (.slice A1 m c1) m (bv ((l.drop 4).take m)) := by rw [hw3]; exact HO1.out
  have HO2' : w3.ownsRow w1.heap.size 5 1 (.slice A2 (l.length - (m + 8)) c2) (l.length - (m + 8)) (bv (l.drop (m + 8))) := by rw [hw3]; exact HO2.out
  have HB3' : Below w.heap.size w w3 := by rw [hw3]; exact HB2.out.drewN _
  have HO1 := Lib.hid HO1'
  have HO2 := Lib.hid HO2'
  have HB3 := Lib.hid HB3'
  clear hw3 HO1' HO2' HB3'
  go_wp2_with fail
  have hbody : (l.drop 4).take m = bodyAt l 0 := by unfold bodyAt; rw [List.drop_zero, ← HM.out]
  have n1 : ((l.drop 4).take m).length = m := by rw [List.length_take, List.length_drop]; omega
  have n2 : (l.drop (m + 8)).length = l.length - (m + 8) := by simp
  have rd := HR.out.below HB3.out
  have rd1 := Rd.of_own HO1.out
  have rd2 := Rd.of_own HO2.out
  have rd3 : Rd w3 w.heap.size (some ⟨b, off + 4, none⟩) (bv ((l.drop 4).take m)) := by rw [bv_take, bv_drop]; exact (rd.drop 4).take m
  have rd4 : Rd w3 w.heap.size (some ⟨b, off + (m + 8), none⟩) (bv (l.drop (m + 8))) := by rw [bv_drop]; exact rd.drop (m + 8)
  have cv1 := fun j => conv_any (W := w3.drewN j) m c1 n1 (rd1.drewN j)
  have cv2 := fun j => conv_any (W := w3.drewN j) (l.length - (m + 8)) c2 n2 (rd2.drewN j)
  have cv3 := fun j => conv_any (W := w3.drewN j) m (cap - 4) n1 (rd3.drewN j)
  obtain ⟨y1, hy1⟩ : ∃ y, y = (l.drop 4).take m := ⟨_, rfl⟩
  rw [← hy1] at cv1 cv3
  have k1 : (0 : Int) ≤ (m : Int) + 8 := by omega
  have k2 : (m : Int) + 8 ≤ (l.length : Int) := by omega
  have k3 : (m : Int) + 8 ≤ (cap : Int) := by omega
  have k4 : ((m : Int) + 8).toNat = m + 8 := by omega
  clear hy1 hbody n1 rd rd1 rd2 rd3
  have fin : ∀ W : World, Below w.heap.size w W → ∀ (K : Prop), K → K := fun _ _ _ h => h
  by_cases hcm : cap = m + 8
  · have hd : l.drop (m + 8) = [] := by apply List.drop_eq_nil_of_le; omega
    rw [hd] at cv2
    have cv4 := fun j => conv_any (W := w3.drewN j) (B := w.heap.size) (A := some ⟨b, off, none⟩) (l := []) (l.length - (m + 8)) (cap - (m + 8)) (by simp; omega) .nil
    have cv5 := fun j => conv_any (W := w3.drewN j) (B := w.heap.size) (A := some ⟨b, off, none⟩) (l := []) (l.length - (m + 8)) 0 (by simp; omega) .nil
    have hl8 : l.length = m + 8 := by omega
    have HL8 := Lib.hid hl8
    have hcm' : (cap = m + 8) = True := eq_true hcm
    clear rd4 hd n2 fin hl8 hcm
    go_quiet (fail)
    go_wp2_with fail
    generalize hW : w3.drewN nq = W
    have HBW : Below w.heap.size w W := by rw [← hW]; exact HB3.out.drewN _
    have HB3 := Lib.hid HBW
    refine (split_any (some ⟨b, off, none⟩) l cap W hlen hcap (by omega) ((HR.out.size HB3.out).more HB3.out.size)).mono ?_
    rintro e w4 ⟨v, xs, q, vs, rfl, ch1, no1, own1, rows1, bel1⟩
    have H1 := Lib.hid ch1
    have H2 := Lib.hid no1
    have H3 := Lib.hid own1
    have H4 := Lib.hid rows1
    have HB4 := Lib.hid (HB3.out.trans (bel1.mono HB3.out.size))
    clear ch1 no1 own1 rows1 bel1 HBW hW
    go_wp2_with fail
    refine (rsplit_any b off l cap w4 hlen hcap (by omega) ((HR.out.size HB4.out).more HB4.out.size)).mono ?_
    rintro e w5 ⟨v', xs', q', vs', rfl, ch2, no2, own2, rows2, bel2⟩
    obtain ⟨rfl, H5⟩ := both_same H1.out H2.out H3.out H4.out ch2 no2 own2 rows2 bel2 (by omega)
    have H5 := Lib.hid H5
    have HB5 := Lib.hid (HB4.out.trans (bel2.mono HB4.out.size))
    clear ch2 no2 own2 rows2 bel2
    go_wp2_with fail
    refine (H5.out w5 0 rfl).mono ?_
    rintro e w6 ⟨rfl, n6, rfl⟩
    go_wp2_with fail
    go_returns
    exact ⟨rfl, HB5.out.drewN _⟩
  · have cv4 := fun j => conv_any (W := w3.drewN j) (l.length - (m + 8)) (cap - (m + 8)) n2 (rd4.drewN j)
    obtain ⟨y2, hy2⟩ : ∃ y, y = l.drop (m + 8) := ⟨_, rfl⟩
    rw [← hy2] at cv2 cv4
    clear hy2 rd4 n2
    go_quiet (fail)
    go_wp2_with fail
    generalize hW : w3.drewN nq = W
    have HBW : Below w.heap.size w W := by rw [← hW]; exact HB3.out.drewN _
    have HB3 := Lib.hid HBW
    refine (split_any (some ⟨b, off, none⟩) l cap W hlen hcap (by omega) ((HR.out.size HB3.out).more HB3.out.size)).mono ?_
    rintro e w4 ⟨v, xs, q, vs, rfl, ch1, no1, own1, rows1, bel1⟩
    have H1 := Lib.hid ch1
    have H2 := Lib.hid no1
    have H3 := Lib.hid own1
    have H4 := Lib.hid rows1
    have HB4 := Lib.hid (HB3.out.trans (bel1.mono HB3.out.size))
    clear ch1 no1 own1 rows1 bel1 HBW hW
    go_wp2_with fail
    refine (rsplit_any b off l cap w4 hlen hcap (by omega) ((HR.out.size HB4.out).more HB4.out.size)).mono ?_
    rintro e w5 ⟨v', xs', q', vs', rfl, ch2, no2, own2, rows2, bel2⟩
    obtain ⟨rfl, H5⟩ := both_same H1.out H2.out H3.out H4.out ch2 no2 own2 rows2 bel2 (by omega)
    have H5 := Lib.hid H5
    have HB5 := Lib.hid (HB4.out.trans (bel2.mono HB4.out.size))
    clear ch2 no2 own2 rows2 bel2
    go_wp2_with fail
    refine (H5.out w5 0 rfl).mono ?_
    rintro e w6 ⟨rfl, n6, rfl⟩
    go_wp2_with fail
    go_returns
    exact ⟨rfl, HB5.out.drewN _⟩

theorem frameReads.big (a0 : Option Addr) (n cap0 : Nat) (w : World) (h : 5000 < n) :
    Calls Try.prog 5 #[.slice a0 n cap0] w fun e w' => e = .returned (.bool true) ∧ Below w.heap.size w w' := by
  go_enter Try.func5, Try.ntmps5
  go_wp2_with (go_at_call 10; refine (awake_true _).mono ?_; rintro e w1 ⟨rfl, hb1⟩)
  go_returns
  exact ⟨rfl, hb1⟩

theorem frameReads.walk (a0 : Option Addr) (len0 cap0 : Nat) (z0 : List Int) (w : World) (w0 : IsRow .u8 w a0 len0 cap0 z0) :
    Calls Try.prog 5 #[.slice a0 len0 cap0] w fun e w' => e = .returned (.bool true) ∧ Below w.heap.size w w' := by
  obtain ⟨l, rfl, hrd, hl, hm⟩ := w0.bytes
  by_cases h5 : 5000 < l.length
  · exact frameReads.big a0 _ cap0 w h5
  · by_cases hf : (firstOf l).2 = 0
    · exact frameReads.good a0 l cap0 w hl hm hrd (by omega) hf
    · exact frameReads.bad a0 l cap0 w hl hm hrd (by omega) hf
end Go.Proofs.Ytihioccpnadieaa
