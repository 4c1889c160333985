/- Contracts of the reference's Split and Same. -/
import Derived.Test.YtihioccpnadieaaLa
namespace Go.Proofs.Ytihioccpnadieaa
open Go.RowKit
set_option linter.unusedVariables false

theorem rd_cells {w : World} {B b off : Nat} {l : List UInt8} (h : Rd w B (some ⟨b, off, none⟩) (bv l)) (hne : l ≠ []) : b < B ∧ ∀ j, j < l.length → w.cell? ⟨b, off + j, none⟩ = some (.int .u8 ((l.getD j 0).toNat : Int)) := by
  obtain ⟨b', off', hA, hb, hc⟩ := h.at_ (fun e => hne (by simpa [bv] using e))
  cases hA
  exact ⟨hb, fun j hj => hc j _ (bv_get l j hj)⟩

theorem rnext_bad (A : Option Addr) (B : Nat) (l : List UInt8) (cap : Nat) (w : World) (h : Rd w B A (bv l)) (hlen : l.length ≤ cap) (hcap : cap ≤ 9223372036854775807) (hf : (firstOf l).2 ≠ 0) :
    Calls Try.prog 16 #[.slice A l.length cap] w fun e w' => e = .returned (.tuple #[.slice none 0 0, .int .i64 0, .int .i64 ((firstOf l).2 : Nat)]) ∧ ∃ n, w' = w.drewN n := by
  by_cases h4 : l.length < 4
  · refine (rnext_short A l cap w h4).mono ?_
    rintro e w' ⟨rfl, rfl⟩
    refine ⟨?_, 0, rfl⟩
    have : firstOf l = (0, 10) := by unfold firstOf; rw [if_pos h4]
    rw [this]
    rfl
  · obtain ⟨b, off, rfl, hb, hc⟩ := h.at_ (fun e => by have := congrArg List.length e; rw [bv_length] at this; simp only [List.length_nil] at this; omega)
    refine (rnext_long b off l cap w (by omega) hlen hcap fun j hj => hc j _ (bv_get l j hj)).mono ?_
    rintro e w' ⟨h1, h2⟩
    rw [if_neg hf] at h1
    exact ⟨h1, h2⟩

theorem rnext_ok (b off : Nat) (B : Nat) (l : List UInt8) (cap : Nat) (w : World) (h : Rd w B (some ⟨b, off, none⟩) (bv l)) (hlen : l.length ≤ cap) (hcap : cap ≤ 9223372036854775807) (hf : (firstOf l).2 = 0) :
    Calls Try.prog 16 #[.slice (some ⟨b, off, none⟩) l.length cap] w fun e w' => e = .returned (.tuple #[.slice (some ⟨b, off + 4, none⟩) (num4 l) (cap - 4), .int .i64 ((num4 l + 8 : Nat) : Int), .int .i64 0]) ∧ ∃ n, w' = w.drewN n := by
  have h8 := (firstOf_ok hf).2.2
  refine (rnext_long b off l cap w (by omega) hlen hcap (rd_cells h (fun e => by subst e; simp at h8)).2).mono ?_
  rintro e w' ⟨h1, h2⟩
  rw [if_pos hf] at h1
  exact ⟨h1, h2⟩

theorem own_ge {w : World} {base n : Nat} {e : TypeId} {v : Value} {xs : List Value} (h : w.ownsRow base e 1 v n xs) : ∀ k, v.ownBlock = some k → base ≤ k := by
  intro k hk
  rcases h.2 with ⟨rfl, _⟩ | ⟨g, cap, cur, rfl, hg, _⟩
  · simp [Value.ownBlock] at hk
  · have : g = k := by simpa [Value.ownBlock] using hk
    omega

set_option maxHeartbeats 1000000 in
theorem rsplit_any (b off : Nat) (l : List UInt8) (cap : Nat) (w : World) (hlen : l.length ≤ cap) (hcap : cap ≤ 9223372036854775807) (hl : l.length ≤ 1099511627776) (hc : Rd w w.heap.size (some ⟨b, off, none⟩) (bv l)) :
    Calls Try.prog 18 #[.slice (some ⟨b, off, none⟩) l.length cap] w (Splitted l w) := by
  have HC := Lib.hid hc
  clear hc
  go_enter Try.func18, Try.ntmps18
  go_wp2_with fail
  go_wp2_with fail
  go_loopw [4, 5] (fun v u wr => ∃ (q : Nat) (xs : List Nat) (vs : List Value), u = .int .i64 q ∧ q ≤ l.length ∧ Hid (Chain l 0 xs q) ∧ Hid (wr.ownsRow w.heap.size 22 1 v xs.length vs) ∧ Hid (Rows2 wr w.heap.size vs (xs.map (bodyAt l))) ∧ Hid (Below w.heap.size w wr)) (fun _ u _ => l.length + 1 - (intOf u).toNat)
  case atStart => exact ⟨0, [], [], rfl, by omega, rfl, ⟨rfl, .inl ⟨rfl, rfl⟩⟩, Rows2.nil, Below.refl _ _⟩
  obtain ⟨q, xs, vs, rfl, hq, HCH, OWN, ROWS, HB⟩ := hrel
  have hq8 := HCH.out.bound.1
  obtain ⟨i0, hi, hz0, hz1, hz2⟩ := info_parts info22
  by_cases hok : okAt l q
  · have hfit := okAt_fits hok
    have hle : (l.drop q).length = l.length - q := by simp
    have hcall := rnext_ok b (off + q) w.heap.size (l.drop q) (cap - q) wr (by rw [bv_drop]; exact (HC.out.below HB.out).drop q) (by rw [hle]; omega) (by omega) hok
    rw [hle] at hcall
    unfold nextAt at hfit
    have HN := Lib.hid hcall
    obtain ⟨m, hm⟩ : ∃ x, x = num4 (l.drop q) := ⟨_, rfl⟩
    rw [← hm] at HN hfit
    have HM := Lib.hid hm
    have HOK := Lib.hid hok
    have hcq : ¬ cap = q := by omega
    clear hcall hm hok
    go_wp2_with fail
    refine HN.out.mono ?_
    rintro e w' ⟨rfl, n, hw'⟩
    have own1 : w'.ownsRow w.heap.size 22 1 u4 xs.length vs := by rw [hw']; exact OWN.out
    have rows1 : Rows2 w' w.heap.size vs (xs.map (bodyAt l)) := by rw [hw']; exact ROWS.out
    have bel1 : Below w.heap.size w w' := by rw [hw']; exact HB.out.drewN n
    have OWN1 := Lib.hid own1
    have ROWS1 := Lib.hid rows1
    have BEL1 := Lib.hid bel1
    have hw2 := Lib.hid (hw'.symm)
    clear hw' own1 rows1 bel1
    go_wp2_with (at_builtin; refine wpList_app _ rfl (.tmp 21) (.tmp 23) 34 rfl w.heap.size 22 i0 (.slice none 0 0) 24 Try.underlying34 hi hz0 hz1 hz2 rfl u4 xs.length vs rfl (OWN1.out.alloc _) (w'.heap.size + 1) (some ⟨w'.heap.size, 0, none⟩) 1 1 [.slice (some ⟨b, off + q + 4, none⟩) m (cap - q - 4)] rfl rfl (new_row w' _ _ _ (by omega)) (by simp [Value.oneCell']) (by unfold maxLen; omega) (by omega) (by simp; exact Nat.le_succ_of_le BEL1.out.size) ?_; intro v2 w2 own2 gr2 at2 ne2)
    go_roundw
    case rel =>
      have hbl : (bodyAt l q).length = m := by rw [bodyAt_length HOK.out, HM.out]
      have rd0 : Rd wr w.heap.size (some ⟨b, off + q + 4, none⟩) (bv (bodyAt l q)) := by
        have := (((HC.out.below HB.out).drop q).drop 4).take m
        rw [← bv_drop, ← bv_drop, ← bv_take] at this
        unfold bodyAt
        rw [← HM.out]
        exact this
      have hgr := fun (A : Option Addr) ys (h : Rd w' w.heap.size A ys) => (h.alloc (.cells #[.slice (some ⟨b, off + q + 4, none⟩) m (cap - q - 4)] 22)).grown gr2 (fun g hg => own_ge OWN1.out g hg)
      have rows2 := (ROWS1.out.map (B' := w.heap.size) hgr).snoc (A := some ⟨b, off + q + 4, none⟩) (c := cap - q - 4) (b := bodyAt l q) (by rw [hbl]; omega) (by omega) (hgr _ _ (hw2.out ▸ rd0.drewN n))
      rw [hbl] at rows2
      refine ⟨q + (m + 8), xs ++ [q], vs ++ [.slice (some ⟨b, off + q + 4, none⟩) m (cap - q - 4)], by go_num, hfit.1, ?_, ?_, ?_, ?_⟩
      · have := HCH.out.snoc HOK.out
        unfold nextAt at this
        rw [← HM.out] at this
        exact this
      · rw [List.length_append]
        exact own2
      · rw [List.map_append]
        exact rows2
      · exact (BEL1.out.alloc BEL1.out.size _).grown gr2 (by simp; exact Nat.le_succ_of_le BEL1.out.size) (fun g hg => own_ge OWN1.out g hg)
    case measure => simp [intOf]; omega
  · by_cases hcq : cap = q
    · have hlq : l.length = q := by omega
      have hcall := rnext_short (some ⟨b, off, none⟩) [] 0 wr (by simp)
      have HN := Lib.hid hcall
      clear hcall
      subst hcq
      go_wp2_with fail
      refine HN.out.mono ?_
      rintro e w' ⟨rfl, rfl⟩
      go_wp2_with fail
      go_returns
      exact ⟨_, xs, cap, vs, rfl, HCH.out, hok, OWN.out, ROWS.out.map (fun A xs h => h.more HB.out.size), HB.out⟩
    · have hn : (firstOf (l.drop q)).2 ≠ 0 := hok
      have hle : (l.drop q).length = l.length - q := by simp
      have hcall := rnext_bad (some ⟨b, off + q, none⟩) w.heap.size (l.drop q) (cap - q) wr (by rw [bv_drop]; exact (HC.out.below HB.out).drop q) (by rw [hle]; omega) (by omega) hn
      rw [hle] at hcall
      have HN := Lib.hid hcall
      obtain ⟨x, hx⟩ : ∃ x, x = (firstOf (l.drop q)).2 := ⟨_, rfl⟩
      rw [← hx] at HN hn
      have e1 : ((x : Int) != 0) = true := by simp; omega
      clear hcall hx hn
      go_wp2_with (go_at_call 16; refine HN.out.mono ?_; rintro e w' ⟨rfl, n, rfl⟩)
      go_returns
      exact ⟨_, xs, q, vs, rfl, HCH.out, hok, OWN.out, ROWS.out.map (fun A xs h => (h.drewN n).more HB.out.size), HB.out.drewN n⟩

theorem same_any (A1 A2 : Option Addr) (vs us : List Value) (bs cs : List (List UInt8)) (c1 c2 : Nat) (B1 B2 B3 B4 : Nat) (w : World) (r1 : Rd w B1 A1 vs) (r2 : Rd w B2 A2 us) (h1 : Rows2 w B3 vs bs) (h2 : Rows2 w B4 us cs) (hm : bs.length ≤ 1099511627776) :
    Calls Try.prog 19 #[.slice A1 vs.length c1, .slice A2 us.length c2] w fun e w' => e = .returned (.bool (decide (bs = cs))) ∧ ∃ n, w' = w.drewN n := by
  have R1 := Lib.hid r1
  have R2 := Lib.hid r2
  have H1 := Lib.hid h1
  have H2 := Lib.hid h2
  have l1 := h1.1
  have l2 := h2.1
  clear r1 r2 h1 h2
  by_cases hl : bs.length = cs.length
  · go_enter Try.func19, Try.ntmps19
    go_wp2_with fail
    go_loopw [5] (fun v wr => ∃ k n : Nat, v = .int .i64 k ∧ k ≤ cs.length ∧ Hid (∀ i, i < k → bs.getD i [] = cs.getD i []) ∧ wr = w.drewN n) (fun v _ => cs.length - (intOf v).toNat)
    case atStart => exact ⟨0, 0, rfl, by omega, fun i hi => by omega, rfl⟩
    obtain ⟨k, n, rfl, hk, PRE, hwr⟩ := hrel
    by_cases hend : k < cs.length
    · obtain ⟨x1, d1, hv1, _, _, q1⟩ := H1.out.2 k (by omega)
      obtain ⟨x2, d2, hv2, _, _, q2⟩ := H2.out.2 k (by omega)
      obtain ⟨b1, o1, rfl, _, hc1⟩ := R1.out.at_ (fun e => by rw [e] at hv1; simp at hv1)
      obtain ⟨b2, o2, rfl, _, hc2⟩ := R2.out.at_ (fun e => by rw [e] at hv2; simp at hv2)
      have z1 := hc1 k _ hv1
      have z2 := hc2 k _ hv2
      obtain ⟨y1, hy1⟩ : ∃ y, y = bs.getD k [] := ⟨_, rfl⟩
      obtain ⟨y2, hy2⟩ : ∃ y, y = cs.getD k [] := ⟨_, rfl⟩
      rw [← hy1] at z1 q1
      rw [← hy2] at z2 q2
      subst hwr
      have cv1 := fun j => conv_any (W := w.drewN j) y1.length d1 rfl q1
      have cv2 := fun j => conv_any (W := w.drewN j) y2.length d2 rfl q2
      have HY1 := Lib.hid hy1
      have HY2 := Lib.hid hy2
      clear hc1 hc2 hv1 hv2 hy1 hy2
      by_cases hyy : y1 = y2
      · subst hyy
        go_wp2_with fail
        go_quiet (fail)
        go_wp2_with fail
        go_roundw
        case rel =>
          refine ⟨k + 1, n + nq, by go_num, by omega, fun i hi => ?_, rfl⟩
          rcases Nat.lt_or_ge i k with h | h
          · exact PRE.out i h
          · obtain rfl : i = k := by omega
            rw [← HY1.out, ← HY2.out]
        case measure => simp [intOf]; omega
      · have hyy2 : y1.toArray ≠ y2.toArray := fun e => hyy (by simpa using congrArg Array.toList e)
        have HYY := Lib.hid hyy
        have e2 : (y1 == y2) = false := by simpa using hyy
        go_wp2_with fail
        go_quiet (fail)
        go_wp2_with fail
        go_returns
        refine ⟨?_, n + nq, World.drewN_drewN ..⟩
        have hne : ¬ bs = cs := fun e => HYY.out (by rw [HY1.out, HY2.out, e])
        rw [decide_eq_false hne]
        rfl
    · have hke : k = cs.length := by omega
      subst hke
      go_wp2_with fail
      go_returns
      refine ⟨?_, n, rfl⟩
      suffices he : bs = cs by rw [decide_eq_true he]; rfl
      apply List.ext_getElem hl
      intro i h1 h2
      have := PRE.out i h2
      rw [List.getD_eq_getElem?_getD, List.getD_eq_getElem?_getD, List.getElem?_eq_getElem h1, List.getElem?_eq_getElem h2] at this
      exact this
  · have hne : bs ≠ cs := fun e => hl (by rw [e])
    have hne' : decide (bs = cs) = false := decide_eq_false hne
    have HNE := Lib.hid hne'
    clear hne hne'
    obtain ⟨nb, hnb⟩ : ∃ x, x = bs.length := ⟨_, rfl⟩
    obtain ⟨nc, hnc⟩ : ∃ x, x = cs.length := ⟨_, rfl⟩
    rw [l1, l2, ← hnb, ← hnc]
    rw [← hnb, ← hnc] at hl
    have e1 : ((nb : Int) != (nc : Int)) = true := by simp; omega
    clear hnb hnc l1 l2 hm
    go_enter Try.func19, Try.ntmps19
    go_wp2_with fail
    go_returns
    exact ⟨by rw [HNE.out]; rfl, 0, rfl⟩
end Go.Proofs.Ytihioccpnadieaa
