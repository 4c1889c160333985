/- Contracts of Next, of the program and of the reference. -/
import Derived.Test.YtihioccpnadieaaFr
import Derived.Deep.RegionWith
import Derived.BigRegion
namespace Go.Proofs.Ytihioccpnadieaa
open Go.RowKit
set_option linter.unusedVariables false

theorem own_slice {w : World} {base : Nat} {e : TypeId} {v : Value} {n : Nat} {xs : List Value} (h : w.ownsRow base e 1 v n xs) :
    ∃ A c, v = .slice A n c ∧ n ≤ c ∧ c ≤ 9223372036854775807 ∧ Rd w w.heap.size A xs := by
  rcases h.2 with ⟨rfl, rfl⟩ | ⟨g, cap, cur, rfl, _, _, hn, hc, _⟩
  · exact ⟨none, 0, rfl, Nat.le_refl _, by omega, Rd.of_own h⟩
  · exact ⟨_, cap, rfl, hn, by unfold maxLen at hc; exact hc, Rd.of_own h⟩

/-- What a clone answers. -/
def Cloned (l : List UInt8) (n : Nat) (w : World) (e : Ending) (w' : World) : Prop :=
  ∃ A c, e = .returned (.slice A n c) ∧ n ≤ c ∧ w'.ownsRow w.heap.size 5 1 (.slice A n c) n (bv l) ∧ Below w.heap.size w w'

theorem clone_any (x : Addr) (l : List UInt8) (n cap : Nat) (B : Nat) (w : World) (h : Rd w B (some x) (bv l)) (hn : l.length = n) (hlen : n ≤ 140737488355328) :
    Calls Try.prog 23 #[.slice (some x) n cap] w (Cloned l n w) := by
  subst hn
  refine (clone_some x l cap B w h hlen).mono ?_
  rintro e w' ⟨v, rfl, hown, hb⟩
  obtain ⟨A, c, rfl, hc, _, _⟩ := own_slice hown
  exact ⟨A, c, rfl, hc, hown, hb⟩

theorem next_bad (A : Option Addr) (B : Nat) (l : List UInt8) (cap : Nat) (w : World) (h : Rd w B A (bv l)) (hlen : l.length ≤ cap) (hcap : cap ≤ 9223372036854775807) (hf : (firstOf l).2 ≠ 0) :
    Calls Try.prog 15 #[.slice A l.length cap] w fun e w' => e = .returned (.tuple #[.slice none 0 0, .slice none 0 0, .int .i64 ((firstOf l).2 : Nat)]) ∧ ∃ n, w' = w.drewN n := by
  have HF := Lib.hid (first_any A B l cap w h hlen hcap)
  have e1 : (((firstOf l).2 : Int) != 0) = true := by simp; exact hf
  clear h hf
  unfold First at HF
  generalize (firstOf l).2 = er at *
  generalize (firstOf l).1 = en at *
  go_enter Try.func15, Try.ntmps15
  go_wp2_with (go_at_call 22; refine HF.out.mono ?_; rintro e w' ⟨rfl, n, rfl⟩)
  go_returns
  exact ⟨rfl, n, rfl⟩

/-- What Next answers of a frame: its body and what lies behind it, each a row of its own. -/
def Nexted (l : List UInt8) (w : World) (e : Ending) (w' : World) : Prop :=
  ∃ A1 c1 A2 c2, e = .returned (.tuple #[.slice A1 (num4 l) c1, .slice A2 (l.length - (num4 l + 8)) c2, .int .i64 0]) ∧ num4 l ≤ c1 ∧ l.length - (num4 l + 8) ≤ c2 ∧
    w'.ownsRow w.heap.size 5 1 (.slice A1 (num4 l) c1) (num4 l) (bv ((l.drop 4).take (num4 l))) ∧
    w'.ownsRow w.heap.size 5 1 (.slice A2 (l.length - (num4 l + 8)) c2) (l.length - (num4 l + 8)) (bv (l.drop (num4 l + 8))) ∧ Below w.heap.size w w'

theorem next_ok (A : Option Addr) (B : Nat) (l : List UInt8) (cap : Nat) (w : World) (h : Rd w B A (bv l)) (hlen : l.length ≤ cap) (hl : l.length ≤ 140737488355328) (hcap : cap ≤ 9223372036854775807) (hf : (firstOf l).2 = 0) :
    Calls Try.prog 15 #[.slice A l.length cap] w (Nexted l w) := by
  have HF := Lib.hid (first_any A B l cap w h hlen hcap)
  obtain ⟨g1, g2, g3⟩ := firstOf_ok hf
  obtain ⟨b, off, rfl, hb, hc⟩ := h.at_ (fun e => by have := congrArg List.length e; rw [bv_length] at this; simp only [List.length_nil] at this; omega)
  unfold First at HF
  rw [hf, g1] at HF
  have H := Lib.hid h
  have hm : ∃ m, m = num4 l := ⟨_, rfl⟩
  obtain ⟨m, hm⟩ := hm
  unfold Nexted
  rw [← hm] at HF g2 g3 ⊢
  have HM := Lib.hid hm
  clear hm hf g1 hc h
  by_cases hcc : cap = m + 8
  · subst hcc
    go_enter Try.func15, Try.ntmps15
    go_wp2_with (go_at_call 22; refine HF.out.mono ?_; rintro e w' ⟨rfl, n, rfl⟩)
    have k1 : (0 : Int) ≤ (m : Int) + 8 := by omega
    have k2 : (m : Int) + 8 ≤ (l.length : Int) := by omega
    have k3 : (m : Int) + 8 ≤ ((m + 8) : Int) := by omega
    have k4 : ((m : Int) + 8).toNat = m + 8 := by omega
    have k8 : ¬ (m + 8) = 4 := by omega
    have k9 : IntKind.i64.wrap ((m : Int) + 8 - 4) = (m : Int) + 4 := by rw [IntWalk.i64_in _ ⟨by omega, by omega⟩]; omega
    have k10 : (0 : Int) ≤ (m : Int) + 4 := by omega
    have k11 : (4 : Int) ≤ (m : Int) + 4 := by omega
    have k12 : (m : Int) + 4 ≤ ((m + 8) : Int) := by omega
    have k13 : ((m : Int) + 4).toNat = m + 4 := by omega
    have r1 : Rd w B (some ⟨b, off + 4, none⟩) (bv ((l.drop 4).take m)) := by rw [bv_take, bv_drop]; exact (H.out.drop 4).take m
    have r2 : Rd w B (some ⟨b, off, none⟩) (bv (l.drop (m + 8))) := by (rw [List.drop_eq_nil_of_le (by omega)]; exact .inl rfl)
    have n1 : ((l.drop 4).take m).length = m := by simp; omega
    have n2 : (l.drop (m + 8)).length = 0 := by simp; omega
    have R1 := Lib.hid r1
    have R2 := Lib.hid r2
    have N1 := Lib.hid n1
    have N2 := Lib.hid n2
    clear r1 r2 n1 n2
    have tok1 : True := trivial
    go_region_with (first
      | (go_at_call 23; (have _t := tok1); clear _t; refine (clone_any _ ((l.drop 4).take m) m _ B _ (R1.out.drewN _) N1.out (by omega)).mono ?_; rintro e W1 ⟨A1, c1, rfl, hc1, own1, bel1⟩; (have OWN1 := Lib.hid own1); (have BEL1 := Lib.hid bel1); (have HC1 := Lib.hid hc1); clear own1 bel1 hc1 tok1)
      | (go_at_call 23; refine (clone_any _ (l.drop (m + 8)) 0 _ B _ ((R2.out.drewN _).size BEL1.out) N2.out (by omega)).mono ?_; rintro e W2 ⟨A2, c2, rfl, hc2, own2, bel2⟩; (have OWN2 := Lib.hid own2); (have BEL2 := Lib.hid bel2); (have HC2 := Lib.hid hc2); clear own2 bel2 hc2))
    go_wp2
    go_returns
    have hz : (w.drewN (n + 1)).heap.size = w.heap.size := rfl
    have bel1 := BEL1.out
    have bel2 := BEL2.out
    have hz1 := bel1.size
    rw [hz] at hz1 bel1
    rw [show l.length - (m + 8) = 0 from by omega]
    refine ⟨A1, c1, A2, c2, rfl, HC1.out, HC2.out, own_keep OWN1.out bel2, own_base OWN2.out hz1, bel1.ofDrewN.trans (bel2.mono hz1)⟩
  · go_enter Try.func15, Try.ntmps15
    go_wp2_with (go_at_call 22; refine HF.out.mono ?_; rintro e w' ⟨rfl, n, rfl⟩)
    have k1 : (0 : Int) ≤ (m : Int) + 8 := by omega
    have k2 : (m : Int) + 8 ≤ (l.length : Int) := by omega
    have k3 : (m : Int) + 8 ≤ (cap : Int) := by omega
    have k4 : ((m : Int) + 8).toNat = m + 8 := by omega
    have k8 : ¬ cap = 4 := by omega
    have k9 : IntKind.i64.wrap ((m : Int) + 8 - 4) = (m : Int) + 4 := by rw [IntWalk.i64_in _ ⟨by omega, by omega⟩]; omega
    have k10 : (0 : Int) ≤ (m : Int) + 4 := by omega
    have k11 : (4 : Int) ≤ (m : Int) + 4 := by omega
    have k12 : (m : Int) + 4 ≤ (cap : Int) := by omega
    have k13 : ((m : Int) + 4).toNat = m + 4 := by omega
    have r1 : Rd w B (some ⟨b, off + 4, none⟩) (bv ((l.drop 4).take m)) := by rw [bv_take, bv_drop]; exact (H.out.drop 4).take m
    have r2 : Rd w B (some ⟨b, off + (m + 8), none⟩) (bv (l.drop (m + 8))) := by rw [bv_drop]; exact H.out.drop (m + 8)
    have n1 : ((l.drop 4).take m).length = m := by simp; omega
    have n2 : (l.drop (m + 8)).length = l.length - (m + 8) := by simp
    have R1 := Lib.hid r1
    have R2 := Lib.hid r2
    have N1 := Lib.hid n1
    have N2 := Lib.hid n2
    clear r1 r2 n1 n2
    have tok1 : True := trivial
    go_region_with (first
      | (go_at_call 23; (have _t := tok1); clear _t; refine (clone_any _ ((l.drop 4).take m) m _ B _ (R1.out.drewN _) N1.out (by omega)).mono ?_; rintro e W1 ⟨A1, c1, rfl, hc1, own1, bel1⟩; (have OWN1 := Lib.hid own1); (have BEL1 := Lib.hid bel1); (have HC1 := Lib.hid hc1); clear own1 bel1 hc1 tok1)
      | (go_at_call 23; refine (clone_any _ (l.drop (m + 8)) (l.length - (m + 8)) _ B _ ((R2.out.drewN _).size BEL1.out) N2.out (by omega)).mono ?_; rintro e W2 ⟨A2, c2, rfl, hc2, own2, bel2⟩; (have OWN2 := Lib.hid own2); (have BEL2 := Lib.hid bel2); (have HC2 := Lib.hid hc2); clear own2 bel2 hc2))
    go_wp2
    go_returns
    have hz : (w.drewN (n + 1)).heap.size = w.heap.size := rfl
    have bel1 := BEL1.out
    have bel2 := BEL2.out
    have hz1 := bel1.size
    rw [hz] at hz1 bel1
    refine ⟨A1, c1, A2, c2, rfl, HC1.out, HC2.out, own_keep OWN1.out bel2, own_base OWN2.out hz1, bel1.ofDrewN.trans (bel2.mono hz1)⟩

/-- What the reference's Next answers, whatever it drew: the body lies in b itself. -/
def RNext (l : List UInt8) (b off cap : Nat) (w : World) (e : Ending) (w' : World) : Prop :=
  (if (firstOf l).2 = 0 then e = .returned (.tuple #[.slice (some ⟨b, off + 4, none⟩) (num4 l) (cap - 4), .int .i64 ((num4 l + 8 : Nat) : Int), .int .i64 0])
    else e = .returned (.tuple #[.slice none 0 0, .int .i64 0, .int .i64 ((firstOf l).2 : Nat)])) ∧ ∃ n, w' = w.drewN n

theorem rnext_short (A : Option Addr) (l : List UInt8) (cap : Nat) (w : World) (h : l.length < 4) : Calls Try.prog 16 #[.slice A l.length cap] w fun e w' => e = .returned (.tuple #[.slice none 0 0, .int .i64 0, .int .i64 10]) ∧ w = w' := by
  go_enter Try.func16, Try.ntmps16
  go_wp2
  go_returns
  exact ⟨rfl, rfl⟩

theorem ret3 {v v' u u' x x' : Value} (h : v = v') (h' : u = u') (h'' : x = x') : Ending.returned (.tuple #[v, u, x]) = .returned (.tuple #[v', u', x']) := by rw [h, h', h'']

theorem rnext_long (b off : Nat) (l : List UInt8) (cap : Nat) (w : World) (h : 4 ≤ l.length) (hlen : l.length ≤ cap) (hcap : cap ≤ 9223372036854775807)
    (hc : ∀ j, j < l.length → w.cell? ⟨b, off + j, none⟩ = some (.int .u8 ((l.getD j 0).toNat : Int))) : Calls Try.prog 16 #[.slice (some ⟨b, off, none⟩) l.length cap] w (RNext l b off cap w) := by
  have HC := Lib.hid hc
  have hN := rnumber_any b off cap l w h hc
  have HN := Lib.hid hN
  have hnl := num4_lt l
  clear hc hN
  by_cases h1 : 4194304 < num4 l
  · have hf : firstOf l = (0, 11) := by unfold firstOf; rw [if_neg (by omega), if_pos h1]
    have HF := Lib.hid hf
    clear hf
    go_enter Try.func16, Try.ntmps16
    go_wp2_with (go_at_call 24; refine HN.out.mono ?_; rintro e w' ⟨rfl, n, rfl⟩)
    go_returns
    exact ⟨by rw [HF.out]; rfl, n, rfl⟩
  · by_cases h2 : l.length < num4 l + 8
    · have hf : firstOf l = (0, 10) := by unfold firstOf; rw [if_neg (by omega), if_neg h1, if_pos h2]
      have HF := Lib.hid hf
      clear hf
      go_enter Try.func16, Try.ntmps16
      go_wp2_with (go_at_call 24; refine HN.out.mono ?_; rintro e w' ⟨rfl, n, rfl⟩)
      go_returns
      exact ⟨by rw [HF.out]; rfl, n, rfl⟩
    · obtain ⟨m, hm⟩ : ∃ m, m = num4 l := ⟨_, rfl⟩
      have HM := Lib.hid hm
      rw [← hm] at h1 h2 hnl HN
      clear hm
      go_enter Try.func16, Try.ntmps16
      go_wp2_with (go_at_call 24; refine HN.out.mono ?_; rintro e w' ⟨rfl, n, rfl⟩)
      have k1 : (0 : Int) ≤ (m : Int) + 4 := by omega
      have k2 : (m : Int) + 4 ≤ (l.length : Int) := by omega
      have k3 : (m : Int) + 4 ≤ (cap : Int) := by omega
      have k4 : ((m : Int) + 4).toNat = m + 4 := by omega
      have k5 : ¬ cap = m + 4 := by omega
      have k6 : IntKind.i64.wrap ((m : Int) + 4) = (m : Int) + 4 := IntWalk.i64_in _ ⟨by omega, by omega⟩
      generalize hW : w.drewN n = W
      have hcW : ∀ j, j < l.length → W.cell? ⟨b, off + j, none⟩ = some (.int .u8 ((l.getD j 0).toNat : Int)) := fun j hj => by rw [← hW]; exact HC.out j hj
      have HCW := Lib.hid hcW
      have HW := Lib.hid hW
      have n1 : (l.drop (m + 4)).length = l.length - (m + 4) := by simp
      have n2 : (l.take (m + 4)).length = m + 4 := by simp; omega
      have hA : ∀ k, Calls Try.prog 24 #[.slice (some ⟨b, off + (m + 4), none⟩) (l.length - (m + 4)) (cap - (m + 4))] (W.drewN k) fun e w' => e = .returned (.int .i64 (num4 (l.drop (m + 4)) : Nat)) ∧ ∃ n, w' = (W.drewN k).drewN n := by
        intro k
        rw [← n1]
        refine rnumber_any b (off + (m + 4)) _ (l.drop (m + 4)) _ (by rw [n1]; omega) fun j hj => ?_
        rw [Nat.add_assoc, List.getD_eq_getElem?_getD, List.getElem?_drop, ← List.getD_eq_getElem?_getD]
        exact HCW.out (m + 4 + j) (by omega)
      have hB : ∀ k, Calls Try.prog 12 #[.slice (some ⟨b, off, none⟩) (m + 4) cap] (W.drewN k) fun e w' => e = .returned (.int .u32 (sumOf (l.take (m + 4)) : Nat)) ∧ w' = W.drewN k := by
        intro k
        have := rsum_some b off (l.take (m + 4)) cap (W.drewN k) (by omega) (fun j hj => by
          rw [n2] at hj
          rw [List.getD_eq_getElem?_getD, List.getElem?_take, if_pos hj, ← List.getD_eq_getElem?_getD]
          exact HCW.out j (by omega))
        rw [n2] at this
        exact this.mono fun _ _ h => ⟨h.1, h.2.symm⟩
      have HA := Lib.hid hA
      have HB := Lib.hid hB
      clear hA hB n1 n2 hW hcW
      have hxl := num4_lt (l.drop (m + 4))
      obtain ⟨x, hx⟩ : ∃ x, x = num4 (l.drop (m + 4)) := ⟨_, rfl⟩
      obtain ⟨y, hy⟩ : ∃ y, y = sumOf (l.take (m + 4)) := ⟨_, rfl⟩
      rw [← hx] at HA hxl
      rw [← hy] at HB
      have HX := Lib.hid hx
      have HY := Lib.hid hy
      clear hx hy
      have kx : IntKind.u32.wrap (x : Int) = (x : Int) := IntWalk.u32_in _ ⟨by omega, by omega⟩
      by_cases hxy : x = y
      · have hf : firstOf l = (m + 8, 0) := by
          have h2' := h2
          have h1' := h1
          unfold firstOf
          rw [HM.out] at h1' h2' ⊢
          rw [if_neg (by omega), if_neg h1', if_neg h2', ← HM.out, ← HX.out, ← HY.out, if_pos hxy]
        have HF := Lib.hid hf
        have e1 : ((x : Int) != (y : Int)) = false := by simp; omega
        clear hf hxy
        have k7 : (4 : Int) ≤ (m : Int) + 4 := by omega
        have k8 : ¬ cap = 4 := by omega
        go_quiet ((first | (go_at_call 24; exact Calls.quiet_of (HA.out _)) | (go_at_call 12; exact Calls.quiet_of_same (HB.out _))))
        go_wp2
        go_returns
        refine ⟨?_, n + nq, by rw [← HW.out, World.drewN_drewN]⟩
        rw [HF.out, if_pos rfl, ← HM.out]
        exact ret3 (v := .slice (some ⟨b, off + 4, none⟩) m (cap - 4)) (u := .int .i64 ((m : Int) + 8)) (x := .int .i64 0) rfl (by go_num) rfl
      · have hf : firstOf l = (0, 12) := by
          have h2' := h2
          have h1' := h1
          unfold firstOf
          rw [HM.out] at h1' h2'
          rw [if_neg (by omega), if_neg h1', if_neg h2', ← HM.out, ← HX.out, ← HY.out, if_neg hxy]
        have HF := Lib.hid hf
        have e1 : ((x : Int) != (y : Int)) = true := by simp; omega
        clear hf hxy
        go_quiet ((first | (go_at_call 24; exact Calls.quiet_of (HA.out _)) | (go_at_call 12; exact Calls.quiet_of_same (HB.out _))))
        go_wp2
        go_returns
        refine ⟨?_, n + nq, by rw [← HW.out, World.drewN_drewN]⟩
        rw [HF.out, if_neg (by decide)]
        rfl
end Go.Proofs.Ytihioccpnadieaa
