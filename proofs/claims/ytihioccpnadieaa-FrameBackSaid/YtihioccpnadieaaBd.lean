/- The walk of FrameBounds. -/
import Derived.Test.YtihioccpnadieaaTn
namespace Go.Proofs.Ytihioccpnadieaa
open Go.RowKit
set_option linter.unusedVariables false

set_option maxRecDepth 100000 in
set_option maxHeartbeats 2000000 in
theorem frameBounds.main (more : Int) (p : Nat) (t : UInt8) (w : World) (hp : (more < 0 ∧ wrap64 (-wrap64 (more + 1)) = (p : Int)) ∨ more = (p : Int)) :
    Calls Try.prog 8 #[.int .i64 more, .int .u8 (t.toNat : Int)] w fun e w' => e = .returned (.bool true) ∧ Below w.heap.size w w' := by
  obtain ⟨r, hr, fr⟩ : ∃ r : Nat, r < 3 ∧ (p : Int).tmod 3 = (r : Int) := ⟨p % 3, by omega, by rw [Int.tmod_eq_emod_of_nonneg (by omega)]; rfl⟩
  rcases hp with ⟨hp1, hp2⟩ | rfl
  all_goals
    go_enter Try.func8, Try.ntmps8
    go_wp2_with fail
    refine (awake_true _).mono ?_
    rintro e w1 ⟨rfl, hb1⟩
    obtain ⟨i0, hi, hz0, hz1, hz2⟩ := info_parts info5
    obtain ⟨w2, hmk, own2, gr2⟩ := run_make_full (P := Try.prog) w1 w.heap.size 22 5 i0 (.int .u8 0) 1 Try.underlying22 hi hz0 hz1 .i64 .i64 (4194305 + r) (by rw [hz2]; omega) (by unfold maxLen; omega) hb1.size
    have hcast : ((4194305 + r : Nat) : Int) = 4194305 + (r : Int) := by omega
    rw [hcast] at hmk
    rw [show (Value.int .u8 0).cells = #[.int .u8 0] from rfl, Nat.mul_one, toList_madeCells_one] at own2
    have hrep : List.replicate (4194305 + r) (Value.int .u8 0) = bv (List.replicate (4194305 + r) 0) := by simp [bv]
    rw [hrep] at own2
    obtain ⟨g, hg⟩ : ∃ g, g = w1.heap.size := ⟨_, rfl⟩
    have hgb : w.heap.size ≤ g := by rw [hg]; exact hb1.size
    rw [← hg] at own2 hmk
    have HB2 := Lib.hid (hb1.grown gr2 hb1.size (fun k hk => by cases hk))
    have OWN2 := Lib.hid own2
    have hcl := own2.cellAt 0 (by omega)
    rw [bv_get _ _ (by simp; omega)] at hcl
    have hfr := own2.frozenAt 0
    obtain ⟨v0, hv0⟩ : ∃ v0 : Int, v0 = ((((List.replicate (4194305 + r) (0 : UInt8)).getD 0 0).toNat : Nat) : Int) := ⟨_, rfl⟩
    rw [← hv0] at hcl
    have hst := (own2.stored 0 (.int .u8 (t.toNat : Int))).1
    rw [bv_set] at hst
    have hbt := HB2.out.setCell (p := ⟨g, 0, none⟩) hgb (.int .u8 (t.toNat : Int))
    obtain ⟨L0, hL0⟩ : ∃ L0, L0 = (List.replicate (4194305 + r) (0 : UInt8)).set 0 t := ⟨_, rfl⟩
    have hl0 : L0.length = 4194305 + r := by rw [hL0]; simp
    have ht0 : L0.getD 0 0 = t := by rw [hL0, List.getD_eq_getElem?_getD, List.getElem?_set, if_pos rfl, if_pos (by simp; omega)]; rfl
    rw [← hL0] at hst
    have HST := Lib.hid hst
    have HBT := Lib.hid hbt
    have HL0 := Lib.hid hl0
    have HT0 := Lib.hid ht0
    clear gr2 own2 hb1 hcast hrep hg hst hbt hL0 hv0 hl0 ht0
    go_wp2_with fail
    generalize hW3 : w2.setCell _ _ = w3 at *
    clear hW3
    obtain ⟨L, hL⟩ : ∃ L, L = L0.take 4194304 := ⟨_, rfl⟩
    have hll : L.length = 4194304 := by rw [hL, List.length_take, HL0.out]; omega
    have hlt : L.getD 0 0 = t := by rw [hL, List.getD_eq_getElem?_getD, List.getElem?_take, if_pos (by decide), ← List.getD_eq_getElem?_getD, HT0.out]
    have rdL : Rd w3 w3.heap.size (some ⟨g, 0, none⟩) (bv L) := by rw [hL, bv_take]; exact (Rd.of_own HST.out).take _
    have hfr3 := frame_any (some ⟨g, 0, none⟩) w3.heap.size L (4194305 + r) w3 rdL (by omega)
    unfold Made at hfr3
    rw [hll] at hfr3
    have HFR := Lib.hid hfr3
    have HLL := Lib.hid hll
    have HLT := Lib.hid hlt
    clear rdL hfr3 hll hlt hL HST HL0 HT0 OWN2
    refine (frame_big (some ⟨g, 0, none⟩) (4194305 + r) (4194305 + r) w3 (by omega)).mono ?_
    rintro e w3' ⟨rfl, rfl⟩
    go_wp2_with fail
    refine HFR.out.mono ?_
    rintro e w4 ⟨g4, c4, rfl, own4, bel4⟩
    have own4' : w4.ownsRow w3.heap.size 5 1 (.slice (some ⟨g4, 0, none⟩) 4194312 c4) 4194312 (bv (frameOf L)) := own4
    obtain ⟨_, _, hv4, hc4, hc4x, rd4⟩ := own_slice own4'
    cases hv4
    have hL := frameOf_length L
    rw [HLL.out] at hL
    have hok : firstOf (frameOf L) = (4194312, 0) := by
      have := firstOf_frame L [] (Nat.le_of_eq HLL.out)
      rw [HLL.out] at this
      simpa using this
    have hnx := next_ok (some ⟨g4, 0, none⟩) w4.heap.size (frameOf L) c4 w4 rd4 (by rw [hL]; exact hc4) (by rw [hL]; decide) hc4x (by rw [hok])
    have hn4 := num4_frame L (Nat.le_of_eq HLL.out)
    have hbd : ((frameOf L).drop 4).take 4194304 = L := by
      have := body_of_frame L []
      rw [HLL.out] at this
      simpa using this
    unfold Nexted at hnx
    rw [hL, hn4, HLL.out, hbd] at hnx
    have HNX := Lib.hid hnx
    have HB4 := Lib.hid (HBT.out.trans (bel4.mono HBT.out.size))
    clear own4 own4' rd4 hL hok hnx hn4 hbd bel4
    go_wp2_with fail
    refine HNX.out.mono ?_
    rintro e w5 ⟨A1, c1, A2, c5, rfl, hd1, hd2, own5, own6, bel5⟩
    obtain ⟨g1, _, hv5, _, hlt1⟩ := own5.form (by decide)
    cases hv5
    have hcl5 := own5.cellAt 0 (by decide)
    rw [bv_get _ _ (by rw [HLL.out]; decide), HLT.out] at hcl5
    have HB5 := Lib.hid (HB4.out.trans (bel5.mono HB4.out.size))
    have hbad : firstOf [1, 0, 64, 0, t] = (0, 11) := by
      unfold firstOf
      have : num4 [1, 0, 64, 0, t] = 4194305 := by simp [num4]
      rw [if_neg (by simp), if_pos (by rw [this]; decide)]
    have rd6 : Rd (w5.alloc (.cells (bv [1, 0, 64, 0, t]).toArray 5)) (w5.alloc (.cells (bv [1, 0, 64, 0, t]).toArray 5)).heap.size (some ⟨w5.heap.size, 0, none⟩) (bv [1, 0, 64, 0, t]) :=
      Rd.of_own (World.ownsRow_lit w5 (bv [1, 0, 64, 0, t]).toArray 5 (Nat.le_refl _) (by unfold maxLen; omega) rfl)
    have hnb := next_bad _ _ _ 5 _ rd6 (by simp) (by decide) (by rw [hbad]; decide)
    rw [hbad] at hnb
    have HNB := Lib.hid hnb
    clear own5 own6 bel5 hbad rd6 hnb
    go_wp2_with fail
    refine HNB.out.mono ?_
    rintro e w6 ⟨rfl, n6, rfl⟩
    go_wp2_with fail
    go_returns
    refine ⟨rfl, (HB5.out.alloc HB5.out.size _).drewN _⟩

theorem frameBounds.walk (a0 : Int) (a1 : Int) (w0 : (Lit.int .i64 a0).wf = true) (w1 : (Lit.int .u8 a1).wf = true) (w : World) :
    Calls Try.prog 8 #[.int .i64 a0, .int .u8 a1] w fun e w' => e = .returned (.bool true) ∧ Below w.heap.size w w' := by
  have h1 : -9223372036854775808 ≤ a0 ∧ a0 ≤ 9223372036854775807 := by rw [Go.Lit.wf_int_iff] at w0; simpa [IntKind.min, IntKind.max, IntKind.bits, IntKind.signed] using w0
  have h2 : 0 ≤ a1 ∧ a1 ≤ 255 := by rw [Go.Lit.wf_int_iff] at w1; simpa [IntKind.min, IntKind.max, IntKind.bits, IntKind.signed] using w1
  have ht : a1 = (((UInt8.ofNat a1.toNat).toNat : Nat) : Int) := by rw [UInt8.toNat_ofNat']; omega
  rw [ht]
  by_cases h0 : a0 < 0
  · refine frameBounds.main a0 (-(a0 + 1)).toNat _ w (.inl ⟨h0, ?_⟩)
    rw [IntWalk.wrap64_in (a0 + 1) ⟨by omega, by omega⟩, IntWalk.wrap64_in _ ⟨by omega, by omega⟩]
    omega
  · exact frameBounds.main a0 a0.toNat _ w (.inr (by omega))
end Go.Proofs.Ytihioccpnadieaa
