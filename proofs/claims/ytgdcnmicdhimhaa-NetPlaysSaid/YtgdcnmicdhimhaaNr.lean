/- The walk of NetPlays. -/
import Derived.Test.YtgdcnmicdhimhaaNq
import Derived.Deep.DeepCutAuto
import Derived.Deep.CutRange
import Derived.Deep.CutBlock
namespace Go.Proofs.Ytgdcnmicdhimhaa
open Go.RowKit
set_option linter.unusedVariables false

/-- The script that came in: what each deed's four cells hold. -/
def Acts (w : World) (A : Option Addr) (len : Nat) : Prop := ∀ i, i < len → ∃ (b off : Nat) (kd aa bb : Int) (Ab : Option Addr) (nb cb : Nat) (bl : List UInt8), A = some ⟨b, off, none⟩ ∧ b < w.heap.size ∧
  w.cell? ⟨b, off + i * 4, none⟩ = some (.int .i64 kd) ∧ w.cell? ⟨b, off + i * 4 + 1, none⟩ = some (.int .i64 aa) ∧ w.cell? ⟨b, off + i * 4 + 2, none⟩ = some (.int .i64 bb) ∧ w.cell? ⟨b, off + i * 4 + 3, none⟩ = some (.slice Ab nb cb) ∧
  bl.length = nb ∧ nb ≤ 9223372036854775807 ∧ Rd w w.heap.size Ab (bv bl) ∧ (Lit.int .i64 kd).wf = true

set_option maxRecDepth 100000 in
set_option maxHeartbeats 1000000 in
theorem netPlays.bad (nodes : Int) (A : Option Addr) (len cap : Nat) (w : World) (h : nodes < 1 ∨ 65536 < nodes) :
    Calls Try.prog 3 #[.int .i64 nodes, .slice A len cap] w fun e w' => e = .returned (.bool true) ∧ Below w.heap.size w w' := by
  have HN := Lib.hid (fun W => new_no nodes W h)
  by_cases h1 : nodes < 1
  · clear h
    go_enter Try.func3, Try.ntmps3
    go_wp2_with (first
      | (go_at_call 7; refine (awake_true _).mono ?_; rintro e w1 ⟨rfl, hb1⟩; (have HB1 := Lib.hid hb1); clear hb1)
      | (go_at_call 8; refine (HN.out _).mono ?_; rintro e w2 ⟨rfl, rfl⟩))
    go_returns
    exact ⟨rfl, HB1.out⟩
  · have h2 : 65536 < nodes := by omega
    clear h
    go_enter Try.func3, Try.ntmps3
    go_wp2_with (first
      | (go_at_call 7; refine (awake_true _).mono ?_; rintro e w1 ⟨rfl, hb1⟩; (have HB1 := Lib.hid hb1); clear hb1)
      | (go_at_call 8; refine (HN.out _).mono ?_; rintro e w2 ⟨rfl, rfl⟩))
    go_returns
    exact ⟨rfl, HB1.out⟩

/-- What holds ahead of each deed. -/
def Held (w wr : World) (B r mb kb : Nat) (nodes : Int) (i : Nat) : Prop :=
  ∃ (v : Value) (ps : List Pkt) (n : Nat) (par : Int → Int → Bool) (AL : Option Addr) (nL cL : Nat) (AP : Option Addr) (nP cP : Nat) (L : List Pk) (P : List (Int × Int)),
    Sys w wr B r mb kb nodes i v ps n par AL cL AP cP L P ∧ wr.heap[kb]? = some (Obj.cells #[.int .i64 nodes, .slice AL nL cL, .slice AP nP cP] 31 (0, 0)) ∧ L.length = nL ∧ P.length = nP

theorem Held.below {w W W' : World} {B r mb kb : Nat} {nodes : Int} {i : Nat} (h : Held w W B r mb kb nodes i) (hb : Below W.heap.size W W') : Held w W' B r mb kb nodes i := by
  obtain ⟨v, ps, n, par, AL, nL, cL, AP, nP, cP, L, P, hS, hbx, hnL, hnP⟩ := h
  exact ⟨v, ps, n, par, AL, nL, cL, AP, nP, cP, L, P, hS.below hb, (hb.block kb (lt_of_heap hbx)).trans hbx, hnL, hnP⟩

set_option maxRecDepth 100000 in
set_option maxHeartbeats 4000000 in
theorem netPlays.good (nodes : Int) (A : Option Addr) (len cap : Nat) (w : World) (h1 : 1 ≤ nodes) (h2 : nodes ≤ 65536) (hA : Acts w A len) (hlen : len ≤ 9223372036854775807) :
    Calls Try.prog 3 #[.int .i64 nodes, .slice A len cap] w fun e w' => e = .returned (.bool true) ∧ Below w.heap.size w w' := by
  have HA := Lib.hid hA
  clear hA
  go_enter Try.func3, Try.ntmps3
  go_upto_region 7 with (first
      | (go_at_call 7; refine (awake_true _).mono ?_; rintro e w1 ⟨rfl, hb1⟩; (have HB1 := Lib.hid hb1); clear hb1)
      | (go_at_call 8; refine (new_any nodes _ h1 h2).mono ?_; rintro e w2 ⟨r, rfl, ⟨v, mb, N2⟩, bel2⟩; (have HN2 := Lib.hid N2); (have BEL2 := Lib.hid bel2); clear N2 bel2))
  obtain ⟨B, hB⟩ : ∃ B, B = w1.heap.size := ⟨_, rfl⟩
  obtain ⟨kb, hkb⟩ : ∃ kb, kb = w2.heap.size := ⟨_, rfl⟩
  obtain ⟨W3, hW3⟩ : ∃ W3, W3 = w2.alloc (Obj.cells #[.int .i64 nodes, .slice none 0 0, .slice none 0 0] 31) := ⟨_, rfl⟩
  have bel3 : Below w2.heap.size w2 W3 := by rw [hW3]; exact (Below.refl _ _).alloc (Nat.le_refl _) _
  have hbx : W3.heap[kb]? = some (Obj.cells #[.int .i64 nodes, .slice none 0 0, .slice none 0 0] 31 (0, 0)) := by rw [hW3, hkb]; exact heap_alloc_new w2 _
  have hs1 := HB1.out.size
  have hs2 := BEL2.out.size
  have hN2 := HN2.out
  rw [← hB] at hN2
  have HS : Held w W3 B r mb kb nodes 0 := ⟨v, [], 0, _, none, 0, 0, none, 0, 0, [], [], ⟨hN2.below bel3, ⟨.inl rfl, .inl rfl, by simp, by omega, by simp, by omega⟩, ⟨_, _, _, hbx⟩, rfl, agree_nil, by simp, by simp, by omega, (fun p hp => by cases hp), (HB1.out.trans (BEL2.out.mono hs1)).trans (bel3.mono (by omega)), by rw [hB]; exact Nat.le_trans hs2 bel3.size, by rw [hB]; exact hs1, by omega⟩, hbx, rfl, rfl⟩
  have HHS := Lib.hid HS
  have HKB := Lib.hid hkb
  have HW3 := Lib.hid hW3
  clear HS hbx bel3 hN2 HN2 BEL2 hB hkb hW3 hs1 hs2
  go_wp2_with fail
  rw [← HKB.out, ← HW3.out]
  go_loopw [9] (fun x wr => ∃ i : Nat, x = .int .i64 i ∧ i ≤ len ∧ i ≤ 60 ∧ Hid (Held w wr B r mb kb nodes i)) (fun x _ => 60 - (intOf x).toNat)
  case atStart => exact ⟨0, rfl, by omega, by omega, HHS.out⟩
  obtain ⟨i, rfl, hi, hi60, HE⟩ := hrel
  by_cases hend : i < len
  · by_cases hend2 : i < 60
    · obtain ⟨v, ps, n, par, AL, nL, cL, AP, nP, cP, L, P, hS, hbx, hnL, hnP⟩ := HE.out
      obtain ⟨b, off, kd, aa, bb, Ab, nb, cb, bl, rfl, hbl, c0, c1, c2, c3, hbll, hnb, hrd, hwf⟩ := HA.out i hend
      have hbr : b < wr.heap.size := Nat.lt_of_lt_of_le hbl hS.bel.size
      have c0 := (hS.bel.cell hbl).trans c0
      have c1 := (hS.bel.cell hbl).trans c1
      have c2 := (hS.bel.cell hbl).trans c2
      have c3 := (hS.bel.cell hbl).trans c3
      obtain ⟨ka, hka⟩ : ∃ ka, ka = wr.heap.size := ⟨_, rfl⟩
      obtain ⟨W1, hW1⟩ : ∃ W1, W1 = wr.alloc (Obj.cells #[.int .i64 kd, .int .i64 aa, .int .i64 bb, .slice Ab nb cb] 34) := ⟨_, rfl⟩
      have bel1 : Below wr.heap.size wr W1 := by rw [hW1]; exact (Below.refl _ _).alloc (Nat.le_refl _) _
      have ha1 : W1.heap[ka]? = some (Obj.cells #[.int .i64 kd, .int .i64 aa, .int .i64 bb, .slice Ab nb cb] 34 (0, 0)) := by rw [hW1, hka]; exact heap_alloc_new wr _
      have hS1 := hS.below bel1
      have hbx1 : W1.heap[kb]? = _ := (bel1.block kb (lt_of_heap hbx)).trans hbx
      have HS1 := Lib.hid hS1
      have HBX1 := Lib.hid hbx1
      have HA1 := Lib.hid ha1
      have HNL := Lib.hid hnL
      have HNP := Lib.hid hnP
      have HW1 := Lib.hid hW1
      have HKA := Lib.hid hka
      have HRD := Lib.hid hrd
      have HBL := Lib.hid hbll
      have a1 : (0 : Int) ≤ (i : Int) := by omega
      have a2 : (i : Int) < (len : Int) := by omega
      have a3 : (i : Int) < 60 := by omega
      have x0 := cell_of_row W1 ka 0 _ _ _ ha1
      have x1 := cell_of_row W1 ka 1 _ _ _ ha1
      have x2 := cell_of_row W1 ka 2 _ _ _ ha1
      have x3 := cell_of_row W1 ka 3 _ _ _ ha1
      simp at x0 x1 x2 x3
      clear hS hbx hS1 hbx1 ha1 hnL hnP hrd bel1 hW1 hka hbll HE
      go_upto_region 12 with fail
      rw [← HKA.out, ← HW1.out]
      clear c0 c1 c2 c3
      by_cases hbig : 1000 < nb
      · have hbg : (1000 : Int) < (nb : Int) := by omega
        go_wp2_with fail
        go_returns
        exact ⟨rfl, HS1.out.bel⟩
      · have hbg : (nb : Int) ≤ 1000 := by omega
        go_upto_block 2 with fail
        go_cut [11, 12, 13, 14, 15, 16, 17, 18, 19, 20, 21, 22, 23, 24, 25] (fun c _ _ _ _ _ _ _ _ _ _ _ _ _ _ wx => c = .bool true ∧ Hid (Held w wx B r mb kb nodes (i + 1)) ∧ Hid (wx.heap[ka]? = some (Obj.cells #[.int .i64 kd, .int .i64 aa, .int .i64 bb, .slice Ab nb cb] 34 (0, 0))))
        case first =>
          by_cases hm0 : Int.tmod kd 6 = 0
          · have hm : (Int.tmod kd 6 == 0) = true := by simp [hm0]
            clear hm0
            go_wp2_with fail
            refine (take_u B r mb v nodes ps n par aa W1 HS1.out.net HS1.out.hB).mono ?_
            rintro e w2 ⟨fa, fb, Ap, kp, cp, lp, y, v', ps', rfl, N2, T2, rd2, hkp, htk, hle, hsub⟩
            have hbx2 := T2.quiet kb _ 31 _ HBX1.out (by decide) (by decide)
            have hac2 := T2.quiet ka _ 34 _ HA1.out (by decide) (by decide)
            have R2 := HS1.out.ref.quiet T2.quiet
            have hB2 := Nat.le_trans HS1.out.hB T2.below.size
            have bel2 : Below w.heap.size w w2 := HS1.out.bel.trans (T2.below.mono HS1.out.hwB)
            obtain ⟨kq, hkq⟩ : ∃ kq, kq = w2.heap.size := ⟨_, rfl⟩
            obtain ⟨W3, hW3⟩ : ∃ W3, W3 = w2.alloc (Obj.cells #[.int .i64 fa, .int .i64 fb, .slice Ap kp cp] 36) := ⟨_, rfl⟩
            have bel23 : Below w2.heap.size w2 W3 := by rw [hW3]; exact (Below.refl _ _).alloc (Nat.le_refl _) _
            have hq3 : W3.heap[kq]? = some (Obj.cells #[.int .i64 fa, .int .i64 fb, .slice Ap kp cp] 36 (0, 0)) := by rw [hW3, hkq]; exact heap_alloc_new w2 _
            have hbx3 := (bel23.block kb (lt_of_heap hbx2)).trans hbx2
            have hac3 := (bel23.block ka (lt_of_heap hac2)).trans hac2
            have y0 := cell_of_row W3 kb 0 _ _ _ hbx3
            have y1 := cell_of_row W3 kb 1 _ _ _ hbx3
            have y2 := cell_of_row W3 kb 2 _ _ _ hbx3
            have z1 := cell_of_row W3 ka 1 _ _ _ hac3
            simp at y0 y1 y2 z1
            have HRT := Lib.hid (rtake_u nodes AL AP nL cL nP cP aa L P W3 (R2.below bel23) HNL.out (by have := HS1.out.h1; rw [← HS1.out.key, List.length_map]; omega))
            have HTK := Lib.hid htk
            have HW3 := Lib.hid hW3
            have HKQ := Lib.hid hkq
            have HQ3 := Lib.hid hq3
            have HBX3 := Lib.hid hbx3
            have HAC3 := Lib.hid hac3
            have HN3 := Lib.hid (N2.below bel23)
            have HRD2 := Lib.hid (rd2.below bel23)
            have HB3 := Lib.hid (bel2.trans (bel23.mono bel2.size))
            have HBB3 := Lib.hid (Nat.le_trans hB2 bel23.size)
            have HKP := Lib.hid hkp
            have HLE := Lib.hid hle
            have HSUB := Lib.hid hsub
            clear N2 T2 rd2 hkp htk hle hsub hbx2 hac2 R2 hB2 bel2 hkq hW3 bel23 hq3 hbx3 hac3
            go_upto_region 22 with fail
            rw [← HKQ.out, ← HW3.out]
            go_wp2_with fail
            refine HRT.out.mono ?_
            rintro e w4 ⟨A', n', c', L', q, y', rfl, R4, hl', htk', bel4⟩
            have htk := HTK.out
            rw [HS1.out.key, htk'] at htk
            simp only [Prod.mk.injEq] at htk
            obtain ⟨rfl, rfl, hL'⟩ := htk
            have HR4 := Lib.hid R4
            have HLN := Lib.hid hl'
            have HL' := Lib.hid hL'
            have HBX4 := Lib.hid ((bel4.block kb (lt_of_heap HBX3.out)).trans HBX3.out)
            have HAC4 := Lib.hid ((bel4.block ka (lt_of_heap HAC3.out)).trans HAC3.out)
            have HQ4 := Lib.hid ((bel4.block kq (lt_of_heap HQ3.out)).trans HQ3.out)
            have HN4 := Lib.hid (HN3.out.below bel4)
            have HRD4 := Lib.hid (HRD2.out.below bel4)
            have HB4 := Lib.hid (HB3.out.trans (bel4.mono HB3.out.size))
            have HBB4 := Lib.hid (Nat.le_trans HBB3.out bel4.size)
            clear R4 hl' hL' bel4 htk' y0 y1 y2 z1
            obtain ⟨W5, hW5⟩ : ∃ W5, W5 = (w4.alloc (Obj.cells #[.int .i64 nodes, .slice A' n' c', .slice AP nP cP] 31)).alloc (Obj.cells #[.int .i64 fa, .int .i64 fb, .string ⟨lp.toArray⟩] 40) := ⟨_, rfl⟩
            obtain ⟨kt, hkt⟩ : ∃ kt, kt = w4.heap.size + 1 := ⟨_, rfl⟩
            obtain ⟨ku, hku⟩ : ∃ ku, ku = w4.heap.size := ⟨_, rfl⟩
            have bel45 : Below w4.heap.size w4 W5 := by rw [hW5]; exact ((Below.refl _ _).alloc (Nat.le_refl _) _).alloc (by simp) _
            have ht5 : W5.heap[kt]? = some (Obj.cells #[.int .i64 fa, .int .i64 fb, .string ⟨lp.toArray⟩] 40 (0, 0)) := by
              rw [hW5, hkt]
              have := heap_alloc_new (w4.alloc (Obj.cells #[.int .i64 nodes, .slice A' n' c', .slice AP nP cP] 31)) (Obj.cells #[.int .i64 fa, .int .i64 fb, .string ⟨lp.toArray⟩] 40)
              simpa using this
            have hu5 : W5.heap[ku]? = some (Obj.cells #[.int .i64 nodes, .slice A' n' c', .slice AP nP cP] 31 (0, 0)) := by
              rw [hW5, hku, Below.heap_alloc _ _ _ (by simp)]
              exact heap_alloc_new w4 _
            have hbx5 := (bel45.block kb (lt_of_heap HBX4.out)).trans HBX4.out
            have hac5 := (bel45.block ka (lt_of_heap HAC4.out)).trans HAC4.out
            have hq5 := (bel45.block kq (lt_of_heap HQ4.out)).trans HQ4.out
            have t0 := cell_of_row W5 ku 0 _ _ _ hu5
            have t1 := cell_of_row W5 ku 1 _ _ _ hu5
            have t2 := cell_of_row W5 ku 2 _ _ _ hu5
            have y0 := cell_of_row W5 kb 0 _ _ _ hbx5
            have y1 := cell_of_row W5 kb 1 _ _ _ hbx5
            have y2 := cell_of_row W5 kb 2 _ _ _ hbx5
            simp at t0 t1 t2 y0 y1 y2
            have g5 := fun i => free_at hbx5 i
            obtain ⟨W6, hW6⟩ : ∃ W6, W6 = ((W5.setCell ⟨kb, 0, none⟩ (.int .i64 nodes)).setCell ⟨kb, 1, none⟩ (.slice A' n' c')).setCell ⟨kb, 2, none⟩ (.slice AP nP cP) := ⟨_, rfl⟩
            have hS5 : Sys w W5 B r mb kb nodes (i + 1) v' ps' n par A' c' AP cP L' P := ⟨HN4.out.below bel45, HR4.out.below bel45, ⟨_, _, _, hbx5⟩, HL'.out.symm, HS1.out.agree, by have := HS1.out.h1; have := HLE.out; omega, by have := HS1.out.h2; omega, by have := HS1.out.h3; omega, fun p hp => HS1.out.hb p (HSUB.out p hp), HB4.out.trans (bel45.mono HB4.out.size), Nat.le_trans HBB4.out bel45.size, HS1.out.hwB, HS1.out.hkb⟩
            have hS6 := hS5.put (.int .i64 nodes) (.slice A' n' c') (.slice AP nP cP)
            have hbx6 := box_put hbx5 (.int .i64 nodes) (.slice A' n' c') (.slice AP nP cP)
            have hne : ∀ k o t, W5.heap[k]? = some (Obj.cells o t (0, 0)) → t ≠ 31 → k ≠ kb := by
              intro k o t hk ht e
              rw [e, hbx5] at hk
              injection hk with hk
              injection hk with _ hk
              exact ht hk.symm
            have hq6 := far_put hq5 (hne _ _ _ hq5 (by decide)) (.int .i64 nodes) (.slice A' n' c') (.slice AP nP cP)
            have ht6 := far_put ht5 (hne _ _ _ ht5 (by decide)) (.int .i64 nodes) (.slice A' n' c') (.slice AP nP cP)
            have hac6 := far_put hac5 (hne _ _ _ hac5 (by decide)) (.int .i64 nodes) (.slice A' n' c') (.slice AP nP cP)
            rw [← hW6] at hS6 hbx6 hq6 ht6 hac6
            have hrd6 : RdT W6 5 Ap (bv lp) := by
              rw [hW6]
              exact (((HRD4.out.below bel45).set hbx5 (by decide) 0 _).set (heap_set' hbx5 kb 0 _).choose_spec (by decide) 1 _).set (heap_set' (heap_set' hbx5 kb 0 _).choose_spec kb 1 _).choose_spec (by decide) 2 _
            have cv := conv_any (W := W6) kp cp HKP.out hrd6.rd
            have q0 := cell_of_row W6 kq 0 _ _ _ hq6
            have q1 := cell_of_row W6 kq 1 _ _ _ hq6
            have q2 := cell_of_row W6 kq 2 _ _ _ hq6
            have s0 := cell_of_row W6 kt 0 _ _ _ ht6
            have s1 := cell_of_row W6 kt 1 _ _ _ ht6
            have s2 := cell_of_row W6 kt 2 _ _ _ ht6
            simp at q0 q1 q2 s0 s1 s2
            have HEND := Lib.hid (show Held w W6 B r mb kb nodes (i + 1) from ⟨v', ps', n, par, A', n', c', AP, nP, cP, L', P, hS6, hbx6, HLN.out, HNP.out⟩)
            have HAC6 := Lib.hid hac6
            have HW5 := Lib.hid hW5
            have HW6 := Lib.hid hW6
            have HKT := Lib.hid hkt
            have HKU := Lib.hid hku
            clear hW5 hW6 hkt hku bel45 ht5 hu5 hbx5 hac5 hq5 hS5 hS6 hbx6 hne hq6 ht6 hac6 hrd6
            go_upto_region 23 with fail
            rw [← HKT.out, ← HW5.out, ← HKU.out]
            go_upto_region 24 with fail
            rw [← HW6.out]
            clear t0 t1 t2 y0 y1 y2
            go_wp2_with fail
            go_meet
            exact ⟨rfl, HEND.out, HAC6.out⟩
          · have hma : (Int.tmod kd 6 == 0) = false := by simp [hm0]
            clear hm0
            by_cases hm1 : Int.tmod kd 6 = 1
            · have hm : (Int.tmod kd 6 == 1) = true := by simp [hm1]
              clear hm1
              go_wp2_with fail
              refine (twice_u B r mb v nodes ps n par aa W1 HS1.out.net HS1.out.hB (by have := HS1.out.h1; omega) HS1.out.hb).mono ?_
              rintro e w2 ⟨y, v', ps', rfl, N2, T2, htk, hle, hb'⟩
              have HTK := Lib.hid htk
              have HLE := Lib.hid hle
              have HBB := Lib.hid hb'
              have hbx2 := T2.quiet kb _ 31 _ HBX1.out (by decide) (by decide)
              have hac2 := T2.quiet ka _ 34 _ HA1.out (by decide) (by decide)
              have R2 := HS1.out.ref.quiet T2.quiet
              have HB2 := Lib.hid (Nat.le_trans HS1.out.hB T2.below.size)
              have bel2 : Below w.heap.size w w2 := HS1.out.bel.trans (T2.below.mono HS1.out.hwB)
              have HBEL2 := Lib.hid bel2
              have y0 := cell_of_row w2 kb 0 _ _ _ hbx2
              have y1 := cell_of_row w2 kb 1 _ _ _ hbx2
              have y2 := cell_of_row w2 kb 2 _ _ _ hbx2
              have z1 := cell_of_row w2 ka 1 _ _ _ hac2
              have z2 := cell_of_row w2 ka 2 _ _ _ hac2
              have z3 := cell_of_row w2 ka 3 _ _ _ hac2
              simp at y0 y1 y2 z1 z2 z3
              have HBX2 := Lib.hid hbx2
              have HAC2 := Lib.hid hac2
              have HN2 := Lib.hid N2
              have HRT := Lib.hid (rtwice_u nodes AL AP nL cL nP cP aa L P w2 R2 HNL.out (by have := HS1.out.h1; rw [← HS1.out.key, List.length_map]; omega))
              clear N2 T2 hbx2 hac2 R2 bel2 htk hle hb'
              go_wp2_with fail
              refine HRT.out.mono ?_
              rintro e w4 ⟨A', n', c', L', y', rfl, R4, hl', htk', bel4⟩
              have htk := HTK.out
              rw [HS1.out.key, htk'] at htk
              simp only [Prod.mk.injEq] at htk
              obtain ⟨rfl, hL'⟩ := htk
              have HL' := Lib.hid hL'
              have HLN := Lib.hid hl'
              clear hL' hl' htk'
              have HR4 := Lib.hid R4
              have HBX4 := Lib.hid ((bel4.block kb (lt_of_heap HBX2.out)).trans HBX2.out)
              have HAC4 := Lib.hid ((bel4.block ka (lt_of_heap HAC2.out)).trans HAC2.out)
              have HN4 := Lib.hid (HN2.out.below bel4)
              have HB4 := Lib.hid (HBEL2.out.trans (bel4.mono HBEL2.out.size))
              have HBB4 := Lib.hid (Nat.le_trans HB2.out bel4.size)
              clear R4 bel4 y0 y1 y2 z1 z2 z3
              obtain ⟨W5, hW5⟩ : ∃ W5, W5 = w4.alloc (Obj.cells #[.int .i64 nodes, .slice A' n' c', .slice AP nP cP] 31) := ⟨_, rfl⟩
              obtain ⟨ku, hku⟩ : ∃ ku, ku = w4.heap.size := ⟨_, rfl⟩
              have bel45 : Below w4.heap.size w4 W5 := by rw [hW5]; exact (Below.refl _ _).alloc (Nat.le_refl _) _
              have hu5 : W5.heap[ku]? = some (Obj.cells #[.int .i64 nodes, .slice A' n' c', .slice AP nP cP] 31 (0, 0)) := by
                rw [hW5, hku]
                exact heap_alloc_new w4 _
              have hbx5 := (bel45.block kb (lt_of_heap HBX4.out)).trans HBX4.out
              have hac5 := (bel45.block ka (lt_of_heap HAC4.out)).trans HAC4.out
              have t0 := cell_of_row W5 ku 0 _ _ _ hu5
              have t1 := cell_of_row W5 ku 1 _ _ _ hu5
              have t2 := cell_of_row W5 ku 2 _ _ _ hu5
              have y0 := cell_of_row W5 kb 0 _ _ _ hbx5
              have y1 := cell_of_row W5 kb 1 _ _ _ hbx5
              have y2 := cell_of_row W5 kb 2 _ _ _ hbx5
              simp at t0 t1 t2 y0 y1 y2
              have g5 := fun i => free_at hbx5 i
              obtain ⟨W6, hW6⟩ : ∃ W6, W6 = ((W5.setCell ⟨kb, 0, none⟩ (.int .i64 nodes)).setCell ⟨kb, 1, none⟩ (.slice A' n' c')).setCell ⟨kb, 2, none⟩ (.slice AP nP cP) := ⟨_, rfl⟩
              have hS5 : Sys w W5 B r mb kb nodes (i + 1) v' ps' n par A' c' AP cP L' P := ⟨HN4.out.below bel45, HR4.out.below bel45, ⟨_, _, _, hbx5⟩, HL'.out.symm, HS1.out.agree, by have := HS1.out.h1; have := HLE.out; omega, by have := HS1.out.h2; omega, by have := HS1.out.h3; omega, HBB.out, HB4.out.trans (bel45.mono HB4.out.size), Nat.le_trans HBB4.out bel45.size, HS1.out.hwB, HS1.out.hkb⟩
              have hS6 := hS5.put (.int .i64 nodes) (.slice A' n' c') (.slice AP nP cP)
              have hbx6 := box_put hbx5 (.int .i64 nodes) (.slice A' n' c') (.slice AP nP cP)
              have hne : ∀ k o t, W5.heap[k]? = some (Obj.cells o t (0, 0)) → t ≠ 31 → k ≠ kb := by
                intro k o t hk ht e
                rw [e, hbx5] at hk
                injection hk with hk
                injection hk with _ hk
                exact ht hk.symm
              have hac6 := far_put hac5 (hne _ _ _ hac5 (by decide)) (.int .i64 nodes) (.slice A' n' c') (.slice AP nP cP)
              rw [← hW6] at hS6 hbx6 hac6
              have HEND := Lib.hid (show Held w W6 B r mb kb nodes (i + 1) from ⟨v', ps', n, par, A', n', c', AP, nP, cP, L', P, hS6, hbx6, HLN.out, HNP.out⟩)
              have HAC6 := Lib.hid hac6
              have HW5 := Lib.hid hW5
              have HW6 := Lib.hid hW6
              have HKU := Lib.hid hku
              clear hW5 hW6 hku bel45 hu5 hbx5 hac5 hS5 hS6 hbx6 hne hac6
              go_upto_region 28 with fail
              rw [← HW5.out, ← HKU.out]
              go_upto_region 29 with fail
              rw [← HW6.out]
              clear t0 t1 t2 y0 y1 y2
              go_wp2_with fail
              go_meet
              exact ⟨rfl, HEND.out, HAC6.out⟩
            · have hmb : (Int.tmod kd 6 == 1) = false := by simp [hm1]
              clear hm1
              by_cases hm2 : Int.tmod kd 6 = 2
              · have hm : (Int.tmod kd 6 == 2) = true := by simp [hm2]
                clear hm2
                go_wp2_with fail
                refine (part_u B r mb v nodes ps n par aa bb _ P W1 HS1.out.net h2 HS1.out.hB (by have := HS1.out.h3; omega) HS1.out.agree).mono ?_
                rintro e w2 ⟨np, par', rfl, N2, T2, hle, hag⟩
                have HLE := Lib.hid hle
                have hbx2 := T2.quiet kb _ 31 _ HBX1.out (by decide) (by decide)
                have hac2 := T2.quiet ka _ 34 _ HA1.out (by decide) (by decide)
                have R2 := HS1.out.ref.quiet T2.quiet
                have HB2 := Lib.hid (Nat.le_trans HS1.out.hB T2.below.size)
                have bel2 : Below w.heap.size w w2 := HS1.out.bel.trans (T2.below.mono HS1.out.hwB)
                have HBEL2 := Lib.hid bel2
                have y0 := cell_of_row w2 kb 0 _ _ _ hbx2
                have y1 := cell_of_row w2 kb 1 _ _ _ hbx2
                have y2 := cell_of_row w2 kb 2 _ _ _ hbx2
                have z1 := cell_of_row w2 ka 1 _ _ _ hac2
                have z2 := cell_of_row w2 ka 2 _ _ _ hac2
                have z3 := cell_of_row w2 ka 3 _ _ _ hac2
                simp at y0 y1 y2 z1 z2 z3
                have HBX2 := Lib.hid hbx2
                have HAC2 := Lib.hid hac2
                have HN2 := Lib.hid N2
                have HRT := Lib.hid (fun pt => rpart_u nodes aa bb AL AP nL cL nP cP pt L P w2 R2 HNP.out (by have := HS1.out.h2; omega))
                clear N2 T2 hbx2 hac2 R2 bel2 hle
                go_wp2_with fail
                refine (HRT.out _).mono ?_
                rintro e w4 ⟨A', n', c', rfl, R4, hl', bel4⟩
                have HLN := Lib.hid hl'
                have HAG := Lib.hid hag
                clear hl' hag
                have HR4 := Lib.hid R4
                have HBX4 := Lib.hid ((bel4.block kb (lt_of_heap HBX2.out)).trans HBX2.out)
                have HAC4 := Lib.hid ((bel4.block ka (lt_of_heap HAC2.out)).trans HAC2.out)
                have HN4 := Lib.hid (HN2.out.below bel4)
                have HB4 := Lib.hid (HBEL2.out.trans (bel4.mono HBEL2.out.size))
                have HBB4 := Lib.hid (Nat.le_trans HB2.out bel4.size)
                clear R4 bel4 y0 y1 y2 z1 z2 z3
                obtain ⟨W5, hW5⟩ : ∃ W5, W5 = w4.alloc (Obj.cells #[.int .i64 nodes, .slice AL nL cL, .slice A' n' c'] 31) := ⟨_, rfl⟩
                obtain ⟨ku, hku⟩ : ∃ ku, ku = w4.heap.size := ⟨_, rfl⟩
                have bel45 : Below w4.heap.size w4 W5 := by rw [hW5]; exact (Below.refl _ _).alloc (Nat.le_refl _) _
                have hu5 : W5.heap[ku]? = some (Obj.cells #[.int .i64 nodes, .slice AL nL cL, .slice A' n' c'] 31 (0, 0)) := by
                  rw [hW5, hku]
                  exact heap_alloc_new w4 _
                have hbx5 := (bel45.block kb (lt_of_heap HBX4.out)).trans HBX4.out
                have hac5 := (bel45.block ka (lt_of_heap HAC4.out)).trans HAC4.out
                have t0 := cell_of_row W5 ku 0 _ _ _ hu5
                have t1 := cell_of_row W5 ku 1 _ _ _ hu5
                have t2 := cell_of_row W5 ku 2 _ _ _ hu5
                have y0 := cell_of_row W5 kb 0 _ _ _ hbx5
                have y1 := cell_of_row W5 kb 1 _ _ _ hbx5
                have y2 := cell_of_row W5 kb 2 _ _ _ hbx5
                simp at t0 t1 t2 y0 y1 y2
                have g5 := fun i => free_at hbx5 i
                obtain ⟨W6, hW6⟩ : ∃ W6, W6 = ((W5.setCell ⟨kb, 0, none⟩ (.int .i64 nodes)).setCell ⟨kb, 1, none⟩ (.slice AL nL cL)).setCell ⟨kb, 2, none⟩ (.slice A' n' c') := ⟨_, rfl⟩
                have hS5 : Sys w W5 B r mb kb nodes (i + 1) v ps np par' AL cL A' c' L (partL nodes aa bb (decide ((nb : Int) % 2 = 1)) P) := ⟨HN4.out.below bel45, HR4.out.below bel45, ⟨_, _, _, hbx5⟩, HS1.out.key, HAG.out, by have := HS1.out.h1; omega, by have := HS1.out.h2; have := partL_len nodes aa bb (decide ((nb : Int) % 2 = 1)) P; omega, by have := HS1.out.h3; have := HLE.out; omega, HS1.out.hb, HB4.out.trans (bel45.mono HB4.out.size), Nat.le_trans HBB4.out bel45.size, HS1.out.hwB, HS1.out.hkb⟩
                have hS6 := hS5.put (.int .i64 nodes) (.slice AL nL cL) (.slice A' n' c')
                have hbx6 := box_put hbx5 (.int .i64 nodes) (.slice AL nL cL) (.slice A' n' c')
                have hne : ∀ k o t, W5.heap[k]? = some (Obj.cells o t (0, 0)) → t ≠ 31 → k ≠ kb := by
                  intro k o t hk ht e
                  rw [e, hbx5] at hk
                  injection hk with hk
                  injection hk with _ hk
                  exact ht hk.symm
                have hac6 := far_put hac5 (hne _ _ _ hac5 (by decide)) (.int .i64 nodes) (.slice AL nL cL) (.slice A' n' c')
                rw [← hW6] at hS6 hbx6 hac6
                have HEND := Lib.hid (show Held w W6 B r mb kb nodes (i + 1) from ⟨v, ps, np, par', AL, nL, cL, A', n', c', L, _, hS6, hbx6, HNL.out, HLN.out⟩)
                have HAC6 := Lib.hid hac6
                have HW5 := Lib.hid hW5
                have HW6 := Lib.hid hW6
                have HKU := Lib.hid hku
                clear hW5 hW6 hku bel45 hu5 hbx5 hac5 hS5 hS6 hbx6 hne hac6
                go_upto_region 33 with fail
                rw [← HW5.out, ← HKU.out]
                go_upto_region 34 with fail
                rw [← HW6.out]
                clear t0 t1 t2 y0 y1 y2
                go_wp2_with fail
                go_meet
                exact ⟨rfl, HEND.out, HAC6.out⟩
              · have hmc : (Int.tmod kd 6 == 2) = false := by simp [hm2]
                clear hm2
                go_wp2_with fail
                refine (send_u B r mb v nodes ps n par aa bb Ab bl nb cb w.heap.size W1 HS1.out.net h2 HS1.out.hB (by have := HS1.out.h1; omega) HBL.out (by omega) (HRD.out.below HS1.out.bel) HS1.out.hb).mono ?_
                rintro e w2 ⟨v', ps', rfl, N2, T2, htk, hle, hb'⟩
                have HTK := Lib.hid htk
                have HLE := Lib.hid hle
                have HBB := Lib.hid hb'
                have hbx2 := T2.quiet kb _ 31 _ HBX1.out (by decide) (by decide)
                have hac2 := T2.quiet ka _ 34 _ HA1.out (by decide) (by decide)
                have R2 := HS1.out.ref.quiet T2.quiet
                have HB2 := Lib.hid (Nat.le_trans HS1.out.hB T2.below.size)
                have bel2 : Below w.heap.size w w2 := HS1.out.bel.trans (T2.below.mono HS1.out.hwB)
                have HBEL2 := Lib.hid bel2
                have y0 := cell_of_row w2 kb 0 _ _ _ hbx2
                have y1 := cell_of_row w2 kb 1 _ _ _ hbx2
                have y2 := cell_of_row w2 kb 2 _ _ _ hbx2
                have z1 := cell_of_row w2 ka 1 _ _ _ hac2
                have z2 := cell_of_row w2 ka 2 _ _ _ hac2
                have z3 := cell_of_row w2 ka 3 _ _ _ hac2
                simp at y0 y1 y2 z1 z2 z3
                have HBX2 := Lib.hid hbx2
                have HAC2 := Lib.hid hac2
                have HN2 := Lib.hid N2
                have HRT := Lib.hid (rsend_u nodes aa bb AL AP nL cL nP cP bl L P w2 R2 HNL.out HNP.out (by have := HS1.out.h1; rw [← HS1.out.key, List.length_map]; omega))
                have cv2 := conv_any (W := w2) nb cb HBL.out (HRD.out.below bel2)
                clear N2 T2 hbx2 hac2 R2 bel2 htk hle hb'
                go_wp2_with fail
                refine HRT.out.mono ?_
                rintro e w4 ⟨A', n', c', L', rfl, R4, hl', htk', bel4⟩
                have htk := HTK.out
                rw [HS1.out.key, agree_link HS1.out.agree nodes aa bb, ← htk'] at htk
                have HL' := Lib.hid htk
                have HLN := Lib.hid hl'
                clear htk hl' htk' cv2
                have HR4 := Lib.hid R4
                have HBX4 := Lib.hid ((bel4.block kb (lt_of_heap HBX2.out)).trans HBX2.out)
                have HAC4 := Lib.hid ((bel4.block ka (lt_of_heap HAC2.out)).trans HAC2.out)
                have HN4 := Lib.hid (HN2.out.below bel4)
                have HB4 := Lib.hid (HBEL2.out.trans (bel4.mono HBEL2.out.size))
                have HBB4 := Lib.hid (Nat.le_trans HB2.out bel4.size)
                clear R4 bel4 y0 y1 y2 z1 z2 z3
                obtain ⟨W5, hW5⟩ : ∃ W5, W5 = w4.alloc (Obj.cells #[.int .i64 nodes, .slice A' n' c', .slice AP nP cP] 31) := ⟨_, rfl⟩
                obtain ⟨ku, hku⟩ : ∃ ku, ku = w4.heap.size := ⟨_, rfl⟩
                have bel45 : Below w4.heap.size w4 W5 := by rw [hW5]; exact (Below.refl _ _).alloc (Nat.le_refl _) _
                have hu5 : W5.heap[ku]? = some (Obj.cells #[.int .i64 nodes, .slice A' n' c', .slice AP nP cP] 31 (0, 0)) := by
                  rw [hW5, hku]
                  exact heap_alloc_new w4 _
                have hbx5 := (bel45.block kb (lt_of_heap HBX4.out)).trans HBX4.out
                have hac5 := (bel45.block ka (lt_of_heap HAC4.out)).trans HAC4.out
                have t0 := cell_of_row W5 ku 0 _ _ _ hu5
                have t1 := cell_of_row W5 ku 1 _ _ _ hu5
                have t2 := cell_of_row W5 ku 2 _ _ _ hu5
                have y0 := cell_of_row W5 kb 0 _ _ _ hbx5
                have y1 := cell_of_row W5 kb 1 _ _ _ hbx5
                have y2 := cell_of_row W5 kb 2 _ _ _ hbx5
                simp at t0 t1 t2 y0 y1 y2
                have g5 := fun i => free_at hbx5 i
                obtain ⟨W6, hW6⟩ : ∃ W6, W6 = ((W5.setCell ⟨kb, 0, none⟩ (.int .i64 nodes)).setCell ⟨kb, 1, none⟩ (.slice A' n' c')).setCell ⟨kb, 2, none⟩ (.slice AP nP cP) := ⟨_, rfl⟩
                have hS5 : Sys w W5 B r mb kb nodes (i + 1) v' ps' n par A' c' AP cP L' P := ⟨HN4.out.below bel45, HR4.out.below bel45, ⟨_, _, _, hbx5⟩, HL'.out, HS1.out.agree, by have := HS1.out.h1; have := HLE.out; omega, by have := HS1.out.h2; omega, by have := HS1.out.h3; omega, HBB.out, HB4.out.trans (bel45.mono HB4.out.size), Nat.le_trans HBB4.out bel45.size, HS1.out.hwB, HS1.out.hkb⟩
                have hS6 := hS5.put (.int .i64 nodes) (.slice A' n' c') (.slice AP nP cP)
                have hbx6 := box_put hbx5 (.int .i64 nodes) (.slice A' n' c') (.slice AP nP cP)
                have hne : ∀ k o t, W5.heap[k]? = some (Obj.cells o t (0, 0)) → t ≠ 31 → k ≠ kb := by
                  intro k o t hk ht e
                  rw [e, hbx5] at hk
                  injection hk with hk
                  injection hk with _ hk
                  exact ht hk.symm
                have hac6 := far_put hac5 (hne _ _ _ hac5 (by decide)) (.int .i64 nodes) (.slice A' n' c') (.slice AP nP cP)
                rw [← hW6] at hS6 hbx6 hac6
                have HEND := Lib.hid (show Held w W6 B r mb kb nodes (i + 1) from ⟨v', ps', n, par, A', n', c', AP, nP, cP, L', P, hS6, hbx6, HLN.out, HNP.out⟩)
                have HAC6 := Lib.hid hac6
                have HW5 := Lib.hid hW5
                have HW6 := Lib.hid hW6
                have HKU := Lib.hid hku
                clear hW5 hW6 hku bel45 hu5 hbx5 hac5 hS5 hS6 hbx6 hne hac6
                go_upto_region 18 with fail
                rw [← HW5.out, ← HKU.out]
                go_upto_region 19 with fail
                rw [← HW6.out]
                clear t0 t1 t2 y0 y1 y2
                go_wp2_with fail
                go_meet
                exact ⟨rfl, HEND.out, HAC6.out⟩
        case rest =>
          obtain ⟨rfl, HE2, HAC⟩ := hcut
          obtain ⟨v, ps, n, par, AL, nL, cL, AP, nP, cP, L, P, hS, hbx, hnL, hnP⟩ := HE2.out
          have HIS := Lib.hid (is_any B r mb v nodes ps n par aa bb AL AP nL cL nP cP L P wc hS.net h2 hS.ref hS.key hnL hnP (agree_link hS.agree nodes aa bb) (by have := hS.h1; omega) (fun p hp => by have := hS.hb p hp; omega))
          have y0 := cell_of_row wc kb 0 _ _ _ hbx
          have y1 := cell_of_row wc kb 1 _ _ _ hbx
          have y2 := cell_of_row wc kb 2 _ _ _ hbx
          have z1 := cell_of_row wc ka 1 _ _ _ HAC.out
          have z2 := cell_of_row wc ka 2 _ _ _ HAC.out
          simp at y0 y1 y2 z1 z2
          clear hS hbx hnL hnP x0 x1 x2 x3
          go_wp2_with fail
          refine HIS.out.mono ?_
          rintro e w5 ⟨rfl, bel5⟩
          have HE5 := Lib.hid (HE2.out.below bel5)
          clear bel5 y0 y1 y2 z1 z2
          go_wp2_with fail
          go_roundw
          case rel => exact ⟨i + 1, by go_num, by omega, by omega, HE5.out⟩
          case measure => simp [intOf]; omega
    · have hge : (60 : Int) ≤ (i : Int) := by omega
      have hlt : (i : Int) < (len : Int) := by omega
      obtain ⟨v, ps, n, par, AL, nL, cL, AP, nP, cP, L, P, hS, hbx, hnL, hnP⟩ := HE.out
      have HIS := Lib.hid (is_any B r mb v nodes ps n par 0 1 AL AP nL cL nP cP L P wr hS.net h2 hS.ref hS.key hnL hnP (agree_link hS.agree nodes 0 1) (by have := hS.h1; omega) (fun p hp => by have := hS.hb p hp; omega))
      have y0 := cell_of_row wr kb 0 _ _ _ hbx
      have y1 := cell_of_row wr kb 1 _ _ _ hbx
      have y2 := cell_of_row wr kb 2 _ _ _ hbx
      simp at y0 y1 y2
      have HBW := Lib.hid hS.bel
      clear hS hbx hnL hnP HE
      go_wp2_with fail
      refine HIS.out.mono ?_
      rintro e w5 ⟨rfl, bel5⟩
      have HB5 := Lib.hid (HBW.out.trans (bel5.mono HBW.out.size))
      clear bel5
      go_wp2_with fail
      go_returns
      exact ⟨rfl, HB5.out⟩
  · have hge : (len : Int) ≤ (i : Int) := by omega
    obtain ⟨v, ps, n, par, AL, nL, cL, AP, nP, cP, L, P, hS, hbx, hnL, hnP⟩ := HE.out
    have HIS := Lib.hid (is_any B r mb v nodes ps n par 0 1 AL AP nL cL nP cP L P wr hS.net h2 hS.ref hS.key hnL hnP (agree_link hS.agree nodes 0 1) (by have := hS.h1; omega) (fun p hp => by have := hS.hb p hp; omega))
    have y0 := cell_of_row wr kb 0 _ _ _ hbx
    have y1 := cell_of_row wr kb 1 _ _ _ hbx
    have y2 := cell_of_row wr kb 2 _ _ _ hbx
    simp at y0 y1 y2
    have HBW := Lib.hid hS.bel
    clear hS hbx hnL hnP HE
    go_wp2_with fail
    refine HIS.out.mono ?_
    rintro e w5 ⟨rfl, bel5⟩
    have HB5 := Lib.hid (HBW.out.trans (bel5.mono HBW.out.size))
    clear bel5
    go_wp2_with fail
    go_returns
    exact ⟨rfl, HB5.out⟩
end Go.Proofs.Ytgdcnmicdhimhaa
