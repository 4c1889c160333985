/- Contract of the reader's Uint. -/
import Derived.Test.YtmhhppolhciigaaTk
import Derived.Deep.QuietTactic
namespace Go.Proofs.Ytmhhppolhciigaa
open Go.RowKit
set_option linter.unusedVariables false

/-- How many bytes a number has whose first byte is this. -/
def decK (f : UInt8) : Nat := 9 - Lib.bitLen (255 - f.toNat)
/-- The number that bytes of that many are. -/
def decV (k : Nat) (f : UInt8) (t : List UInt8) : Nat := t.foldl (fun n c => n * 256 + c.toNat) (f.toNat - headN k)
/-- What is read as a number: it, the bytes that are left, the error. -/
def rdU : List UInt8 → Nat × List UInt8 × Nat
  | [] => (0, [], 10)
  | f :: t => if t.length + 1 < decK f then (0, [], 10) else if sizeN (decV (decK f) f (t.take (decK f - 1))) = decK f then (decV (decK f) f (t.take (decK f - 1)), t.drop (decK f - 1), 0) else (0, [], 11)

theorem rdU_cons (f : UInt8) (t : List UInt8) : rdU (f :: t) = if t.length + 1 < decK f then (0, [], 10) else if sizeN (decV (decK f) f (t.take (decK f - 1))) = decK f then (decV (decK f) f (t.take (decK f - 1)), t.drop (decK f - 1), 0) else (0, [], 11) := rfl
theorem not8 : ∀ n : Fin 256, bits .xor .u8 IntKind.u8.max (n.val : Int) = 255 - (n.val : Int) := by decide +kernel

theorem andNot8 : ∀ n : Fin 256, bits .andNot .u8 (n.val : Int) ((headN (9 - Lib.bitLen (255 - n.val)) : Nat) : Int) = ((n.val - headN (9 - Lib.bitLen (255 - n.val)) : Nat) : Int) ∧
    n.val - headN (9 - Lib.bitLen (255 - n.val)) < (if 9 - Lib.bitLen (255 - n.val) = 9 then 1 else 128) := by decide +kernel

theorem grown_drewN {w w' : World} {row : Option Nat} (h : w.grownBy w' row) (n : Nat) : w.grownBy (w'.drewN n) row := ⟨h.os, h.tape, h.output, h.size, h.block⟩

theorem decK_le (f : UInt8) : 1 ≤ decK f ∧ decK f ≤ 9 := by
  unfold decK
  have := Lib.bitLen_le (255 - f.toNat) 8 (by decide) (by have := f.toNat_lt; omega)
  omega

theorem ruint_empty (r : Nat) (e : Nat) (w : World) (h : St w r [] e) :
    Calls Try.prog 12 #[.pointer (some ⟨r, 0, none⟩)] w fun en w' => en = .returned (.int .u64 0) ∧ St w' r [] (if e = 0 then 10 else e) ∧ w.grownBy w' (some r) := by
  have H := Lib.hid h
  obtain ⟨A, c, h1, h2, h3, h4, h5⟩ := h
  have c0 := h1.cell0
  have f0 := h1.froz 0
  clear h1 h4
  simp only [List.length_nil] at c0 h2
  obtain ⟨E, hE⟩ : ∃ E, E = if e = 0 then 10 else e := ⟨_, rfl⟩
  rw [← hE]
  have hf : Calls Try.prog 23 #[.pointer (some ⟨r, 0, none⟩), .int .i64 ((10 : Nat) : Int)] w fun en w' => en = .returned (.tuple #[]) ∧ St w' r [] E ∧ w.grownBy w' (some r) := by
    refine (fail_st r [] e 10 w H.out).mono fun en w' ⟨h1, h2, h3⟩ => ⟨h1, ?_, h3⟩
    rw [hE]
    by_cases he : e = 0
    · subst he; simpa using h2
    · rw [if_neg (fun k => he k.1), if_neg (fun k => he k.1)] at h2
      rw [if_neg he]
      exact h2
  have HF := Lib.hid hf
  clear hf h5 hE
  go_enter Try.func12, Try.ntmps12
  go_wp2_with (go_at_call 23; refine HF.out.mono ?_; rintro en w2 ⟨rfl, st2, gr2⟩; (have S2 := Lib.hid st2); (have G2 := Lib.hid gr2); clear st2 gr2)
  go_returns
  exact ⟨rfl, S2.out, G2.out⟩

theorem step_or (z c M : Nat) (hc : c < 256) (hz : z < M) (hM : M * 256 ≤ 18446744073709551616) : bits .or .u64 ((z : Int) * 256) (c : Int) = ((z * 256 + c : Nat) : Int) := by
  rw [show (z : Int) * 256 = ((z * 256 : Nat) : Int) from by omega, u64_or_nat _ _ (by omega) (by omega)]
  have h := Nat.two_pow_add_eq_or_of_lt (i := 8) (b := c) (by omega) z
  rw [show (2 : Nat) ^ 8 = 256 from rfl] at h
  rw [Nat.mul_comm z 256, ← h]

set_option maxRecDepth 100000 in
set_option maxHeartbeats 2000000 in
theorem ruint_some (r : Nat) (f : UInt8) (t : List UInt8) (w : World) (h : St w r (f :: t) 0) :
    Calls Try.prog 12 #[.pointer (some ⟨r, 0, none⟩)] w fun en w' => en = .returned (.int .u64 ((rdU (f :: t)).1 : Nat)) ∧ St w' r (rdU (f :: t)).2.1 (rdU (f :: t)).2.2 ∧ w.grownBy w' (some r) := by
  have H := Lib.hid h
  obtain ⟨A, c, h1, h2, h3, h4, h5⟩ := h
  obtain ⟨b, off, rfl, hb, hc⟩ := h4.at_ (by simp [bv])
  have c0 := h1.cell0
  have f0 := h1.froz 0
  have hx := hc 0 (.int .u8 (f.toNat : Int)) rfl
  simp only [Nat.add_zero] at hx
  have hlt := f.toNat_lt
  obtain ⟨hk1, hk9⟩ := decK_le f
  obtain ⟨m, hm⟩ : ∃ m, m = t.length + 1 := ⟨_, rfl⟩
  have hm0 : 0 < m := by omega
  simp only [List.length_cons, ← hm] at c0 h2
  have hl8 := fun W => lead8_any (255 - (f.toNat : Int)) W (by omega) (by omega)
  have e1 : (255 - (f.toNat : Int)).toNat = 255 - f.toNat := by omega
  have e2 : (8 : Int) - (Lib.bitLen (255 - f.toNat) : Int) = (decK f : Int) - 1 := by
    have := Lib.bitLen_le (255 - f.toNat) 8 (by decide) (by omega)
    unfold decK
    omega
  have e3 := not8 ⟨f.toNat, hlt⟩
  simp only at e3
  simp only [e1, e2] at hl8
  rw [← e3] at hl8
  have HM := Lib.hid hm
  have HL8 := Lib.hid hl8
  obtain ⟨k, hkk⟩ : ∃ k, k = decK f := ⟨_, rfl⟩
  rw [← hkk] at hk1 hk9 HL8
  have HK := Lib.hid hkk
  clear h1 h4 h5 hc e1 e2 e3 hl8 hkk hm
  obtain ⟨fi, hfi⟩ : ∃ fi : Int, fi = (f.toNat : Int) := ⟨_, rfl⟩
  rw [← hfi] at hx HL8
  have HFI := Lib.hid hfi
  have hfi0 : 0 ≤ fi ∧ fi < 256 := by omega
  clear hfi hlt
  have hm1 : ((m : Int) == 0) = false := by simp; omega
  by_cases hmk : m < k
  · have hrd : rdU (f :: t) = (0, [], 10) := by rw [rdU_cons, if_pos (by rw [← HM.out, ← HK.out]; exact hmk)]
    have HRD := Lib.hid hrd
    clear hrd
    go_enter Try.func12, Try.ntmps12
    go_wp2_with (first
      | (go_at_call 25; refine (HL8.out _).mono ?_; rintro en w2 ⟨rfl, rfl⟩)
      | (go_at_call 26; refine (take_bad r (f :: t) 0 k _ H.out (.inr (by rw [List.length_cons, ← HM.out]; exact hmk)) (by omega)).mono ?_; rintro en w2 ⟨rfl, st2, gr2⟩; rw [if_pos rfl] at st2; (have S2 := Lib.hid st2); (have G2 := Lib.hid gr2); clear st2 gr2))
    go_returns
    rw [HRD.out]
    exact ⟨rfl, S2.out, G2.out⟩
  · go_enter Try.func12, Try.ntmps12
    go_wp2_with (first
      | (go_at_call 25; refine (HL8.out _).mono ?_; rintro en w2 ⟨rfl, rfl⟩))
    refine (take_ok r (f :: t) k _ H.out (by rw [List.length_cons, ← HM.out]; omega)).mono ?_
    rintro en w2 ⟨⟨A2, c2, rfl, hk2, hc2, rd2⟩, st2, gr2⟩
    have S2 := Lib.hid st2
    have G2 := Lib.hid gr2
    obtain ⟨k', rfl⟩ : ∃ k', k = k' + 1 := ⟨k - 1, by omega⟩
    rw [List.take_succ_cons] at rd2
    obtain ⟨b2, o2, rfl, hb2, hcc⟩ := rd2.at_ (by simp [bv])
    have hx2 := hcc 0 (.int .u8 (f.toNat : Int)) rfl
    rw [← HFI.out] at hx2
    simp only [Nat.add_zero] at hx2
    have hrest : ∀ j, j < k' → w2.cell? ⟨b2, o2 + 1 + j, none⟩ = some (.int .u8 (((t.getD j 0).toNat : Nat) : Int)) := by
      intro j hj
      have hj2 : j < t.length := by have := HM.out; omega
      have := hcc (j + 1) (.int .u8 (((t.getD j 0).toNat : Nat) : Int)) (by
        rw [bv_get _ _ (by simp; omega)]
        simp [List.getD_eq_getElem?_getD, hj])
      rw [show o2 + 1 + j = o2 + (j + 1) from by omega]
      exact this
    have HREST := Lib.hid hrest
    have hhd : ∀ W, Calls Try.prog 27 #[.int .i64 ((k' : Int) + 1)] W fun e w' => e = .returned (.int .u8 ((headN (k' + 1) : Nat) : Int)) ∧ w' = W := fun W => head_any (k' + 1) W hk1 hk9
    have han := andNot8 ⟨f.toNat, UInt8.toNat_lt f⟩
    simp only at han
    have hkd : 9 - Lib.bitLen (255 - f.toNat) = k' + 1 := HK.out.symm
    rw [hkd] at han
    obtain ⟨han1, han2⟩ := han
    rw [← HFI.out] at han1
    obtain ⟨hv, hhv⟩ : ∃ hv : Int, hv = ((headN (k' + 1) : Nat) : Int) := ⟨_, rfl⟩
    rw [← hhv] at han1 hhd
    obtain ⟨n0, hn0⟩ : ∃ n0, n0 = f.toNat - headN (k' + 1) := ⟨_, rfl⟩
    rw [← hn0] at han1 han2
    have HN0 := Lib.hid hn0
    have HHD := Lib.hid hhd
    have HAN2 := Lib.hid han2
    have hn0b : n0 < 128 := by split at han2 <;> omega
    clear st2 gr2 hcc hrest hhd hkd han2 hhv hn0 rd2
    have kw : IntKind.u64.wrap (n0 : Int) = (n0 : Int) := IntWalk.u64_in _ ⟨by omega, by omega⟩
    by_cases hk0 : k' = 0
    · subst hk0
      have hrd : rdU (f :: t) = (n0, t, 0) := by
        have hsz : sizeN n0 = 1 := by unfold sizeN; rw [if_pos (by omega)]
        rw [rdU_cons, ← HK.out, ← HM.out, if_neg hmk]
        simp only [Nat.zero_add, Nat.sub_self, List.take_zero, List.drop_zero, decV, List.foldl_nil]
        rw [← HN0.out, if_pos hsz]
      have HRD := Lib.hid hrd
      have hsz : sizeN n0 = 1 := by unfold sizeN; rw [if_pos (by omega)]
      have hs := fun W => size_any n0 W (by omega)
      rw [hsz] at hs
      have HS := Lib.hid hs
      clear hrd hsz hs hn0b
      by_cases hc21 : c2 = 1
      · subst hc21
        go_wp2_with fail
        go_quiet ((go_at_call 27; exact Calls.quiet_of_same (HHD.out _)))
        go_wp2_with fail
        go_loop [5, 46] (fun v x => v = .int .u64 (n0 : Int) ∧ x = .int .i64 0) (fun _ _ => 0)
        case atStart => exact ⟨rfl, rfl⟩
        obtain ⟨rfl, rfl⟩ := hrel
        go_wp2_with (go_at_call 28; refine (HS.out _).mono ?_; rintro en w5 ⟨rfl, rfl⟩)
        go_returns
        rw [HRD.out]
        exact ⟨rfl, S2.out, grown_drewN G2.out _⟩
      · go_wp2_with fail
        go_quiet ((go_at_call 27; exact Calls.quiet_of_same (HHD.out _)))
        go_wp2_with fail
        go_loop [5, 46] (fun v x => v = .int .u64 (n0 : Int) ∧ x = .int .i64 0) (fun _ _ => 0)
        case atStart => exact ⟨rfl, rfl⟩
        obtain ⟨rfl, rfl⟩ := hrel
        go_wp2_with (go_at_call 28; refine (HS.out _).mono ?_; rintro en w5 ⟨rfl, rfl⟩)
        go_returns
        rw [HRD.out]
        exact ⟨rfl, S2.out, grown_drewN G2.out _⟩
    · have hc21 : ¬ c2 = 1 := by omega
      have hfold : ∀ j, j ≤ k' → ∃ v : Nat, v = (t.take j).foldl (fun n c => n * 256 + c.toNat) n0 := fun j _ => ⟨_, rfl⟩
      obtain ⟨bb, hbb⟩ : ∃ bb, bb = if k' + 1 = 9 then 1 else 128 := ⟨_, rfl⟩
      have HAN2' := HAN2.out
      rw [← hbb] at HAN2'
      have hpw : bb * 256 ^ k' ≤ 18446744073709551616 := by
        have : k' = 1 ∨ k' = 2 ∨ k' = 3 ∨ k' = 4 ∨ k' = 5 ∨ k' = 6 ∨ k' = 7 ∨ k' = 8 := by omega
        rcases this with rfl | rfl | rfl | rfl | rfl | rfl | rfl | rfl <;> rw [hbb] <;> decide
      have HPW := Lib.hid hpw
      have HN0B := Lib.hid HAN2'
      clear hfold hbb HAN2' hpw
      go_wp2_with fail
      go_quiet ((go_at_call 27; exact Calls.quiet_of_same (HHD.out _)))
      go_wp2_with fail
      go_loop [5, 46] (fun v x => ∃ j z : Nat, x = .int .i64 j ∧ j ≤ k' ∧ v = .int .u64 (z : Int) ∧ Hid (z = (t.take j).foldl (fun n c => n * 256 + c.toNat) n0) ∧ Hid (z < bb * 256 ^ j)) (fun _ x => k' - (intOf x).toNat)
      case atStart => exact ⟨0, n0, rfl, by omega, rfl, rfl, by have := HN0B.out; show n0 < _; omega⟩
      obtain ⟨j, z, rfl, hj, rfl, HZ, HZB⟩ := hrel
      by_cases hend : j < k'
      · have hcl := HREST.out j hend
        obtain ⟨M, hM⟩ : ∃ M, M = bb * 256 ^ j := ⟨_, rfl⟩
        have hM2 : M * 256 ≤ 18446744073709551616 := by
          have h1 : (256 : Nat) ^ (j + 1) ≤ 256 ^ k' := Nat.pow_le_pow_right (by decide) hend
          have h2 := Nat.mul_le_mul_left bb h1
          rw [Nat.pow_succ, ← Nat.mul_assoc, ← hM] at h2
          exact Nat.le_trans h2 HPW.out
        have hzM : z < M := by rw [hM]; exact HZB.out
        obtain ⟨cc, hcc⟩ : ∃ cc, cc = (t.getD j 0).toNat := ⟨_, rfl⟩
        have hcb : cc < 256 := by rw [hcc]; exact UInt8.toNat_lt _
        have hor := step_or z cc M hcb hzM hM2
        have hj2 : j < t.length := by have := HM.out; omega
        have kz : IntKind.u64.wrap ((z : Int) * 256) = (z : Int) * 256 := IntWalk.u64_in _ ⟨by omega, by omega⟩
        have kc : IntKind.u64.wrap (cc : Int) = (cc : Int) := IntWalk.u64_in _ ⟨by omega, by omega⟩
        rw [← hcc] at hcl
        have HOR := Lib.hid hor
        have HMM := Lib.hid hM
        have HCC := Lib.hid hcc
        have HZM := Lib.hid hzM
        have HJ2 := Lib.hid hj2
        clear hor hM hcc hM2 hzM hj2
        go_wp2_with fail
        go_round
        case rel =>
          refine ⟨j + 1, z * 256 + cc, by go_num, by omega, ?_, ?_, ?_⟩
          · exact congrArg (Value.int .u64) HOR.out
          · show z * 256 + _ = _
            rw [List.take_add_one, List.foldl_append, ← HZ.out, HCC.out, List.getD_eq_getElem?_getD, List.getElem?_eq_getElem HJ2.out]
            rfl
          · show z * 256 + _ < _
            rw [Nat.pow_succ, ← Nat.mul_assoc, ← HMM.out]
            have := HZM.out
            omega
        case measure => simp [intOf]; omega
      · obtain rfl : j = k' := by omega
        have hz64 : z < 18446744073709551616 := Nat.lt_of_lt_of_le HZB.out HPW.out
        have hs := fun W => size_any z W hz64
        have hdv : z = decV (j + 1) f (t.take j) := by rw [HZ.out]; unfold decV; rw [← HN0.out]
        have hrd : rdU (f :: t) = if sizeN z = j + 1 then (z, t.drop j, 0) else (0, [], 11) := by
          rw [rdU_cons, ← HK.out, ← HM.out, if_neg hmk, Nat.add_sub_cancel, ← hdv]
        have hsl := sizeN_le z
        obtain ⟨sz, hsz⟩ : ∃ sz, sz = sizeN z := ⟨_, rfl⟩
        rw [← hsz] at hs hrd hsl
        have HS := Lib.hid hs
        have S2' : St (w2.drewN nq) r (t.drop j) 0 := S2.out
        have S3 := Lib.hid S2'
        have G3 := Lib.hid (grown_drewN G2.out nq)
        clear hs hdv hsz S2'
        by_cases hsk : sz = j + 1
        · rw [if_pos hsk] at hrd
          subst hsk
          have HRD := Lib.hid hrd
          clear hrd
          go_wp2_with (go_at_call 28; refine (HS.out _).mono ?_; rintro en w5 ⟨rfl, rfl⟩)
          go_returns
          rw [HRD.out]
          exact ⟨rfl, S3.out, G3.out⟩
        · rw [if_neg hsk] at hrd
          have hne : ((sz : Int) != (j : Int) + 1) = true := by simp; omega
          have HRD := Lib.hid hrd
          clear hrd
          go_wp2_with (first
            | (go_at_call 28; refine (HS.out _).mono ?_; rintro en w5 ⟨rfl, rfl⟩)
            | (go_at_call 23; refine (fail_st r _ 0 11 _ S3.out).mono ?_; rintro en w6 ⟨rfl, st6, gr6⟩; rw [if_pos ⟨rfl, by decide⟩, if_pos ⟨rfl, by decide⟩] at st6; (have S6 := Lib.hid st6); (have G6 := Lib.hid gr6); clear st6 gr6))
          go_returns
          rw [HRD.out]
          exact ⟨rfl, S6.out, G3.out.trans G6.out⟩

/-- Uint. -/
theorem ruint_st (r : Nat) (l : List UInt8) (w : World) (h : St w r l 0) :
    Calls Try.prog 12 #[.pointer (some ⟨r, 0, none⟩)] w fun en w' => en = .returned (.int .u64 ((rdU l).1 : Nat)) ∧ St w' r (rdU l).2.1 (rdU l).2.2 ∧ w.grownBy w' (some r) := by
  cases l with
  | nil => exact ruint_empty r 0 w h
  | cons f t => exact ruint_some r f t w h
end Go.Proofs.Ytmhhppolhciigaa
