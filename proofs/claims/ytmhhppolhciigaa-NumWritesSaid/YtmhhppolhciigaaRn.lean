/- Contracts of the reference: Size, Uint, Int, Text. -/
import Derived.Test.YtmhhppolhciigaaRt
namespace Go.Proofs.Ytmhhppolhciigaa
open Go.RowKit
set_option linter.unusedVariables false

theorem sizeN_at (n k : Nat) (h2 : 2 ≤ k) (h8 : k ≤ 8) (hge : 128 ^ (k - 1) ≤ n) (hlt : n < 128 ^ k) : sizeN n = k := by
  have hk : k = 2 ∨ k = 3 ∨ k = 4 ∨ k = 5 ∨ k = 6 ∨ k = 7 ∨ k = 8 := by omega
  unfold sizeN
  rcases hk with rfl | rfl | rfl | rfl | rfl | rfl | rfl
  all_goals
    simp only [Nat.reduceSub, Nat.reducePow] at hge hlt
    repeat' split
    all_goals omega
theorem sizeN_nine (n : Nat) (hge : 128 ^ 8 ≤ n) : sizeN n = 9 := by
  simp only [Nat.reducePow] at hge
  unfold sizeN
  repeat' split
  all_goals omega

set_option maxHeartbeats 1000000 in
set_option maxRecDepth 100000 in
theorem rsize_any (n : Nat) (w : World) (h : n < 18446744073709551616) : Calls Try.prog 29 #[.int .u64 (n : Int)] w fun e w' => e = .returned (.int .i64 (sizeN n : Nat)) ∧ w = w' := by
  have H64 := Lib.hid h
  clear h
  obtain ⟨sz, hsz⟩ : ∃ z, z = sizeN n := ⟨_, rfl⟩
  rw [← hsz]
  have HSZ := Lib.hid hsz
  clear hsz
  by_cases h1 : n < 128
  · have hs : sz = 1 := by rw [HSZ.out]; unfold sizeN; rw [if_pos h1]
    subst hs
    go_enter Try.func29, Try.ntmps29
    go_wp2_with fail
    go_returns
    exact ⟨rfl, rfl⟩
  · go_enter Try.func29, Try.ntmps29
    go_wp2_with fail
    go_loop [3, 4] (fun v x => ∃ k M : Nat, x = .int .i64 k ∧ 2 ≤ k ∧ k ≤ 9 ∧ v = .int .u64 (M : Int) ∧ Hid (M = 128 ^ (k - 1)) ∧ Hid (M ≤ n)) (fun _ x => 9 - (intOf x).toNat)
    case atStart => exact ⟨2, 128, rfl, by omega, by omega, rfl, rfl, show 128 ≤ n by omega⟩
    obtain ⟨k, M, rfl, hk2, hk9, rfl, HM, HGE⟩ := hrel
    by_cases hk8 : k = 9
    · subst hk8
      have hs : sz = 9 := by rw [HSZ.out]; exact sizeN_nine n (by have := HGE.out; rw [HM.out] at this; exact this)
      subst hs
      go_wp2_with fail
      go_returns
      exact ⟨rfl, rfl⟩
    · obtain ⟨M2, hM2⟩ : ∃ M2, M2 = M * 128 := ⟨_, rfl⟩
      have hp : M2 = 128 ^ k := by
        rw [hM2, HM.out, ← Nat.pow_succ]
        congr 1
        omega
      have hb : M2 ≤ 72057594037927936 := by
        rw [hp]
        exact Nat.pow_le_pow_right (n := 128) (i := k) (j := 8) (by decide) (by omega)
      have hw : IntKind.u64.wrap ((M : Int) * 128) = (M2 : Int) := by rw [IntWalk.u64_in _ ⟨by omega, by omega⟩]; omega
      have HP := Lib.hid hp
      clear hp hb hM2
      by_cases hlt : n < M2
      · have hs : sz = k := by rw [HSZ.out]; exact sizeN_at n k hk2 (by omega) (by have := HGE.out; rw [HM.out] at this; exact this) (by rw [← HP.out]; exact hlt)
        subst hs
        go_wp2_with fail
        go_returns
        exact ⟨rfl, rfl⟩
      · go_wp2_with fail
        go_round
        case rel => exact ⟨k + 1, M2, by go_num, by omega, by omega, rfl, by show M2 = _; rw [Nat.add_sub_cancel]; exact HP.out, by show M2 ≤ n; omega⟩
        case measure => simp [intOf]; omega
theorem be_rev_snoc (i n : Nat) : (be (i + 1) n).reverse = (be i n).reverse ++ [UInt8.ofNat (n / 256 ^ i % 256)] := by
  rw [be, List.reverse_cons]

def hh (i : Nat) : Nat := 256 - 2 ^ (9 - i)
def bb (i : Nat) : Nat := 2 ^ (8 - i)
theorem hh_succ : ∀ i : Fin 8, 1 ≤ i.val → hh (i.val + 1) = hh i.val + bb i.val ∧ bb (i.val + 1) = bb i.val / 2 ∧ hh i.val ≤ 256 ∧ bb i.val ≤ 128 := by decide +kernel

theorem enc_rev (n k : Nat) (h : n < 18446744073709551616) (hk : k + 1 = sizeN n) :
    (enc n).reverse = (be (k + 1) n).reverse.set k (UInt8.ofNat (n / 256 ^ k + headN (k + 1))) ∧ n / 256 ^ k + headN (k + 1) < 256 ∧ n / 256 ^ k < 256 ∧ (be (k + 1) n).reverse.getD k 0 = UInt8.ofNat (n / 256 ^ k) := by
  obtain ⟨h1, h9⟩ := sizeN_le n
  have hf := first_lt n h
  have hpw : 2 ^ (9 - sizeN n) ≤ 2 ^ 8 := Nat.pow_le_pow_right (by decide) (by omega)
  have ho := (or_head ⟨sizeN n, by omega⟩ ⟨n / 256 ^ (sizeN n - 1), by omega⟩ h1 hf).2
  simp only at ho
  have e := enc_eq n h
  rw [← hk] at e ho hf
  rw [Nat.add_sub_cancel] at e ho hf
  have hm : n / 256 ^ k % 256 = n / 256 ^ k := Nat.mod_eq_of_lt (by omega)
  have hl : (be k n).reverse.length = k := by rw [List.length_reverse, be_length]
  refine ⟨?_, ho, by omega, ?_⟩
  · rw [e, List.reverse_cons, be_rev_snoc, List.set_append_right _ _ (by omega), hl, Nat.sub_self]
    rfl
  · rw [be_rev_snoc, List.getD_eq_getElem?_getD, List.getElem?_append_right (by omega), hl, Nat.sub_self, hm]
    rfl

theorem rev_byte (l : List UInt8) (K q : Nat) (hl : l.length = K) (hq : q < K) : [Value.int .u8 ((l.reverse.getD q 0).toNat : Int)] = bv ((l.drop (K - (q + 1))).take 1) := by
  have h1 : l.reverse.getD q 0 = l[K - (q + 1)]'(by omega) := by
    rw [List.getD_eq_getElem?_getD, List.getElem?_eq_getElem (by rw [List.length_reverse]; omega), Option.getD_some, List.getElem_reverse]
    congr 1
    omega
  rw [h1, List.drop_eq_getElem_cons (by omega)]
  rfl

set_option maxHeartbeats 2000000 in
set_option maxRecDepth 100000 in
theorem ruint_ref (n : Nat) (w : World) (h : n < 18446744073709551616) : Calls Try.prog 18 #[.int .u64 (n : Int)] w (Wrote (enc n) w) := by
  go_enter Try.func18, Try.ntmps18
  obtain ⟨i0, hi0, hz0, hz1, hz2⟩ := info_parts info5
  have hs := rsize_any n w h
  obtain ⟨hK1, hK9⟩ := sizeN_le n
  obtain ⟨K, hK⟩ : ∃ K, K = sizeN n := ⟨_, rfl⟩
  rw [← hK] at hs hK1 hK9
  have HS := Lib.hid hs
  have HK := Lib.hid hK
  have H64 := Lib.hid h
  clear hs hK h
  go_wp2_with (go_at_call 29; refine HS.out.mono ?_; rintro e w' ⟨rfl, rfl⟩)
  go_loopw [0, 4, 5] (fun a v x wr => ∃ (i z : Nat), x = .int .i64 i ∧ i ≤ K ∧ a = .int .u64 (z : Int) ∧ Hid (z = n / 256 ^ i) ∧ Hid (wr.ownsRow w.heap.size 5 1 v i (bv (be i n).reverse)) ∧ Hid (Below w.heap.size w wr)) (fun _ _ x _ => K - (intOf x).toNat)
  case atStart => exact ⟨0, n, rfl, by omega, rfl, by show n = _; simp, ⟨rfl, .inl ⟨rfl, rfl⟩⟩, Below.refl _ _⟩
  obtain ⟨i, z, rfl, hi, rfl, HZ, OWN, HB⟩ := hrel
  by_cases hend : i < K
  · have hb : [Value.int .u8 ((z : Int) % 256)] = bv [UInt8.ofNat (n / 256 ^ i % 256)] := by
      rw [← HZ.out]
      show _ = [Value.int .u8 (((UInt8.ofNat (z % 256)).toNat : Nat) : Int)]
      rw [UInt8.toNat_ofNat', Nat.mod_mod, Int.natCast_emod]
      rfl
    have HBB := Lib.hid hb
    have hz64 : z < 18446744073709551616 := by rw [HZ.out]; exact Nat.lt_of_le_of_lt (Nat.div_le_self _ _) H64.out
    clear hb
    go_wp2_with (at_builtin; refine wpList_app _ rfl (.tmp 18) (.tmp 22) 22 rfl w.heap.size 5 i0 (.int .u8 0) 1 Try.underlying22 hi0 hz0 hz1 hz2 rfl u4 i (bv (be i n).reverse) rfl (OWN.out.alloc _) (wr.heap.size + 1) (some ⟨wr.heap.size, 0, none⟩) 1 1 [.int .u8 ((z : Int) % 256)] rfl rfl (new_row wr _ _ _ (by omega)) (by simp [Value.oneCell']) (by unfold maxLen; omega) (by omega) (by simp; exact Nat.le_succ_of_le HB.out.size) ?_; intro v4 w4 own4 gr4 at4 ne4)
    have HB4 := Lib.hid ((HB.out.alloc HB.out.size _).grown gr4 (by simp; exact Nat.le_succ_of_le HB.out.size) (fun k hk => own_ge OWN.out k hk))
    rw [HBB.out, ← bv_append, ← be_rev_snoc] at own4
    have OWN4 := Lib.hid own4
    clear own4 gr4 at4 ne4
    go_wp2_with fail
    go_roundw
    case rel =>
      refine ⟨i + 1, z / 256, by go_num, by omega, by go_num, ?_, OWN4.out, HB4.out⟩
      show z / 256 = _
      rw [HZ.out, Nat.pow_succ, Nat.div_div_eq_div_mul]
    case measure => simp [intOf]; omega
  · have hiK : i = K := by omega
    subst hiK
    clear hend hi
    obtain ⟨k, rfl⟩ : ∃ k, i = k + 1 := ⟨i - 1, by omega⟩
    obtain ⟨g, c, rfl, hg, hgl⟩ := OWN.out.form (by omega)
    obtain ⟨hr1, hr2, hr3, hr4⟩ := enc_rev n k H64.out HK.out
    have hcl := OWN.out.cellAt k (by omega)
    rw [bv_get _ _ (by rw [List.length_reverse, be_length]; omega), hr4, UInt8.toNat_ofNat', Nat.mod_eq_of_lt (show n / 256 ^ k < 2 ^ 8 from hr3)] at hcl
    have hfr := OWN.out.frozenAt k
    obtain ⟨t, ht⟩ : ∃ t, t = n / 256 ^ k := ⟨_, rfl⟩
    obtain ⟨hd, hhd⟩ : ∃ hd, hd = headN (k + 1) := ⟨_, rfl⟩
    rw [← ht] at hr1 hr2 hr3 hcl
    rw [← hhd] at hr1 hr2
    have hval : Value.int .u8 (((UInt8.ofNat (t + hd)).toNat : Nat) : Int) = .int .u8 ((t : Int) + (hd : Int)) := by
      rw [UInt8.toNat_ofNat', Nat.mod_eq_of_lt (show t + hd < 2 ^ 8 from hr2)]
      push_cast
      rfl
    have hst := (OWN.out.stored k (.int .u8 ((t : Int) + (hd : Int)))).1
    rw [← hval, bv_set, ← hr1, hval] at hst
    have hbt := HB.out.setCell (p := ⟨g, k, none⟩) hg (.int .u8 ((t : Int) + (hd : Int)))
    have HST := Lib.hid hst
    have HBT := Lib.hid hbt
    have HT := Lib.hid ht
    have HHD := Lib.hid hhd
    have hEl : ((enc n).reverse).length = k + 1 := by rw [List.length_reverse, enc_length, ← HK.out]
    have HEL := Lib.hid hEl
    clear hst hbt ht hhd hval hr1 hr4 hEl
    by_cases h9 : k = 8
    · subst h9
      have ht0 : t = 0 := by
        rw [HT.out]
        exact Nat.div_eq_of_lt (by have := H64.out; simp only [Nat.reducePow]; omega)
      have hd0 : hd = 255 := HHD.out
      subst ht0
      subst hd0
      rw [show ((0 : Nat) : Int) + ((255 : Nat) : Int) = 255 from rfl] at HST HBT
      clear hr2 hr3
      have hEl9 : (enc n).reverse.length = 9 := HEL.out
      have HEL := Lib.hid hEl9
      clear hEl9
      simp only [Nat.reduceAdd, Int.cast_ofNat_Int]
      go_wp2_with fail
      obtain ⟨wm, hwm⟩ : ∃ wm, wm = wr.setCell ⟨g, 8, none⟩ (.int .u8 255) := ⟨_, rfl⟩
      rw [← hwm] at HST HBT ⊢
      have hgw : g < wm.heap.size := by rw [hwm]; simpa using hgl
      clear hwm
      go_loopw [9, 10] (fun v x wr => ∃ (y : Int) (m : Nat), x = .int .i64 y ∧ -1 ≤ y ∧ y < 9 ∧ Hid (y = (m : Int) - 1) ∧ Hid (wr.ownsRow wm.heap.size 5 1 v (9 - m) (bv ((enc n).take (9 - m)))) ∧ Hid (wr.ownsRow w.heap.size 5 1 (.slice (some ⟨g, 0, none⟩) (9) c) (9) (bv (enc n).reverse)) ∧ Hid (Below w.heap.size w wr) ∧ wm.heap.size ≤ wr.heap.size) (fun _ x _ => (intOf x + 1).toNat)
      case atStart => exact ⟨8, 9, rfl, by omega, by omega, by show (8 : Int) = _; omega, by rw [Nat.sub_self]; exact ⟨rfl, .inl ⟨rfl, rfl⟩⟩, HST.out, HBT.out, Nat.le_refl _⟩
      obtain ⟨y, m, rfl, hy1, hy2, HY, OUT, BACK, HBL, hsz⟩ := hrel
      by_cases hy0 : 0 ≤ y
      · obtain ⟨q, rfl⟩ := Int.eq_ofNat_of_zero_le hy0
        have hqm : m = q + 1 := by have := HY.out; omega
        subst hqm
        have hql : q < 9 := by omega
        have hcl := BACK.out.cellAt q (by omega)
        rw [bv_get _ _ (by rw [HEL.out]; omega)] at hcl
        have hnews : [Value.int .u8 (((enc n).reverse.getD q 0).toNat : Int)] = bv (((enc n).drop (9 - (q + 1))).take 1) := rev_byte _ _ _ (by rw [← List.length_reverse]; exact HEL.out) hql
        obtain ⟨b, hb⟩ : ∃ b : Int, b = (((enc n).reverse.getD q 0).toNat : Int) := ⟨_, rfl⟩
        rw [← hb] at hcl hnews
        have HNEWS := Lib.hid hnews
        clear hnews hb hy0
        go_wp2_with (at_builtin; refine wpList_app _ rfl (.tmp 58) (.tmp 63) 22 rfl wm.heap.size 5 i0 (.int .u8 0) 1 Try.underlying22 hi0 hz0 hz1 hz2 rfl u9 (9 - (q + 1)) (bv ((enc n).take (9 - (q + 1)))) rfl (OUT.out.alloc _) (wr.heap.size + 1) (some ⟨wr.heap.size, 0, none⟩) 1 1 [.int .u8 b] rfl rfl (new_row wr _ _ _ (by omega)) (by simp [Value.oneCell']) (by unfold maxLen; omega) (by omega) (by simp; omega) ?_; intro v4 w4 own4 gr4 at4 ne4)
        have hsz4 := gr4.size
        have HB4 := Lib.hid ((HBL.out.alloc HBL.out.size _).grown gr4 (by simp; exact Nat.le_succ_of_le HBL.out.size) (fun k hk => by have := own_ge OUT.out k hk; have := HBT.out.size; omega))
        have BACK4 := Lib.hid ((BACK.out.alloc _).kept gr4 (.inr (fun e => by have := own_ge OUT.out g e.symm; omega)))
        rw [HNEWS.out, ← bv_append, ← List.take_add] at own4
        have OWN4 := Lib.hid own4
        clear own4 gr4 at4 ne4
        go_wp2_with fail
        go_roundw
        case rel =>
          have e1 : 9 - q = 9 - (q + 1) + 1 := by omega
          refine ⟨(q : Int) - 1, q, rfl, by omega, by omega, rfl, ?_, BACK4.out, HB4.out, by simp at hsz4; omega⟩
          show w4.ownsRow _ _ _ _ _ _
          rw [e1]
          exact OWN4.out
        case measure => simp [intOf]
      · have hm0 : m = 0 := by have := HY.out; omega
        subst hm0
        go_wp2_with fail
        go_returns
        have h := OUT.out
        have hl : (enc n).length = 9 := by rw [← List.length_reverse]; exact HEL.out
        rw [Nat.sub_zero, List.take_of_length_le (by omega)] at h
        obtain ⟨g2, c2, rfl, hg2, _⟩ := h.form (by omega)
        unfold Wrote
        rw [hl]
        exact ⟨g2, c2, rfl, own_base h HBT.out.size, HBL.out⟩
    · have hk9 : (((k : Int) + 1) == 9) = false := by simp; omega
      go_wp2_with fail
      go_loop [6, 7, 8] (fun a v x => ∃ (i p q : Nat), x = .int .i64 i ∧ 1 ≤ i ∧ i ≤ k + 1 ∧ a = .int .i64 p ∧ v = .int .i64 q ∧ Hid (p = hh i) ∧ Hid (q = bb i)) (fun _ _ x => k + 1 - (intOf x).toNat)
      case atStart => exact ⟨1, 0, 128, rfl, by omega, by omega, rfl, rfl, rfl, rfl⟩
      obtain ⟨i, p, q, rfl, hi1, hi, rfl, rfl, HP, HQ⟩ := hrel
      by_cases hend : i < k + 1
      · have hsu := hh_succ ⟨i, by omega⟩ hi1
        simp only at hsu
        obtain ⟨hs1, hs2, hs3, hs4⟩ := hsu
        rw [← HP.out] at hs1 hs3
        rw [← HQ.out] at hs1 hs2 hs4
        have HS1 := Lib.hid hs1
        have HS2 := Lib.hid hs2
        clear hs1 hs2
        go_wp2_with fail
        go_round
        case rel => exact ⟨i + 1, p + q, q / 2, by go_num, by omega, by omega, by go_num, by go_num, HS1.out.symm, HS2.out.symm⟩
        case measure => simp [intOf]; omega
      · have hik : i = k + 1 := by omega
        subst hik
        have hpd : p = hd := by rw [HP.out, HHD.out]; unfold hh headN; rw [if_neg (by omega)]
        subst hpd
        clear hi1 hi hend
        go_wp2_with fail
        obtain ⟨wm, hwm⟩ : ∃ wm, wm = wr.setCell ⟨g, k, none⟩ (.int .u8 ((t : Int) + (p : Int))) := ⟨_, rfl⟩
        rw [← hwm] at HST HBT ⊢
        have hgw : g < wm.heap.size := by rw [hwm]; simpa using hgl
        clear hwm
        go_loopw [9, 10] (fun v x wr => ∃ (y : Int) (m : Nat), x = .int .i64 y ∧ -1 ≤ y ∧ y < k + 1 ∧ Hid (y = (m : Int) - 1) ∧ Hid (wr.ownsRow wm.heap.size 5 1 v (k + 1 - m) (bv ((enc n).take (k + 1 - m)))) ∧ Hid (wr.ownsRow w.heap.size 5 1 (.slice (some ⟨g, 0, none⟩) (k + 1) c) (k + 1) (bv (enc n).reverse)) ∧ Hid (Below w.heap.size w wr) ∧ wm.heap.size ≤ wr.heap.size) (fun _ x _ => (intOf x + 1).toNat)
        case atStart => exact ⟨k, k + 1, rfl, by omega, by omega, by show (k : Int) = _; push_cast; omega, by rw [Nat.sub_self]; exact ⟨rfl, .inl ⟨rfl, rfl⟩⟩, HST.out, HBT.out, Nat.le_refl _⟩
        obtain ⟨y, m, rfl, hy1, hy2, HY, OUT, BACK, HBL, hsz⟩ := hrel
        by_cases hy0 : 0 ≤ y
        · obtain ⟨q, rfl⟩ := Int.eq_ofNat_of_zero_le hy0
          have hqm : m = q + 1 := by have := HY.out; omega
          subst hqm
          have hql : q < k + 1 := by omega
          have hcl := BACK.out.cellAt q (by omega)
          rw [bv_get _ _ (by rw [HEL.out]; omega)] at hcl
          have hnews : [Value.int .u8 (((enc n).reverse.getD q 0).toNat : Int)] = bv (((enc n).drop (k + 1 - (q + 1))).take 1) := rev_byte _ _ _ (by rw [← List.length_reverse]; exact HEL.out) hql
          obtain ⟨b, hb⟩ : ∃ b : Int, b = (((enc n).reverse.getD q 0).toNat : Int) := ⟨_, rfl⟩
          rw [← hb] at hcl hnews
          have HNEWS := Lib.hid hnews
          clear hnews hb hy0
          go_wp2_with (at_builtin; refine wpList_app _ rfl (.tmp 58) (.tmp 63) 22 rfl wm.heap.size 5 i0 (.int .u8 0) 1 Try.underlying22 hi0 hz0 hz1 hz2 rfl u9 (k + 1 - (q + 1)) (bv ((enc n).take (k + 1 - (q + 1)))) rfl (OUT.out.alloc _) (wr.heap.size + 1) (some ⟨wr.heap.size, 0, none⟩) 1 1 [.int .u8 b] rfl rfl (new_row wr _ _ _ (by omega)) (by simp [Value.oneCell']) (by unfold maxLen; omega) (by omega) (by simp; omega) ?_; intro v4 w4 own4 gr4 at4 ne4)
          have hsz4 := gr4.size
          have HB4 := Lib.hid ((HBL.out.alloc HBL.out.size _).grown gr4 (by simp; exact Nat.le_succ_of_le HBL.out.size) (fun k hk => by have := own_ge OUT.out k hk; have := HBT.out.size; omega))
          have BACK4 := Lib.hid ((BACK.out.alloc _).kept gr4 (.inr (fun e => by have := own_ge OUT.out g e.symm; omega)))
          rw [HNEWS.out, ← bv_append, ← List.take_add] at own4
          have OWN4 := Lib.hid own4
          clear own4 gr4 at4 ne4
          go_wp2_with fail
          go_roundw
          case rel =>
            have e1 : k + 1 - q = k + 1 - (q + 1) + 1 := by omega
            refine ⟨(q : Int) - 1, q, rfl, by omega, by omega, rfl, ?_, BACK4.out, HB4.out, by simp at hsz4; omega⟩
            show w4.ownsRow _ _ _ _ _ _
            rw [e1]
            exact OWN4.out
          case measure => simp [intOf]
        · have hm0 : m = 0 := by have := HY.out; omega
          subst hm0
          go_wp2_with fail
          go_returns
          have h := OUT.out
          have hl : (enc n).length = k + 1 := by rw [← List.length_reverse]; exact HEL.out
          rw [Nat.sub_zero, List.take_of_length_le (by omega)] at h
          obtain ⟨g2, c2, rfl, hg2, _⟩ := h.form (by omega)
          unfold Wrote
          rw [hl]
          exact ⟨g2, c2, rfl, own_base h HBT.out.size, HBL.out⟩
set_option maxRecDepth 100000 in
theorem rint_ref (m : Int) (w : World) (h0 : -9223372036854775808 ≤ m) (h1 : m ≤ 9223372036854775807) : Calls Try.prog 19 #[.int .i64 m] w (Wrote (enc (zig m)) w) := by
  have HU := Lib.hid (ruint_ref (zig m) w (zig_lt m h0 h1))
  by_cases hm : 0 ≤ m
  · have hz : zig m = (2 * m).toNat := by unfold zig; rw [if_pos hm]
    obtain ⟨k, rfl⟩ := Int.eq_ofNat_of_zero_le hm
    have hz2 : zig (k : Int) = 2 * k := by rw [hz]; omega
    rw [hz2] at HU ⊢
    rw [show ((2 * k : Nat) : Int) = 2 * (k : Int) from by omega] at HU
    clear hz hz2 h0 hm
    go_enter Try.func19, Try.ntmps19
    go_wp2_with fail
    refine HU.out.mono ?_
    rintro e w1 hw1
    unfold Wrote at hw1 ⊢
    obtain ⟨g, c, rfl, h2⟩ := hw1
    have H2 := Lib.hid h2
    clear h2
    go_wp2_with fail
    go_returns
    exact ⟨g, c, rfl, H2.out⟩
  · have hz : zig m = (-2 * m - 1).toNat := by unfold zig; rw [if_neg hm]
    have hz2 : ((zig m : Nat) : Int) = -2 * m - 1 := by rw [hz]; omega
    have HZ := Lib.hid hz2
    have hm1 : m < 0 := by omega
    clear hz hz2 h1 hm
    go_enter Try.func19, Try.ntmps19
    go_wp2_with fail
    have e1 : 2 * -(m + 1) + 1 = ((zig m : Nat) : Int) := by have := HZ.out; omega
    rw [e1]
    refine HU.out.mono ?_
    rintro e w1 hw1
    unfold Wrote at hw1 ⊢
    obtain ⟨g, c, rfl, h2⟩ := hw1
    have H2 := Lib.hid h2
    clear h2 e1
    go_wp2_with fail
    go_returns
    exact ⟨g, c, rfl, H2.out⟩
theorem rtext_ref (s : ByteArray) (w : World) (hs : s.size ≤ 1000) : Calls Try.prog 20 #[.string s] w (Wrote (enc s.size ++ s.data.toList) w) := by
  obtain ⟨i0, hi, hz0, hz1, hz2⟩ := info_parts info5
  have HU := Lib.hid (ruint_ref s.size w (by omega))
  obtain ⟨hel, hsl⟩ : 1 ≤ (enc s.size).length ∧ (enc s.size).length ≤ 9 := by rw [enc_length]; exact sizeN_le _
  go_enter Try.func20, Try.ntmps20
  go_wp2_with fail
  refine HU.out.mono ?_
  rintro e w1 ⟨g, c, rfl, own1, bel1⟩
  have HB1 := Lib.hid bel1
  have OWN1 := Lib.hid own1
  clear own1 bel1
  go_wp2_with (at_builtin; refine wpList_app_str rfl (.tmp 6) (.tmp 7) 22 9 rfl w.heap.size 5 i0 Try.underlying22 Try.underlying9 hi hz0 hz1 hz2 (.slice (some ⟨g, 0, none⟩) (enc s.size).length c) (enc s.size).length (bv (enc s.size)) rfl OWN1.out s rfl (by unfold maxLen; omega) (by omega) HB1.out.size ?_; intro v2 w2 own2 gr2 at2; obtain ⟨g2, c2, rfl, hg2, _⟩ := own2.form (by omega))
  go_returns
  have hsz : s.data.toList.length = s.size := by rw [Array.length_toList]; rfl
  have hfin : (enc s.size ++ s.data.toList).length = (enc s.size).length + s.size := by rw [List.length_append, hsz]
  unfold Wrote
  rw [hfin]
  refine ⟨g2, c2, rfl, ?_, HB1.out.grown gr2 HB1.out.size (fun k hk => own_ge OWN1.out k hk)⟩
  have : bv (enc s.size ++ s.data.toList) = bv (enc s.size) ++ Lib.strCells s := by rw [bv_append]; rfl
  rw [this]
  exact own2
end Go.Proofs.Ytmhhppolhciigaa
