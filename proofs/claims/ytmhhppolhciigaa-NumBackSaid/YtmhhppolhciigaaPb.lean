/- Plain: what is written of a number is read as it. -/
import Derived.Test.YtmhhppolhciigaaPd
namespace Go.Proofs.Ytmhhppolhciigaa

theorem dec_head : ∀ k : Fin 10, ∀ f : Fin 256, 1 ≤ k.val → f.val < 2 ^ (8 - k.val) * (if k.val = 9 then 0 else 1) + (if k.val = 9 then 1 else 0) → 9 - Lib.bitLen (255 - (f.val + headN k.val)) = k.val := by decide +kernel

theorem first_lt2 (n : Nat) (h : n < 18446744073709551616) : n / 256 ^ (sizeN n - 1) < 2 ^ (8 - sizeN n) * (if sizeN n = 9 then 0 else 1) + (if sizeN n = 9 then 1 else 0) := by
  have hb : n < 128 ∧ sizeN n = 1 ∨ n < 16384 ∧ sizeN n = 2 ∨ n < 2097152 ∧ sizeN n = 3 ∨ n < 268435456 ∧ sizeN n = 4 ∨ n < 34359738368 ∧ sizeN n = 5 ∨ n < 4398046511104 ∧ sizeN n = 6 ∨ n < 562949953421312 ∧ sizeN n = 7 ∨ n < 72057594037927936 ∧ sizeN n = 8 ∨ sizeN n = 9 := by
    unfold sizeN
    repeat' split
    all_goals omega
  rcases hb with ⟨h1, e⟩ | ⟨h1, e⟩ | ⟨h1, e⟩ | ⟨h1, e⟩ | ⟨h1, e⟩ | ⟨h1, e⟩ | ⟨h1, e⟩ | ⟨h1, e⟩ | e
  all_goals
    rw [e]
    simp only [Nat.reduceSub, Nat.reducePow, Nat.reduceEqDiff, if_true, if_false, Nat.reduceMul, Nat.reduceAdd]
    omega

theorem be_value : ∀ (j n m : Nat), (be j n).foldl (fun n c => n * 256 + c.toNat) m = m * 256 ^ j + n % 256 ^ j
  | 0, n, m => by simp [be, Nat.mod_one]
  | j + 1, n, m => by
    rw [be, List.foldl_cons, be_value j n]
    have ex : (UInt8.ofNat (n / 256 ^ j % 256)).toNat = n / 256 ^ j % 256 := by
      rw [UInt8.toNat_ofNat']
      exact Nat.mod_eq_of_lt (by omega)
    rw [ex, Nat.mod_pow_succ, Nat.pow_succ, Nat.add_mul, Nat.mul_assoc, Nat.mul_comm 256 (256 ^ j), Nat.mul_comm (n / 256 ^ j % 256)]
    omega

/-- What is written of a number is read as it, whatever lies behind. -/
theorem rdU_of_enc (n : Nat) (t : List UInt8) (h : n < 18446744073709551616) : rdU (enc n ++ t) = (n, t, 0) := by
  obtain ⟨h1, h9⟩ := sizeN_le n
  have hf := first_lt2 n h
  have hf1 := first_lt n h
  have hpw : 2 ^ (9 - sizeN n) ≤ 2 ^ 8 := Nat.pow_le_pow_right (by decide) (by omega)
  have ho := (or_head ⟨sizeN n, by omega⟩ ⟨n / 256 ^ (sizeN n - 1), by omega⟩ h1 hf1).2
  have hd := dec_head ⟨sizeN n, by omega⟩ ⟨n / 256 ^ (sizeN n - 1), by omega⟩ h1 hf
  simp only at ho hd
  have ex : (UInt8.ofNat (n / 256 ^ (sizeN n - 1) + headN (sizeN n))).toNat = n / 256 ^ (sizeN n - 1) + headN (sizeN n) := by
    rw [UInt8.toNat_ofNat']
    exact Nat.mod_eq_of_lt ho
  have hk : decK (UInt8.ofNat (n / 256 ^ (sizeN n - 1) + headN (sizeN n))) = sizeN n := by unfold decK; rw [ex]; exact hd
  have hbl := be_length (sizeN n - 1) n
  rw [enc_eq n h, List.cons_append, rdU_cons, hk, if_neg (by rw [List.length_append]; omega)]
  have htk : (be (sizeN n - 1) n ++ t).take (sizeN n - 1) = be (sizeN n - 1) n := by
    conv => lhs; arg 1; rw [← hbl]
    rw [List.take_left]
  have hdr : (be (sizeN n - 1) n ++ t).drop (sizeN n - 1) = t := by
    conv => lhs; arg 1; rw [← hbl]
    rw [List.drop_left]
  have hv : decV (sizeN n) (UInt8.ofNat (n / 256 ^ (sizeN n - 1) + headN (sizeN n))) (be (sizeN n - 1) n) = n := by
    unfold decV
    rw [ex, Nat.add_sub_cancel, be_value, Nat.mul_comm]
    exact Nat.div_add_mod n (256 ^ (sizeN n - 1))
  rw [htk, hdr, hv, if_pos rfl]
end Go.Proofs.Ytmhhppolhciigaa
