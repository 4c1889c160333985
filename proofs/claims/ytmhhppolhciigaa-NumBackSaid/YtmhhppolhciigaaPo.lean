/- Plain: the order of what is written of numbers. -/
import Derived.Test.YtmhhppolhciigaaPn
import Derived.WalkKit
namespace Go.Proofs.Ytmhhppolhciigaa

set_option maxHeartbeats 4000000 in
theorem sizeN_mono (a b : Nat) (h : a ≤ b) : sizeN a ≤ sizeN b := by
  unfold sizeN
  repeat' split
  all_goals omega

theorem or_head : ∀ k : Fin 10, ∀ f : Fin 256, 1 ≤ k.val → f.val < 2 ^ (9 - k.val) → f.val ||| headN k.val = f.val + headN k.val ∧ f.val + headN k.val < 256 := by decide +kernel

theorem first_lt (n : Nat) (h : n < 18446744073709551616) : n / 256 ^ (sizeN n - 1) < 2 ^ (9 - sizeN n) := by
  have hk := sizeN_le n
  have hb : n < 128 ∧ sizeN n = 1 ∨ n < 16384 ∧ sizeN n = 2 ∨ n < 2097152 ∧ sizeN n = 3 ∨ n < 268435456 ∧ sizeN n = 4 ∨ n < 34359738368 ∧ sizeN n = 5 ∨ n < 4398046511104 ∧ sizeN n = 6 ∨ n < 562949953421312 ∧ sizeN n = 7 ∨ n < 72057594037927936 ∧ sizeN n = 8 ∨ sizeN n = 9 := by
    unfold sizeN
    repeat' split
    all_goals omega
  rcases hb with ⟨h1, e⟩ | ⟨h1, e⟩ | ⟨h1, e⟩ | ⟨h1, e⟩ | ⟨h1, e⟩ | ⟨h1, e⟩ | ⟨h1, e⟩ | ⟨h1, e⟩ | e
  all_goals
    rw [e]
    simp only [Nat.reduceSub, Nat.reducePow]
    omega

theorem enc_eq (n : Nat) (h : n < 18446744073709551616) : enc n = UInt8.ofNat (n / 256 ^ (sizeN n - 1) + headN (sizeN n)) :: be (sizeN n - 1) n := by
  obtain ⟨h1, h9⟩ := sizeN_le n
  have hf := first_lt n h
  have hpw : 2 ^ (9 - sizeN n) ≤ 2 ^ 8 := Nat.pow_le_pow_right (by decide) (by omega)
  have ho := or_head ⟨sizeN n, by omega⟩ ⟨n / 256 ^ (sizeN n - 1), by omega⟩ h1 hf
  simp only at ho
  unfold enc
  obtain ⟨k, hk⟩ : ∃ k, sizeN n = k + 1 := ⟨sizeN n - 1, by omega⟩
  rw [hk] at ho hf ⊢
  simp only [Nat.add_sub_cancel] at ho hf ⊢
  rw [be]
  simp only [List.getD_cons_zero, List.set_cons_zero]
  congr 1
  have hm : n / 256 ^ k % 256 = n / 256 ^ k := Nat.mod_eq_of_lt (by omega)
  rw [hm, ← UInt8.ofNat_or, ho.1]

theorem be_less : ∀ (j a b : Nat), Op.bytesLess (be j a) (be j b) = decide (a % 256 ^ j < b % 256 ^ j)
  | 0, a, b => by simp [be, Op.bytesLess, Nat.mod_one]
  | j + 1, a, b => by
    have ih := be_less j a b
    rw [be, be, Op.bytesLess, ih, Nat.mod_pow_succ, Nat.mod_pow_succ]
    have hx : a / 256 ^ j % 256 < 256 := Nat.mod_lt _ (by decide)
    have hy : b / 256 ^ j % 256 < 256 := Nat.mod_lt _ (by decide)
    have hP : 0 < 256 ^ j := Nat.pow_pos (by decide)
    have hra : a % 256 ^ j < 256 ^ j := Nat.mod_lt _ hP
    have hrb : b % 256 ^ j < 256 ^ j := Nat.mod_lt _ hP
    generalize a / 256 ^ j % 256 = x at *
    generalize b / 256 ^ j % 256 = y at *
    generalize a % 256 ^ j = ra at *
    generalize b % 256 ^ j = rb at *
    generalize 256 ^ j = P at *
    have ex : (UInt8.ofNat x).toNat = x := by rw [UInt8.toNat_ofNat']; omega
    have ey : (UInt8.ofNat y).toNat = y := by rw [UInt8.toNat_ofNat']; omega
    have elt : decide (UInt8.ofNat x < UInt8.ofNat y) = decide (x < y) := decide_eq_decide.2 (by rw [UInt8.lt_iff_toNat_lt, ex, ey])
    have eeq : (UInt8.ofNat x == UInt8.ofNat y) = decide (x = y) := by
      rw [Bool.eq_iff_iff, beq_iff_eq, decide_eq_true_iff, ← UInt8.toNat_inj, ex, ey]
    rw [elt, eeq]
    rcases Nat.lt_trichotomy x y with h | h | h
    · have := Nat.mul_le_mul_left P (show x + 1 ≤ y from h)
      rw [Nat.mul_add, Nat.mul_one] at this
      rw [decide_eq_true h, decide_eq_true (show ra + P * x < rb + P * y from by omega)]
      rfl
    · subst h
      rw [decide_eq_false (Nat.lt_irrefl x), decide_eq_true rfl, Bool.false_or, Bool.true_and]
      congr 1
      exact propext ⟨fun h => by omega, fun h => by omega⟩
    · have := Nat.mul_le_mul_left P (show y + 1 ≤ x from h)
      rw [Nat.mul_add, Nat.mul_one] at this
      rw [decide_eq_false (show ¬ x < y from by omega), decide_eq_false (show ¬ x = y from by omega), decide_eq_false (show ¬ ra + P * x < rb + P * y from by omega)]
      rfl

/-- Of as many bytes the lesser number's bytes are ahead. -/
theorem enc_less (a b : Nat) (ha : a < 18446744073709551616) (hb : b < 18446744073709551616) (h : sizeN a = sizeN b) : Op.bytesLess (enc a) (enc b) = decide (a < b) := by
  have fa := first_lt a ha
  have fb := first_lt b hb
  rw [enc_eq a ha, enc_eq b hb, h, Op.bytesLess, be_less]
  rw [h] at fa
  obtain ⟨h1, h9⟩ := sizeN_le b
  have hpw : 2 ^ (9 - sizeN b) ≤ 2 ^ 8 := Nat.pow_le_pow_right (by decide) (by omega)
  have oa := (or_head ⟨sizeN b, by omega⟩ ⟨a / 256 ^ (sizeN b - 1), by omega⟩ h1 fa).2
  have ob := (or_head ⟨sizeN b, by omega⟩ ⟨b / 256 ^ (sizeN b - 1), by omega⟩ h1 fb).2
  simp only at oa ob
  have da := Nat.div_add_mod a (256 ^ (sizeN b - 1))
  have db := Nat.div_add_mod b (256 ^ (sizeN b - 1))
  have hP : 0 < 256 ^ (sizeN b - 1) := Nat.pow_pos (by decide)
  have hra : a % 256 ^ (sizeN b - 1) < 256 ^ (sizeN b - 1) := Nat.mod_lt _ hP
  have hrb : b % 256 ^ (sizeN b - 1) < 256 ^ (sizeN b - 1) := Nat.mod_lt _ hP
  generalize headN (sizeN b) = H at *
  generalize 256 ^ (sizeN b - 1) = P at *
  generalize a / P = x at *
  generalize b / P = y at *
  generalize a % P = ra at *
  generalize b % P = rb at *
  have ex : (UInt8.ofNat (x + H)).toNat = x + H := by rw [UInt8.toNat_ofNat']; omega
  have ey : (UInt8.ofNat (y + H)).toNat = y + H := by rw [UInt8.toNat_ofNat']; omega
  have elt : decide (UInt8.ofNat (x + H) < UInt8.ofNat (y + H)) = decide (x < y) := decide_eq_decide.2 (by rw [UInt8.lt_iff_toNat_lt, ex, ey]; omega)
  have eeq : (UInt8.ofNat (x + H) == UInt8.ofNat (y + H)) = decide (x = y) := by
    rw [Bool.eq_iff_iff, beq_iff_eq, decide_eq_true_iff, ← UInt8.toNat_inj, ex, ey]
    omega
  rw [elt, eeq]
  rcases Nat.lt_trichotomy x y with h | h | h
  · have := Nat.mul_le_mul_left P (show x + 1 ≤ y from h)
    rw [Nat.mul_add, Nat.mul_one] at this
    rw [decide_eq_true h, decide_eq_true (show a < b from by omega)]
    rfl
  · subst h
    rw [decide_eq_false (Nat.lt_irrefl x), decide_eq_true rfl, Bool.false_or, Bool.true_and]
    congr 1
    exact propext ⟨fun h => by omega, fun h => by omega⟩
  · have := Nat.mul_le_mul_left P (show y + 1 ≤ x from h)
    rw [Nat.mul_add, Nat.mul_one] at this
    rw [decide_eq_false (show ¬ x < y from by omega), decide_eq_false (show ¬ x = y from by omega), decide_eq_false (show ¬ a < b from by omega)]
    rfl
end Go.Proofs.Ytmhhppolhciigaa
