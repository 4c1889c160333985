/- Plain: how many bytes a number has; its bytes. -/
import Derived.Lib.BitFns
namespace Go.Proofs.Ytmhhppolhciigaa

/-- How many bytes a number has. -/
def sizeN (n : Nat) : Nat :=
  if n < 128 then 1 else if n < 16384 then 2 else if n < 2097152 then 3 else if n < 268435456 then 4 else if n < 34359738368 then 5
  else if n < 4398046511104 then 6 else if n < 562949953421312 then 7 else if n < 72057594037927936 then 8 else 9

theorem lt_bitLenAux : ∀ (f x : Nat), x < 2 ^ f → x < 2 ^ (Lib.bitLenAux f x)
  | 0, x, h => by simpa [Lib.bitLenAux] using h
  | f + 1, x, h => by
    simp only [Lib.bitLenAux]
    split
    · rename_i h0; subst h0; simp
    · have := lt_bitLenAux f (x / 2) (by rw [Nat.pow_succ] at h; omega)
      rw [Nat.add_comm, Nat.pow_succ]
      omega
theorem lt_bitLen (x : Nat) (h : x < 18446744073709551616) : x < 2 ^ (Lib.bitLen x) := lt_bitLenAux 64 x h
theorem bitLen_ge (x a : Nat) (h : x < 18446744073709551616) (ha : 2 ^ a ≤ x) : a < Lib.bitLen x := by
  have := lt_bitLen x h
  rcases Nat.lt_or_ge a (Lib.bitLen x) with h1 | h1
  · exact h1
  · have := Nat.pow_le_pow_right (n := 2) (by decide) h1
    omega

theorem size_eq (n : Nat) (h : n < 18446744073709551616) : min (max ((Lib.bitLen n + 6) / 7) 1) 9 = sizeN n := by
  have h64 := Lib.bitLen_le n 64 (Nat.le_refl _) h
  unfold sizeN
  by_cases h1 : n < 128
  · have := Lib.bitLen_le n 7 (by decide) h1
    rw [if_pos h1]; omega
  · have g1 := bitLen_ge n 7 h (by omega)
    rw [if_neg h1]
    by_cases h2 : n < 16384
    · have := Lib.bitLen_le n 14 (by decide) h2
      rw [if_pos h2]; omega
    · have g2 := bitLen_ge n 14 h (by omega)
      rw [if_neg h2]
      by_cases h3 : n < 2097152
      · have := Lib.bitLen_le n 21 (by decide) h3
        rw [if_pos h3]; omega
      · have g3 := bitLen_ge n 21 h (by omega)
        rw [if_neg h3]
        by_cases h4 : n < 268435456
        · have := Lib.bitLen_le n 28 (by decide) h4
          rw [if_pos h4]; omega
        · have g4 := bitLen_ge n 28 h (by omega)
          rw [if_neg h4]
          by_cases h5 : n < 34359738368
          · have := Lib.bitLen_le n 35 (by decide) h5
            rw [if_pos h5]; omega
          · have g5 := bitLen_ge n 35 h (by omega)
            rw [if_neg h5]
            by_cases h6 : n < 4398046511104
            · have := Lib.bitLen_le n 42 (by decide) h6
              rw [if_pos h6]; omega
            · have g6 := bitLen_ge n 42 h (by omega)
              rw [if_neg h6]
              by_cases h7 : n < 562949953421312
              · have := Lib.bitLen_le n 49 (by decide) h7
                rw [if_pos h7]; omega
              · have g7 := bitLen_ge n 49 h (by omega)
                rw [if_neg h7]
                by_cases h8 : n < 72057594037927936
                · have := Lib.bitLen_le n 56 (by decide) h8
                  rw [if_pos h8]; omega
                · have g8 := bitLen_ge n 56 h (by omega)
                  rw [if_neg h8]; omega
theorem sizeN_le (n : Nat) : 1 ≤ sizeN n ∧ sizeN n ≤ 9 := by
  unfold sizeN
  repeat' split
  all_goals omega

/-- The first bits of a number of k bytes. -/
def headN (k : Nat) : Nat := if k = 9 then 255 else 256 - 2 ^ (9 - k)

/-- A number's bytes, k of them, the highest first. -/
def be : Nat → Nat → List UInt8
  | 0, _ => []
  | k + 1, n => UInt8.ofNat (n / 256 ^ k % 256) :: be k n
theorem be_length : ∀ k n, (be k n).length = k
  | 0, _ => rfl
  | k + 1, n => by rw [be, List.length_cons, be_length k n]

/-- What is written of a number. -/
def enc (n : Nat) : List UInt8 := (be (sizeN n) n).set 0 ((be (sizeN n) n).getD 0 0 ||| UInt8.ofNat (headN (sizeN n)))
theorem enc_length (n : Nat) : (enc n).length = sizeN n := by rw [enc, List.length_set, be_length]
end Go.Proofs.Ytmhhppolhciigaa
