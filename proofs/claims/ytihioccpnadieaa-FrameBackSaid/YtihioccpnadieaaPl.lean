/- The sum, as plain arithmetic: the register's step, a byte, all bytes; that the document's way, bit by bit, comes to the same; that a turned byte turns the sum. -/
import Derived.Laws.BitsAllLaws
import Derived.Laws.BitsLemmas
namespace Go.Proofs.Ytihioccpnadieaa

def poly : Nat := 2197175160
def crcBit (r : Nat) : Nat := if r % 2 = 1 then r / 2 ^^^ poly else r / 2
def crcN : Nat → Nat → Nat
  | 0, r => r
  | k + 1, r => crcBit (crcN k r)
def crcByte (r : Nat) (c : UInt8) : Nat := crcN 8 (r ^^^ c.toNat)
def crcFrom (r : Nat) (l : List UInt8) : Nat := l.foldl crcByte r
def sumOf (l : List UInt8) : Nat := 4294967295 - crcFrom 4294967295 l

theorem poly_lt : poly < 2 ^ 32 := by decide
theorem crcBit_lt {r : Nat} (h : r < 2 ^ 32) : crcBit r < 2 ^ 32 := by
  unfold crcBit
  split
  · exact Nat.xor_lt_two_pow (by omega) poly_lt
  · omega
theorem crcN_lt (k : Nat) {r : Nat} (h : r < 2 ^ 32) : crcN k r < 2 ^ 32 := by
  induction k with
  | zero => exact h
  | succ k ih => exact crcBit_lt ih
theorem byte_lt (c : UInt8) : c.toNat < 2 ^ 32 := Nat.lt_trans c.toNat_lt (by decide)
theorem crcByte_lt {r : Nat} (h : r < 2 ^ 32) (c : UInt8) : crcByte r c < 2 ^ 32 := crcN_lt 8 (Nat.xor_lt_two_pow h (byte_lt c))
theorem crcFrom_lt {r : Nat} (h : r < 2 ^ 32) (l : List UInt8) : crcFrom r l < 2 ^ 32 := by
  induction l generalizing r with
  | nil => exact h
  | cons c l ih => exact ih (crcByte_lt h c)
theorem crcFrom_snoc (r : Nat) (l : List UInt8) (c : UInt8) : crcFrom r (l ++ [c]) = crcByte (crcFrom r l) c := by simp [crcFrom]
theorem sumOf_le (l : List UInt8) : sumOf l ≤ 4294967295 := by unfold sumOf; omega

theorem crcBit_inj {a b : Nat} (ha : a < 2 ^ 32) (hb : b < 2 ^ 32) (h : crcBit a = crcBit b) : a = b := by
  unfold crcBit at h
  have cancel : ∀ x y z : Nat, x ^^^ z = y ^^^ z → x = y := fun x y z e => by
    have : (x ^^^ z) ^^^ z = (y ^^^ z) ^^^ z := by rw [e]
    simpa [Nat.xor_assoc] using this
  have mixed : ∀ x y : Nat, x < 2 ^ 31 → y < 2 ^ 31 → x ^^^ poly ≠ y := fun x y hx hy e => by
    have e2 : x ^^^ y = poly := by rw [← e, ← Nat.xor_assoc, Nat.xor_self, Nat.zero_xor]
    have := Nat.xor_lt_two_pow hx hy
    rw [e2] at this
    exact absurd this (by decide)
  split at h <;> split at h
  · have := cancel _ _ _ h; omega
  · exact absurd h (mixed _ _ (by omega) (by omega))
  · exact absurd h.symm (mixed _ _ (by omega) (by omega))
  · omega
theorem crcN_inj (k : Nat) {a b : Nat} (ha : a < 2 ^ 32) (hb : b < 2 ^ 32) (h : crcN k a = crcN k b) : a = b := by
  induction k with
  | zero => exact h
  | succ k ih => exact ih (crcBit_inj (crcN_lt k ha) (crcN_lt k hb) h)
theorem crcByte_inj {a b : Nat} (c : UInt8) (ha : a < 2 ^ 32) (hb : b < 2 ^ 32) (h : crcByte a c = crcByte b c) : a = b := by
  have := crcN_inj 8 (Nat.xor_lt_two_pow ha (byte_lt c)) (Nat.xor_lt_two_pow hb (byte_lt c)) h
  have e : (a ^^^ c.toNat) ^^^ c.toNat = (b ^^^ c.toNat) ^^^ c.toNat := by rw [this]
  simpa [Nat.xor_assoc] using e
theorem crcByte_byte {a : Nat} (c d : UInt8) (ha : a < 2 ^ 32) (h : crcByte a c = crcByte a d) : c = d := by
  have := crcN_inj 8 (Nat.xor_lt_two_pow ha (byte_lt c)) (Nat.xor_lt_two_pow ha (byte_lt d)) h
  have e : a ^^^ (a ^^^ c.toNat) = a ^^^ (a ^^^ d.toNat) := by rw [this]
  have e2 : c.toNat = d.toNat := by simpa [← Nat.xor_assoc] using e
  exact UInt8.toNat_inj.1 e2
theorem crcFrom_inj {a b : Nat} (l : List UInt8) (ha : a < 2 ^ 32) (hb : b < 2 ^ 32) (h : crcFrom a l = crcFrom b l) : a = b := by
  induction l generalizing a b with
  | nil => exact h
  | cons c l ih => exact crcByte_inj c ha hb (ih (crcByte_lt ha c) (crcByte_lt hb c) h)
/-- One byte is another one: the sum is another one. -/
theorem sumOf_turned (l m : List UInt8) (c d : UInt8) (h : c ≠ d) : sumOf (l ++ c :: m) ≠ sumOf (l ++ d :: m) := by
  intro e
  have h0 : (4294967295 : Nat) < 2 ^ 32 := by decide
  have l1 := crcFrom_lt h0 (l ++ c :: m)
  have l2 := crcFrom_lt h0 (l ++ d :: m)
  have e1 : crcFrom 4294967295 (l ++ c :: m) = crcFrom 4294967295 (l ++ d :: m) := by unfold sumOf at e; omega
  have e2 : ∀ x, crcFrom 4294967295 (l ++ x :: m) = crcFrom (crcByte (crcFrom 4294967295 l) x) m := fun x => by simp [crcFrom]
  rw [e2, e2] at e1
  have hl := crcFrom_lt h0 l
  exact h (crcByte_byte c d hl (crcFrom_inj m (crcByte_lt hl c) (crcByte_lt hl d) e1))

/-! The document's way: the register and the byte are both moved down. -/
def refBit (p : Nat × Nat) : Nat × Nat := (if p.1 % 2 = p.2 % 2 then p.1 / 2 else p.1 / 2 ^^^ poly, p.2 / 2)
def refN : Nat → Nat × Nat → Nat × Nat
  | 0, p => p
  | k + 1, p => refBit (refN k p)
theorem refN_lt (k : Nat) {p : Nat × Nat} (h : p.1 < 2 ^ 32) (h2 : p.2 < 256) : (refN k p).1 < 2 ^ 32 ∧ (refN k p).2 < 256 := by
  induction k with
  | zero => exact ⟨h, h2⟩
  | succ k ih =>
    refine ⟨?_, ?_⟩
    · simp only [refN, refBit]
      split
      · omega
      · exact Nat.xor_lt_two_pow (by omega) poly_lt
    · simp only [refN, refBit]; omega
theorem refBit_xor (a b : Nat) : crcBit (a ^^^ b) = (refBit (a, b)).1 ^^^ (refBit (a, b)).2 := by
  have hd : (a ^^^ b) / 2 = a / 2 ^^^ b / 2 := Nat.xor_div_two
  have hm : (a ^^^ b) % 2 = (a + b) % 2 := by
    have := Nat.xor_mod_two_eq_one (a := a) (b := b)
    omega
  simp only [crcBit, refBit, hd, hm]
  by_cases h : a % 2 = b % 2
  · rw [if_pos h, if_neg (by omega)]
  · rw [if_neg h, if_pos (by omega), Nat.xor_assoc, Nat.xor_comm (b / 2), Nat.xor_assoc]
theorem refN_xor (k : Nat) (a b : Nat) : crcN k (a ^^^ b) = (refN k (a, b)).1 ^^^ (refN k (a, b)).2 := by
  induction k with
  | zero => rfl
  | succ k ih => simp only [crcN, refN]; rw [ih]; exact refBit_xor _ _
theorem refN_byte (k : Nat) (p : Nat × Nat) : (refN k p).2 = p.2 / 2 ^ k := by
  induction k with
  | zero => simp [refN]
  | succ k ih => simp only [refN, refBit]; rw [ih, Nat.div_div_eq_div_mul, Nat.pow_succ]
theorem refN_eq (r : Nat) (c : UInt8) : (refN 8 (r, c.toNat)).1 = crcByte r c := by
  have h := refN_xor 8 r c.toNat
  rw [refN_byte 8] at h
  have hc : c.toNat / 2 ^ 8 = 0 := by have := c.toNat_lt; omega
  simp only [hc, Nat.xor_zero] at h
  exact h.symm

/-! The bits of the program's step. -/
theorem step_bits (r : Nat) (h : r < 2 ^ 32) : bits .xor .u32 ((r : Int) / 2) (bits .and .u32 2197175160 (IntKind.u32.wrap (-(bits .and .u32 (r : Int) 1)))) = ((crcBit r : Nat) : Int) := by
  have e1 : bits .and .u32 (r : Int) 1 = ((r % 2 : Nat) : Int) := by
    have := u32_and_nat r 1 (by omega) (by decide)
    rw [nat_mask1] at this
    exact this
  have e0 : ((r : Int) / 2) = ((r / 2 : Nat) : Int) := by omega
  rw [e1, e0]
  unfold crcBit
  by_cases ho : r % 2 = 1
  · rw [if_pos ho, ho]
    have e2 : bits .and .u32 2197175160 (IntKind.u32.wrap (-((1 : Nat) : Int))) = ((poly : Nat) : Int) := by decide
    rw [e2]
    exact u32_xor_nat _ _ (by omega) (by decide)
  · have hz : r % 2 = 0 := by omega
    rw [if_neg ho, hz]
    have e2 : bits .and .u32 2197175160 (IntKind.u32.wrap (-((0 : Nat) : Int))) = ((0 : Nat) : Int) := by decide
    rw [e2]
    have := u32_xor_nat (r / 2) 0 (by omega) (by decide)
    rw [Nat.xor_zero] at this
    exact this
end Go.Proofs.Ytihioccpnadieaa
