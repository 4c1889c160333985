/- Plain: what is read as a number is what is written of it; what is written is read. -/
import Derived.Test.YtmhhppolhciigaaPo
import Derived.Test.YtmhhppolhciigaaAw
namespace Go.Proofs.Ytmhhppolhciigaa

theorem fold_ge : ∀ (t : List UInt8) (n : Nat), n * 256 ^ t.length ≤ t.foldl (fun n c => n * 256 + c.toNat) n
  | [], n => by simp
  | c :: t, n => by
    have h := fold_ge t (n * 256 + c.toNat)
    rw [List.foldl_cons, List.length_cons, Nat.pow_succ, Nat.mul_comm (256 ^ t.length) 256, ← Nat.mul_assoc]
    refine Nat.le_trans (Nat.mul_le_mul_right _ ?_) h
    omega
theorem fold_div (t : List UInt8) (n : Nat) : t.foldl (fun n c => n * 256 + c.toNat) n / 256 ^ t.length = n :=
  Nat.div_eq_of_lt_le (fold_ge t n) (fold_lt t n (n + 1) (by omega))
theorem be_fold : ∀ (t : List UInt8) (n : Nat), be t.length (t.foldl (fun n c => n * 256 + c.toNat) n) = t
  | [], n => rfl
  | c :: t, n => by
    rw [List.foldl_cons, List.length_cons, be, fold_div, be_fold]
    congr 1
    rw [show (n * 256 + c.toNat) % 256 = c.toNat from by have := c.toNat_lt; omega]
    simp

theorem head_le : ∀ f : Fin 256, headN (9 - Lib.bitLen (255 - f.val)) ≤ f.val := by decide +kernel

/-- What is read as a number is what is written of it, and what is left lies behind. -/
theorem rdU_enc (l : List UInt8) (h : (rdU l).2.2 = 0) : l = enc (rdU l).1 ++ (rdU l).2.1 := by
  cases l with
  | nil => cases h
  | cons f t =>
    obtain ⟨h1, h9⟩ := decK_le f
    rw [rdU_cons] at h ⊢
    by_cases hm : t.length + 1 < decK f
    · rw [if_pos hm] at h; cases h
    · rw [if_neg hm] at h ⊢
      by_cases hs : sizeN (decV (decK f) f (t.take (decK f - 1))) = decK f
      · rw [if_pos hs]
        have hlen : (t.take (decK f - 1)).length = decK f - 1 := by rw [List.length_take]; omega
        have hlt := decV_lt f (t.take (decK f - 1)) (Nat.le_of_eq hlen)
        have hle : headN (decK f) ≤ f.toNat := head_le ⟨f.toNat, f.toNat_lt⟩
        show f :: t = enc (decV (decK f) f (t.take (decK f - 1))) ++ t.drop (decK f - 1)
        rw [enc_eq _ hlt, hs]
        have hd : decV (decK f) f (t.take (decK f - 1)) / 256 ^ (decK f - 1) = f.toNat - headN (decK f) := by
          have := fold_div (t.take (decK f - 1)) (f.toNat - headN (decK f))
          rw [hlen] at this
          exact this
        have hb : be (decK f - 1) (decV (decK f) f (t.take (decK f - 1))) = t.take (decK f - 1) := by
          have := be_fold (t.take (decK f - 1)) (f.toNat - headN (decK f))
          rw [hlen] at this
          exact this
        rw [hd, hb, Nat.sub_add_cancel hle, List.cons_append, List.take_append_drop]
        simp
      · rw [if_neg hs] at h; cases h
theorem rdU_err (l : List UInt8) (h : (rdU l).2.2 ≠ 0) : (rdU l).1 = 0 ∧ (rdU l).2.1 = [] := by
  cases l with
  | nil => exact ⟨rfl, rfl⟩
  | cons f t =>
    rw [rdU_cons] at h ⊢
    split at h
    · rename_i hm; rw [if_pos hm]; exact ⟨rfl, rfl⟩
    · rename_i hm
      rw [if_neg hm]
      split at h
      · exact absurd rfl h
      · rename_i hs; rw [if_neg hs]; exact ⟨rfl, rfl⟩
end Go.Proofs.Ytmhhppolhciigaa
