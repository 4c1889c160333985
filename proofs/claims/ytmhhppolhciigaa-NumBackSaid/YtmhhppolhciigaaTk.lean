/- Contract of take. -/
import Derived.Test.YtmhhppolhciigaaRe
namespace Go.Proofs.Ytmhhppolhciigaa
open Go.RowKit
set_option linter.unusedVariables false

theorem take_bad (r : Nat) (l : List UInt8) (e n : Nat) (w : World) (h : St w r l e) (hn : e ≠ 0 ∨ l.length < n) (h64 : n < 18446744073709551616) :
    Calls Try.prog 26 #[.pointer (some ⟨r, 0, none⟩), .int .u64 (n : Int)] w fun en w' => en = .returned (.slice none 0 0) ∧ St w' r [] (if e = 0 then 10 else e) ∧ w.grownBy w' (some r) := by
  have H := Lib.hid h
  obtain ⟨A, c, h1, h2, h3, h4, h5⟩ := h
  have c0 := h1.cell0
  have c1 := h1.cell1
  have f0 := h1.froz 0
  have f1 := h1.froz 1
  clear h1 h4
  by_cases he : e = 0
  · subst he
    have hn' : l.length < n := by omega
    clear h5 hn
    go_enter Try.func26, Try.ntmps26
    go_wp2_with (go_at_call 23; refine (fail_st r l 0 10 _ H.out).mono ?_; rintro en w2 ⟨rfl, st2, gr2⟩; rw [if_pos ⟨rfl, by decide⟩, if_pos ⟨rfl, by decide⟩] at st2; (have S2 := Lib.hid st2); (have G2 := Lib.hid gr2); clear st2 gr2)
    go_returns
    exact ⟨rfl, S2.out, G2.out⟩
  · rw [if_neg he]
    have hl := h5 he
    subst hl
    have he' : ((e : Int) != 0) = true := by simp; omega
    have he2 : ¬ (e = 0 ∧ (10 : Nat) ≠ 0) := fun k => he k.1
    have HE2 := Lib.hid he2
    clear h5 hn he2
    go_enter Try.func26, Try.ntmps26
    go_wp2_with (go_at_call 23; refine (fail_st r [] e 10 _ H.out).mono ?_; rintro en w2 ⟨rfl, st2, gr2⟩; rw [if_neg HE2.out, if_neg HE2.out] at st2; (have S2 := Lib.hid st2); (have G2 := Lib.hid gr2); clear st2 gr2)
    go_returns
    exact ⟨rfl, S2.out, G2.out⟩

theorem take_fin (r : Nat) (l : List UInt8) (n c c' : Nat) (A A' : Option Addr) (w : World) (hn : n ≤ l.length) (h1 : Rdr w r A l.length c 0) (h : Rd w r A' (bv (l.drop n))) (h4 : Rd w r A (bv l)) (hc : l.length ≤ c) (hc' : l.length - n ≤ c') (hcm : c ≤ 9223372036854775807) (hcm' : c' ≤ 9223372036854775807) :
    (∃ B d, Ending.returned (.slice A n c) = .returned (.slice B n d) ∧ n ≤ d ∧ d ≤ 9223372036854775807 ∧ Rd (w.setCell ⟨r, 0, none⟩ (.slice A' (l.length - n) c')) r B (bv (l.take n))) ∧
    St (w.setCell ⟨r, 0, none⟩ (.slice A' (l.length - n) c')) r (l.drop n) 0 ∧ w.grownBy (w.setCell ⟨r, 0, none⟩ (.slice A' (l.length - n) c')) (some r) := by
  refine ⟨⟨A, c, rfl, by omega, hcm, ?_⟩, ⟨A', c', ?_, ?_, hcm', ?_, fun k => absurd rfl k⟩, set_grown _ _ _ _⟩
  · rw [bv_take]
    exact (h4.take n).setCell (p := ⟨r, 0, none⟩) (Nat.le_refl _) _
  · rw [List.length_drop]; exact h1.set0 _ _ _
  · rw [List.length_drop]; exact hc'
  · exact h.setCell (p := ⟨r, 0, none⟩) (Nat.le_refl _) _

theorem rd_add (r n : Nat) (l : List UInt8) (x : Addr) (w : World) (h4 : Rd w r (some x) (bv l)) : Rd w r (some (x.add n)) (bv (l.drop n)) := by
  rcases h4 with h | ⟨b, off, hA, hb, hc⟩
  · have : l = [] := by simpa [bv] using h
    subst this
    exact .inl (by simp [bv])
  · cases hA
    have e : (Addr.add ⟨b, off, none⟩ n) = ⟨b, off + n, none⟩ := by
      unfold Addr.add
      split
      · subst n; rfl
      · rfl
    rw [e, bv_drop]
    exact Rd.drop (.inr ⟨b, off, rfl, hb, hc⟩) n

theorem take_ok (r : Nat) (l : List UInt8) (n : Nat) (w : World) (h : St w r l 0) (hn : n ≤ l.length) :
    Calls Try.prog 26 #[.pointer (some ⟨r, 0, none⟩), .int .u64 (n : Int)] w fun en w' => (∃ A c, en = .returned (.slice A n c) ∧ n ≤ c ∧ c ≤ 9223372036854775807 ∧ Rd w' r A (bv (l.take n))) ∧ St w' r (l.drop n) 0 ∧ w.grownBy w' (some r) := by
  obtain ⟨A, c, h1, h2, h3, h4, h5⟩ := h
  have c0 := h1.cell0
  have c1 := h1.cell1
  have f0 := h1.froz 0
  have f1 := h1.froz 1
  have H1 := Lib.hid h1
  have H4 := Lib.hid h4
  clear h5 h1 h4
  cases A with
  | none =>
    have hl : l = [] := by
      rcases H4.out with h | ⟨b, off, h, _⟩
      · simpa [bv] using h
      · cases h
    have HL := Lib.hid hl
    clear hl
    go_enter Try.func26, Try.ntmps26
    go_wp2_with fail
    go_returns
    exact take_fin r l n c (c - n) none none w hn H1.out (.inl (by rw [HL.out]; simp [bv])) H4.out h2 (by omega) h3 (by omega)
  | some x =>
    by_cases hc : c = n
    · subst hc
      go_enter Try.func26, Try.ntmps26
      go_wp2_with fail
      go_returns
      have hf := take_fin r l c c 0 (some x) (some x) w hn H1.out (.inl (by rw [List.drop_eq_nil_of_le (by omega)]; rfl)) H4.out h2 (by omega) h3 (by omega)
      have e0 : l.length - c = 0 := by omega
      rw [e0] at hf
      exact hf
    · go_enter Try.func26, Try.ntmps26
      go_wp2_with fail
      go_returns
      exact take_fin r l n c (c - n) (some x) _ w hn H1.out (rd_add r n l x w H4.out) H4.out h2 (by omega) h3 (by omega)
end Go.Proofs.Ytmhhppolhciigaa
