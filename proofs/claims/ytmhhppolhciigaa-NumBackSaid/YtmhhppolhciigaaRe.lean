/- Contracts of the reader: what it is made of, Fail, Left, Err, End. -/
import Derived.Test.YtmhhppolhciigaaUi
namespace Go.Proofs.Ytmhhppolhciigaa
open Go.RowKit
set_option linter.unusedVariables false

/-- The reader at block r: what is left, and the error. -/
def Rdr (w : World) (r : Nat) (A : Option Addr) (m c e : Nat) : Prop := ∃ t, w.heap[r]? = some (.cells #[.slice A m c, .int .i64 (e : Int)] t (0, 0))
section
variable {w : World} {r m c e : Nat} {A : Option Addr}
theorem Rdr.cell0 (h : Rdr w r A m c e) : w.cell? ⟨r, 0, none⟩ = some (.slice A m c) := by
  obtain ⟨t, h⟩ := h
  rw [cell_of_row w r 0 _ t (0, 0) h]; rfl
theorem Rdr.cell1 (h : Rdr w r A m c e) : w.cell? ⟨r, 1, none⟩ = some (.int .i64 (e : Int)) := by
  obtain ⟨t, h⟩ := h
  rw [cell_of_row w r 1 _ t (0, 0) h]; rfl
theorem Rdr.froz (h : Rdr w r A m c e) (j : Nat) : w.frozen? ⟨r, j, none⟩ = false := by
  obtain ⟨t, h⟩ := h
  exact frozen_of_row w r j _ t h
theorem Rdr.set0 (h : Rdr w r A m c e) (A' : Option Addr) (m' c' : Nat) : Rdr (w.setCell ⟨r, 0, none⟩ (.slice A' m' c')) r A' m' c' e := by
  obtain ⟨t, h⟩ := h
  exact ⟨t, heap_setCell_same w r 0 _ t _ h⟩
theorem Rdr.set1 (h : Rdr w r A m c e) (e' : Nat) : Rdr (w.setCell ⟨r, 1, none⟩ (.int .i64 (e' : Int))) r A m c e' := by
  obtain ⟨t, h⟩ := h
  exact ⟨t, heap_setCell_same w r 1 _ t _ h⟩
theorem set_grown (w : World) (r j : Nat) (u : Value) : w.grownBy (w.setCell ⟨r, j, none⟩ u) (some r) :=
  ⟨rfl, rfl, rfl, by simp, fun k _ hk => heap_setCell_other w ⟨r, j, none⟩ k u (fun e => hk (by simp [e]))⟩
end

theorem read_any (A : Option Addr) (m c : Nat) (w : World) : Calls Try.prog 10 #[.slice A m c] w fun e w' => e = .returned (.pointer (some ⟨w.heap.size, 0, none⟩)) ∧ w.grownBy w' none ∧ w'.heap.size = w.heap.size + 1 ∧ Rdr w' w.heap.size A m c 0 := by
  go_enter Try.func10, Try.ntmps10
  go_wp2_with fail
  go_returns
  exact ⟨rfl, World.grownBy_alloc _ _ _, by simp, 51, heap_alloc_new _ _⟩

/-- The reader at block r has the bytes l left, and the error e. -/
def St (w : World) (r : Nat) (l : List UInt8) (e : Nat) : Prop :=
  ∃ A c, Rdr w r A l.length c e ∧ l.length ≤ c ∧ c ≤ 9223372036854775807 ∧ Rd w r A (bv l) ∧ (e ≠ 0 → l = [])
theorem Rdr.lt {w : World} {r m c e : Nat} {A : Option Addr} (h : Rdr w r A m c e) : r < w.heap.size := by
  obtain ⟨t, h⟩ := h
  rcases Nat.lt_or_ge r w.heap.size with h1 | h1
  · exact h1
  · rw [Array.getElem?_eq_none h1] at h; cases h
theorem Rdr.kept {w w' : World} {r m c e : Nat} {A : Option Addr} {row : Option Nat} (h : Rdr w r A m c e) (hg : w.grownBy w' row) (hne : some r ≠ row) : Rdr w' r A m c e := by
  have hlt := h.lt
  obtain ⟨t, h⟩ := h
  exact ⟨t, by rw [hg.block r hlt hne]; exact h⟩
theorem St.kept {w w' : World} {r e : Nat} {l : List UInt8} (h : St w r l e) (hg : w.grownBy w' none) : St w' r l e := by
  obtain ⟨A, c, h1, h2, h3, h4, h5⟩ := h
  exact ⟨A, c, h1.kept hg (by simp), h2, h3, h4.grown hg (fun g hg => by cases hg), h5⟩
theorem St.below {w w' : World} {r e : Nat} {l : List UInt8} (h : St w r l e) (hg : Below w.heap.size w w') : St w' r l e :=
  h.kept ⟨hg.os, hg.tape, hg.output, hg.size, fun k hk _ => hg.block k hk⟩

theorem fail_do (r : Nat) (A : Option Addr) (m c x : Nat) (w : World) (h : Rdr w r A m c 0) (hx : x ≠ 0) :
    Calls Try.prog 23 #[.pointer (some ⟨r, 0, none⟩), .int .i64 (x : Int)] w fun e w' => e = .returned (.tuple #[]) ∧ Rdr w' r none 0 0 x ∧ w.grownBy w' (some r) := by
  have c0 := h.cell0
  have c1 := h.cell1
  have f0 := h.froz 0
  have f1 := h.froz 1
  have H := Lib.hid ((h.set0 none 0 0).set1 x)
  have hx' : ((x : Int) != 0) = true := by simp; omega
  clear h hx
  go_enter Try.func23, Try.ntmps23
  go_wp2_with fail
  go_returns
  exact ⟨rfl, H.out, (set_grown w r 0 _).trans (set_grown _ r 1 _)⟩
theorem fail_no (r : Nat) (A : Option Addr) (m c e x : Nat) (w : World) (h : Rdr w r A m c e) (hx : e ≠ 0 ∨ x = 0) :
    Calls Try.prog 23 #[.pointer (some ⟨r, 0, none⟩), .int .i64 (x : Int)] w fun e w' => e = .returned (.tuple #[]) ∧ w = w' := by
  have c0 := h.cell0
  have c1 := h.cell1
  have f0 := h.froz 0
  have f1 := h.froz 1
  clear h
  by_cases he : e = 0
  · subst he
    obtain rfl : x = 0 := by omega
    go_enter Try.func23, Try.ntmps23
    go_wp2_with fail
    go_returns
    exact ⟨rfl, rfl⟩
  · have he' : ((e : Int) == 0) = false := by simp; omega
    go_enter Try.func23, Try.ntmps23
    go_wp2_with fail
    go_returns
    exact ⟨rfl, rfl⟩
/-- Fail. -/
theorem fail_st (r : Nat) (l : List UInt8) (e x : Nat) (w : World) (h : St w r l e) :
    Calls Try.prog 23 #[.pointer (some ⟨r, 0, none⟩), .int .i64 (x : Int)] w fun en w' => en = .returned (.tuple #[]) ∧ St w' r (if e = 0 ∧ x ≠ 0 then [] else l) (if e = 0 ∧ x ≠ 0 then x else e) ∧ w.grownBy w' (some r) := by
  obtain ⟨A, c, h1, h2, h3, h4, h5⟩ := h
  by_cases hx : e = 0 ∧ x ≠ 0
  · rw [if_pos hx, if_pos hx]
    obtain ⟨rfl, hx⟩ := hx
    exact (fail_do r A _ c x w h1 hx).mono fun en w' ⟨h1, h2, h3⟩ => ⟨h1, ⟨none, 0, h2, Nat.le_refl _, by omega, .nil, fun _ => rfl⟩, h3⟩
  · rw [if_neg hx, if_neg hx]
    refine (fail_no r A _ c e x w h1 (by omega)).mono ?_
    rintro en w' ⟨rfl, rfl⟩
    exact ⟨rfl, ⟨A, c, h1, h2, h3, h4, h5⟩, World.grownBy.refl _ _⟩

theorem left_st (r : Nat) (l : List UInt8) (e : Nat) (w : World) (h : St w r l e) : Calls Try.prog 11 #[.pointer (some ⟨r, 0, none⟩)] w fun en w' => en = .returned (.int .i64 (l.length : Nat)) ∧ w = w' := by
  obtain ⟨A, c, h1, h2, h3, h4, h5⟩ := h
  have c0 := h1.cell0
  have f0 := h1.froz 0
  clear h1 h4 h5
  go_enter Try.func11, Try.ntmps11
  go_wp2_with fail
  go_returns
  exact ⟨rfl, rfl⟩
theorem err_st (r : Nat) (l : List UInt8) (e : Nat) (w : World) (h : St w r l e) : Calls Try.prog 13 #[.pointer (some ⟨r, 0, none⟩)] w fun en w' => en = .returned (.int .i64 (e : Nat)) ∧ w = w' := by
  obtain ⟨A, c, h1, h2, h3, h4, h5⟩ := h
  have c1 := h1.cell1
  have f1 := h1.froz 1
  clear h1 h4 h5
  go_enter Try.func13, Try.ntmps13
  go_wp2_with fail
  go_returns
  exact ⟨rfl, rfl⟩
theorem end_st (r : Nat) (l : List UInt8) (e : Nat) (w : World) (h : St w r l e) :
    Calls Try.prog 15 #[.pointer (some ⟨r, 0, none⟩)] w fun en w' => en = .returned (.int .i64 ((if e = 0 ∧ l ≠ [] then 11 else e : Nat) : Int)) ∧ St w' r [] (if e = 0 ∧ l ≠ [] then 11 else e) ∧ w.grownBy w' (some r) := by
  have H := Lib.hid h
  have h5 := h.choose_spec.choose_spec.2.2.2.2
  by_cases hl : l = []
  · have hc : ¬ (e = 0 ∧ l ≠ []) := fun k => k.2 hl
    rw [if_neg hc]
    subst hl
    clear h hc h5
    go_enter Try.func15, Try.ntmps15
    go_wp2_with (first
      | (go_at_call 11; refine (left_st r [] e _ H.out).mono ?_; rintro en w' ⟨rfl, rfl⟩)
      | (go_at_call 13; refine (err_st r [] e _ H.out).mono ?_; rintro en w' ⟨rfl, rfl⟩))
    go_returns
    exact ⟨rfl, H.out, World.grownBy.refl _ _⟩
  · have he : e = 0 := by
      rcases Nat.eq_zero_or_pos e with h0 | h0
      · exact h0
      · exact absurd (h5 (by omega)) hl
    subst he
    rw [if_pos ⟨rfl, hl⟩]
    have hpos : 0 < l.length := List.length_pos_iff.2 hl
    obtain ⟨m, hm⟩ : ∃ m, m = l.length := ⟨_, rfl⟩
    have HL := fun W (h : St W r l 0) => left_st r l 0 W h
    rw [← hm] at hpos
    simp only [← hm] at HL
    have HLL := Lib.hid HL
    clear h h5 HL hm
    go_enter Try.func15, Try.ntmps15
    go_wp2_with (first
      | (go_at_call 11; refine (HLL.out _ H.out).mono ?_; rintro en w' ⟨rfl, rfl⟩)
      | (go_at_call 23; refine (fail_st r l 0 11 _ H.out).mono ?_; rintro en w2 ⟨rfl, st2, gr2⟩; rw [if_pos ⟨rfl, by decide⟩, if_pos ⟨rfl, by decide⟩] at st2; (have S2 := Lib.hid st2); (have G2 := Lib.hid gr2); clear st2 gr2)
      | (go_at_call 13; refine (err_st r [] 11 _ S2.out).mono ?_; rintro en w' ⟨rfl, rfl⟩))
    go_returns
    exact ⟨rfl, S2.out, G2.out⟩
end Go.Proofs.Ytmhhppolhciigaa
