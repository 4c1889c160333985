/- Contract of the reader's Int; awake. -/
import Derived.Test.YtmhhppolhciigaaRu
import Derived.Lib.Zigzag
import Derived.Laws.BytesArg
import Derived.Laws.IdiomStrings
namespace Go.Proofs.Ytmhhppolhciigaa
open Go.RowKit
set_option linter.unusedVariables false

theorem conv_any {W : World} {B : Nat} {A : Option Addr} {l : List UInt8} (n cap : Nat) (hn : l.length = n) (h : Rd W B A (bv l)) : (convert 22 9 (.slice A n cap)).run Try.prog W = .ok (.string ⟨l.toArray⟩) W := by
  subst hn
  cases A with
  | none =>
    have hl : l = [] := by
      rcases h with h | ⟨b, off, h, _⟩
      · exact List.eq_nil_of_length_eq_zero (by have := congrArg List.length h; rwa [bv_length] at this)
      · cases h
    subst hl
    exact run_convert_bytes_nil W 22 5 Try.underlying22 Try.underlying5 0 cap 9 Try.underlying9
  | some a =>
    refine run_convert_bytes_back W 22 9 5 a cap l Try.underlying22 Try.underlying5 Try.underlying9 fun j hj => ?_
    rcases h with h | ⟨b, off, h, _, hc⟩
    · have := congrArg List.length h
      rw [bv_length, List.length_nil] at this
      omega
    · simp only [Option.some.injEq] at h
      subst h
      have e := hc j _ (bv_get l j hj)
      have eg : l.getD j 0 = l[j] := by simp [hj]
      rw [eg] at e
      unfold Addr.add
      split
      · subst j; simpa using e
      · exact e

theorem fold_lt : ∀ (t : List UInt8) (n M : Nat), n < M → t.foldl (fun n c => n * 256 + c.toNat) n < M * 256 ^ t.length
  | [], n, M, h => by simpa using h
  | c :: t, n, M, h => by
    have := fold_lt t (n * 256 + c.toNat) (M * 256) (by have := c.toNat_lt; omega)
    rw [List.foldl_cons, List.length_cons, Nat.pow_succ, Nat.mul_comm (256 ^ t.length) 256, ← Nat.mul_assoc]
    exact this
theorem decV_lt (f : UInt8) (t : List UInt8) (h : t.length ≤ decK f - 1) : decV (decK f) f t < 18446744073709551616 := by
  obtain ⟨h1, h9⟩ := decK_le f
  have han := (andNot8 ⟨f.toNat, UInt8.toNat_lt f⟩).2
  simp only at han
  have e : 9 - Lib.bitLen (255 - f.toNat) = decK f := rfl
  rw [e] at han
  have hl := fold_lt t _ _ han
  unfold decV
  refine Nat.lt_of_lt_of_le hl ?_
  have hp : (256 : Nat) ^ t.length ≤ 256 ^ (decK f - 1) := Nat.pow_le_pow_right (by decide) h
  refine Nat.le_trans (Nat.mul_le_mul_left _ hp) ?_
  generalize decK f = k at *
  have : k = 1 ∨ k = 2 ∨ k = 3 ∨ k = 4 ∨ k = 5 ∨ k = 6 ∨ k = 7 ∨ k = 8 ∨ k = 9 := by omega
  rcases this with rfl | rfl | rfl | rfl | rfl | rfl | rfl | rfl | rfl <;> decide
theorem dec_lt (l : List UInt8) : (rdU l).1 < 18446744073709551616 := by
  cases l with
  | nil => decide
  | cons f t =>
    rw [rdU_cons]
    split
    · decide
    · split
      · exact decV_lt f _ (by rw [List.length_take]; omega)
      · decide

/-- A number as one of either sign. -/
def sgn (n : Nat) : Int := if n % 2 = 0 then ((n / 2 : Nat) : Int) else -((n / 2 : Nat) : Int) - 1

theorem rint_st (r : Nat) (l : List UInt8) (w : World) (h : St w r l 0) :
    Calls Try.prog 21 #[.pointer (some ⟨r, 0, none⟩)] w fun en w' => en = .returned (.int .i64 (sgn (rdU l).1)) ∧ St w' r (rdU l).2.1 (rdU l).2.2 ∧ w.grownBy w' (some r) := by
  have H := Lib.hid (ruint_st r l w h)
  have hlt := dec_lt l
  obtain ⟨n, hn⟩ : ∃ n, n = (rdU l).1 := ⟨_, rfl⟩
  rw [← hn] at H hlt ⊢
  clear h hn
  go_enter Try.func21, Try.ntmps21
  go_wp2_with (go_at_call 12; refine H.out.mono ?_; rintro en w2 ⟨rfl, st2, gr2⟩; (have S2 := Lib.hid st2); (have G2 := Lib.hid gr2); clear st2 gr2)
  go_returns
  refine ⟨?_, S2.out, G2.out⟩
  refine congrArg (fun x => Ending.returned (.int .i64 x)) (?_ : bits .xor .i64 ((n : Int) / 2) (wrap64 (-wrap64 (bits .and .u64 (n : Int) 1))) = sgn n)
  rw [Lib.u64_and1 _ (by omega) (by omega), IntWalk.wrap64_in ((n : Int) % 2) ⟨by omega, by omega⟩, IntWalk.wrap64_in _ ⟨by omega, by omega⟩]
  have e2 : (n : Int) / 2 = ((n / 2 : Nat) : Int) := by omega
  have hx : n / 2 < 9223372036854775808 := by omega
  unfold sgn
  rcases Nat.mod_two_eq_zero_or_one n with h | h
  · rw [if_pos h, e2, show -((n : Int) % 2) = 0 from by omega]
    show IntKind.i64.wrap ((BitVec.ofInt 64 ((n / 2 : Nat) : Int) ^^^ BitVec.ofInt 64 0).toNat : Int) = _
    have h2 : (BitVec.ofInt 64 ((n / 2 : Nat) : Int)).toNat = n / 2 := by
      rw [BitVec.ofInt_natCast, BitVec.toNat_ofNat]; exact Nat.mod_eq_of_lt (by omega)
    rw [BitVec.toNat_xor, h2, show (BitVec.ofInt 64 0).toNat = 0 from by decide, Nat.xor_zero]
    exact IntWalk.i64_in _ ⟨by omega, by omega⟩
  · rw [if_neg (by omega), e2, show -((n : Int) % 2) = -1 from by omega]
    have hn := Lib.i64_not (n / 2) hx
    have hc : bits .xor .i64 ((n / 2 : Nat) : Int) (-1) = bits .xor .i64 (-1) ((n / 2 : Nat) : Int) := by
      show IntKind.i64.wrap ((BitVec.ofInt 64 ((n / 2 : Nat) : Int) ^^^ BitVec.ofInt 64 (-1)).toNat : Int) = IntKind.i64.wrap ((BitVec.ofInt 64 (-1) ^^^ BitVec.ofInt 64 ((n / 2 : Nat) : Int)).toNat : Int)
      rw [BitVec.xor_comm]
    rw [hc, hn]

theorem read_st (A : Option Addr) (l : List UInt8) (c : Nat) (w : World) (h : Rd w w.heap.size A (bv l)) (hl : l.length ≤ c) (hc : c ≤ 9223372036854775807) :
    Calls Try.prog 10 #[.slice A l.length c] w fun e w' => ∃ r, e = .returned (.pointer (some ⟨r, 0, none⟩)) ∧ r = w.heap.size ∧ St w' r l 0 ∧ w.grownBy w' none := by
  refine (read_any A l.length c w).mono ?_
  rintro e w' ⟨rfl, h1, h2, h3⟩
  exact ⟨_, rfl, rfl, ⟨A, c, h3, hl, hc, h.grown h1 (fun g e => by cases e), fun k => absurd rfl k⟩, h1⟩
theorem St.apart {w w' : World} {r s e e2 : Nat} {l l2 : List UInt8} (h : St w s l e) (hr : St w r l2 e2) (hg : w.grownBy w' (some r)) (hne : s ≠ r) : St w' s l e := by
  obtain ⟨A, c, h1, h2, h3, h4, h5⟩ := h
  obtain ⟨B, d, ⟨t, k1⟩, _⟩ := hr
  refine ⟨A, c, h1.kept hg (by simpa using hne), h2, h3, ?_, h5⟩
  rcases h4 with h | ⟨b, off, hA, hb, hc⟩
  · exact .inl h
  · refine .inr ⟨b, off, hA, hb, fun j u hj => ?_⟩
    have hj' := hc j u hj
    refine World.grownBy.cell hg hj' ?_
    intro hbr
    have hbr : b = r := by simpa using hbr
    subst hbr
    rw [cell_of_row w b (off + j) _ t (0, 0) k1] at hj'
    have hu : u.oneCell' = true ∧ ∃ x, u = .int .u8 x := by
      have hm := List.mem_of_getElem? hj
      simp only [bv, List.mem_map] at hm
      obtain ⟨x, _, rfl⟩ := hm
      exact ⟨rfl, _, rfl⟩
    obtain ⟨_, x, rfl⟩ := hu
    generalize off + j = i at hj'
    match i, hj' with
    | 0, hj' => simp at hj'
    | 1, hj' => simp at hj'
    | i + 2, hj' => simp at hj'

theorem lit_read (l : List UInt8) (w : World) (hl : l.length ≤ 1000) : Calls Try.prog 10 #[.slice (some ⟨w.heap.size, 0, none⟩) l.length l.length] (w.alloc (.cells (bv l).toArray 5)) fun e w' =>
    ∃ r, e = .returned (.pointer (some ⟨r, 0, none⟩)) ∧ w.heap.size < r ∧ r < w'.heap.size ∧ St w' r l 0 ∧ Below w.heap.size w w' := by
  have hr : Rd (w.alloc (.cells (bv l).toArray 5)) (w.alloc (.cells (bv l).toArray 5)).heap.size (some ⟨w.heap.size, 0, none⟩) (bv l) := by
    have := Rd.of_own (World.ownsRow_lit (e := 5) (size := 1) w (bv l).toArray l.length (Nat.le_refl _) (by unfold maxLen; omega) (by simp [bv]))
    simpa using this
  refine (read_st _ l l.length _ hr (Nat.le_refl _) (by omega)).mono ?_
  rintro e w' ⟨r, rfl, hr2, st, gr⟩
  have hs := gr.size
  refine ⟨r, rfl, by rw [hr2]; simp, ?_, st, ((Below.refl _ _).alloc (Nat.le_refl _) _).grown gr (by simp) (fun k e => by cases e)⟩
  obtain ⟨A, c, h1, _⟩ := st
  exact h1.lt

set_option maxRecDepth 100000 in
set_option maxHeartbeats 1000000 in
theorem awake_true (w : World) : Calls Try.prog 9 #[] w fun e w' => e = .returned (.bool true) ∧ Below w.heap.size w w' := by
  go_enter Try.func9, Try.ntmps9
  go_wp2_with fail
  have hrd1 : Rd (w.alloc (.cells #[.int .u8 7] 5)) (w.heap.size + 1) (some ⟨w.heap.size, 0, none⟩) (bv [7]) := new_row w _ _ _ (by omega)
  have hu0 := uint_any (some ⟨w.heap.size, 0, none⟩) (w.heap.size + 1) [7] 1 16384 _ hrd1 (by decide) (by decide)
  have henc : [7] ++ enc 16384 = [7, 192, 64, 0] := by decide
  rw [henc] at hu0
  refine hu0.mono ?_
  rintro e w1 ⟨g, c, rfl, own1, bel1⟩
  clear hu0
  have HB1 := Lib.hid (((Below.refl w.heap.size w).alloc (Nat.le_refl _) (.cells #[.int .u8 7] 5)).trans (bel1.mono (by simp)))
  have OWN1 := Lib.hid own1
  clear hrd1 henc own1 bel1
  go_wp2_with fail
  refine (lit_read [128, 5] w1 (by decide)).mono ?_
  rintro e w2 ⟨r, rfl, hr1, hr2, st2, bel2⟩
  have HB2 := Lib.hid (HB1.out.trans (bel2.mono HB1.out.size))
  have OWN2 := Lib.hid (own_keep OWN1.out bel2)
  have S2 := Lib.hid st2
  have hg := own_ge OWN1.out g rfl
  obtain ⟨_, _, hv1, _, hgl⟩ := OWN1.out.form (by decide)
  cases hv1
  clear st2 bel2
  go_wp2_with fail
  refine (lit_read [128, 128, 1] w2 (by decide)).mono ?_
  rintro e w3 ⟨s, rfl, hs1, hs2, st3, bel3⟩
  have HB3 := Lib.hid (HB2.out.trans (bel3.mono HB2.out.size))
  have OWN3 := Lib.hid (own_keep OWN2.out bel3)
  have S3 := Lib.hid (S2.out.below bel3)
  have T3 := Lib.hid st3
  clear st3 bel3
  go_wp2_with fail
  have hu := ruint_st r [128, 5] w3 S3.out
  have hru : rdU [128, 5] = (0, [], 11) := by decide
  rw [hru] at hu
  refine hu.mono ?_
  rintro e w4 ⟨rfl, st4, gr4⟩
  have hsr : s ≠ r := by omega
  have HB4 := Lib.hid (HB3.out.grown gr4 HB3.out.size (fun k hk => by cases hk; have := HB1.out.size; omega))
  have OWN4 := Lib.hid (OWN3.out.kept gr4 (.inr (by simp [Value.ownBlock]; omega)))
  have T4 := Lib.hid (T3.out.apart S3.out gr4 hsr)
  have S4 := Lib.hid (show St w4 r [] 11 from st4)
  clear hu hru st4 gr4
  go_wp2_with fail
  have hi := rint_st s [128, 128, 1] w4 T4.out
  have hru : rdU [128, 128, 1] = (128, [1], 0) := by decide
  rw [hru] at hi
  refine hi.mono ?_
  rintro e w5 ⟨rfl, st5, gr5⟩
  have hsg : sgn (128, [1], 0).1 = 64 := by decide
  rw [hsg]
  have HB5 := Lib.hid (HB4.out.grown gr5 HB4.out.size (fun k hk => by cases hk; have := HB2.out.size; omega))
  have OWN5 := Lib.hid (OWN4.out.kept gr5 (.inr (by simp [Value.ownBlock]; omega)))
  have S5 := Lib.hid (S4.out.apart T4.out gr5 (by omega))
  have T5 := Lib.hid (show St w5 s [1] 0 from st5)
  clear hi hru hsg st5 gr5
  have cv := conv_any (W := w5) 4 c rfl (Rd.of_own OWN5.out)
  have hend : Calls Try.prog 15 #[.pointer (some ⟨r, 0, none⟩)] w5 fun en w' => en = .returned (.int .i64 11) ∧ w5.grownBy w' (some r) := by
    refine (end_st r [] 11 w5 S5.out).mono fun en w' h => ⟨?_, h.2.2⟩
    rw [h.1, if_neg (fun k => k.2 rfl)]
    rfl
  have HE := Lib.hid hend
  clear hend
  go_wp2_with fail
  refine HE.out.mono ?_
  rintro e w6 ⟨rfl, gr6⟩
  have T6 := Lib.hid (T5.out.apart S5.out gr6 hsr)
  have HB6 := Lib.hid (HB5.out.grown gr6 HB5.out.size (fun k hk => by cases hk; have := HB1.out.size; omega))
  clear gr6
  have hleft : Calls Try.prog 11 #[.pointer (some ⟨s, 0, none⟩)] w6 fun en w' => en = .returned (.int .i64 1) ∧ w6 = w' := left_st s [1] 0 w6 T6.out
  have HL := Lib.hid hleft
  have hend : Calls Try.prog 15 #[.pointer (some ⟨s, 0, none⟩)] w6 fun en w' => en = .returned (.int .i64 11) ∧ w6.grownBy w' (some s) := by
    refine (end_st s [1] 0 w6 T6.out).mono fun en w' h => ⟨?_, h.2.2⟩
    rw [h.1, if_pos ⟨rfl, by simp⟩]
    rfl
  have HE2 := Lib.hid hend
  clear hend hleft
  go_wp2_with fail
  refine HL.out.mono ?_
  rintro e w7 ⟨rfl, rfl⟩
  go_wp2_with fail
  refine HE2.out.mono ?_
  rintro e w7 ⟨rfl, gr7⟩
  have HB7 := Lib.hid (HB6.out.grown gr7 HB6.out.size (fun k hk => by cases hk; have := HB2.out.size; omega))
  clear gr7
  go_wp2_with fail
  go_returns
  exact ⟨rfl, HB7.out⟩
end Go.Proofs.Ytmhhppolhciigaa
