/- The walk of ClockPlays: contracts of the reference's clock, and the loop. -/
import Derived.Test.YtgglckagenapgaaWb
import Derived.Deep.QuietTactic
import Derived.BigQuiet
import Derived.Deep.RegionHeld3
import Derived.StillTailTactics
import Derived.Laws.AppendOwn
namespace Go.Proofs.Ytgglckagenapgaa
open Go.RowKit
set_option linter.unusedVariables false

theorem rsee_more (a s t n : Int) (w : World) (h : t < n) (h2 : n ≤ 1099511627776) :
    Calls Try.prog 14 #[.agg #[.int .i64 a, .int .i64 s, .int .i64 t], .int .i64 n] w fun e w' => e = .returned (.agg #[.int .i64 a, .int .i64 s, .int .i64 n]) ∧ ∃ c d, w' = (w.alloc (.cells c 41)).alloc (.cells d 41) := by
  go_enter Try.func14, Try.ntmps14
  go_wp2
  go_returns
  exact ⟨rfl, _, _, rfl⟩

theorem rsee_less (a s t n : Int) (w : World) (hn : n ≤ t ∨ (t < n ∧ 1099511627776 < n)) :
    Calls Try.prog 14 #[.agg #[.int .i64 a, .int .i64 s, .int .i64 t], .int .i64 n] w fun e w' => e = .returned (.agg #[.int .i64 a, .int .i64 s, .int .i64 t]) ∧ ∃ c d, w' = (w.alloc (.cells c 41)).alloc (.cells d 41) := by
  rcases hn with hn | ⟨hn, hm⟩
  all_goals
    go_enter Try.func14, Try.ntmps14
    go_wp2
    go_returns
    exact ⟨rfl, _, _, rfl⟩

theorem rsee_any (a s t n : Int) (w : World) :
    Calls Try.prog 14 #[.agg #[.int .i64 a, .int .i64 s, .int .i64 t], .int .i64 n] w fun e w' => e = .returned (.agg #[.int .i64 a, .int .i64 s, .int .i64 (if t < n ∧ n ≤ 1099511627776 then n else t)]) ∧ ∃ c d, w' = (w.alloc (.cells c 41)).alloc (.cells d 41) := by
  by_cases h : t < n ∧ n ≤ 1099511627776
  · rw [if_pos h]; exact rsee_more a s t n w h.1 h.2
  · rw [if_neg h]; exact rsee_less a s t n w (by omega)

theorem rnext_spent (a s t : Int) (w : World) (h : s = 1073741824 ∨ (s < 1073741824 ∧ t = 1099511627776)) :
    Calls Try.prog 15 #[.agg #[.int .i64 a, .int .i64 s, .int .i64 t]] w fun e w' => e = .returned (.tuple #[.agg #[.int .i64 0, .int .i64 0], .int .i64 0, .agg #[.int .i64 a, .int .i64 s, .int .i64 t], .bool false]) ∧ Below w.heap.size w w' := by
  rcases h with rfl | ⟨h, rfl⟩
  · go_enter Try.func15, Try.ntmps15
    go_wp2
    go_region
    all_goals
      go_wp2
      go_returns
      exact ⟨rfl, by go_grown⟩
  · have e1 : (s == 1073741824) = false := by simp; omega
    go_enter Try.func15, Try.ntmps15
    go_wp2
    go_region
    all_goals
      go_wp2
      go_returns
      exact ⟨rfl, by go_grown⟩

theorem rnext_ok (a s t : Int) (w : World) (h0 : 0 ≤ s) (hs : s < 1073741824) (h1 : 0 ≤ t) (ht : t < 1099511627776) :
    Calls Try.prog 15 #[.agg #[.int .i64 a, .int .i64 s, .int .i64 t]] w fun e w' => e = .returned (.tuple #[.agg #[.int .i64 a, .int .i64 (s + 1)], .int .i64 (t + 1), .agg #[.int .i64 a, .int .i64 (s + 1), .int .i64 (t + 1)], .bool true]) ∧ Below w.heap.size w w' := by
  have e1 : (s == 1073741824) = false := by simp; omega
  have e2 : (t == 1099511627776) = false := by simp; omega
  go_enter Try.func15, Try.ntmps15
  go_wp2
  go_region
  all_goals
    go_wp2
    go_returns
    exact ⟨rfl, by go_grown⟩

theorem Ck.grown {w w' : World} {b : Nat} {s t a : Int} (h : Ck w b s t a) {row : Option Nat} (hg : w.grownBy w' row) (hne : some b ≠ row) : Ck w' b s t a := (hg.block b h.lt hne).trans h

theorem _root_.Go.RowKit.Below.drewN {B : Nat} {a w : World} (h : Below B a w) (n : Nat) : Below B a (w.drewN n) := ⟨h.os, h.tape, h.output, h.size, h.block⟩

theorem only_setCell (w : World) (b i : Nat) (u : Value) : w.grownBy (w.setCell ⟨b, i, none⟩ u) (some b) :=
  ⟨rfl, rfl, rfl, by simp [World.setCell], fun k _ hne => Below.heap_setCell _ _ _ _ (fun e => hne (by rw [e]))⟩

theorem see_g (b : Nat) (s t a n : Int) (w : World) (h : Ck w b s t a) :
    Calls Try.prog 12 #[.pointer (some ⟨b, 0, none⟩), .int .i64 n] w fun e w' => e = .returned (.tuple #[]) ∧ Ck w' b s (if t < n ∧ n ≤ 1099511627776 then n else t) a ∧ w.grownBy w' (some b) := by
  have H := Lib.hid h
  clear h
  by_cases h1 : t < n
  · by_cases h2 : n ≤ 1099511627776
    · rw [if_pos ⟨h1, h2⟩]
      go_enter Try.func12, Try.ntmps12
      go_wp2_with (go_at_call 19; refine (see_more b s t a n _ H.out h1 h2).mono ?_; rintro e w' ⟨rfl, rfl⟩)
      go_returns
      exact ⟨rfl, H.out.set1 n, only_setCell _ _ _ _⟩
    · rw [if_neg (by omega)]
      go_enter Try.func12, Try.ntmps12
      go_wp2_with (go_at_call 19; refine (see_less b s t a n _ H.out (.inr ⟨h1, by omega⟩)).mono ?_; rintro e w' ⟨rfl, rfl⟩)
      go_returns
      exact ⟨rfl, H.out, World.grownBy.refl _ _⟩
  · rw [if_neg (by omega)]
    go_enter Try.func12, Try.ntmps12
    go_wp2_with (go_at_call 19; refine (see_less b s t a n _ H.out (.inl (by omega))).mono ?_; rintro e w' ⟨rfl, rfl⟩)
    go_returns
    exact ⟨rfl, H.out, World.grownBy.refl _ _⟩

/-- Next changes the clock's own block alone: the law of 'next_ok', told so. -/
theorem next_g (b : Nat) (s t a : Int) (w : World) (h : Ck w b s t a) (h0 : 0 ≤ s) (hs : s < 1073741824) (h1 : 0 ≤ t) (ht : t < 1099511627776) :
    Calls Try.prog 13 #[.pointer (some ⟨b, 0, none⟩)] w fun e w' => e = .returned (.tuple #[.agg #[.int .i64 a, .int .i64 (s + 1)], .int .i64 (t + 1), .int .i64 0]) ∧ Ck w' b (s + 1) (t + 1) a ∧ w.grownBy w' (some b) := by
  have hb := h.lt
  have H := Lib.hid h
  have c0 := h.c0
  have c1 := h.c1
  have c2 := h.c2
  have f0 := h.fz 0
  have f1 := h.fz 1
  have n0 : b ≠ w.heap.size := by omega
  clear h
  go_enter Try.func13, Try.ntmps13
  go_wp2_with (go_at_call 20; refine (spent_no b s t a _ (H.out.alloc _) hs ht).mono ?_; rintro e w' ⟨rfl, rfl⟩)
  go_region
  all_goals
    go_wp2
    go_returns
    refine ⟨rfl, ?_, ?_⟩
    · have h := H.out
      exact (((h.set0 _).set1 _).alloc _)
    · refine ⟨rfl, rfl, rfl, by simp [World.setCell], fun k hk hne => ?_⟩
      have hk' : k ≠ b := fun e => hne (by rw [e])
      exact ((Below.heap_alloc _ _ _ (by simpa [World.setCell] using hk)).trans ((Below.heap_setCell _ _ _ _ hk').trans (Below.heap_setCell _ _ _ _ hk')))

/-- The reference's clock at block b. -/
def Rk (w : World) (b : Nat) (a s t : Int) : Prop := w.heap[b]? = some (.cells #[.int .i64 a, .int .i64 s, .int .i64 t] 41 (0, 0))
section
variable {w w' : World} {b B : Nat} {a s t : Int}
theorem Rk.c0 (h : Rk w b a s t) : w.cell? ⟨b, 0, none⟩ = some (.int .i64 a) := cell_of_row w b 0 _ 41 (0, 0) h
theorem Rk.c1 (h : Rk w b a s t) : w.cell? ⟨b, 1, none⟩ = some (.int .i64 s) := cell_of_row w b 1 _ 41 (0, 0) h
theorem Rk.c2 (h : Rk w b a s t) : w.cell? ⟨b, 2, none⟩ = some (.int .i64 t) := cell_of_row w b 2 _ 41 (0, 0) h
theorem Rk.fz (h : Rk w b a s t) (i : Nat) : w.frozen? ⟨b, i, none⟩ = false := by
  unfold Rk at h
  simp [World.frozen?, h]
theorem Rk.lt (h : Rk w b a s t) : b < w.heap.size := World.block_lt_of_cell? _ _ h.c0
theorem Rk.alloc (h : Rk w b a s t) (o : Obj) : Rk (w.alloc o) b a s t := (Below.heap_alloc w o b h.lt).trans h
theorem Rk.drew (h : Rk w b a s t) : Rk w.drew b a s t := h
theorem Rk.far (h : Rk w b a s t) {p : Addr} (hp : b ≠ p.block) (u : Value) : Rk (w.setCell p u) b a s t := (Below.heap_setCell w p u b hp).trans h
theorem Rk.below (h : Rk w b a s t) (hb : Below B w w') (hB : b < B) : Rk w' b a s t := (hb.block b hB).trans h
theorem Rk.grown (h : Rk w b a s t) {row : Option Nat} (hg : w.grownBy w' row) (hne : some b ≠ row) : Rk w' b a s t := (hg.block b h.lt hne).trans h
theorem Rk.sets (h : Rk w b a s t) (x y z : Int) : Rk (((w.setCell ⟨b, 0, none⟩ (.int .i64 x)).setCell ⟨b, 1, none⟩ (.int .i64 y)).setCell ⟨b, 2, none⟩ (.int .i64 z)) b x y z := by
  unfold Rk at h ⊢
  simp [World.setCell, Array.getElem?_modify, h]
theorem Rk.new (w : World) (a s t : Int) : Rk (w.alloc (.cells #[.int .i64 a, .int .i64 s, .int .i64 t] 41)) w.heap.size a s t := heap_alloc_new w _
end

set_option maxRecDepth 100000 in
theorem clockPlays.walk_no (a0 a1 a2 : Int) (a3 : Option Addr) (len3 cap3 : Nat) (w : World)
    (h : a0 < 0 ∨ (0 ≤ a0 ∧ 16777216 ≤ a0) ∨ (0 ≤ a0 ∧ a0 < 16777216 ∧ a1 < 0) ∨ (0 ≤ a0 ∧ a0 < 16777216 ∧ 0 ≤ a1 ∧ 1073741824 < a1) ∨
      (0 ≤ a0 ∧ a0 < 16777216 ∧ 0 ≤ a1 ∧ a1 ≤ 1073741824 ∧ a2 < 0) ∨ (0 ≤ a0 ∧ a0 < 16777216 ∧ 0 ≤ a1 ∧ a1 ≤ 1073741824 ∧ 0 ≤ a2 ∧ 1099511627776 < a2)) :
    Calls Try.prog 6 #[.int .i64 a0, .int .i64 a1, .int .i64 a2, .slice a3 len3 cap3] w fun e w' => e = .returned (.bool true) ∧ Below w.heap.size w w' := by
  have g := Lib.hid (fun w => new_no a0 a1 a2 w h)
  rcases h with h | ⟨h, h1⟩ | ⟨h, h1, h2⟩ | ⟨h, h1, h2, h3⟩ | ⟨h, h1, h2, h3, h4⟩ | ⟨h, h1, h2, h3, h4, h5⟩
  all_goals
    go_enter Try.func6, Try.ntmps6
    go_wp2_with (first
      | (go_at_call 8; refine (awake_true _).mono ?_; rintro e w' ⟨rfl, hb1⟩)
      | (go_at_call 11; refine (g.out _).mono ?_; rintro e w' ⟨rfl, rfl⟩)
      | (have hno : (!decide (a2 ≤ 1099511627776)) = false := by assumption
         exfalso; simp at hno; omega))
    go_returns
    exact ⟨rfl, hb1⟩

set_option maxRecDepth 100000 in
set_option maxHeartbeats 2000000 in
theorem clockPlays.walk_yes (a0 a1 a2 : Int) (b0 off len3 cap3 : Nat) (z3 : List Int) (w : World) (q0 : 0 ≤ a0) (q1 : a0 < 16777216) (q2 : 0 ≤ a1) (q3 : a1 ≤ 1073741824) (q4 : 0 ≤ a2) (q5 : a2 ≤ 1099511627776)
    (hb0 : b0 < w.heap.size) (hcell : ∀ i, i < len3 → w.cell? ⟨b0, off + i, none⟩ = some (.int .i64 (z3.getD i 0))) (hwf : ∀ i, i < len3 → (Lit.int .i64 (z3.getD i 0)).wf = true)
    (hl : len3 ≤ cap3) (hm : cap3 ≤ 9223372036854775807) :
    Calls Try.prog 6 #[.int .i64 a0, .int .i64 a1, .int .i64 a2, .slice (some ⟨b0, off, none⟩) len3 cap3] w fun e w' => e = .returned (.bool true) ∧ Below w.heap.size w w' := by
  have HC := Lib.hid hcell
  have HW := Lib.hid hwf
  clear hcell hwf
  go_enter Try.func6, Try.ntmps6
  go_wp2_with (first
    | (go_at_call 8; refine (awake_true _).mono ?_; rintro e w1 ⟨rfl, hb1⟩)
    | (go_at_call 11; refine (new_yes a0 a1 a2 _ q0 q1 q2 q3 q4 q5).mono ?_; rintro e w' ⟨rfl, rfl⟩))
  have hwz := hb1.size
  obtain ⟨g1, hg1⟩ : ∃ g, g = w1.heap.size := ⟨_, rfl⟩
  obtain ⟨g2, hg2⟩ : ∃ g, g = g1 + 1 := ⟨_, rfl⟩
  rw [← hg1, ← hg2]
  have HG1 := Lib.hid hg1
  have HG2 := Lib.hid hg2
  have hgw : w.heap.size ≤ g1 := by omega
  have hgg : g1 < g2 := by omega
  clear hg1 hg2
  go_loopw [14] (fun i wr => ∃ (k : Nat) (s t : Int), k ≤ 100 ∧ k ≤ len3 ∧ i = .int .i64 k ∧ 0 ≤ s ∧ s ≤ 1073741824 ∧ 0 ≤ t ∧ t ≤ 1099511627776 ∧
      Ck wr g1 s t a0 ∧ Rk wr g2 a0 s t ∧ Below w.heap.size w wr) (fun i _ => len3 - (intOf i).toNat)
  case atStart =>
    refine ⟨0, a1, a2, by omega, by omega, rfl, q2, q3, q4, q5, ?_, ?_, (hb1.alloc hb1.size _).alloc (by have := hb1.size; simp; omega) _⟩
    · rw [HG1.out]; exact (Ck.new _ _ _ _).alloc _
    · rw [HG2.out, HG1.out]; simpa using Rk.new (w1.alloc (.cells #[.int .i64 a1, .int .i64 a2, .int .i64 a0] 53)) a0 a1 a2
  case round =>
    obtain ⟨k, s, t, hk, hkl, rfl, hs0, hs1, ht0, ht1, hck, hrk, hbl⟩ := hrel
    have HK := Lib.hid hck
    have HR := Lib.hid hrk
    have HB := Lib.hid hbl
    have hsz := hrk.lt
    clear hck hrk hbl
    by_cases hlt : k < len3 ∧ k < 100
    · obtain ⟨hlt, h100⟩ := hlt
      obtain ⟨v, hv⟩ : ∃ v, v = z3.getD k 0 := ⟨_, rfl⟩
      have hc0 : wr.cell? ⟨b0, off + k, none⟩ = some (.int .i64 v) := by rw [hv, HB.out.cell (p := ⟨b0, off + k, none⟩) hb0]; exact HC.out k hlt
      have HV : Hid (wr.cell? ⟨b0, off + k, none⟩ = some (.int .i64 v)) := hc0
      clear hv
      by_cases he : v.tmod 2 = 0
      · have he1 : (v.tmod 2 == 0) = true := by simpa using he
        clear he
        obtain ⟨t', ht'⟩ : ∃ t', t' = (if t < wrap64 (v.tdiv 2) ∧ wrap64 (v.tdiv 2) ≤ 1099511627776 then wrap64 (v.tdiv 2) else t) := ⟨_, rfl⟩
        have hst : ∀ W, Ck W g1 s t a0 → Calls Try.prog 12 #[.pointer (some ⟨g1, 0, none⟩), .int .i64 (wrap64 (v.tdiv 2))] W fun e w' => e = .returned (.tuple #[]) ∧ Ck w' g1 s t' a0 ∧ W.grownBy w' (some g1) := by
          rw [ht']; exact fun W h => see_g g1 s t a0 _ W h
        have hrt : ∀ W, Calls Try.prog 14 #[.agg #[.int .i64 a0, .int .i64 s, .int .i64 t], .int .i64 (wrap64 (v.tdiv 2))] W fun e w' => e = .returned (.agg #[.int .i64 a0, .int .i64 s, .int .i64 t']) ∧ ∃ c d, w' = (W.alloc (.cells c 41)).alloc (.cells d 41) := by
          rw [ht']; exact fun W => rsee_any a0 s t _ W
        have hb1' : 0 ≤ t' := by rw [ht']; split <;> omega
        have hb2' : t' ≤ 1099511627776 := by rw [ht']; split <;> omega
        have HS := Lib.hid hst
        have HT := Lib.hid hrt
        clear hst hrt ht'
        go_wp2_with (go_at_call 12; refine (HS.out _ HK.out).mono ?_; rintro e w2 ⟨rfl, hck2, hg2⟩; (have HK2 := Lib.hid hck2); (have HR2 := Lib.hid (HR.out.grown hg2 (by simp; omega))); (have HB2 := Lib.hid (HB.out.grown hg2 (by omega) (by simp; omega))); (have r0 := HR2.out.c0); (have r1 := HR2.out.c1); (have r2 := HR2.out.c2); (have f0 := HR2.out.fz 0); (have f1 := HR2.out.fz 1); (have f2 := HR2.out.fz 2); (have n1 := HR2.out.lt); (have n2 : g2 ≠ w2.heap.size := by omega); (have n3 : g2 ≠ w2.heap.size + 1 := by omega); (have hc2 : w2.cell? ⟨b0, off + k, none⟩ = some (.int .i64 v) := (World.cell?_of_block (hg2.block b0 (by have := HB.out.size; omega) (by simp; omega))).trans HV.out); clear hck2 hg2)
        go_still_tail 6, (by kernel_rfl)
        change wpList _ _ _ _ _ w2.drew
        go_wp2_with (go_at_call 14; refine (HT.out _).mono ?_; rintro e w3 ⟨rfl, c, d, rfl⟩)
        generalize hw3 : World.drew _ = w3
        have hck3 : Ck w3 g1 s t' a0 := by
          rw [← hw3]
          have hne : g1 ≠ g2 := by omega
          exact (((((HK2.out.far (p := ⟨g2, 0, none⟩) hne _).far (p := ⟨g2, 1, none⟩) hne _).far (p := ⟨g2, 2, none⟩) hne _).alloc _).alloc _)
        have hrk3 : Rk w3 g2 a0 s t' := by
          rw [← hw3]
          exact (((HR2.out.sets a0 s t').alloc _).alloc _)
        have hbl3 : Below w.heap.size w w3 := by
          rw [← hw3]
          have hz2 := HB2.out.size
          have hB2 := HB2.out
          have hgw2 : w.heap.size ≤ g2 := by omega
          go_grown
        have HK3 := Lib.hid hck3
        have HR3 := Lib.hid hrk3
        have HB3 := Lib.hid hbl3
        have r0 := hrk3.c0
        have r1 := hrk3.c1
        have r2 := hrk3.c2
        clear hck3 hrk3 hbl3 hw3
        go_quiet ((first | (go_at_call 16; exact Calls.quiet_of_same ((actor_of g1 s t' a0 _ (by exact HK3.out)).mono fun _ _ h => ⟨h.1, h.2.symm⟩)) | (go_at_call 17; exact Calls.quiet_of_same ((seq_of g1 s t' a0 _ (by exact HK3.out)).mono fun _ _ h => ⟨h.1, h.2.symm⟩)) | (go_at_call 18; exact Calls.quiet_of_same ((time_of g1 s t' a0 _ (by exact HK3.out)).mono fun _ _ h => ⟨h.1, h.2.symm⟩))))
        go_wp2
        go_roundw
        case rel => exact ⟨k + 1, s, t', by omega, by omega, by go_num, by omega, by omega, by omega, by omega, HK3.out, HR3.out, HB3.out.drewN nq⟩
        case measure => simp [intOf]; omega
      · have he1 : (v.tmod 2 == 0) = false := by simpa using he
        clear he
        by_cases hsp : s = 1073741824 ∨ t = 1099511627776
        · go_wp2_with (go_at_call 13; refine (next_spent g1 _ _ _ _ HK.out hsp).mono ?_; rintro e w2 ⟨rfl, hck2, hb2⟩; (have HK2 := Lib.hid hck2); (have HR2 := Lib.hid (HR.out.below hb2 hsz)); (have HB2 := Lib.hid (HB.out.trans (hb2.mono HB.out.size))); clear hck2 hb2; (have r0 := HR2.out.c0); (have r1 := HR2.out.c1); (have r2 := HR2.out.c2); (have f0 := HR2.out.fz 0); (have f1 := HR2.out.fz 1); (have f2 := HR2.out.fz 2); (have n1 := HR2.out.lt); (have n2 : g2 ≠ w2.heap.size := by omega))
          refine (rnext_spent a0 s t _ (by omega)).mono ?_
          rintro e w3 ⟨rfl, hb3⟩
          have d0 : w3.cell? ⟨w2.heap.size, 0, none⟩ = some (.int .i64 0) := (hb3.cell (p := ⟨w2.heap.size, 0, none⟩) (by simp)).trans (cell_of_row _ _ 0 _ 36 (0, 0) (heap_alloc_new w2 _))
          have d1 : w3.cell? ⟨w2.heap.size, 1, none⟩ = some (.int .i64 0) := (hb3.cell (p := ⟨w2.heap.size, 1, none⟩) (by simp)).trans (cell_of_row _ _ 1 _ 36 (0, 0) (heap_alloc_new w2 _))
          have HK3 := Lib.hid ((HK2.out.alloc _).below hb3 (by have := HK2.out.lt; simp; omega))
          have HR3 := Lib.hid ((HR2.out.alloc _).below hb3 (by simp; omega))
          have HB3 := Lib.hid ((HB2.out.alloc HB2.out.size _).trans (hb3.mono (by have := HB2.out.size; simp; omega)))
          have n3 : w2.heap.size + 1 ≤ w3.heap.size := by have := hb3.size; simp at this; omega
          clear r0 r1 r2 f0 f1 f2 hb3
          have r0 := HR3.out.c0
          have r1 := HR3.out.c1
          have r2 := HR3.out.c2
          have f0 := HR3.out.fz 0
          have f1 := HR3.out.fz 1
          have f2 := HR3.out.fz 2
          have n4 : g2 ≠ w3.heap.size := by omega
          have n5 : g2 ≠ w3.heap.size + 1 := by omega
          have n6 : w2.heap.size ≠ w3.heap.size := by omega
          have n7 : w2.heap.size ≠ w3.heap.size + 1 := by omega
          have n8 : g2 < w3.heap.size := by omega
          have n9 : w2.heap.size < w3.heap.size := by omega
          go_wp2_with fail
          generalize hw4 : World.alloc _ _ = w4
          have hne : g1 ≠ g2 := by omega
          have hck4 : Ck w4 g1 s t a0 := by
            rw [← hw4]
            exact (((((HK3.out.far (p := ⟨g2, 0, none⟩) hne _).far (p := ⟨g2, 1, none⟩) hne _).far (p := ⟨g2, 2, none⟩) hne _).alloc _).alloc _)
          have hrk4 : Rk w4 g2 a0 s t := by
            rw [← hw4]
            exact (((HR3.out.sets a0 s t).alloc _).alloc _)
          have hbl4 : Below w.heap.size w w4 := by
            rw [← hw4]
            have hz2 := HB3.out.size
            have hB2 := HB3.out
            have hgw2 : w.heap.size ≤ g2 := by omega
            go_grown
          have HK4 := Lib.hid hck4
          have HR4 := Lib.hid hrk4
          have HB4 := Lib.hid hbl4
          clear r0 r1 r2 f0 f1 f2
          have r0 := hrk4.c0
          have r1 := hrk4.c1
          have r2 := hrk4.c2
          clear hck4 hrk4 hbl4 hw4
          go_quiet ((first | (go_at_call 16; exact Calls.quiet_of_same ((actor_of g1 s t a0 _ (by exact HK4.out)).mono fun _ _ h => ⟨h.1, h.2.symm⟩)) | (go_at_call 17; exact Calls.quiet_of_same ((seq_of g1 s t a0 _ (by exact HK4.out)).mono fun _ _ h => ⟨h.1, h.2.symm⟩)) | (go_at_call 18; exact Calls.quiet_of_same ((time_of g1 s t a0 _ (by exact HK4.out)).mono fun _ _ h => ⟨h.1, h.2.symm⟩))))
          go_wp2
          go_roundw
          case rel => exact ⟨k + 1, s, t, by omega, by omega, by go_num, by omega, by omega, by omega, by omega, HK4.out, HR4.out, HB4.out.drewN nq⟩
          case measure => simp [intOf]; omega
        · have hs2 : s < 1073741824 := by omega
          have ht2 : t < 1099511627776 := by omega
          clear hsp
          go_wp2_with (go_at_call 13; refine (next_g g1 _ _ _ _ HK.out hs0 hs2 ht0 ht2).mono ?_; rintro e w2 ⟨rfl, hck2, hg2⟩; (have HK2 := Lib.hid hck2); (have HR2 := Lib.hid (HR.out.grown hg2 (by simp; omega))); (have HB2 := Lib.hid (HB.out.grown hg2 (by omega) (by simp; omega))); clear hck2 hg2; (have r0 := HR2.out.c0); (have r1 := HR2.out.c1); (have r2 := HR2.out.c2); (have f0 := HR2.out.fz 0); (have f1 := HR2.out.fz 1); (have f2 := HR2.out.fz 2); (have n1 := HR2.out.lt); (have n2 : g2 ≠ w2.heap.size := by omega))
          refine (rnext_ok a0 s t _ hs0 hs2 ht0 ht2).mono ?_
          rintro e w3 ⟨rfl, hb3⟩
          have d0 : w3.cell? ⟨w2.heap.size, 0, none⟩ = some (.int .i64 a0) := (hb3.cell (p := ⟨w2.heap.size, 0, none⟩) (by simp)).trans (cell_of_row _ _ 0 _ 36 (0, 0) (heap_alloc_new w2 _))
          have d1 : w3.cell? ⟨w2.heap.size, 1, none⟩ = some (.int .i64 (s + 1)) := (hb3.cell (p := ⟨w2.heap.size, 1, none⟩) (by simp)).trans (cell_of_row _ _ 1 _ 36 (0, 0) (heap_alloc_new w2 _))
          have HK3 := Lib.hid ((HK2.out.alloc _).below hb3 (by have := HK2.out.lt; simp; omega))
          have HR3 := Lib.hid ((HR2.out.alloc _).below hb3 (by simp; omega))
          have HB3 := Lib.hid ((HB2.out.alloc HB2.out.size _).trans (hb3.mono (by have := HB2.out.size; simp; omega)))
          have n3 : w2.heap.size + 1 ≤ w3.heap.size := by have := hb3.size; simp at this; omega
          clear r0 r1 r2 f0 f1 f2 hb3
          have r0 := HR3.out.c0
          have r1 := HR3.out.c1
          have r2 := HR3.out.c2
          have f0 := HR3.out.fz 0
          have f1 := HR3.out.fz 1
          have f2 := HR3.out.fz 2
          have n4 : g2 ≠ w3.heap.size := by omega
          have n5 : g2 ≠ w3.heap.size + 1 := by omega
          have n6 : w2.heap.size ≠ w3.heap.size := by omega
          have n7 : w2.heap.size ≠ w3.heap.size + 1 := by omega
          have n8 : g2 < w3.heap.size := by omega
          have n9 : w2.heap.size < w3.heap.size := by omega
          go_wp2_with fail
          generalize hw4 : World.alloc _ _ = w4
          have hne : g1 ≠ g2 := by omega
          have hck4 : Ck w4 g1 (s + 1) (t + 1) a0 := by
            rw [← hw4]
            exact (((((HK3.out.far (p := ⟨g2, 0, none⟩) hne _).far (p := ⟨g2, 1, none⟩) hne _).far (p := ⟨g2, 2, none⟩) hne _).alloc _).alloc _)
          have hrk4 : Rk w4 g2 a0 (s + 1) (t + 1) := by
            rw [← hw4]
            exact (((HR3.out.sets a0 (s + 1) (t + 1)).alloc _).alloc _)
          have hbl4 : Below w.heap.size w w4 := by
            rw [← hw4]
            have hz2 := HB3.out.size
            have hB2 := HB3.out
            have hgw2 : w.heap.size ≤ g2 := by omega
            go_grown
          have HK4 := Lib.hid hck4
          have HR4 := Lib.hid hrk4
          have HB4 := Lib.hid hbl4
          clear r0 r1 r2 f0 f1 f2
          have r0 := hrk4.c0
          have r1 := hrk4.c1
          have r2 := hrk4.c2
          clear hck4 hrk4 hbl4 hw4
          go_quiet ((first | (go_at_call 16; exact Calls.quiet_of_same ((actor_of g1 (s + 1) (t + 1) a0 _ (by exact HK4.out)).mono fun _ _ h => ⟨h.1, h.2.symm⟩)) | (go_at_call 17; exact Calls.quiet_of_same ((seq_of g1 (s + 1) (t + 1) a0 _ (by exact HK4.out)).mono fun _ _ h => ⟨h.1, h.2.symm⟩)) | (go_at_call 18; exact Calls.quiet_of_same ((time_of g1 (s + 1) (t + 1) a0 _ (by exact HK4.out)).mono fun _ _ h => ⟨h.1, h.2.symm⟩))))
          go_wp2
          go_roundw
          case rel => exact ⟨k + 1, (s + 1), (t + 1), by omega, by omega, by go_num, by omega, by omega, by omega, by omega, HK4.out, HR4.out, HB4.out.drewN nq⟩
          case measure => simp [intOf]; omega
    · by_cases hlt2 : k < len3
      · go_wp2
        go_returns
        exact ⟨rfl, HB.out⟩
      · go_wp2
        go_returns
        exact ⟨rfl, HB.out⟩

set_option maxRecDepth 100000 in
theorem clockPlays.walk_none (a0 a1 a2 : Int) (a3 : Option Addr) (cap3 : Nat) (w : World) (q0 : 0 ≤ a0) (q1 : a0 < 16777216) (q2 : 0 ≤ a1) (q3 : a1 ≤ 1073741824) (q4 : 0 ≤ a2) (q5 : a2 ≤ 1099511627776) :
    Calls Try.prog 6 #[.int .i64 a0, .int .i64 a1, .int .i64 a2, .slice a3 0 cap3] w fun e w' => e = .returned (.bool true) ∧ Below w.heap.size w w' := by
  go_enter Try.func6, Try.ntmps6
  go_wp2_with (first
    | (go_at_call 8; refine (awake_true _).mono ?_; rintro e w1 ⟨rfl, hb1⟩)
    | (go_at_call 11; refine (new_yes a0 a1 a2 _ q0 q1 q2 q3 q4 q5).mono ?_; rintro e w' ⟨rfl, rfl⟩))
  go_rounds 1
  go_returns
  exact ⟨rfl, (hb1.alloc hb1.size _).alloc (by have := hb1.size; simp; omega) _⟩

theorem clockPlays.walk (a0 : Int) (a1 : Int) (a2 : Int) (a3 : Option Addr) (len3 cap3 : Nat) (z3 : List Int) (w : World) (_ : (Lit.int .i64 a0).wf = true) (_ : (Lit.int .i64 a1).wf = true) (_ : (Lit.int .i64 a2).wf = true) (w3 : IsRow .i64 w a3 len3 cap3 z3) :
    Calls Try.prog 6 #[.int .i64 a0, .int .i64 a1, .int .i64 a2, .slice a3 len3 cap3] w fun e w' => e = .returned (.bool true) ∧ Below w.heap.size w w' := by
  by_cases h : 0 ≤ a0 ∧ a0 < 16777216 ∧ 0 ≤ a1 ∧ a1 ≤ 1073741824 ∧ 0 ≤ a2 ∧ a2 ≤ 1099511627776
  · obtain ⟨q0, q1, q2, q3, q4, q5⟩ := h
    rcases w3.view with rfl | ⟨b0, off, rfl, hb0, _, hl, hm, _, hcell, hwf⟩
    · exact clockPlays.walk_none a0 a1 a2 a3 cap3 w q0 q1 q2 q3 q4 q5
    · exact clockPlays.walk_yes a0 a1 a2 b0 off len3 cap3 z3 w q0 q1 q2 q3 q4 q5 hb0 hcell hwf hl hm
  · exact clockPlays.walk_no a0 a1 a2 a3 len3 cap3 w (by omega)
end Go.Proofs.Ytgglckagenapgaa
