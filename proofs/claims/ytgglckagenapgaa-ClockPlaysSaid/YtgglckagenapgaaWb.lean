/- The walk of ClockRises. -/
import Derived.Test.YtgglckagenapgaaWa
import Derived.LoopTactic
import Derived.Deep.Light
namespace Go.Proofs.Ytgglckagenapgaa
open Go.RowKit

/-- A slice of integers that came in: nil, or a row of 'cap' cells. -/
def IsRow (k : IntKind) (w : World) (a : Option Addr) (len cap : Nat) (zs : List Int) : Prop :=
  (a = none ∧ len = 0 ∧ cap = 0 ∧ zs = []) ∨
  ∃ x, a = some x ∧ len ≤ cap ∧ cap ≤ maxLen ∧ zs.length = cap ∧ (∀ i, i < zs.length → w.cell? (x.add i) = some (.int k (zs.getD i 0))) ∧ ∀ n ∈ zs, (Lit.int k n).wf = true

theorem IsRow.view {k : IntKind} {w : World} {a : Option Addr} {len cap : Nat} {zs : List Int} (h : IsRow k w a len cap zs) :
    len = 0 ∨ ∃ b off, a = some ⟨b, off, none⟩ ∧ b < w.heap.size ∧ 0 < len ∧ len ≤ cap ∧ cap ≤ 9223372036854775807 ∧ zs.length = cap ∧
      (∀ i, i < len → w.cell? ⟨b, off + i, none⟩ = some (.int k (zs.getD i 0))) ∧ ∀ i, i < len → (Lit.int k (zs.getD i 0)).wf = true := by
  rcases h with ⟨rfl, rfl, rfl, rfl⟩ | ⟨x, rfl, hl, hm, hz, hcell, hwf⟩
  · exact .inl rfl
  · rcases Nat.eq_zero_or_pos len with h0 | h0
    · exact .inl h0
    · obtain ⟨b, off, spot⟩ := x
      have hc := hcell 0 (by omega)
      have hspot : spot = none := by simpa [Addr.add] using World.cell?_spot hc
      subst hspot
      refine .inr ⟨b, off, rfl, World.block_lt_of_cell? _ _ hc, h0, hl, by unfold maxLen at hm; exact hm, hz, fun i hi => ?_, fun i hi => ?_⟩
      · have := hcell i (by omega)
        unfold Addr.add at this
        split at this
        · subst i; simpa using this
        · exact this
      · have hi' : i < zs.length := by omega
        rw [List.getD_eq_getElem?_getD, List.getElem?_eq_getElem hi']
        exact hwf _ (List.getElem_mem hi')

theorem see_to (b : Nat) (s t a n : Int) (w : World) (h : Ck w b s t a) (hn : n ≤ 1099511627776) (B : Nat) (hB : B ≤ b) :
    Calls Try.prog 12 #[.pointer (some ⟨b, 0, none⟩), .int .i64 n] w fun e w' => e = .returned (.tuple #[]) ∧ ∃ t', Ck w' b s t' a ∧ Below B w w' ∧ t ≤ t' ∧ n ≤ t' ∧ (t' = t ∨ t' = n) := by
  refine (see_any b s t a n w h B hB).mono fun e w' ⟨he, hc, hb⟩ => ⟨he, _, hc, hb, ?_⟩
  split <;> omega

theorem clockRises.walk0 (a0 : Option Addr) (cap0 : Nat) (w : World) :
    Calls Try.prog 5 #[.slice a0 0 cap0] w fun e w' => e = .returned (.bool true) ∧ Below w.heap.size w w' := by
  go_enter Try.func5, Try.ntmps5
  go_wp2_with (first
    | (go_at_call 8; refine (awake_true _).mono ?_; rintro e w' ⟨rfl, hb1⟩)
    | (go_at_call 11; refine (new_yes 7 0 0 _ (by omega) (by omega) (by omega) (by omega) (by omega) (by omega)).mono ?_; rintro e w' ⟨rfl, rfl⟩))
  go_rounds 1
  go_returns
  exact ⟨rfl, hb1.alloc hb1.size _⟩

set_option maxRecDepth 100000 in
theorem clockRises.walk (a0 : Option Addr) (len0 cap0 : Nat) (z0 : List Int) (w : World) (w0 : IsRow .i64 w a0 len0 cap0 z0) :
    Calls Try.prog 5 #[.slice a0 len0 cap0] w fun e w' => e = .returned (.bool true) ∧ Below w.heap.size w w' := by
  rcases w0.view with rfl | ⟨b0, off, rfl, hb0, hl0, hl, hm, hz, hcell, hwf⟩
  · exact clockRises.walk0 _ _ w
  · clear w0
    have HC := Lib.hid hcell
    have HW := Lib.hid hwf
    clear hcell hwf
    obtain ⟨B, hBl, hBr⟩ : ∃ B, B ≤ w.heap.size ∧ w.heap.size ≤ B := ⟨_, Nat.le_refl _, Nat.le_refl _⟩
    go_enter Try.func5, Try.ntmps5
    go_wp2_with (first
      | (go_at_call 8; refine (awake_true _).mono ?_; rintro e w1 ⟨rfl, hb1⟩)
      | (go_at_call 11; refine (new_yes 7 0 0 _ (by omega) (by omega) (by omega) (by omega) (by omega) (by omega)).mono ?_; rintro e w' ⟨rfl, rfl⟩))
    have hs1 := hb1.size
    obtain ⟨g, hg1, hg2⟩ : ∃ g, g ≤ w1.heap.size ∧ w1.heap.size ≤ g := ⟨_, Nat.le_refl _, Nat.le_refl _⟩
    go_loopw [6, 7, 8] (fun was most i wr => ∃ (k : Nat) (t m : Int), k ≤ 100 ∧ k ≤ len0 ∧ i = .int .i64 k ∧ was = .int .i64 t ∧ most = .int .i64 m ∧ 0 ≤ m ∧ m ≤ t ∧ t ≤ 1000000000 + k ∧
        Ck wr w1.heap.size k t 7 ∧ Below w.heap.size w wr) (fun _ _ i _ => len0 - (intOf i).toNat)
    case atStart => exact ⟨0, 0, 0, by omega, by omega, rfl, rfl, rfl, by omega, by omega, by omega, Ck.new _ _ _ _, hb1.alloc hb1.size _⟩
    case round =>
      obtain ⟨k, t, m, hk, hkl, rfl, rfl, rfl, hm0, hmt, ht, hck, hbl⟩ := hrel
      have HK := Lib.hid hck
      have HB := Lib.hid hbl
      clear hck hbl
      by_cases hlt : k < len0 ∧ k < 100
      · obtain ⟨hlt, h100⟩ := hlt
        obtain ⟨v, hv⟩ : ∃ v, v = z0.getD k 0 := ⟨_, rfl⟩
        have hc0 : wr.cell? ⟨b0, off + k, none⟩ = some (.int .i64 v) := by rw [hv, HB.out.cell (p := ⟨b0, off + k, none⟩) hb0]; exact HC.out k hlt
        clear hv
        by_cases h9 : v < 1000000000
        · go_wp2_with (first
            | (go_at_call 12; refine (see_to w1.heap.size _ _ _ _ _ HK.out (by omega) w.heap.size hs1).mono ?_; rintro e w2 ⟨rfl, t', hck2, hbl2, h1, h2, h3⟩; (have HK2 := Lib.hid hck2); (have HB2 := Lib.hid hbl2); clear hck2 hbl2; (have hc2 := (HB2.out.cell (p := ⟨b0, off + k, none⟩) hb0).trans hc0))
            | (go_at_call 13; refine (next_ok w1.heap.size _ _ _ _ HK2.out (by omega) (by omega) (by omega) (by omega) w.heap.size hs1).mono ?_; rintro e w3 ⟨rfl, hck3, hbl3⟩; (have HK3 := Lib.hid hck3); (have HB3 := Lib.hid hbl3); clear hck3 hbl3))
          · go_roundw
            case rel => exact ⟨k + 1, _, _, by omega, by omega, by go_num, rfl, rfl, by omega, by omega, by omega, HK3.out.alloc _, ((HB.out.trans HB2.out).trans HB3.out).alloc (((HB.out.trans HB2.out).trans HB3.out).size) _⟩
            case measure => simp [intOf]; omega
          · go_roundw
            case rel => exact ⟨k + 1, _, _, by omega, by omega, by go_num, rfl, rfl, by omega, by omega, by omega, HK3.out.alloc _, ((HB.out.trans HB2.out).trans HB3.out).alloc (((HB.out.trans HB2.out).trans HB3.out).size) _⟩
            case measure => simp [intOf]; omega
        · go_wp2_with (first
            | (go_at_call 12; refine (see_any w1.heap.size _ _ _ _ _ HK.out w.heap.size hs1).mono ?_; rintro e w2 ⟨rfl, hck2, hbl2⟩; (have HB2 := Lib.hid hbl2); clear hck2 hbl2; (have hc2 := (HB2.out.cell (p := ⟨b0, off + k, none⟩) hb0).trans hc0)))
          all_goals
            go_returns
            exact ⟨rfl, HB.out.trans HB2.out⟩
      · by_cases hlt2 : k < len0
        · go_wp2
          go_returns
          exact ⟨rfl, HB.out⟩
        · go_wp2
          go_returns
          exact ⟨rfl, HB.out⟩
end Go.Proofs.Ytgglckagenapgaa
